/- The machine and its runs, part 15: An39pc An39pd An39pe An39pf An39pg An39ph. -/
import Derived.Test.YtibpnegblcdioaaDoorB14
set_option linter.unusedVariables false
set_option linter.unusedSimpArgs false
set_option linter.unusedSectionVars false
namespace Go.Am.C39
set_option maxRecDepth 100000
open Go Go.Am Go.Am.V
variable {E : Nat → Option AFn} {Y : Nat → List Value → FM → Nat → OR FM}
def zeroC : Cmd := ⟨0, 0, 0, false, ⟨#[]⟩, ⟨#[]⟩, 0, 0, []⟩
def spS : ByteArray := ⟨#[32]⟩
def wsS (s : ByteArray) : List ByteArray := splitL s ⟨#[32]⟩
def dropW (f : Bool) (ws : List ByteArray) : List ByteArray := if f = true then ws.take (ws.length - 1) else ws
def twW (s : ByteArray) (f : Bool) (o : Int) : List ByteArray := dropW f (dropW (decide (o = 1)) (wsS s))
def candC (c : Cmd) (s : ByteArray) (f : Bool) (o : Int) : Cmd :=
  { c with force := f, ord := o, vol := if 2 < (twW s f o).length then atW (twW s f o) 2 else c.vol, oth := if c.kind = 6 ∧ 3 < (twW s f o).length then atW (twW s f o) 3 else c.oth }
def hitP (c : Cmd) (s : ByteArray) (f : Bool) (o : Int) : Prop := s ≠ ⟨#[]⟩ ∧ textB (candC c s f o) = s
def blkC : AC → AC
  | .block _ _ c => c
  | x => x
def pstC : AC → AC
  | .post c _ _ => c
  | x => x
def tB : AC := pstC (blkC (sqA (sqB (sqB (pstC ac28L0b)))))
def tp0 : AC := sqA tB
def tp1 : AC := sqA (sqB tB)
def tp2 : AC := sqA (sqB (sqB tB))
def tp3 : AC := sqA (sqB (sqB (sqB tB)))
def tr4 : AC := sqB (sqB (sqB (sqB tB)))
def tp4 : AC := sqA tr4
def tr5 : AC := sqB tr4
def tp5 : AC := sqA tr5
def tr6 : AC := sqB tr5
def tp6 : AC := sqA tr6
def tr7 : AC := sqB tr6
def tp7 : AC := sqA tr7
def tr8 : AC := sqB tr7
def ta : AC := sqA (pstC ac28L0b)
def tb : AC := sqA (sqB (pstC ac28L0b))
def tc : AC := sqB (sqB (sqB (pstC ac28L0b)))
theorem l28 : ac28L0b = .post (.seq ta (.seq tb (.seq (.block 3 [[7], [23], [], [22], [], [21], [20], [19, 9], [18], [17], [], [16], [], [15], [14], [], [6], [3], [0], [1], [2]] (.post (.seq tp0 (.seq tp1 (.seq tp2 (.seq tp3 tr4)))) [30] 29)) tc))) [1, 0] 5 := rfl
theorem tr4_eq : tr4 = .seq tp4 tr5 := rfl
theorem tr5_eq : tr5 = .seq tp5 tr6 := rfl
theorem tr6_eq : tr6 = .seq tp6 tr7 := rfl
theorem tr7_eq : tr7 = .seq tp7 tr8 := rfl
theorem mx_nat (k : Nat) : mxV (.int .i64 (k : Int)) (.int .i64 0) = some (.int .i64 (k : Int)) := by
  show some (Value.int .i64 (cond (ltB (k : Int) 0) 0 (k : Int))) = _
  have : ltB (k : Int) 0 = false := by rw [ltB_eq, decide_eq_false_iff_not]; omega
  rw [this]; rfl
theorem mx_neg : mxV (.int .i64 (((0 : Nat) : Int) - 1)) (.int .i64 0) = some (.int .i64 ((0 - 1 : Nat) : Int)) := by
  show some (Value.int .i64 (cond (ltB (((0 : Nat) : Int) - 1) 0) 0 _)) = _
  have : ltB (((0 : Nat) : Int) - 1) 0 = true := by rw [ltB_eq, decide_eq_true_iff]; omega
  rw [this]; rfl
theorem st9 {cs vs : List Value} (hc : cs.length = 9) (hv : vs.length = 9) : setCells cs 0 vs = some vs := by
  rw [setCells_eq, if_pos (by omega), List.take_zero, List.nil_append, List.drop_eq_nil_of_le (by omega), List.append_nil]
section
variable {K : List Frm} {Q : AX → List Value → FM → Nat → Nat → Prop} {w0 : Nat}
theorem tw_ord {M : FM} {n0 N N' : Nat} {v : Value} {ws : List ByteArray} (hL : LV M n0 N v ws) (hN : N ≤ N') (hl2 : ws.length ≤ 100000) (a1 a2 a3 a4 : Value) (o : Int) (ys : List Value)
    (hk : ∀ v' b, LV M n0 N v' (dropW (decide (o = 1)) ws) → Wr PG E Y K w0 (execW PG E Y tr5 (v' :: b :: v :: a1 :: a2 :: a3 :: a4 :: .int .i64 o :: ys) M N') Q) :
    Wr PG E Y K w0 (execW PG E Y tr4 (v :: a1 :: a2 :: a3 :: a4 :: .int .i64 o :: ys) M N') Q := by
  rw [tr4_eq]
  simp only [tp4, tr4, tB, sqA, sqB, blkC, pstC, ac28L0b]
  by_cases h : o = 1
  · rw [decide_eq_true h] at hk
    obtain ⟨v', hp, hL'⟩ := hL.cut hN (k := ws.length - 1) (by omega)
    by_cases hl : 0 < ws.length
    · simp (implicitDefEqProofs := false) (disch := omega) only [WPs, opds, List.all_cons, List.all_nil, List.cons_append, List.nil_append, cond_true, cond_false, eq_self, List.map_cons, List.map_nil, Nat.reduceAdd, Nat.testBit, Nat.reduceShiftRight, Nat.reduceAnd, Nat.reduceBNe, Nat.reduceMul, hL.len, hL.one, decide_eq_true h, mx_nat, s_slc]
      refine use_pure hp fun r1 => ?_
      simp (implicitDefEqProofs := false) (disch := omega) only [WPs, opds, List.all_cons, List.all_nil, List.cons_append, List.nil_append, cond_true, cond_false, eq_self, List.map_cons, List.map_nil, Nat.reduceAdd, Nat.testBit, Nat.reduceShiftRight, Nat.reduceAnd, Nat.reduceBNe, Nat.reduceMul]
      exact hk _ _ hL'
    · have h0 : ws.length = 0 := by omega
      rw [h0] at hp
      simp (implicitDefEqProofs := false) (disch := omega) only [WPs, opds, List.all_cons, List.all_nil, List.cons_append, List.nil_append, cond_true, cond_false, eq_self, List.map_cons, List.map_nil, Nat.reduceAdd, Nat.testBit, Nat.reduceShiftRight, Nat.reduceAnd, Nat.reduceBNe, Nat.reduceMul, hL.len, hL.one, decide_eq_true h, h0, s_slc, mx_neg]
      refine use_pure hp fun r1 => ?_
      simp (implicitDefEqProofs := false) (disch := omega) only [WPs, opds, List.all_cons, List.all_nil, List.cons_append, List.nil_append, cond_true, cond_false, eq_self, List.map_cons, List.map_nil, Nat.reduceAdd, Nat.testBit, Nat.reduceShiftRight, Nat.reduceAnd, Nat.reduceBNe, Nat.reduceMul]
      exact hk _ _ hL'
  · rw [decide_eq_false h] at hk
    simp (implicitDefEqProofs := false) (disch := omega) only [WPs, opds, List.all_cons, List.all_nil, List.cons_append, List.nil_append, cond_true, cond_false, eq_self, List.map_cons, List.map_nil, Nat.reduceAdd, Nat.testBit, Nat.reduceShiftRight, Nat.reduceAnd, Nat.reduceBNe, Nat.reduceMul, hL.len, hL.one, decide_eq_false h]
    exact hk _ _ hL
theorem tw_frc {M : FM} {n0 N N' : Nat} {v : Value} {ws : List ByteArray} (hL : LV M n0 N v ws) (hN : N ≤ N') (hl2 : ws.length ≤ 100000) (a1 a2 a3 a4 a5 a6 a7 a8 a9 a10 a11 a12 a13 a14 : Value) (f : Bool) (ys : List Value)
    (hk : ∀ v', LV M n0 N v' (dropW f ws) → Wr PG E Y K w0 (execW PG E Y tr6 (v' :: v :: a1 :: a2 :: a3 :: a4 :: a5 :: a6 :: a7 :: a8 :: a9 :: a10 :: a11 :: a12 :: a13 :: a14 :: .bool f :: ys) M N') Q) :
    Wr PG E Y K w0 (execW PG E Y tr5 (v :: a1 :: a2 :: a3 :: a4 :: a5 :: a6 :: a7 :: a8 :: a9 :: a10 :: a11 :: a12 :: a13 :: a14 :: .bool f :: ys) M N') Q := by
  rw [tr5_eq]
  simp only [tp5, tr5, tr4, tB, sqA, sqB, blkC, pstC, ac28L0b]
  cases f
  · simp (implicitDefEqProofs := false) (disch := omega) only [WPs, opds, List.all_cons, List.all_nil, List.cons_append, List.nil_append, cond_true, cond_false, eq_self, List.map_cons, List.map_nil, Nat.reduceAdd, Nat.testBit, Nat.reduceShiftRight, Nat.reduceAnd, Nat.reduceBNe, Nat.reduceMul, hL.len, hL.one]
    exact hk _ hL
  · obtain ⟨v', hp, hL'⟩ := hL.cut hN (k := ws.length - 1) (by omega)
    by_cases hl : 0 < ws.length
    · simp (implicitDefEqProofs := false) (disch := omega) only [WPs, opds, List.all_cons, List.all_nil, List.cons_append, List.nil_append, cond_true, cond_false, eq_self, List.map_cons, List.map_nil, Nat.reduceAdd, Nat.testBit, Nat.reduceShiftRight, Nat.reduceAnd, Nat.reduceBNe, Nat.reduceMul, hL.len, hL.one, mx_nat, s_slc]
      refine use_pure hp fun r1 => ?_
      simp (implicitDefEqProofs := false) (disch := omega) only [WPs, opds, List.all_cons, List.all_nil, List.cons_append, List.nil_append, cond_true, cond_false, eq_self, List.map_cons, List.map_nil, Nat.reduceAdd, Nat.testBit, Nat.reduceShiftRight, Nat.reduceAnd, Nat.reduceBNe, Nat.reduceMul]
      exact hk _ hL'
    · have h0 : ws.length = 0 := by omega
      rw [h0] at hp
      simp (implicitDefEqProofs := false) (disch := omega) only [WPs, opds, List.all_cons, List.all_nil, List.cons_append, List.nil_append, cond_true, cond_false, eq_self, List.map_cons, List.map_nil, Nat.reduceAdd, Nat.testBit, Nat.reduceShiftRight, Nat.reduceAnd, Nat.reduceBNe, Nat.reduceMul, hL.len, hL.one, h0, s_slc, mx_neg]
      refine use_pure hp fun r1 => ?_
      simp (implicitDefEqProofs := false) (disch := omega) only [WPs, opds, List.all_cons, List.all_nil, List.cons_append, List.nil_append, cond_true, cond_false, eq_self, List.map_cons, List.map_nil, Nat.reduceAdd, Nat.testBit, Nat.reduceShiftRight, Nat.reduceAnd, Nat.reduceBNe, Nat.reduceMul]
      exact hk _ hL'
theorem atW_lt {ws : List ByteArray} {i : Nat} (h : i < ws.length) : atW ws i = ws[i] := by unfold atW; rw [List.getD_eq_getElem?_getD, List.getElem?_eq_getElem h]; rfl
theorem tw_vol {M : FM} {n0 N N' dq : Nat} {v : Value} {ws : List ByteArray} (hL : LV M n0 N v ws) (hN : N ≤ N') (hl2 : ws.length ≤ 100000) (hq : dq < n0) (hq2 : n0 ≤ N) {e : Cmd} {cd : Value} (hcd : Am.one cd = true) (hM : M dq = some (.cells (e.cells cd) 0 false true)) (a1 a2 a3 a4 a5 : Value) (ys : List Value)
    (hk : ∀ M' w' g1 g2, M' dq = some (.cells (({ e with vol := if 2 < ws.length then atW ws 2 else e.vol } : Cmd).cells cd) 0 false true) → (∀ b, b ≠ dq → M' b = M b) → (∀ j, j ≤ dq → Nat.mod w0 (bit j) = 0 → Nat.mod w' (bit j) = 0) → Wr PG E Y K w' (execW PG E Y tr7 (g1 :: g2 :: v :: a1 :: a2 :: a3 :: a4 :: a5 :: .pointer (some ⟨dq, 0, none⟩) :: ys) M' N') Q) :
    Wr PG E Y K w0 (execW PG E Y tr6 (v :: a1 :: a2 :: a3 :: a4 :: a5 :: .pointer (some ⟨dq, 0, none⟩) :: ys) M N') Q := by
  rw [tr6_eq]
  simp only [tp6, tr6, tr5, tr4, tB, sqA, sqB, blkC, pstC, ac28L0b]
  simp only [Cmd.cells] at hM
  by_cases h : 2 < ws.length
  · obtain ⟨b, cs, opn, wr, h1, h2, h3, h4⟩ := hL.at h
    rw [if_pos h, atW_lt h] at hk
    simp (implicitDefEqProofs := false) (disch := omega) only [WPs, opds, List.all_cons, List.all_nil, List.cons_append, List.nil_append, cond_true, cond_false, eq_self, List.map_cons, List.map_nil, Nat.reduceAdd, Nat.testBit, Nat.reduceShiftRight, Nat.reduceAnd, Nat.reduceBNe, Nat.reduceMul, hL.len, hL.one, h1, h3, h4, hM, hcd]
    exact hk _ _ _ _ (fput_same _ _ _) (fun b hb => fput_ne _ _ _ _ hb) (fun j hj hw => by rw [frz_iff]; exact ⟨hw, frz_bit hj⟩)
  · rw [if_neg h] at hk
    simp (implicitDefEqProofs := false) (disch := omega) only [WPs, opds, List.all_cons, List.all_nil, List.cons_append, List.nil_append, cond_true, cond_false, eq_self, List.map_cons, List.map_nil, Nat.reduceAdd, Nat.testBit, Nat.reduceShiftRight, Nat.reduceAnd, Nat.reduceBNe, Nat.reduceMul, hL.len, hL.one]
    exact hk _ _ _ _ hM (fun b hb => rfl) (fun j hj hw => hw)
theorem tw_oth {M : FM} {n0 N N' dq : Nat} {v : Value} {ws : List ByteArray} (hL : LV M n0 N v ws) (hN : N ≤ N') (hl2 : ws.length ≤ 100000) (hq : dq < n0) (hq2 : n0 ≤ N) {e : Cmd} {cd : Value} (hcd : Am.one cd = true) (hM : M dq = some (.cells (e.cells cd) 0 false true)) (g1 g2 a1 a2 a3 a4 a5 : Value) (ys : List Value)
    (hk : ∀ M' w' p1 p2 p3 p4 p5 p6 p7, M' dq = some (.cells (({ e with oth := if e.kind = 6 ∧ 3 < ws.length then atW ws 3 else e.oth } : Cmd).cells cd) 0 false true) → (∀ b, b ≠ dq → M' b = M b) → (∀ j, j ≤ dq → Nat.mod w0 (bit j) = 0 → Nat.mod w' (bit j) = 0) → Wr PG E Y K w' (execW PG E Y tr8 (p1 :: p2 :: p3 :: p4 :: p5 :: p6 :: p7 :: g1 :: g2 :: v :: a1 :: a2 :: a3 :: a4 :: a5 :: .pointer (some ⟨dq, 0, none⟩) :: ys) M' N') Q) :
    Wr PG E Y K w0 (execW PG E Y tr7 (g1 :: g2 :: v :: a1 :: a2 :: a3 :: a4 :: a5 :: .pointer (some ⟨dq, 0, none⟩) :: ys) M N') Q := by
  rw [tr7_eq]
  simp only [tp7, tr7, tr6, tr5, tr4, tB, sqA, sqB, blkC, pstC, ac28L0b]
  simp only [Cmd.cells] at hM
  by_cases k6 : e.kind = 6
  · by_cases h : 3 < ws.length
    · obtain ⟨b, cs, opn, wr, h1, h2, h3, h4⟩ := hL.at h
      rw [if_pos ⟨k6, h⟩, atW_lt h] at hk
      simp (implicitDefEqProofs := false) (disch := omega) only [WPs, opds, List.all_cons, List.all_nil, List.cons_append, List.nil_append, cond_true, cond_false, eq_self, List.map_cons, List.map_nil, Nat.reduceAdd, Nat.testBit, Nat.reduceShiftRight, Nat.reduceAnd, Nat.reduceBNe, Nat.reduceMul, hL.len, hL.one, h1, h3, h4, hM, hcd, decide_eq_true k6]
      exact hk _ _ _ _ _ _ _ _ _ (fput_same _ _ _) (fun b hb => fput_ne _ _ _ _ hb) (fun j hj hw => by rw [frz_iff]; exact ⟨hw, frz_bit hj⟩)
    · rw [if_neg fun x => h x.2] at hk
      simp (implicitDefEqProofs := false) (disch := omega) only [WPs, opds, List.all_cons, List.all_nil, List.cons_append, List.nil_append, cond_true, cond_false, eq_self, List.map_cons, List.map_nil, Nat.reduceAdd, Nat.testBit, Nat.reduceShiftRight, Nat.reduceAnd, Nat.reduceBNe, Nat.reduceMul, hL.len, hL.one, hM, hcd, decide_eq_true k6]
      exact hk _ _ _ _ _ _ _ _ _ hM (fun b hb => rfl) (fun j hj hw => hw)
  · rw [if_neg fun x => k6 x.1] at hk
    simp (implicitDefEqProofs := false) (disch := omega) only [WPs, opds, List.all_cons, List.all_nil, List.cons_append, List.nil_append, cond_true, cond_false, eq_self, List.map_cons, List.map_nil, Nat.reduceAdd, Nat.testBit, Nat.reduceShiftRight, Nat.reduceAnd, Nat.reduceBNe, Nat.reduceMul, hL.len, hL.one, hM, hcd, decide_eq_false k6]
    exact hk _ _ _ _ _ _ _ _ _ hM (fun b hb => rfl) (fun j hj hw => hw)
theorem tw_end (hT : Texts E Y) {M : FM} {N dq rq : Nat} {e : Cmd} {cd : Value} (hF : e.Fit) (hB : Bytes e) (hd : DatV M N cd e.data) (hdq : dq < N) (hM : M dq = some (.cells (e.cells cd) 0 false true)) (hr : ∃ cs, cs.length = 9 ∧ M rq = some (.cells cs 0 false true)) (hrq : rq < N) {lv : Value} {l : Nat} (hl1 : Am.one lv = true) (hl : lenV false lv = some (.int .i64 (l : Int))) (hl0 : 0 < l) (s : ByteArray) (p1 p2 p3 p4 p5 p6 p7 g1 g2 v a1 a2 a3 a4 a5 b1 b2 b3 b4 b5 b6 b7 b8 b9 c1 c2 c3 c4 c5 c6 c7 c8 c9 c11 c12 : Value)
    (hhit : s ≠ ⟨#[]⟩ → textB e = s → ∀ M' e' r, (∀ b, b ≠ rq → M' b = M b) → Wr PG E Y K (Nat.lor w0 (bit rq)) (.ok (.ret (.tuple #[.agg (e.cells cd).toArray, .int .i64 0])) e' M' N r 0) Q)
    (hmiss : ¬ (s ≠ ⟨#[]⟩ ∧ textB e = s) → ∀ x1 x2 x3 x4 x5 x6 x7 x8 x9 x10, Wr PG E Y K w0 (.ok .norm (x1 :: x2 :: x3 :: x4 :: x5 :: x6 :: x7 :: x8 :: x9 :: x10 :: (p1 :: p2 :: p3 :: p4 :: p5 :: p6 :: p7 :: g1 :: g2 :: v :: a1 :: a2 :: a3 :: a4 :: a5 :: .pointer (some ⟨dq, 0, none⟩) :: b1 :: b2 :: b3 :: b4 :: b5 :: b6 :: b7 :: b8 :: b9 :: c1 :: c2 :: c3 :: c4 :: c5 :: c6 :: c7 :: c8 :: c9 :: .pointer (some ⟨rq, 0, none⟩) :: c11 :: c12 :: lv :: .string s :: [])) M N 0 0) Q) :
    Wr PG E Y K w0 (execW PG E Y tr8 (p1 :: p2 :: p3 :: p4 :: p5 :: p6 :: p7 :: g1 :: g2 :: v :: a1 :: a2 :: a3 :: a4 :: a5 :: .pointer (some ⟨dq, 0, none⟩) :: b1 :: b2 :: b3 :: b4 :: b5 :: b6 :: b7 :: b8 :: b9 :: c1 :: c2 :: c3 :: c4 :: c5 :: c6 :: c7 :: c8 :: c9 :: .pointer (some ⟨rq, 0, none⟩) :: c11 :: c12 :: lv :: .string s :: []) M N) Q := by
  simp only [tr8, tr7, tr6, tr5, tr4, tB, sqA, sqB, blkC, pstC, ac28L0b]
  simp only [Cmd.cells] at hM
  by_cases h : s = ⟨#[]⟩
  · simp (implicitDefEqProofs := false) (disch := omega) only [WPs, opds, List.all_cons, List.all_nil, List.cons_append, List.nil_append, cond_true, cond_false, eq_self, List.map_cons, List.map_nil, Nat.reduceAdd, Nat.testBit, Nat.reduceShiftRight, Nat.reduceAnd, Nat.reduceBNe, Nat.reduceMul, hl, hl1, STs, decide_eq_true h]
    exact hmiss (fun x => x.1 h) _ _ _ _ _ _ _ _ _ _
  · simp (implicitDefEqProofs := false) (disch := omega) only [WPs, opds, List.all_cons, List.all_nil, List.cons_append, List.nil_append, cond_true, cond_false, eq_self, List.map_cons, List.map_nil, Nat.reduceAdd, Nat.testBit, Nat.reduceShiftRight, Nat.reduceAnd, Nat.reduceBNe, Nat.reduceMul, hl, hl1, STs, decide_eq_false h, hM, hd.one]
    refine use_pure (hT.t13 _ _ e cd hF hB hd) fun r1 => ?_
    by_cases ht : textB e = s
    · obtain ⟨cs, hcl, hr⟩ := hr
      have hst := st9 (vs := [.int .i64 e.tag, .int .i64 e.kind, .int .i64 e.ord, .bool e.force, .string e.vol, .string e.oth, .int .i64 e.at_, .int .i64 e.len, cd]) hcl rfl
      simp (implicitDefEqProofs := false) (disch := omega) only [WPs, opds, List.all_cons, List.all_nil, List.cons_append, List.nil_append, cond_true, cond_false, eq_self, List.map_cons, List.map_nil, Nat.reduceAdd, Nat.testBit, Nat.reduceShiftRight, Nat.reduceAnd, Nat.reduceBNe, Nat.reduceMul, hl, hl1, STs, decide_eq_true ht, hM, hd.one, hr, hst]
      exact hhit h ht (AMem.put M rq (some (.cells (e.cells cd) 0 false true)) : FM) _ _ (fun b hb => fput_ne _ _ _ _ hb)
    · simp (implicitDefEqProofs := false) (disch := omega) only [WPs, opds, List.all_cons, List.all_nil, List.cons_append, List.nil_append, cond_true, cond_false, eq_self, List.map_cons, List.map_nil, Nat.reduceAdd, Nat.testBit, Nat.reduceShiftRight, Nat.reduceAnd, Nat.reduceBNe, Nat.reduceMul, hl, hl1, STs, decide_eq_false ht, hM, hd.one]
      exact hmiss (fun x => ht x.2) _ _ _ _ _ _ _ _ _ _
end
end Go.Am.C39
namespace Go.Am.C39
set_option maxRecDepth 100000
open Go Go.Am Go.Am.V
variable {E : Nat → Option AFn} {Y : Nat → List Value → FM → Nat → OR FM}
structure TI (m : FM) (n : Nat) (M : FM) (c : Cmd) (cd : Value) : Prop where
  lo : ∀ b, b < n → M b = m b
  cb : M n = some (.cells (c.cells cd) 0 false true)
  rb : ∃ cs, cs.length = 9 ∧ M (n + 1) = some (.cells cs 0 false true)
theorem ords_at {j : Nat} (h : j < 2) : cget [Value.int .i64 0, Value.int .i64 1] j = some (.int .i64 (j : Int)) := by
  rcases (by omega : j = 0 ∨ j = 1) with rfl | rfl <;> rfl
theorem wsS_ne (s : ByteArray) : (wsS s).length = Lib.countB s ⟨#[32]⟩ + 1 := Lib.splitB_all ⟨#[32]⟩ (by decide) 0 _ s rfl
def HitQ (Q : AX → List Value → FM → Nat → Nat → Prop) (m : FM) (n : Nat) (c : Cmd) (cd : Value) (s : ByteArray) : Prop :=
  ∀ f o, (o = 0 ∨ o = 1) → hitP c s f o → ∀ M' N' w' e', n ≤ N' → (∀ b, b < n → M' b = m b) → Nat.mod w' (bit n) = 0 → Q (.ret (.tuple #[.agg ((candC c s f o).cells cd).toArray, .int .i64 0])) e' M' N' w'
theorem twin_L0 (L : LibP E Y) (hT : Texts E Y) {m : FM} {n : Nat} {c : Cmd} {cd : Value} {s : ByteArray} (hF : ∀ f o, (o = 0 ∨ o = 1) → (candC c s f o).Fit) (hB : Bytes c) (hd : DatV m n cd c.data) {lv : Value} {l : Nat} (hl1 : Am.one lv = true) (hl : lenV false lv = some (.int .i64 (l : Int))) (hl0 : 0 < l) (hs : s.size ≤ 1000) (q : Nat) (Mq : FM) (f : Bool) (z2 z6 z7 y0 y1 y2 y3 y4 y5 y8 : Value) {Q : AX → List Value → FM → Nat → Nat → Prop} (hQ : HitQ Q m n c cd s)
    (hQn : ¬ hitP c s f 0 → ¬ hitP c s f 1 → ∀ M N w x x1, q < N → TI m n M c cd → (∀ b, n + 2 ≤ b → b < q → M b = Mq b) → (∀ j, j ≤ n → Nat.mod w (bit j) = 0) → Q (.exit 2) [x, x1, z2, .int .i64 2, .slice (some ⟨q, 0, none⟩) 2 2, .bool f, z6, z7, y0, y1, y2, y3, y4, y5, .pointer (some ⟨n + 1, 0, none⟩), .pointer (some ⟨n, 0, none⟩), y8, lv, .string s] M N w) :
    ∀ (k j : Nat), j + k = 2 → (∀ i : Nat, i < j → ¬ hitP c s f (i : Int)) → ∀ (M : FM) (N w0 : Nat) (x0 : Value), q < N → n + 2 ≤ q → TI m n M c cd → (∀ b, n + 2 ≤ b → b < q → M b = Mq b) → M q = some (.cells [.int .i64 0, .int .i64 1] 1 false true) → (∀ j, j ≤ n → Nat.mod w0 (bit j) = 0) →
    Gv (execW PG E Y ac28L0 [x0, .int .i64 (j : Int), z2, .int .i64 2, .slice (some ⟨q, 0, none⟩) 2 2, .bool f, z6, z7, y0, y1, y2, y3, y4, y5, .pointer (some ⟨n + 1, 0, none⟩), .pointer (some ⟨n, 0, none⟩), y8, lv, .string s] M N) fun X e m n w => Q X e m n (Nat.lor w0 w) := by
  intro k
  induction k with
  | zero =>
    intro j hj hno M N w0 x0 hq hnq hI hlq hMq hw
    obtain rfl : j = 2 := by omega
    refine wr_loopN (L := ac28L0) (b := ac28L0b) rfl ?_
    simp only [ac28L0b]
    simp (implicitDefEqProofs := false) (disch := omega) only [WPs, opds, List.all_cons, List.all_nil, List.cons_append, List.nil_append, cond_true, cond_false, eq_self, List.map_cons, List.map_nil, Nat.reduceAdd, Nat.testBit, Nat.reduceShiftRight, Nat.reduceAnd, Nat.reduceBNe, Nat.reduceMul]
    exact hQn (hno 0 (by omega)) (hno 1 (by omega)) _ _ _ _ _ hq hI hlq hw
  | succ k ih =>
    intro j hj hno M N w0 x0 hq hnq hI hlq hMq hw
    have hj2 : j < 2 := by omega
    have hsp := fun M N => L.split M N s ⟨#[32]⟩ (by omega) (by decide) (by have := Lib.countB_mul_le ⟨#[32]⟩ (by decide) s.size s (Nat.le_refl _); have e : (⟨#[32]⟩ : ByteArray).size = 1 := rfl; rw [e] at this; omega)
    have hcb := hI.cb
    simp only [Cmd.cells] at hcb
    refine wr_loopN (L := ac28L0) (b := ac28L0b) rfl ?_
    rw [l28]
    simp only [ta, tb, tc, tp0, tp1, tp2, tp3, tB, sqA, sqB, blkC, pstC, ac28L0b]
    simp (implicitDefEqProofs := false) (disch := omega) only [WPs, opds, List.all_cons, List.all_nil, List.cons_append, List.nil_append, cond_true, cond_false, eq_self, List.map_cons, List.map_nil, Nat.reduceAdd, Nat.testBit, Nat.reduceShiftRight, Nat.reduceAnd, Nat.reduceBNe, Nat.reduceMul, hMq, ords_at hj2, hcb, hd.one, hd.belF, hsp]
    generalize hM3 : (AMem.put (AMem.put M N (some (.cells [.int .i64 c.tag, .int .i64 c.kind, .int .i64 (j : Int), .bool f, .string c.vol, .string c.oth, .int .i64 c.at_, .int .i64 c.len, cd] 0 false true))) (N + 1) (some (.cells ((splitL s ⟨#[32]⟩).map Value.string) 1 false true)) : FM) = M3
    have lo3 : ∀ b, b < N → M3 b = M b := fun b hb => by rw [← hM3, fput_ne _ _ _ _ (by omega), fput_ne _ _ _ _ (by omega)]
    have hdq : M3 N = some (.cells (({ c with force := f, ord := (j : Int) } : Cmd).cells cd) 0 false true) := by rw [← hM3, fput_ne _ _ _ _ (by omega)]; exact fput_same _ _ _
    have hlen := wsS_ne s
    have hcs : Lib.countB s ⟨#[32]⟩ ≤ 1000 := by have := Lib.countB_mul_le ⟨#[32]⟩ (by decide) s.size s (Nat.le_refl _); have e : (⟨#[32]⟩ : ByteArray).size = 1 := rfl; rw [e] at this; omega
    have hL0 : LV M3 (N + 1) (N + 2) (.slice (some ⟨N + 1, 0, none⟩) (Lib.countB s ⟨#[32]⟩ + 1) (Lib.countB s ⟨#[32]⟩ + 1)) (wsS s) := ⟨N + 1, _, [], false, true, by rw [hlen], Nat.le_refl _, by omega, by rw [← hM3, List.append_nil]; exact fput_same _ _ _, .inr ⟨by rw [hlen]; exact Nat.le_refl _, by omega⟩⟩
    have hdl : ∀ (b : Bool) (ws : List ByteArray), (dropW b ws).length ≤ ws.length := fun b ws => by
      unfold dropW
      split
      · rw [List.length_take]; omega
      · exact Nat.le_refl _
    have b1 := hdl (decide ((j : Int) = 1)) (wsS s)
    have b2 := hdl f (dropW (decide ((j : Int) = 1)) (wsS s))
    have hjo : (j : Int) = 0 ∨ (j : Int) = 1 := by omega
    refine tw_ord hL0 (Nat.le_refl _) (by omega) _ _ _ _ _ _ fun v1 u1 hL1 => ?_
    refine tw_frc hL1 (Nat.le_refl _) (by omega) _ _ _ _ _ _ _ _ _ _ _ _ _ _ _ _ fun v2 hL2 => ?_
    refine tw_vol hL2 (Nat.le_refl _) (by omega) (by omega) (by omega) hd.one hdq _ _ _ _ _ _ fun M4 w4 g1 g2 h4 f4 wf4 => ?_
    refine tw_oth (hL2.frame (Nat.le_refl _) fun b h1 h2 => f4 b (by omega)) (Nat.le_refl _) (by omega) (by omega) (by omega) hd.one h4 _ _ _ _ _ _ _ _ fun M5 w5 p1 p2 p3 p4 p5 p6 p7 h5 f5 wf5 => ?_
    have lo5 : ∀ b, b < N → M5 b = M b := fun b hb => by rw [f5 b (by omega), f4 b (by omega), lo3 b hb]
    have fw : ∀ i, i ≤ n → Nat.mod w5 (bit i) = 0 := fun i hi => wf5 i (by omega) (wf4 i (by omega) (by
      simp only [frz_iff]
      exact ⟨⟨⟨frz_bit (by omega), frz_bit (by omega)⟩, frz_bit (by omega), frz_bit (by omega)⟩, frz_bit (by omega)⟩))
    obtain ⟨cr, hcr, hrb⟩ := hI.rb
    refine tw_end hT (e := candC c s f (j : Int)) (hF f _ hjo) hB (hd.frame (by omega) fun b hb => by rw [lo5 b (by omega), hI.lo b hb]) (by omega) h5 ⟨cr, hcr, by rw [lo5 _ (by omega)]; exact hrb⟩ (by omega) hl1 hl hl0 s _ _ _ _ _ _ _ _ _ _ _ _ _ _ _ _ _ _ _ _ _ _ _ _ _ _ _ _ _ _ _ _ _ _ _ (fun e1 e2 M6 e' r hM6 => ?_) (fun hno2 x1 x2 x3 x4 x5 x6 x7 x8 x9 x10 => ?_)
    · simp (implicitDefEqProofs := false) (disch := omega) only [WPs, opds, List.all_cons, List.all_nil, List.cons_append, List.nil_append, cond_true, cond_false, eq_self, List.map_cons, List.map_nil, Nat.reduceAdd, Nat.testBit, Nat.reduceShiftRight, Nat.reduceAnd, Nat.reduceBNe, Nat.reduceMul]
      refine hQ f _ hjo ⟨e1, e2⟩ _ _ _ _ (by omega) (fun b hb => by rw [hM6 b (by omega), lo5 b (by omega), hI.lo b hb]) ?_
      simp only [frz_iff]
      exact ⟨hw n (Nat.le_refl _), fw n (Nat.le_refl _), frz_bit (by omega)⟩
    · simp (implicitDefEqProofs := false) (disch := omega) only [WPs, opds, List.all_cons, List.all_nil, List.cons_append, List.nil_append, cond_true, cond_false, eq_self, List.map_cons, List.map_nil, Nat.reduceAdd, Nat.testBit, Nat.reduceShiftRight, Nat.reduceAnd, Nat.reduceBNe, Nat.reduceMul]
      have hi := ih (j + 1) (by omega) (fun i hi => by
        rcases (by omega : i < j ∨ i = j) with h | rfl
        · exact hno i h
        · exact hno2) M5 (N + 2) (Nat.lor w0 w5) x0 (by omega) hnq ⟨fun b hb => by rw [lo5 b (by omega), hI.lo b hb], by rw [lo5 n (by omega)]; exact hI.cb, cr, hcr, by rw [lo5 _ (by omega)]; exact hrb⟩ (fun b h1 h2 => by rw [lo5 b (by omega), hlq b h1 h2]) (by rw [lo5 q hq]; exact hMq) (fun i hi => by rw [frz_iff]; exact ⟨hw i hi, fw i hi⟩)
      refine wr_end hi fun X e m n w hq => ?_
      rw [lor_asc] at hq
      exact hq
theorem twin_L1 (L : LibP E Y) (hT : Texts E Y) {m : FM} {n : Nat} {c : Cmd} {cd : Value} {s : ByteArray} (hF : ∀ f o, (o = 0 ∨ o = 1) → (candC c s f o).Fit) (hB : Bytes c) (hd : DatV m n cd c.data) {lv : Value} {l : Nat} (hl1 : Am.one lv = true) (hl : lenV false lv = some (.int .i64 (l : Int))) (hl0 : 0 < l) (hs : s.size ≤ 1000) (y2 y5 y8 : Value) {Q : AX → List Value → FM → Nat → Nat → Prop} (hQ : HitQ Q m n c cd s)
    (hQn : (∀ f, ¬ hitP c s f 0 ∧ ¬ hitP c s f 1) → ∀ M N w x, n + 2 ≤ N → TI m n M c cd → (∀ j, j ≤ n → Nat.mod w (bit j) = 0) → Q (.exit 0) [x, y2, .int .i64 2, .slice (some ⟨n + 2, 0, none⟩) 2 2, y5, .pointer (some ⟨n + 1, 0, none⟩), .pointer (some ⟨n, 0, none⟩), y8, lv, .string s] M N w) :
    ∀ (k j : Nat), j + k = 2 → (∀ i : Nat, i < j → ¬ hitP c s (decide (i = 1)) 0 ∧ ¬ hitP c s (decide (i = 1)) 1) → ∀ (M : FM) (N w0 : Nat) (x0 : Value), n + 3 ≤ N → TI m n M c cd → M (n + 2) = some (.cells [.bool false, .bool true] 1 false true) → (∀ j, j ≤ n → Nat.mod w0 (bit j) = 0) →
    Gv (execW PG E Y ac28L1 [x0, .int .i64 (j : Int), y2, .int .i64 2, .slice (some ⟨n + 2, 0, none⟩) 2 2, y5, .pointer (some ⟨n + 1, 0, none⟩), .pointer (some ⟨n, 0, none⟩), y8, lv, .string s] M N) fun X e m n w => Q X e m n (Nat.lor w0 w) := by
  intro k
  induction k with
  | zero =>
    intro j hj hno M N w0 x0 hN hI hM2 hw
    obtain rfl : j = 2 := by omega
    refine wr_loopN (L := ac28L1) (b := ac28L1b) rfl ?_
    simp only [ac28L1b]
    simp (implicitDefEqProofs := false) (disch := omega) only [WPs, opds, List.all_cons, List.all_nil, List.cons_append, List.nil_append, cond_true, cond_false, eq_self, List.map_cons, List.map_nil, Nat.reduceAdd, Nat.testBit, Nat.reduceShiftRight, Nat.reduceAnd, Nat.reduceBNe, Nat.reduceMul]
    exact hQn (fun f => by
      cases f
      · exact hno 0 (by omega)
      · exact hno 1 (by omega)) _ _ _ _ (by omega) hI hw
  | succ k ih =>
    intro j hj hno M N w0 x0 hN hI hM2 hw
    have hj2 : j < 2 := by omega
    have hfa : cget [Value.bool false, Value.bool true] j = some (.bool (decide (j = 1))) := by
      rcases (by omega : j = 0 ∨ j = 1) with rfl | rfl <;> rfl
    refine wr_loopN (L := ac28L1) (b := ac28L1b) rfl ?_
    simp only [ac28L1b]
    simp (implicitDefEqProofs := false) (disch := omega) only [WPs, opds, List.all_cons, List.all_nil, List.cons_append, List.nil_append, cond_true, cond_false, eq_self, List.map_cons, List.map_nil, Nat.reduceAdd, Nat.testBit, Nat.reduceShiftRight, Nat.reduceAnd, Nat.reduceBNe, Nat.reduceMul, hM2, hfa]
    generalize hM3 : (AMem.put M N (some (.cells [.int .i64 0, .int .i64 1] 1 false true)) : FM) = M3
    have lo3 : ∀ b, b < N → M3 b = M b := fun b hb => by rw [← hM3, fput_ne _ _ _ _ (by omega)]
    have hq3 : M3 N = some (.cells [.int .i64 0, .int .i64 1] 1 false true) := by rw [← hM3]; exact fput_same _ _ _
    obtain ⟨cr, hcr, hrb⟩ := hI.rb
    have hI3 : TI m n M3 c cd := ⟨fun b hb => by rw [lo3 b (by omega), hI.lo b hb], by rw [lo3 n (by omega)]; exact hI.cb, cr, hcr, by rw [lo3 _ (by omega)]; exact hrb⟩
    refine wr_kont ((twin_L0 L hT hF hB hd hl1 hl hl0 hs N M3 (decide (j = 1)) _ _ _ _ _ _ _ _ _ _ (fun f o ho hh M' N' w' e' h1 h2 h3 => ?_) (fun n0 n1 M' N' w' x x1 h1 h2 h3 h4 => ?_) 2 0 rfl (fun i hi => by omega) M3 (N + 1) 0 x0 (by omega) (by omega) hI3 (fun b _ _ => rfl) hq3 (fun i _ => frz_zero _)).mono fun X e m' n' w hq => by simpa only [zero_lor'] using hq)
    · intro rr
      simp (implicitDefEqProofs := false) (disch := omega) only [WPs, opds, List.all_cons, List.all_nil, List.cons_append, List.nil_append, cond_true, cond_false, eq_self, List.map_cons, List.map_nil, Nat.reduceAdd, Nat.testBit, Nat.reduceShiftRight, Nat.reduceAnd, Nat.reduceBNe, Nat.reduceMul]
      refine hQ f o ho hh _ _ _ _ h1 h2 ?_
      simp only [frz_iff]
      exact ⟨hw n (Nat.le_refl _), frz_bit (by omega), h3⟩
    · intro rr
      simp (implicitDefEqProofs := false) (disch := omega) only [WPs, opds, List.all_cons, List.all_nil, List.cons_append, List.nil_append, cond_true, cond_false, eq_self, List.map_cons, List.map_nil, Nat.reduceAdd, Nat.testBit, Nat.reduceShiftRight, Nat.reduceAnd, Nat.reduceBNe, Nat.reduceMul]
      have hi := ih (j + 1) (by omega) (fun i hi => by
        rcases (by omega : i < j ∨ i = j) with h | rfl
        · exact hno i h
        · exact ⟨n0, n1⟩) M' N' (Nat.lor w0 (Nat.lor (bit N) w')) x (by omega) h2 (by rw [h3 _ (by omega) (by omega), lo3 _ (by omega)]; exact hM2) (fun i hi => by rw [frz_iff, frz_iff]; exact ⟨hw i hi, frz_bit (by omega), h4 i hi⟩)
      refine wr_end hi fun X e m n w hq => ?_
      rw [lor_asc] at hq
      exact hq
theorem twin_spec (L : LibP E Y) (hE : E 28 = some ac28) (hT : Texts E Y) (m : FM) (n : Nat) {c : Cmd} {cd : Value} {s : ByteArray} (hF : ∀ f o, (o = 0 ∨ o = 1) → (candC c s f o).Fit) (hB : Bytes c) (hd : DatV m n cd c.data) {lv : Value} {l : Nat} (hl1 : Am.one lv = true) (hl : lenV false lv = some (.int .i64 (l : Int))) (hl0 : 0 < l) (hs : s.size ≤ 1000) :
    Rt (callW PG E Y 28 [cmdV c cd, lv, .string s] m n) fun v m' n' w => n ≤ n' ∧ (∀ b, b < n → m' b = m b) ∧ (∀ j, j ≤ n → Nat.mod w (bit j) = 0) ∧
      ((∃ f o, (o = 0 ∨ o = 1) ∧ hitP c s f o ∧ v = .tuple #[cmdV (candC c s f o) cd, .int .i64 0]) ∨ ((∀ f, ¬ hitP c s f 0 ∧ ¬ hitP c s f 1) ∧ v = .tuple #[cmdV zeroC (.slice none 0 0), .int .i64 4])) := by
  refine kept_specQ (R := fun v m' n' => (∃ f o, (o = 0 ∨ o = 1) ∧ hitP c s f o ∧ v = .tuple #[cmdV (candC c s f o) cd, .int .i64 0]) ∨ ((∀ f, ¬ hitP c s f 0 ∧ ¬ hitP c s f 1) ∧ v = .tuple #[cmdV zeroC (.slice none 0 0), .int .i64 4])) hE rfl fun Q hQ => ?_
  simp only [ac28, cmdV]
  simp (implicitDefEqProofs := false) (disch := omega) only [WPs, opds, List.all_cons, List.all_nil, List.cons_append, List.nil_append, cond_true, cond_false, eq_self, List.map_cons, List.map_nil, Nat.reduceAdd, Nat.testBit, Nat.reduceShiftRight, Nat.reduceAnd, Nat.reduceBNe, Nat.reduceMul, STs, hd.one]
  generalize hM0 : (AMem.put (AMem.put (AMem.put m n (some (.cells [.int .i64 c.tag, .int .i64 c.kind, .int .i64 c.ord, .bool c.force, .string c.vol, .string c.oth, .int .i64 c.at_, .int .i64 c.len, cd] 0 false true))) (n + 1) (some (.cells [.int .i64 0, .int .i64 0, .int .i64 0, .bool false, .string ⟨#[]⟩, .string ⟨#[]⟩, .int .i64 0, .int .i64 0, .slice none 0 0] 0 false true))) (n + 2) (some (.cells [.bool false, .bool true] 1 false true)) : FM) = M0
  have lo0 : ∀ b, b < n → M0 b = m b := fun b hb => by rw [← hM0, fput_ne _ _ _ _ (by omega), fput_ne _ _ _ _ (by omega), fput_ne _ _ _ _ (by omega)]
  have hI : TI m n M0 c cd := ⟨lo0, by rw [← hM0, fput_ne _ _ _ _ (by omega), fput_ne _ _ _ _ (by omega)]; exact fput_same _ _ _, _, rfl, by rw [← hM0, fput_ne _ _ _ _ (by omega)]; exact fput_same _ _ _⟩
  refine wr_kont ((twin_L1 L hT hF hB hd hl1 hl hl0 hs _ _ _ (fun f o ho hh M' N' w' e' h1 h2 h3 => ?_) (fun hno M' N' w' x h1 h2 h3 => ?_) 2 0 rfl (fun i hi => by omega) M0 (n + 3) 0 _ (Nat.le_refl _) hI (by rw [← hM0]; exact fput_same _ _ _) (fun i _ => frz_zero _)).mono fun X e m' n' w hq => by simpa only [zero_lor'] using hq)
  · intro rr
    simp (implicitDefEqProofs := false) (disch := omega) only [WPs, opds, List.all_cons, List.all_nil, List.cons_append, List.nil_append, cond_true, cond_false, eq_self, List.map_cons, List.map_nil, Nat.reduceAdd, Nat.testBit, Nat.reduceShiftRight, Nat.reduceAnd, Nat.reduceBNe, Nat.reduceMul]
    refine hQ _ _ _ _ _ h1 h2 ?_ rfl (.inl ⟨f, o, ho, hh, rfl⟩)
    simp only [frz_iff]
    exact ⟨⟨⟨frz_bit (by omega), frz_bit (by omega)⟩, frz_bit (by omega)⟩, h3⟩
  · intro rr
    obtain ⟨cr, hcr, hrb⟩ := h2.rb
    have hst := st9 (vs := [.int .i64 0, .int .i64 0, .int .i64 0, .bool false, .string ⟨#[]⟩, .string ⟨#[]⟩, .int .i64 0, .int .i64 0, .slice none 0 0]) hcr rfl
    simp (implicitDefEqProofs := false) (disch := omega) only [WPs, opds, List.all_cons, List.all_nil, List.cons_append, List.nil_append, cond_true, cond_false, eq_self, List.map_cons, List.map_nil, Nat.reduceAdd, Nat.testBit, Nat.reduceShiftRight, Nat.reduceAnd, Nat.reduceBNe, Nat.reduceMul, hrb, hst]
    refine hQ _ _ _ _ _ (by omega) (fun b hb => by rw [fput_ne _ _ _ _ (by omega), h2.lo b hb]) ?_ rfl (.inr ⟨hno, rfl⟩)
    have fz := h3 n (Nat.le_refl _)
    simp only [frz_iff]
    exact ⟨⟨⟨⟨frz_bit (by omega), frz_bit (by omega)⟩, frz_bit (by omega)⟩, fz⟩, frz_bit (by omega)⟩
end Go.Am.C39
namespace Go.Am.C39
set_option maxRecDepth 100000
open Go Go.Am Go.Am.V
variable {E : Nat → Option AFn} {Y : Nat → List Value → FM → Nat → OR FM}
def p12 : Nat → AC
  | 0 => ac12.code
  | k + 1 => sqB (p12 k)
def r1 : AC := sqB ac12.code
def r2 : AC := sqB r1
def r3 : AC := sqB r2
def r4 : AC := sqB r3
def r5 : AC := sqB r4
def r6 : AC := sqB r5
def r7 : AC := sqB r6
def r8 : AC := sqB r7
def r9 : AC := sqB r8
def r10 : AC := sqB r9
def r11 : AC := sqB r10
def q0 : AC := sqA ac12.code
def q1 : AC := sqA r1
def q2 : AC := sqA r2
def q3 : AC := sqA r3
def q4 : AC := sqA r4
def q5 : AC := sqA r5
def q6 : AC := sqA r6
def q7 : AC := sqA r7
def q8 : AC := sqA r8
def q9 : AC := sqA r9
def q10 : AC := sqA r10
theorem code12 : ac12.code = .seq q0 (.seq q1 (.seq q2 (.seq q3 r4))) := rfl
theorem r4_eq : r4 = .seq q4 r5 := rfl
theorem r5_eq : r5 = .seq q5 r6 := rfl
theorem r6_eq : r6 = .seq q6 r7 := rfl
theorem r7_eq : r7 = .seq q7 (.seq q8 r9) := rfl
theorem r9_eq : r9 = .seq q9 r10 := rfl
def cuts : Nat → List UInt8 → List (List UInt8)
  | 0, s => [s]
  | k + 1, s => if (Lib.cut s [32]).2.2 = true then (Lib.cut s [32]).1 :: cuts k (Lib.cut s [32]).2.1 else [(Lib.cut s [32]).1]
theorem cut_miss {s : List UInt8} (h : (Lib.cut s [32]).2.2 = false) : (Lib.cut s [32]).1 = s := by
  unfold Lib.cut at h ⊢
  split
  · rename_i h0
    rw [if_pos h0] at h
    cases h
  · rfl
theorem cut_less {s : List UInt8} (h : (Lib.cut s [32]).2.2 = true) : (Lib.cut s [32]).2.1.length < s.length := by
  have e := Txt.cut_found h
  have := congrArg List.length e
  rw [List.length_append, List.length_append] at this
  simp only [List.length_cons, List.length_nil] at this
  omega
theorem cuts_miss {k : Nat} {s : List UInt8} (h : (Lib.cut s [32]).2.2 = false) : cuts k s = [s] := by
  cases k with
  | zero => rfl
  | succ k => rw [cuts, if_neg (by rw [h]; decide), cut_miss h]
theorem cuts_found {k : Nat} {s : List UInt8} (h : (Lib.cut s [32]).2.2 = true) : cuts (k + 1) s = (Lib.cut s [32]).1 :: cuts k (Lib.cut s [32]).2.1 := by
  rw [cuts, if_pos h]
def bytesS (l : List UInt8) : ByteArray := ⟨l.toArray⟩
theorem bytesS_list (l : List UInt8) : (bytesS l).data.toList = l := rfl
def wordsP (s : ByteArray) : List ByteArray := (cuts s.size s.data.toList).map bytesS
theorem cuts_len : ∀ (k : Nat) (s : List UInt8), 0 < (cuts k s).length ∧ (cuts k s).length ≤ k + 1
  | 0, s => ⟨by rw [cuts]; simp, by rw [cuts]; simp⟩
  | k + 1, s => by
    rw [cuts]
    split
    · have := cuts_len k (Lib.cut s [32]).2.1
      rw [List.length_cons]; omega
    · simp
theorem cut_L0 (L : LibP E Y) {n : Nat} {M0 : FM} (x2 : Value) (ys : List Value) {Q : AX → List Value → FM → Nat → Nat → Prop} {W : List ByteArray}
    (hQ : ∀ M N w lv, n + 2 ≤ N → (∀ b, b < n + 1 → M b = M0 b) → M (n + 1) = some (.cells [lv] 0 false true) → SlZ 1 M (n + 2) N lv W.length (W.map Value.string) → (∀ j, j ≤ n → Nat.mod w (bit j) = 0) → Q (.exit 0) (x2 :: .pointer (some ⟨n + 1, 0, none⟩) :: ys) M N w) :
    ∀ (k : Nat) (rest : ByteArray), rest.size ≤ k → ∀ (xs : List ByteArray) (M : FM) (N w0 : Nat) (lv : Value), W = xs ++ (cuts k rest.data.toList).map bytesS → n + 2 ≤ N → (∀ b, b < n + 1 → M b = M0 b) → M (n + 1) = some (.cells [lv] 0 false true) → SlZ 1 M (n + 2) N lv xs.length (xs.map Value.string) → xs.length + k ≤ 2000 → (∀ j, j ≤ n → Nat.mod w0 (bit j) = 0) →
    Gv (execW PG E Y ac12L0 (.string rest :: .bool true :: x2 :: .pointer (some ⟨n + 1, 0, none⟩) :: ys) M N) fun X e m n w => Q X e m n (Nat.lor w0 w) := by
  intro k
  induction k using Nat.strongRecOn with
  | ind k ih =>
    intro rest hr xs M N w0 lv hW hN hlo hlp hS hk hw
    have hc := L.cut M N rest ⟨#[32]⟩ (by omega)
    have hone := hS.one
    refine wr_loopN (L := ac12L0) (b := ac12L0b) rfl ?_
    simp only [ac12L0b]
    simp (implicitDefEqProofs := false) (disch := omega) only [WPs, opds, List.all_cons, List.all_nil, List.cons_append, List.nil_append, cond_true, cond_false, eq_self, List.map_cons, List.map_nil, Nat.reduceAdd, Nat.testBit, Nat.reduceShiftRight, Nat.reduceAnd, Nat.reduceBNe, Nat.reduceMul, STs]
    refine use_pure hc fun r1 => ?_
    generalize hcc : Lib.cut rest.data.toList (⟨#[32]⟩ : ByteArray).data.toList = cc
    have hcc' : Lib.cut rest.data.toList [32] = cc := hcc
    obtain ⟨a, b, fd⟩ := cc
    simp (implicitDefEqProofs := false) (disch := omega) only [WPs, opds, List.all_cons, List.all_nil, List.cons_append, List.nil_append, cond_true, cond_false, eq_self, List.map_cons, List.map_nil, Nat.reduceAdd, Nat.testBit, Nat.reduceShiftRight, Nat.reduceAnd, Nat.reduceBNe, Nat.reduceMul, STs, ex0, ex1, ex2, hlp, hone, hS.bel]
    generalize hM3 : (AMem.put M N (some (.cells [.string ⟨a.toArray⟩] 1 false true)) : FM) = M3
    have lo3 : ∀ b, b < N → M3 b = M b := fun b hb => by rw [← hM3, fput_ne _ _ _ _ (by omega)]
    have hS3 : SlZ 1 M3 (n + 2) (N + 1) lv xs.length (xs.map Value.string) := hS.frame (by omega) fun b h1 h2 => lo3 b h2
    refine use_rt (app_slZn hS3 _ _ _ (by omega) (k := 1) (by omega) (by omega) (zs := [Value.string ⟨a.toArray⟩]) rfl rfl (by omega) (by omega)) fun v4 M4 N4 r4 w4 hh => ?_
    obtain ⟨hv4, hn4, hS4, f4, fw4⟩ := hh
    subst hn4
    have hlp4 : M4 (n + 1) = some (.cells [lv] 0 false true) := by rw [f4 _ (by omega), lo3 _ (by omega)]; exact hlp
    have e4 : xs.map Value.string ++ [Value.string ⟨a.toArray⟩] = (xs ++ [bytesS a]).map Value.string := by rw [List.map_append]; rfl
    have l4 : (xs ++ [bytesS a]).length = xs.length + 1 := by rw [List.length_append]; rfl
    rw [e4, ← l4] at hS4
    have hS5 : SlZ 1 (AMem.put M4 (n + 1) (some (.cells [v4] 0 false true)) : FM) (n + 2) (N + 1 + 1) v4 (xs ++ [bytesS a]).length ((xs ++ [bytesS a]).map Value.string) := hS4.frame (Nat.le_refl _) fun b h1 h2 => fput_ne _ _ _ _ (by omega)
    have hone4 := hS4.one
    have lo5 : ∀ b, b < n + 1 → (AMem.put M4 (n + 1) (some (.cells [v4] 0 false true)) : FM) b = M0 b := fun b hb => by rw [fput_ne _ _ _ _ (by omega), f4 b (by omega), lo3 b (by omega), hlo b hb]
    cases fd with
    | true =>
      have hf : (Lib.cut rest.data.toList [32]).2.2 = true := by rw [hcc']
      have hl := cut_less hf
      rw [hcc', size_list] at hl
      obtain ⟨k', rfl⟩ : ∃ k', k = k' + 1 := ⟨k - 1, by omega⟩
      rw [cuts_found hf, hcc'] at hW
      simp (implicitDefEqProofs := false) (disch := omega) only [WPs, opds, List.all_cons, List.all_nil, List.cons_append, List.nil_append, cond_true, cond_false, eq_self, List.map_cons, List.map_nil, Nat.reduceAdd, Nat.testBit, Nat.reduceShiftRight, Nat.reduceAnd, Nat.reduceBNe, Nat.reduceMul, hlp4, hone4, cells_of_one hone4]
      have hi := ih k' (by omega) ⟨b.toArray⟩ (by show b.toArray.size ≤ k'; rw [List.size_toArray]; simp only at hl; omega) (xs ++ [bytesS a]) _ (N + 1 + 1) (Nat.lor w0 (Nat.lor (Nat.lor (bit N) w4) (bit (n + 1)))) v4 (by rw [hW, List.map_cons, List.append_assoc]; rfl) (by omega) lo5 (fput_same _ _ _) hS5 (by rw [l4]; omega) (fun j hj => by simp only [frz_iff]; exact ⟨hw j hj, ⟨frz_bit (by omega), fw4 j (by omega)⟩, frz_bit (by omega)⟩)
      refine wr_end hi fun X e m n w hq => ?_
      rw [lor_asc] at hq
      exact hq
    | false =>
      have hf : (Lib.cut rest.data.toList [32]).2.2 = false := by rw [hcc']
      have ha := cut_miss hf
      rw [hcc'] at ha
      rw [cuts_miss hf, ← ha] at hW
      simp (implicitDefEqProofs := false) (disch := omega) only [WPs, opds, List.all_cons, List.all_nil, List.cons_append, List.nil_append, cond_true, cond_false, eq_self, List.map_cons, List.map_nil, Nat.reduceAdd, Nat.testBit, Nat.reduceShiftRight, Nat.reduceAnd, Nat.reduceBNe, Nat.reduceMul, hlp4, hone4, cells_of_one hone4]
      have fin : Gv (execW PG E Y ac12L0 (.string ⟨b.toArray⟩ :: .bool false :: x2 :: .pointer (some ⟨n + 1, 0, none⟩) :: ys) (AMem.put M4 (n + 1) (some (.cells [v4] 0 false true)) : FM) (N + 1 + 1)) fun X e m' n' w => Q X e m' n' (Nat.lor (Nat.lor w0 (Nat.lor (Nat.lor (bit N) w4) (bit (n + 1)))) w) := by
        refine wr_loopN (L := ac12L0) (b := ac12L0b) rfl ?_
        simp only [ac12L0b]
        simp (implicitDefEqProofs := false) (disch := omega) only [WPs, opds, List.all_cons, List.all_nil, List.cons_append, List.nil_append, cond_true, cond_false, eq_self, List.map_cons, List.map_nil, Nat.reduceAdd, Nat.testBit, Nat.reduceShiftRight, Nat.reduceAnd, Nat.reduceBNe, Nat.reduceMul]
        refine hQ _ _ _ v4 (by omega) lo5 (fput_same _ _ _) (by rw [hW]; exact hS5) (fun j hj => ?_)
        simp only [frz_iff]
        exact ⟨hw j hj, ⟨frz_bit (by omega), fw4 j (by omega)⟩, frz_bit (by omega)⟩
      refine wr_end fin fun X e m n w hq => ?_
      rw [lor_asc] at hq
      exact hq
def kindW (w : ByteArray) : Nat → Nat
  | 0 => 0
  | k + 1 => if KW.getD k ⟨#[]⟩ = w then k else kindW w k
theorem kindW_lt (w : ByteArray) : ∀ k, kindW w k ≤ k
  | 0 => Nat.le_refl _
  | k + 1 => by
    rw [kindW]
    split
    · omega
    · have := kindW_lt w k; omega
theorem kindW_kw {k : Nat} (h0 : k < 8) : kindW (KW.getD k ⟨#[]⟩) 8 = k := by
  rcases (by omega : k = 0 ∨ k = 1 ∨ k = 2 ∨ k = 3 ∨ k = 4 ∨ k = 5 ∨ k = 6 ∨ k = 7) with rfl | rfl | rfl | rfl | rfl | rfl | rfl | rfl <;> decide
structure PS (m : FM) (n : Nat) (M : FM) (N cb : Nat) (lv : Value) (ws : List ByteArray) (c : Cmd) (dv : Value) : Prop where
  lo : ∀ b, b < n → M b = m b
  rb : ∃ cs, cs.length = 9 ∧ M n = some (.cells cs 0 false true)
  lb : M (n + 1) = some (.cells [lv] 0 false true)
  lvw : LV M (n + 2) cb lv ws
  cb1 : n + 2 ≤ cb
  cbN : cb < N
  cc : M cb = some (.cells (c.cells dv) 0 false true)
  dat : SlZ 8 M (cb + 1) N dv c.data.length (u8all c.data)
theorem PS.grow {m : FM} {n : Nat} {M M' : FM} {N N' cb : Nat} {lv : Value} {ws : List ByteArray} {c : Cmd} {dv : Value} (h : PS m n M N cb lv ws c dv) (hN : N ≤ N') (hf : ∀ b, b < N → M' b = M b) : PS m n M' N' cb lv ws c dv := by
  have h1 := h.cb1
  have h2 := h.cbN
  obtain ⟨cs, hl, hr⟩ := h.rb
  exact ⟨fun b hb => by rw [hf b (by omega), h.lo b hb], ⟨cs, hl, by rw [hf n (by omega)]; exact hr⟩, by rw [hf _ (by omega)]; exact h.lb, h.lvw.frame (Nat.le_refl _) fun b _ hb => hf b (by omega), h1, by omega, by rw [hf _ (by omega)]; exact h.cc, h.dat.frame hN fun b _ hb => hf b hb⟩
theorem PS.store {m : FM} {n : Nat} {M : FM} {N cb : Nat} {lv : Value} {ws : List ByteArray} {c c' : Cmd} {dv : Value} (h : PS m n M N cb lv ws c dv) (hd : c'.data = c.data) : PS m n (AMem.put M cb (some (.cells (c'.cells dv) 0 false true)) : FM) N cb lv ws c' dv := by
  have h1 := h.cb1
  have h2 := h.cbN
  obtain ⟨cs, hl, hr⟩ := h.rb
  exact ⟨fun b hb => by rw [fput_ne _ _ _ _ (by omega), h.lo b hb], ⟨cs, hl, by rw [fput_ne _ _ _ _ (by omega)]; exact hr⟩, by rw [fput_ne _ _ _ _ (by omega)]; exact h.lb, h.lvw.frame (Nat.le_refl _) fun b _ hb => fput_ne _ _ _ _ (by omega), h1, h2, fput_same _ _ _, by rw [hd]; exact h.dat.frame (Nat.le_refl _) fun b hb _ => fput_ne _ _ _ _ (by omega)⟩
theorem PS.storeL {m : FM} {n : Nat} {M : FM} {N cb : Nat} {lv lv' : Value} {ws ws' : List ByteArray} {c : Cmd} {dv : Value} (h : PS m n M N cb lv ws c dv) (hL : LV M (n + 2) cb lv' ws') : PS m n (AMem.put M (n + 1) (some (.cells [lv'] 0 false true)) : FM) N cb lv' ws' c dv := by
  have h1 := h.cb1
  have h2 := h.cbN
  obtain ⟨cs, hl, hr⟩ := h.rb
  exact ⟨fun b hb => by rw [fput_ne _ _ _ _ (by omega), h.lo b hb], ⟨cs, hl, by rw [fput_ne _ _ _ _ (by omega)]; exact hr⟩, fput_same _ _ _, hL.frame (Nat.le_refl _) fun b hb _ => fput_ne _ _ _ _ (by omega), h1, h2, by rw [fput_ne _ _ _ _ (by omega)]; exact h.cc, h.dat.frame (Nat.le_refl _) fun b hb _ => fput_ne _ _ _ _ (by omega)⟩
end Go.Am.C39
namespace Go.Am.C39
set_option maxRecDepth 100000
open Go Go.Am Go.Am.V
variable {E : Nat → Option AFn} {Y : Nat → List Value → FM → Nat → OR FM}
def kC (k : Nat) : Cmd := { zeroC with kind := (k : Int) }
theorem kind_L1 {m : FM} {n N cb : Nat} {lv : Value} {ws : List ByteArray} (hws : 0 < ws.length) (x2 x5 : Value) (ys : List Value) {Q : AX → List Value → FM → Nat → Nat → Prop}
    (hQ : ∀ M w, PS m n M N cb lv ws (kC (kindW (atW ws 0) 8)) (.slice none 0 0) → (∀ j, j ≤ n → Nat.mod w (bit j) = 0) → Q (.exit 2) (x2 :: .agg (KW.map Value.string).toArray :: .pointer (some ⟨cb, 0, none⟩) :: x5 :: .pointer (some ⟨n + 1, 0, none⟩) :: ys) M N w) :
    ∀ (d j : Nat), j + d = 8 → ∀ (M : FM) (w0 : Nat), PS m n M N cb lv ws (kC (kindW (atW ws 0) j)) (.slice none 0 0) → (∀ j, j ≤ n → Nat.mod w0 (bit j) = 0) →
    Gv (execW PG E Y ac12L1 (.int .i64 (j : Int) :: x2 :: .agg (KW.map Value.string).toArray :: .pointer (some ⟨cb, 0, none⟩) :: x5 :: .pointer (some ⟨n + 1, 0, none⟩) :: ys) M N) fun X e m n w => Q X e m n (Nat.lor w0 w) := by
  intro d
  induction d with
  | zero =>
    intro j hj M w0 hP hw
    obtain rfl : j = 8 := by omega
    refine wr_loopN (L := ac12L1) (b := ac12L1b) rfl ?_
    simp only [ac12L1b]
    simp (implicitDefEqProofs := false) (disch := omega) only [WPs, opds, List.all_cons, List.all_nil, List.cons_append, List.nil_append, cond_true, cond_false, eq_self, List.map_cons, List.map_nil, Nat.reduceAdd, Nat.testBit, Nat.reduceShiftRight, Nat.reduceAnd, Nat.reduceBNe, Nat.reduceMul]
    exact hQ _ _ hP hw
  | succ d ih =>
    intro j hj M w0 hP hw
    have hcc := hP.cc
    have hcbN := hP.cbN
    have hcb1 := hP.cb1
    simp only [Cmd.cells, kC, zeroC] at hcc
    obtain ⟨b, cs, opn, wr, h1, h2, h3, h4⟩ := hP.lvw.at hws
    have h4' : cget cs 0 = some (.string (atW ws 0)) := by rw [atW_lt hws]; exact h4
    refine wr_loopN (L := ac12L1) (b := ac12L1b) rfl ?_
    simp only [ac12L1b]
    by_cases hk : KW.getD j ⟨#[]⟩ = atW ws 0
    · simp (implicitDefEqProofs := false) (disch := omega) only [WPs, opds, List.all_cons, List.all_nil, List.cons_append, List.nil_append, cond_true, cond_false, eq_self, List.map_cons, List.map_nil, Nat.reduceAdd, Nat.testBit, Nat.reduceShiftRight, Nat.reduceAnd, Nat.reduceBNe, Nat.reduceMul, STs, kw_at (show j < 8 by omega), hP.lb, hP.lvw.one, h1, h3, h4', decide_eq_true hk, hcc]
      have e : kindW (atW ws 0) (j + 1) = j := by rw [kindW, if_pos hk]
      refine wr_end (ih (j + 1) (by omega) _ (Nat.lor w0 (bit cb)) (by rw [e]; exact hP.store (c' := kC j) rfl) (fun i hi => by rw [frz_iff]; exact ⟨hw i hi, frz_bit (by omega)⟩)) fun X e m n w hq => ?_
      rw [lor_asc] at hq
      exact hq
    · simp (implicitDefEqProofs := false) (disch := omega) only [WPs, opds, List.all_cons, List.all_nil, List.cons_append, List.nil_append, cond_true, cond_false, eq_self, List.map_cons, List.map_nil, Nat.reduceAdd, Nat.testBit, Nat.reduceShiftRight, Nat.reduceAnd, Nat.reduceBNe, Nat.reduceMul, STs, kw_at (show j < 8 by omega), hP.lb, hP.lvw.one, h1, h3, h4', decide_eq_false hk, hcc]
      have e : kindW (atW ws 0) (j + 1) = kindW (atW ws 0) j := by rw [kindW, if_neg hk]
      exact wr_end (ih (j + 1) (by omega) M w0 (by rw [e]; exact hP) hw) fun X e m n w hq => by rw [zero_lor']; exact hq
open Classical in
noncomputable def lastB (w : ByteArray) (ws : List ByteArray) : Bool := decide (1 < ws.length ∧ atW ws (ws.length - 1) = w)
open Classical in
theorem lastB_t {w : ByteArray} {ws : List ByteArray} (h : 1 < ws.length ∧ atW ws (ws.length - 1) = w) : lastB w ws = true := decide_eq_true h
open Classical in
theorem lastB_f {w : ByteArray} {ws : List ByteArray} (h : ¬ (1 < ws.length ∧ atW ws (ws.length - 1) = w)) : lastB w ws = false := decide_eq_false h
theorem drop_pos {b : Bool} {w : ByteArray} {ws : List ByteArray} (h : 0 < ws.length) : 0 < (dropW (lastB w ws) ws).length := by
  by_cases hb : 1 < ws.length ∧ atW ws (ws.length - 1) = w
  · rw [lastB_t hb]
    unfold dropW
    rw [if_pos rfl, List.length_take]; omega
  · rw [lastB_f hb]; exact h
theorem drop_le (b : Bool) (ws : List ByteArray) : (dropW b ws).length ≤ ws.length := by
  unfold dropW
  split
  · rw [List.length_take]; omega
  · exact Nat.le_refl _
theorem oev_none (e : List Value) : oev e none = none := rfl
theorem oev_some (e : List Value) (x : Opd) : oev e (some x) = some (ev e x) := rfl
theorem land_lt {b k : Nat} (h : b < k) : Nat.land (bit k) (bit b) = 0 := land_bits (by omega)
theorem LV.cutR {M : FM} {n0 N N' : Nat} {lv : Value} {ws : List ByteArray} (h : LV M n0 N lv ws) (hN : N ≤ N') {k : Nat} (hk : k ≤ ws.length) : ∃ v' r, slcM M N' 1 (slcV 1 none (some (.int .i64 (k : Int))) lv) lv = .ok v' M N' r 0 ∧ (∀ i, N ≤ i → Nat.land (bit i) r = 0) ∧ LV M n0 N v' (ws.take k) := by
  obtain ⟨b, c, rest, opn, wr, rfl, h0, hb, hm, hc⟩ := h
  have hl : (ws.take k).length = k := by rw [List.length_take]; omega
  have hLV : LV M n0 N (.slice (some ⟨b, 0, none⟩) k c) (ws.take k) := by
    refine ⟨b, c, ws.drop k ++ rest, opn, wr, by rw [hl], h0, hb, by rw [← List.append_assoc, List.take_append_drop]; exact hm, ?_⟩
    rw [hl]
    rcases hc with h | ⟨h1, h2⟩
    · exact .inl h
    · exact .inr ⟨by omega, h2⟩
  rw [slcV_hi hk, slcM_mk]
  rcases hc with rfl | ⟨h1, h2⟩
  · rw [slcA_unk, Nat.beq_refl, getb_lt (Nat.lt_of_lt_of_le hb hN), hm]
    exact ⟨.slice (some ⟨b, 0, none⟩) k UNK, bit b, rfl, fun i hi => land_lt (by omega), hLV⟩
  · rw [slcA_cap h2, nbeq_f (show c ≠ UNK by unfold UNK; omega)]
    exact ⟨.slice (some ⟨b, 0, none⟩) k c, 0, rfl, fun i _ => Nat.and_zero _, hLV⟩
theorem ord_wr {m : FM} {n : Nat} {M : FM} {N cb : Nat} {lv : Value} {ws : List ByteArray} {c : Cmd} {dv : Value} (hP : PS m n M N cb lv ws c dv) (hws : 0 < ws.length) (hwl : ws.length ≤ 100000) (x2 x3 x4 : Value) (ys : List Value) {Q : AX → List Value → FM → Nat → Nat → Prop} {w0 : Nat}
    (hk : ∀ M' w' b1 b2 lv', PS m n M' N cb lv' (dropW (lastB ordW ws) ws) { c with ord := if lastB ordW ws = true then 1 else c.ord } dv → (∀ j, j ≤ n → Nat.mod w0 (bit j) = 0 → Nat.mod w' (bit j) = 0) → Wr PG E Y [] w' (execW PG E Y r6 (b1 :: b2 :: x2 :: x3 :: .pointer (some ⟨cb, 0, none⟩) :: x4 :: .pointer (some ⟨n + 1, 0, none⟩) :: ys) M' N) Q) :
    Wr PG E Y [] w0 (execW PG E Y r5 (x2 :: x3 :: .pointer (some ⟨cb, 0, none⟩) :: x4 :: .pointer (some ⟨n + 1, 0, none⟩) :: ys) M N) Q := by
  rw [r5_eq]
  simp only [q5, r5, r4, r3, r2, r1, sqA, sqB, ac12]
  have hcc := hP.cc
  have hcbN := hP.cbN
  have hcb1 := hP.cb1
  have hdv := hP.dat.one
  simp only [Cmd.cells] at hcc
  by_cases hl : 1 < ws.length
  · obtain ⟨b, cs, opn, wr, h1, h2, h3, h4⟩ := hP.lvw.at (show ws.length - 1 < ws.length by omega)
    have h4' : cget cs (ws.length - 1) = some (.string (atW ws (ws.length - 1))) := by rw [atW_lt (by omega)]; exact h4
    by_cases ho : atW ws (ws.length - 1) = ordW
    · rw [lastB_t ⟨hl, ho⟩] at hk
      obtain ⟨v', r1, hp, hr1, hL'⟩ := hP.lvw.cutR (Nat.le_of_lt hcbN) (k := ws.length - 1) (by omega)
      have hr1 := hr1 cb (Nat.le_refl _)
      have hone := hL'.one
      have ho' : atW ws (ws.length - 1) = ⟨#[111, 114, 100, 101, 114, 101, 100]⟩ := ho
      simp (implicitDefEqProofs := false) (disch := omega) only [WPs, opds, List.all_cons, List.all_nil, List.cons_append, List.nil_append, cond_true, cond_false, eq_self, List.map_cons, List.map_nil, Nat.reduceAdd, Nat.testBit, Nat.reduceShiftRight, Nat.reduceAnd, Nat.reduceBNe, Nat.reduceMul, STs, hP.lb, hP.lvw.len, hP.lvw.one, h1, h3, h4', decide_eq_true ho', hcc, s_slc, hP.lvw.bel, Option.toList_none, Option.toList_some, oev_none, oev_some, hL'.bel, hone, cells_of_one hone, hdv, hp, hr1]
      refine hk _ _ _ _ v' ((hP.store (c' := { c with ord := 1 }) rfl).storeL (hL'.frame (Nat.le_refl _) fun b _ hb => fput_ne _ _ _ _ (by omega))) (fun j hj h => ?_)
      simp only [frz_iff]
      exact ⟨h, frz_bit (by omega), frz_bit (by omega)⟩
    · rw [lastB_f fun x => ho x.2] at hk
      have ho' : ¬ atW ws (ws.length - 1) = ⟨#[111, 114, 100, 101, 114, 101, 100]⟩ := ho
      simp (implicitDefEqProofs := false) (disch := omega) only [WPs, opds, List.all_cons, List.all_nil, List.cons_append, List.nil_append, cond_true, cond_false, eq_self, List.map_cons, List.map_nil, Nat.reduceAdd, Nat.testBit, Nat.reduceShiftRight, Nat.reduceAnd, Nat.reduceBNe, Nat.reduceMul, STs, hP.lb, hP.lvw.len, hP.lvw.one, h1, h3, h4', decide_eq_false ho', hcc]
      exact hk _ _ _ _ _ hP fun j _ h => h
  · rw [lastB_f fun x => hl x.1] at hk
    simp (implicitDefEqProofs := false) (disch := omega) only [WPs, opds, List.all_cons, List.all_nil, List.cons_append, List.nil_append, cond_true, cond_false, eq_self, List.map_cons, List.map_nil, Nat.reduceAdd, Nat.testBit, Nat.reduceShiftRight, Nat.reduceAnd, Nat.reduceBNe, Nat.reduceMul, STs, hP.lb, hP.lvw.len, hP.lvw.one, hcc]
    exact hk _ _ _ _ _ hP fun j _ h => h
theorem force_wr {m : FM} {n : Nat} {M : FM} {N cb : Nat} {lv : Value} {ws : List ByteArray} {c : Cmd} {dv : Value} (hP : PS m n M N cb lv ws c dv) (hws : 0 < ws.length) (hwl : ws.length ≤ 100000) (y1 y2 x2 x3 x4 : Value) (ys : List Value) {Q : AX → List Value → FM → Nat → Nat → Prop} {w0 : Nat}
    (hk : ∀ M' w' b1 b2 lv', PS m n M' N cb lv' (dropW (lastB forceW ws) ws) { c with force := if lastB forceW ws = true then true else c.force } dv → (∀ j, j ≤ n → Nat.mod w0 (bit j) = 0 → Nat.mod w' (bit j) = 0) → Wr PG E Y [] w' (execW PG E Y r7 (b1 :: b2 :: y1 :: y2 :: x2 :: x3 :: .pointer (some ⟨cb, 0, none⟩) :: x4 :: .pointer (some ⟨n + 1, 0, none⟩) :: ys) M' N) Q) :
    Wr PG E Y [] w0 (execW PG E Y r6 (y1 :: y2 :: x2 :: x3 :: .pointer (some ⟨cb, 0, none⟩) :: x4 :: .pointer (some ⟨n + 1, 0, none⟩) :: ys) M N) Q := by
  rw [r6_eq]
  simp only [q6, r6, r5, r4, r3, r2, r1, sqA, sqB, ac12]
  have hcc := hP.cc
  have hcbN := hP.cbN
  have hcb1 := hP.cb1
  have hdv := hP.dat.one
  simp only [Cmd.cells] at hcc
  by_cases hl : 1 < ws.length
  · obtain ⟨b, cs, opn, wr, h1, h2, h3, h4⟩ := hP.lvw.at (show ws.length - 1 < ws.length by omega)
    have h4' : cget cs (ws.length - 1) = some (.string (atW ws (ws.length - 1))) := by rw [atW_lt (by omega)]; exact h4
    by_cases ho : atW ws (ws.length - 1) = forceW
    · rw [lastB_t ⟨hl, ho⟩] at hk
      obtain ⟨v', r1, hp, hr1, hL'⟩ := hP.lvw.cutR (Nat.le_of_lt hcbN) (k := ws.length - 1) (by omega)
      have hr1 := hr1 cb (Nat.le_refl _)
      have hone := hL'.one
      have ho' : atW ws (ws.length - 1) = ⟨#[102, 111, 114, 99, 101]⟩ := ho
      simp (implicitDefEqProofs := false) (disch := omega) only [WPs, opds, List.all_cons, List.all_nil, List.cons_append, List.nil_append, cond_true, cond_false, eq_self, List.map_cons, List.map_nil, Nat.reduceAdd, Nat.testBit, Nat.reduceShiftRight, Nat.reduceAnd, Nat.reduceBNe, Nat.reduceMul, STs, hP.lb, hP.lvw.len, hP.lvw.one, h1, h3, h4', decide_eq_true ho', hcc, s_slc, hP.lvw.bel, Option.toList_none, Option.toList_some, oev_none, oev_some, hL'.bel, hone, cells_of_one hone, hdv, hp, hr1]
      refine hk _ _ _ _ v' ((hP.store (c' := { c with force := true }) rfl).storeL (hL'.frame (Nat.le_refl _) fun b _ hb => fput_ne _ _ _ _ (by omega))) (fun j hj h => ?_)
      simp only [frz_iff]
      exact ⟨h, frz_bit (by omega), frz_bit (by omega)⟩
    · rw [lastB_f fun x => ho x.2] at hk
      have ho' : ¬ atW ws (ws.length - 1) = ⟨#[102, 111, 114, 99, 101]⟩ := ho
      simp (implicitDefEqProofs := false) (disch := omega) only [WPs, opds, List.all_cons, List.all_nil, List.cons_append, List.nil_append, cond_true, cond_false, eq_self, List.map_cons, List.map_nil, Nat.reduceAdd, Nat.testBit, Nat.reduceShiftRight, Nat.reduceAnd, Nat.reduceBNe, Nat.reduceMul, STs, hP.lb, hP.lvw.len, hP.lvw.one, h1, h3, h4', decide_eq_false ho', hcc]
      exact hk _ _ _ _ _ hP fun j _ h => h
  · rw [lastB_f fun x => hl x.1] at hk
    simp (implicitDefEqProofs := false) (disch := omega) only [WPs, opds, List.all_cons, List.all_nil, List.cons_append, List.nil_append, cond_true, cond_false, eq_self, List.map_cons, List.map_nil, Nat.reduceAdd, Nat.testBit, Nat.reduceShiftRight, Nat.reduceAnd, Nat.reduceBNe, Nat.reduceMul, STs, hP.lb, hP.lvw.len, hP.lvw.one, hcc]
    exact hk _ _ _ _ _ hP fun j _ h => h
end Go.Am.C39
namespace Go.Am.C39
set_option maxRecDepth 100000
open Go Go.Am Go.Am.V
variable {E : Nat → Option AFn} {Y : Nat → List Value → FM → Nat → OR FM}
theorem ps_at (h25 : E 25 = some ac25) {m : FM} {n : Nat} {M : FM} {N cb : Nat} {lv : Value} {ws : List ByteArray} {c : Cmd} {dv : Value} (hP : PS m n M N cb lv ws c dv) (hwl : ws.length ≤ 100000) (i : Nat) (hi : i ≤ 10) : Pure (callW PG E Y 25 [.int .i64 (i : Int), .pointer (some ⟨n + 1, 0, none⟩)] M N) M N (.string (atW ws i)) :=
  at_spec h25 (by have := hP.cb1; have := hP.cbN; omega) hP.lb hP.lvw (Nat.le_of_lt hP.cbN) (by omega) i hi
def fnV (n : Nat) : Value := .func (.func 25) [].toArray [Value.pointer (some ⟨n + 1, 0, none⟩)].toArray
def headC (c : Cmd) (ws : List ByteArray) : Cmd := { c with tag := numV (atW ws 1), vol := atW ws 2 }
theorem num_wr (L : LibP E Y) (h25 : E 25 = some ac25) (h26 : E 26 = some ac26) {m : FM} {n : Nat} {M : FM} {N cb : Nat} {lv : Value} {ws : List ByteArray} {c : Cmd} {dv : Value} (hP : PS m n M N cb lv ws c dv) (hwl : ws.length ≤ 100000) (hsz : ∀ i, (atW ws i).size ≤ 2000) (z1 z2 y1 y2 x2 x3 x4 : Value) (ys : List Value) {Q : AX → List Value → FM → Nat → Nat → Prop} {w0 : Nat}
    (hk : ∀ M' w', PS m n M' N cb lv ws (headC c ws) dv → (∀ j, j ≤ n → Nat.mod w0 (bit j) = 0 → Nat.mod w' (bit j) = 0) → Wr PG E Y [] w' (execW PG E Y r9 (fnV n :: z1 :: z2 :: y1 :: y2 :: x2 :: x3 :: .pointer (some ⟨cb, 0, none⟩) :: x4 :: .pointer (some ⟨n + 1, 0, none⟩) :: ys) M' N) Q) :
    Wr PG E Y [] w0 (execW PG E Y r7 (z1 :: z2 :: y1 :: y2 :: x2 :: x3 :: .pointer (some ⟨cb, 0, none⟩) :: x4 :: .pointer (some ⟨n + 1, 0, none⟩) :: ys) M N) Q := by
  rw [r7_eq]
  simp only [q7, q8, r8, r7, r6, r5, r4, r3, r2, r1, sqA, sqB, ac12]
  have hcc := hP.cc
  have hcbN := hP.cbN
  have hcb1 := hP.cb1
  have hdv := hP.dat.one
  simp only [Cmd.cells] at hcc
  simp (implicitDefEqProofs := false) (disch := omega) only [WPs, opds, List.all_cons, List.all_nil, List.cons_append, List.nil_append, cond_true, cond_false, eq_self, List.map_cons, List.map_nil, Nat.reduceAdd, Nat.testBit, Nat.reduceShiftRight, Nat.reduceAnd, Nat.reduceBNe, Nat.reduceMul, s_callv, callv_mk, s_func]
  refine use_pure (ps_at h25 hP hwl 1 (by omega)) fun r1 => ?_
  simp (implicitDefEqProofs := false) (disch := omega) only [WPs, opds, List.all_cons, List.all_nil, List.cons_append, List.nil_append, cond_true, cond_false, eq_self, List.map_cons, List.map_nil, Nat.reduceAdd, Nat.testBit, Nat.reduceShiftRight, Nat.reduceAnd, Nat.reduceBNe, Nat.reduceMul]
  refine use_pure (number_spec L h26 _ (by have := hsz 1; omega) _ _) fun r2 => ?_
  simp (implicitDefEqProofs := false) (disch := omega) only [WPs, opds, List.all_cons, List.all_nil, List.cons_append, List.nil_append, cond_true, cond_false, eq_self, List.map_cons, List.map_nil, Nat.reduceAdd, Nat.testBit, Nat.reduceShiftRight, Nat.reduceAnd, Nat.reduceBNe, Nat.reduceMul, s_callv, callv_mk]
  refine use_pure (ps_at h25 hP hwl 2 (by omega)) fun r3 => ?_
  simp (implicitDefEqProofs := false) (disch := omega) only [WPs, opds, List.all_cons, List.all_nil, List.cons_append, List.nil_append, cond_true, cond_false, eq_self, List.map_cons, List.map_nil, Nat.reduceAdd, Nat.testBit, Nat.reduceShiftRight, Nat.reduceAnd, Nat.reduceBNe, Nat.reduceMul, hcc]
  refine hk _ _ (hP.store (c' := headC c ws) rfl) (fun j hj h => ?_)
  simp only [frz_iff]
  exact ⟨h, frz_bit (by omega), frz_bit (by omega)⟩
def swC (c : Cmd) (ws : List ByteArray) : Cmd :=
  if c.kind = 1 ∨ c.kind = 3 then { c with at_ := numV (atW ws 3), len := numV (atW ws 4) } else
  if c.kind = 2 then { c with at_ := numV (atW ws 3), data := (ws.drop 4).map blkB, len := (((ws.drop 4).map blkB).length : Int) } else
  if c.kind = 5 then { c with len := numV (atW ws 3), at_ := numV (atW ws 4) } else
  if c.kind = 6 then { c with oth := atW ws 3 } else c
theorem PS.app {m : FM} {n : Nat} {M M' : FM} {N N' cb : Nat} {lv dv' : Value} {ws : List ByteArray} {c : Cmd} {dv : Value} (h : PS m n M N cb lv ws c dv) (ds : List (List Int)) (hN : N ≤ N') (hf : ∀ b, b < cb + 1 → M' b = M b) (hS : SlZ 8 M' (cb + 1) N' dv' ds.length (u8all ds)) : PS m n (AMem.put M' cb (some (.cells (({ c with data := ds } : Cmd).cells dv') 0 false true)) : FM) N' cb lv ws { c with data := ds } dv' := by
  have h1 := h.cb1
  have h2 := h.cbN
  obtain ⟨cs, hl, hr⟩ := h.rb
  exact ⟨fun b hb => by rw [fput_ne _ _ _ _ (by omega), hf b (by omega), h.lo b hb], ⟨cs, hl, by rw [fput_ne _ _ _ _ (by omega), hf _ (by omega)]; exact hr⟩, by rw [fput_ne _ _ _ _ (by omega), hf _ (by omega)]; exact h.lb, h.lvw.frame (Nat.le_refl _) fun b _ hb => by rw [fput_ne _ _ _ _ (by omega), hf b (by omega)], h1, by omega, fput_same _ _ _, hS.frame (Nat.le_refl _) fun b hb _ => fput_ne _ _ _ _ (by omega)⟩
theorem u8all_snoc : ∀ (ds : List (List Int)) (d : List Int), u8all (ds ++ [d]) = u8all ds ++ u8s d
  | [], d => by simp [u8all, u8s]
  | e :: ds, d => by rw [List.cons_append, u8all_cons, u8all_cons, u8all_snoc ds d, List.append_assoc]
theorem PS.storeK {m : FM} {n : Nat} {M : FM} {N cb : Nat} {lv : Value} {ws : List ByteArray} {c c' : Cmd} {dv : Value} (h : PS m n M N cb lv ws c dv) (hd : c'.data = c.data) {z : Int} (hk : c'.kind = z) : PS m n (AMem.put M cb (some (.cells [.int .i64 c'.tag, .int .i64 z, .int .i64 c'.ord, .bool c'.force, .string c'.vol, .string c'.oth, .int .i64 c'.at_, .int .i64 c'.len, dv] 0 false true)) : FM) N cb lv ws c' dv := by
  subst hk
  exact h.store hd
theorem data_L2 (L : LibP E Y) (h27 : E 27 = some ac27) (h30 : E 30 = some ac30) {m : FM} {n : Nat} {cb : Nat} {lv : Value} {ws : List ByteArray} {c : Cmd} (hwl : ws.length ≤ 100000) (u1 u2 u3 u4 u5 u6 z1 z2 y1 y2 x2 x3 x4 : Value) (ys : List Value) {Q : AX → List Value → FM → Nat → Nat → Prop}
    (hQ : ∀ M N w dv, PS m n M N cb lv ws { c with data := (ws.drop 4).map blkB } dv → (∀ j, j ≤ n → Nat.mod w (bit j) = 0) → Q (.exit 5) (u1 :: u2 :: u3 :: u4 :: u5 :: u6 :: z1 :: z2 :: y1 :: y2 :: x2 :: x3 :: .pointer (some ⟨cb, 0, none⟩) :: x4 :: .pointer (some ⟨n + 1, 0, none⟩) :: ys) M N w) :
    ∀ (d j : Nat), j + d = (ws.drop 4).length → ∀ (M : FM) (N w0 : Nat) (dv : Value), PS m n M N cb lv ws { c with data := ((ws.drop 4).take j).map blkB } dv → (∀ j, j ≤ n → Nat.mod w0 (bit j) = 0) →
    Gv (execW PG E Y ac12L2 (.int .i64 ((4 + j : Nat) : Int) :: u1 :: u2 :: u3 :: u4 :: u5 :: u6 :: z1 :: z2 :: y1 :: y2 :: x2 :: x3 :: .pointer (some ⟨cb, 0, none⟩) :: x4 :: .pointer (some ⟨n + 1, 0, none⟩) :: ys) M N) fun X e m n w => Q X e m n (Nat.lor w0 w) := by
  intro d
  induction d with
  | zero =>
    intro j hj M N w0 dv hP hw
    have hl : (ws.drop 4).length = ws.length - 4 := List.length_drop ..
    have hcb1 := hP.cb1
    have hcbN := hP.cbN
    refine wr_loopN (L := ac12L2) (b := ac12L2b) rfl ?_
    simp only [ac12L2b]
    simp (implicitDefEqProofs := false) (disch := omega) only [WPs, opds, List.all_cons, List.all_nil, List.cons_append, List.nil_append, cond_true, cond_false, eq_self, List.map_cons, List.map_nil, Nat.reduceAdd, Nat.testBit, Nat.reduceShiftRight, Nat.reduceAnd, Nat.reduceBNe, Nat.reduceMul, hP.lb, hP.lvw.len, hP.lvw.one]
    rw [List.take_of_length_le (by omega)] at hP
    exact hQ _ _ _ _ hP hw
  | succ d ih =>
    intro j hj M N w0 dv hP hw
    have hl : (ws.drop 4).length = ws.length - 4 := List.length_drop ..
    have hcb1 := hP.cb1
    have hcbN := hP.cbN
    obtain ⟨b, cs, opn, wr, h1, h2, h3, h4⟩ := hP.lvw.at (show 4 + j < ws.length by omega)
    have hbk := blkB_ok (ws[4 + j]'(by omega))
    refine wr_loopN (L := ac12L2) (b := ac12L2b) rfl ?_
    simp only [ac12L2b]
    simp (implicitDefEqProofs := false) (disch := omega) only [WPs, opds, List.all_cons, List.all_nil, List.cons_append, List.nil_append, cond_true, cond_false, eq_self, List.map_cons, List.map_nil, Nat.reduceAdd, Nat.testBit, Nat.reduceShiftRight, Nat.reduceAnd, Nat.reduceBNe, Nat.reduceMul, hP.lb, hP.lvw.len, hP.lvw.one, h1, h3, h4]
    refine use_rt (block_spec L h27 h30 (ws[4 + j]'(by omega)) M N) fun v1 M1 N1 r1 w1 hh => ?_
    obtain ⟨hN1, hf1, hw1, ok, rfl⟩ := hh
    have hP1 := hP.grow hN1 hf1
    have hcc := hP1.cc
    simp only [Cmd.cells] at hcc
    have hdo := hP1.dat.one
    simp (implicitDefEqProofs := false) (disch := omega) only [WPs, opds, List.all_cons, List.all_nil, List.cons_append, List.nil_append, cond_true, cond_false, eq_self, List.map_cons, List.map_nil, Nat.reduceAdd, Nat.testBit, Nat.reduceShiftRight, Nat.reduceAnd, Nat.reduceBNe, Nat.reduceMul, ey0, ey1, hcc, u8s_llen hbk.1, u8s_one, u8s_set hbk.1, u8s_all hbk.1, hP1.dat.bel, hdo]
    generalize hM2 : (AMem.put (AMem.put M1 N1 (some (.cells (u8s (blkB ws[4 + j])) 0 false true))) (N1 + 1) (some (.cells (u8s (blkB ws[4 + j])) 8 false true)) : FM) = M2
    have lo2 : ∀ b, b < N1 → M2 b = M1 b := fun b hb => by rw [← hM2, fput_ne _ _ _ _ (by omega), fput_ne _ _ _ _ (by omega)]
    have hP2 := hP1.grow (show N1 ≤ N1 + 2 by omega) lo2
    have hcN1 := hP1.cbN
    refine use_rt (app_slZn hP2.dat _ _ _ (by omega) (k := 1) (by omega) (by omega) (zs := u8s (blkB (ws[4 + j]'(by omega)))) (by rw [u8s, List.length_map, hbk.1]) (u8s_one _) (by omega) (by rw [List.length_map, List.length_take]; omega)) fun v3 M3 N3 r3 w3 hh => ?_
    obtain ⟨hv3, hn3, hS3, f3, fw3⟩ := hh
    subst hn3
    have e3 : u8all ((((ws.drop 4).take j).map blkB)) ++ u8s (blkB (ws[4 + j]'(by omega))) = u8all (((ws.drop 4).take (j + 1)).map blkB) := by
      rw [List.take_succ_eq_append_getElem (by omega), List.map_append, List.map_cons, List.map_nil, u8all_snoc, List.getElem_drop]
    have l3 : ((((ws.drop 4).take j).map blkB)).length + 1 = (((ws.drop 4).take (j + 1)).map blkB).length := by
      rw [List.length_map, List.length_map, List.length_take, List.length_take]; omega
    rw [e3, l3] at hS3
    have hcc2 := (f3 cb (by omega)).trans hP2.cc
    simp only [Cmd.cells] at hcc2
    have hone3 := hS3.one
    simp (implicitDefEqProofs := false) (disch := omega) only [WPs, opds, List.all_cons, List.all_nil, List.cons_append, List.nil_append, cond_true, cond_false, eq_self, List.map_cons, List.map_nil, Nat.reduceAdd, Nat.testBit, Nat.reduceShiftRight, Nat.reduceAnd, Nat.reduceBNe, Nat.reduceMul, hcc2, hone3, cells_of_one hone3]
    have hP4 := hP2.app (((ws.drop 4).take (j + 1)).map blkB) (show N1 + 2 ≤ N1 + 2 + 1 by omega) f3 hS3
    have hi := ih (j + 1) (by omega) _ (N1 + 2 + 1) (Nat.lor w0 (Nat.lor (Nat.lor (Nat.lor w1 (bit N1)) (bit N1)) (Nat.lor (Nat.lor (bit (N1 + 1)) w3) (bit cb)))) v3 hP4 (fun i hi => by
      simp only [frz_iff]
      exact ⟨hw i hi, ⟨⟨hw1 i (by omega), frz_bit (by omega)⟩, frz_bit (by omega)⟩, ⟨frz_bit (by omega), fw3 i (by omega)⟩, frz_bit (by omega)⟩)
    refine wr_end hi fun X e m n w hq => ?_
    rw [lor_asc] at hq
    exact hq
theorem sw_wr (L : LibP E Y) (h25 : E 25 = some ac25) (h26 : E 26 = some ac26) (h27 : E 27 = some ac27) (h30 : E 30 = some ac30) {m : FM} {n : Nat} {M : FM} {N cb : Nat} {lv : Value} {ws : List ByteArray} {c : Cmd} (hP : PS m n M N cb lv ws c (.slice none 0 0)) (hc0 : c.data = []) {k : Nat} (hck : c.kind = (k : Int)) (hk8 : k < 8) (hwl : ws.length ≤ 100000) (hsz : ∀ i, (atW ws i).size ≤ 2000) (z1 z2 y1 y2 x2 x3 x4 : Value) (ys : List Value) {Q : AX → List Value → FM → Nat → Nat → Prop} {w0 : Nat}
    (hk : ∀ M' N' w' dv' x0, PS m n M' N' cb lv ws (swC c ws) dv' → (∀ j, j ≤ n → Nat.mod w0 (bit j) = 0 → Nat.mod w' (bit j) = 0) → Wr PG E Y [] w' (execW PG E Y r10 (x0 :: fnV n :: z1 :: z2 :: y1 :: y2 :: x2 :: x3 :: .pointer (some ⟨cb, 0, none⟩) :: x4 :: .pointer (some ⟨n + 1, 0, none⟩) :: ys) M' N') Q) :
    Wr PG E Y [] w0 (execW PG E Y r9 (fnV n :: z1 :: z2 :: y1 :: y2 :: x2 :: x3 :: .pointer (some ⟨cb, 0, none⟩) :: x4 :: .pointer (some ⟨n + 1, 0, none⟩) :: ys) M N) Q := by
  rw [r9_eq]
  simp only [q9, r9, r8, r7, r6, r5, r4, r3, r2, r1, sqA, sqB, ac12]
  have hcc := hP.cc
  have hcbN := hP.cbN
  have hcb1 := hP.cb1
  have hdv := hP.dat.one
  simp only [Cmd.cells, hck] at hcc
  rcases (by omega : k = 1 ∨ k = 2 ∨ k = 3 ∨ k = 5 ∨ k = 6 ∨ k = 0 ∨ k = 4 ∨ k = 7) with rfl | rfl | rfl | rfl | rfl | rfl | rfl | rfl
  · have e : swC c ws = { c with at_ := numV (atW ws 3), len := numV (atW ws 4) } := by unfold swC; rw [hck]; exact if_pos (by decide)
    rw [e] at hk
    simp (implicitDefEqProofs := false) (disch := omega) only [WPs, opds, List.all_cons, List.all_nil, List.cons_append, List.nil_append, cond_true, cond_false, eq_self, List.map_cons, List.map_nil, Nat.reduceAdd, Nat.testBit, Nat.reduceShiftRight, Nat.reduceAnd, Nat.reduceBNe, Nat.reduceMul, hcc, fnV, s_callv, callv_mk]
    refine use_pure (ps_at h25 hP hwl 3 (by omega)) fun r1 => ?_
    simp (implicitDefEqProofs := false) (disch := omega) only [WPs, opds, List.all_cons, List.all_nil, List.cons_append, List.nil_append, cond_true, cond_false, eq_self, List.map_cons, List.map_nil, Nat.reduceAdd, Nat.testBit, Nat.reduceShiftRight, Nat.reduceAnd, Nat.reduceBNe, Nat.reduceMul]
    refine use_pure (number_spec L h26 _ (by have := hsz 3; omega) _ _) fun r2 => ?_
    simp (implicitDefEqProofs := false) (disch := omega) only [WPs, opds, List.all_cons, List.all_nil, List.cons_append, List.nil_append, cond_true, cond_false, eq_self, List.map_cons, List.map_nil, Nat.reduceAdd, Nat.testBit, Nat.reduceShiftRight, Nat.reduceAnd, Nat.reduceBNe, Nat.reduceMul, s_callv, callv_mk]
    refine use_pure (ps_at h25 hP hwl 4 (by omega)) fun r3 => ?_
    simp (implicitDefEqProofs := false) (disch := omega) only [WPs, opds, List.all_cons, List.all_nil, List.cons_append, List.nil_append, cond_true, cond_false, eq_self, List.map_cons, List.map_nil, Nat.reduceAdd, Nat.testBit, Nat.reduceShiftRight, Nat.reduceAnd, Nat.reduceBNe, Nat.reduceMul]
    refine use_pure (number_spec L h26 _ (by have := hsz 4; omega) _ _) fun r4 => ?_
    simp (implicitDefEqProofs := false) (disch := omega) only [WPs, opds, List.all_cons, List.all_nil, List.cons_append, List.nil_append, cond_true, cond_false, eq_self, List.map_cons, List.map_nil, Nat.reduceAdd, Nat.testBit, Nat.reduceShiftRight, Nat.reduceAnd, Nat.reduceBNe, Nat.reduceMul, hcc]
    refine hk _ _ _ _ _ (hP.storeK (c' := { c with at_ := numV (atW ws 3), len := numV (atW ws 4) }) rfl hck) (fun j hj h => ?_)
    simp only [frz_iff]
    exact ⟨h, frz_bit (by omega), frz_bit (by omega)⟩
  · have e : swC c ws = { c with at_ := numV (atW ws 3), data := (ws.drop 4).map blkB, len := (((ws.drop 4).map blkB).length : Int) } := by unfold swC; rw [hck, if_neg (by decide), if_pos (by decide)]
    rw [e] at hk
    simp (implicitDefEqProofs := false) (disch := omega) only [WPs, opds, List.all_cons, List.all_nil, List.cons_append, List.nil_append, cond_true, cond_false, eq_self, List.map_cons, List.map_nil, Nat.reduceAdd, Nat.testBit, Nat.reduceShiftRight, Nat.reduceAnd, Nat.reduceBNe, Nat.reduceMul, hcc, fnV, s_callv, callv_mk]
    refine use_pure (ps_at h25 hP hwl 3 (by omega)) fun r1 => ?_
    simp (implicitDefEqProofs := false) (disch := omega) only [WPs, opds, List.all_cons, List.all_nil, List.cons_append, List.nil_append, cond_true, cond_false, eq_self, List.map_cons, List.map_nil, Nat.reduceAdd, Nat.testBit, Nat.reduceShiftRight, Nat.reduceAnd, Nat.reduceBNe, Nat.reduceMul]
    refine use_pure (number_spec L h26 _ (by have := hsz 3; omega) _ _) fun r2 => ?_
    simp (implicitDefEqProofs := false) (disch := omega) only [WPs, opds, List.all_cons, List.all_nil, List.cons_append, List.nil_append, cond_true, cond_false, eq_self, List.map_cons, List.map_nil, Nat.reduceAdd, Nat.testBit, Nat.reduceShiftRight, Nat.reduceAnd, Nat.reduceBNe, Nat.reduceMul, hcc]
    have hP1' := hP.storeK (c' := { c with at_ := numV (atW ws 3), data := ((ws.drop 4).take 0).map blkB }) (by rw [List.take_zero, hc0]; rfl) hck
    refine wr_kont ((data_L2 L h27 h30 (c := { c with at_ := numV (atW ws 3) }) hwl _ _ _ _ _ _ _ _ _ _ _ _ _ _ (fun M5 N5 w5 dv5 hP5 hw5 => ?_) (ws.drop 4).length 0 (by omega) _ _ 0 _ hP1' (fun j _ => frz_zero _)).mono fun X e m' n' w hq => by simpa only [zero_lor'] using hq)
    intro rr
    have hcc5 := hP5.cc
    have hl5 := hP5.dat.len
    have ho5 := hP5.dat.one
    simp only [Cmd.cells, hck] at hcc5
    have hcbN5 := hP5.cbN
    simp (implicitDefEqProofs := false) (disch := omega) only [WPs, opds, List.all_cons, List.all_nil, List.cons_append, List.nil_append, cond_true, cond_false, eq_self, List.map_cons, List.map_nil, Nat.reduceAdd, Nat.testBit, Nat.reduceShiftRight, Nat.reduceAnd, Nat.reduceBNe, Nat.reduceMul, hcc5, ho5, hl5]
    refine hk _ _ _ _ _ (hP5.storeK (c' := { c with at_ := numV (atW ws 3), data := (ws.drop 4).map blkB, len := (((ws.drop 4).map blkB).length : Int) }) rfl hck) (fun j hj h => ?_)
    have fz := hw5 j hj
    simp only [frz_iff]
    exact ⟨⟨⟨h, frz_bit (by omega)⟩, fz⟩, frz_bit (by omega)⟩
  · have e : swC c ws = { c with at_ := numV (atW ws 3), len := numV (atW ws 4) } := by unfold swC; rw [hck]; exact if_pos (by decide)
    rw [e] at hk
    simp (implicitDefEqProofs := false) (disch := omega) only [WPs, opds, List.all_cons, List.all_nil, List.cons_append, List.nil_append, cond_true, cond_false, eq_self, List.map_cons, List.map_nil, Nat.reduceAdd, Nat.testBit, Nat.reduceShiftRight, Nat.reduceAnd, Nat.reduceBNe, Nat.reduceMul, hcc, fnV, s_callv, callv_mk]
    refine use_pure (ps_at h25 hP hwl 3 (by omega)) fun r1 => ?_
    simp (implicitDefEqProofs := false) (disch := omega) only [WPs, opds, List.all_cons, List.all_nil, List.cons_append, List.nil_append, cond_true, cond_false, eq_self, List.map_cons, List.map_nil, Nat.reduceAdd, Nat.testBit, Nat.reduceShiftRight, Nat.reduceAnd, Nat.reduceBNe, Nat.reduceMul]
    refine use_pure (number_spec L h26 _ (by have := hsz 3; omega) _ _) fun r2 => ?_
    simp (implicitDefEqProofs := false) (disch := omega) only [WPs, opds, List.all_cons, List.all_nil, List.cons_append, List.nil_append, cond_true, cond_false, eq_self, List.map_cons, List.map_nil, Nat.reduceAdd, Nat.testBit, Nat.reduceShiftRight, Nat.reduceAnd, Nat.reduceBNe, Nat.reduceMul, s_callv, callv_mk]
    refine use_pure (ps_at h25 hP hwl 4 (by omega)) fun r3 => ?_
    simp (implicitDefEqProofs := false) (disch := omega) only [WPs, opds, List.all_cons, List.all_nil, List.cons_append, List.nil_append, cond_true, cond_false, eq_self, List.map_cons, List.map_nil, Nat.reduceAdd, Nat.testBit, Nat.reduceShiftRight, Nat.reduceAnd, Nat.reduceBNe, Nat.reduceMul]
    refine use_pure (number_spec L h26 _ (by have := hsz 4; omega) _ _) fun r4 => ?_
    simp (implicitDefEqProofs := false) (disch := omega) only [WPs, opds, List.all_cons, List.all_nil, List.cons_append, List.nil_append, cond_true, cond_false, eq_self, List.map_cons, List.map_nil, Nat.reduceAdd, Nat.testBit, Nat.reduceShiftRight, Nat.reduceAnd, Nat.reduceBNe, Nat.reduceMul, hcc]
    refine hk _ _ _ _ _ (hP.storeK (c' := { c with at_ := numV (atW ws 3), len := numV (atW ws 4) }) rfl hck) (fun j hj h => ?_)
    simp only [frz_iff]
    exact ⟨h, frz_bit (by omega), frz_bit (by omega)⟩
  · have e : swC c ws = { c with len := numV (atW ws 3), at_ := numV (atW ws 4) } := by unfold swC; rw [hck]; rw [if_neg (by decide), if_neg (by decide), if_pos (by decide)]
    rw [e] at hk
    simp (implicitDefEqProofs := false) (disch := omega) only [WPs, opds, List.all_cons, List.all_nil, List.cons_append, List.nil_append, cond_true, cond_false, eq_self, List.map_cons, List.map_nil, Nat.reduceAdd, Nat.testBit, Nat.reduceShiftRight, Nat.reduceAnd, Nat.reduceBNe, Nat.reduceMul, hcc, fnV, s_callv, callv_mk]
    refine use_pure (ps_at h25 hP hwl 3 (by omega)) fun r1 => ?_
    simp (implicitDefEqProofs := false) (disch := omega) only [WPs, opds, List.all_cons, List.all_nil, List.cons_append, List.nil_append, cond_true, cond_false, eq_self, List.map_cons, List.map_nil, Nat.reduceAdd, Nat.testBit, Nat.reduceShiftRight, Nat.reduceAnd, Nat.reduceBNe, Nat.reduceMul]
    refine use_pure (number_spec L h26 _ (by have := hsz 3; omega) _ _) fun r2 => ?_
    simp (implicitDefEqProofs := false) (disch := omega) only [WPs, opds, List.all_cons, List.all_nil, List.cons_append, List.nil_append, cond_true, cond_false, eq_self, List.map_cons, List.map_nil, Nat.reduceAdd, Nat.testBit, Nat.reduceShiftRight, Nat.reduceAnd, Nat.reduceBNe, Nat.reduceMul, s_callv, callv_mk]
    refine use_pure (ps_at h25 hP hwl 4 (by omega)) fun r3 => ?_
    simp (implicitDefEqProofs := false) (disch := omega) only [WPs, opds, List.all_cons, List.all_nil, List.cons_append, List.nil_append, cond_true, cond_false, eq_self, List.map_cons, List.map_nil, Nat.reduceAdd, Nat.testBit, Nat.reduceShiftRight, Nat.reduceAnd, Nat.reduceBNe, Nat.reduceMul]
    refine use_pure (number_spec L h26 _ (by have := hsz 4; omega) _ _) fun r4 => ?_
    simp (implicitDefEqProofs := false) (disch := omega) only [WPs, opds, List.all_cons, List.all_nil, List.cons_append, List.nil_append, cond_true, cond_false, eq_self, List.map_cons, List.map_nil, Nat.reduceAdd, Nat.testBit, Nat.reduceShiftRight, Nat.reduceAnd, Nat.reduceBNe, Nat.reduceMul, hcc]
    refine hk _ _ _ _ _ (hP.storeK (c' := { c with len := numV (atW ws 3), at_ := numV (atW ws 4) }) rfl hck) (fun j hj h => ?_)
    simp only [frz_iff]
    exact ⟨h, frz_bit (by omega), frz_bit (by omega)⟩
  · have e : swC c ws = { c with oth := atW ws 3 } := by unfold swC; rw [hck, if_neg (by decide), if_neg (by decide), if_neg (by decide), if_pos (by decide)]
    rw [e] at hk
    simp (implicitDefEqProofs := false) (disch := omega) only [WPs, opds, List.all_cons, List.all_nil, List.cons_append, List.nil_append, cond_true, cond_false, eq_self, List.map_cons, List.map_nil, Nat.reduceAdd, Nat.testBit, Nat.reduceShiftRight, Nat.reduceAnd, Nat.reduceBNe, Nat.reduceMul, hcc, fnV, s_callv, callv_mk]
    refine use_pure (ps_at h25 hP hwl 3 (by omega)) fun r1 => ?_
    simp (implicitDefEqProofs := false) (disch := omega) only [WPs, opds, List.all_cons, List.all_nil, List.cons_append, List.nil_append, cond_true, cond_false, eq_self, List.map_cons, List.map_nil, Nat.reduceAdd, Nat.testBit, Nat.reduceShiftRight, Nat.reduceAnd, Nat.reduceBNe, Nat.reduceMul, hcc]
    refine hk _ _ _ _ _ (hP.storeK (c' := { c with oth := atW ws 3 }) rfl hck) (fun j hj h => ?_)
    simp only [frz_iff]
    exact ⟨h, frz_bit (by omega)⟩
  · have e : swC c ws = c := by unfold swC; rw [hck, if_neg (by decide), if_neg (by decide), if_neg (by decide), if_neg (by decide)]
    rw [e] at hk
    simp (implicitDefEqProofs := false) (disch := omega) only [WPs, opds, List.all_cons, List.all_nil, List.cons_append, List.nil_append, cond_true, cond_false, eq_self, List.map_cons, List.map_nil, Nat.reduceAdd, Nat.testBit, Nat.reduceShiftRight, Nat.reduceAnd, Nat.reduceBNe, Nat.reduceMul, hcc]
    exact hk _ _ _ _ _ hP fun j _ h => h
  · have e : swC c ws = c := by unfold swC; rw [hck, if_neg (by decide), if_neg (by decide), if_neg (by decide), if_neg (by decide)]
    rw [e] at hk
    simp (implicitDefEqProofs := false) (disch := omega) only [WPs, opds, List.all_cons, List.all_nil, List.cons_append, List.nil_append, cond_true, cond_false, eq_self, List.map_cons, List.map_nil, Nat.reduceAdd, Nat.testBit, Nat.reduceShiftRight, Nat.reduceAnd, Nat.reduceBNe, Nat.reduceMul, hcc]
    exact hk _ _ _ _ _ hP fun j _ h => h
  · have e : swC c ws = c := by unfold swC; rw [hck, if_neg (by decide), if_neg (by decide), if_neg (by decide), if_neg (by decide)]
    rw [e] at hk
    simp (implicitDefEqProofs := false) (disch := omega) only [WPs, opds, List.all_cons, List.all_nil, List.cons_append, List.nil_append, cond_true, cond_false, eq_self, List.map_cons, List.map_nil, Nat.reduceAdd, Nat.testBit, Nat.reduceShiftRight, Nat.reduceAnd, Nat.reduceBNe, Nat.reduceMul, hcc]
    exact hk _ _ _ _ _ hP fun j _ h => h
end Go.Am.C39
namespace Go.Am.C39
set_option maxRecDepth 100000
open Go Go.Am Go.Am.V
variable {E : Nat → Option AFn} {Y : Nat → List Value → FM → Nat → OR FM}
theorem dat_of_slz {M : FM} {n0 N : Nat} {dv : Value} {ds : List (List Int)} (h : SlZ 8 M n0 N dv ds.length (u8all ds)) (h8 : ∀ d ∈ ds, d.length = 8) : DatV M N dv ds := by
  rcases h with ⟨h1, h2, h3⟩ | ⟨hp, hcl, b, h3, hb1, hbN, hMb⟩
  · have : ds = [] := List.eq_nil_of_length_eq_zero (by omega)
    subst this
    subst h3
    exact DatV.nil M N
  · subst h3
    refine ⟨_, _, rfl, blt_true (show b < N by omega), .inr ⟨b, 0, _, _, _, rfl, hbN, hMb, fun i hi => ⟨h8 _ (List.getElem_mem hi), ?_⟩⟩⟩
    have hlen := u8all_len h8
    unfold cellsAt
    rw [ldrop_eq, ctake_eq, Nat.zero_add, if_pos (by rw [List.length_drop, hlen]; omega), u8all_drop h8 i hi]
def ParseR (c : Cmd) (s : ByteArray) (v : Value) (m' : FM) (n' : Nat) : Prop :=
  ∃ (x : Cmd) (dv : Value) (e : Int), v = .tuple #[cmdV x dv, .int .i64 e] ∧ DatV m' n' dv x.data ∧ x.Fit ∧ Bytes x ∧
    ((e = 0 ∧ s ≠ ⟨#[]⟩ ∧ textB x = s) ∨ (e = 4 ∧ x = zeroC ∧ ¬ (s ≠ ⟨#[]⟩ ∧ textB c = s) ∧ ∀ f, ¬ hitP c s f 0 ∧ ¬ hitP c s f 1))
theorem zero_fit : zeroC.Fit := ⟨by decide, by decide, by decide, by decide, by decide, by decide, by decide, by decide⟩
theorem zero_bytes : Bytes zeroC := fun d hd => by cases hd
theorem end_wr (L : LibP E Y) (hT : Texts E Y) (h28 : E 28 = some ac28) {m : FM} {n : Nat} {M : FM} {N cb : Nat} {lv : Value} {ws : List ByteArray} {c : Cmd} {dv : Value} (hP : PS m n M N cb lv ws c dv) (hF : c.Fit) (hB : Bytes c) {s : ByteArray} (hFc : ∀ f o, (o = 0 ∨ o = 1) → (candC c s f o).Fit) (hwl : 0 < ws.length) (hs : s.size ≤ 1000) (x0 z0 z1 z2 y1 y2 x2 x3 x4 x5 : Value) {Q : AX → List Value → FM → Nat → Nat → Prop} {w0 : Nat} (hw : Nat.mod w0 (bit n) = 0)
    (hQ : ∀ v e m' n' w, n ≤ n' → (∀ b, b < n → m' b = m b) → Nat.mod w (bit n) = 0 → addrFree v = false → ParseR c s v m' n' → Q (.ret v) e m' n' w) :
    Wr PG E Y [] w0 (execW PG E Y r10 (x0 :: z0 :: z1 :: z2 :: y1 :: y2 :: x2 :: x3 :: .pointer (some ⟨cb, 0, none⟩) :: x4 :: .pointer (some ⟨n + 1, 0, none⟩) :: [x5, .pointer (some ⟨n, 0, none⟩), .string s]) M N) Q := by
  simp only [r10, r9, r8, r7, r6, r5, r4, r3, r2, r1, sqA, sqB, ac12]
  have hd := dat_of_slz hP.dat (fun d hd => (hB d hd).1)
  have hcc := hP.cc
  have hcbN := hP.cbN
  have hcb1 := hP.cb1
  simp only [Cmd.cells] at hcc
  obtain ⟨cr, hcr, hrb⟩ := hP.rb
  have hst9 : ∀ vs : List Value, vs.length = 9 → setCells cr 0 vs = some vs := fun vs h => st9 hcr h
  simp (implicitDefEqProofs := false) (disch := omega) only [WPs, opds, List.all_cons, List.all_nil, List.cons_append, List.nil_append, cond_true, cond_false, eq_self, List.map_cons, List.map_nil, Nat.reduceAdd, Nat.testBit, Nat.reduceShiftRight, Nat.reduceAnd, Nat.reduceBNe, Nat.reduceMul, hcc, hd.one]
  refine use_pure (hT.t13 _ _ c dv hF hB hd) fun r1 => ?_
  by_cases hh : s ≠ ⟨#[]⟩ ∧ textB c = s
  · simp (implicitDefEqProofs := false) (disch := omega) only [WPs, opds, List.all_cons, List.all_nil, List.cons_append, List.nil_append, cond_true, cond_false, eq_self, List.map_cons, List.map_nil, Nat.reduceAdd, Nat.testBit, Nat.reduceShiftRight, Nat.reduceAnd, Nat.reduceBNe, Nat.reduceMul, STs, decide_eq_true hh.2, decide_eq_false hh.1, hcc, hd.one, hrb, st9 hcr (vs := [.int .i64 c.tag, .int .i64 c.kind, .int .i64 c.ord, .bool c.force, .string c.vol, .string c.oth, .int .i64 c.at_, .int .i64 c.len, dv]) rfl]
    refine hQ _ _ _ _ _ (by omega) (fun b hb => by rw [fput_ne _ _ _ _ (by omega), hP.lo b hb]) ?_ rfl ⟨c, dv, 0, rfl, dat_of_slz (hP.dat.frame (Nat.le_refl _) fun b hb _ => fput_ne _ _ _ _ (by omega)) (fun d hd => (hB d hd).1), hF, hB, .inl ⟨rfl, hh.1, hh.2⟩⟩
    simp only [frz_iff]
    exact ⟨hw, frz_bit (Nat.le_refl _)⟩
  · by_cases ht : textB c = s
    · have hse : s = ⟨#[]⟩ := Classical.byContradiction fun h => hh ⟨h, ht⟩
      simp (implicitDefEqProofs := false) (disch := omega) only [WPs, opds, List.all_cons, List.all_nil, List.cons_append, List.nil_append, cond_true, cond_false, eq_self, List.map_cons, List.map_nil, Nat.reduceAdd, Nat.testBit, Nat.reduceShiftRight, Nat.reduceAnd, Nat.reduceBNe, Nat.reduceMul, STs, decide_eq_true ht, decide_eq_true hse, hcc, hd.one, hP.lb, hP.lvw.one]
      refine use_rt (twin_spec L h28 hT M N hFc hB hd hP.lvw.one hP.lvw.len hwl hs) fun v1 M1 N1 r2 w1 hh2 => ?_
      obtain ⟨hN1, hf1, hw1, hres⟩ := hh2
      have hrb1 := (hf1 n (by omega)).trans hrb
      have fz := hw1 n (by omega)
      rcases hres with ⟨f, o, ho, hit, rfl⟩ | ⟨hno, rfl⟩
      · simp only [cmdV]
        simp (implicitDefEqProofs := false) (disch := omega) only [WPs, opds, List.all_cons, List.all_nil, List.cons_append, List.nil_append, cond_true, cond_false, eq_self, List.map_cons, List.map_nil, Nat.reduceAdd, Nat.testBit, Nat.reduceShiftRight, Nat.reduceAnd, Nat.reduceBNe, Nat.reduceMul, ey0, ey1, hd.one, hrb1, st9 hcr (vs := [.int .i64 (candC c s f o).tag, .int .i64 (candC c s f o).kind, .int .i64 (candC c s f o).ord, .bool (candC c s f o).force, .string (candC c s f o).vol, .string (candC c s f o).oth, .int .i64 (candC c s f o).at_, .int .i64 (candC c s f o).len, dv]) rfl]
        refine hQ _ _ _ _ _ (by omega) (fun b hb => by rw [fput_ne _ _ _ _ (by omega), hf1 b (by omega), hP.lo b hb]) ?_ rfl ⟨candC c s f o, dv, 0, rfl, dat_of_slz (ds := c.data) (n0 := cb + 1) (hP.dat.frame hN1 fun b hb hb2 => by rw [fput_ne _ _ _ _ (by omega), hf1 b hb2]) (fun d hd => (hB d hd).1), hFc f o ho, hB, .inl ⟨rfl, hit.1, hit.2⟩⟩
        simp only [frz_iff]
        first | exact ⟨⟨hw, fz⟩, frz_bit (Nat.le_refl _)⟩ | exact ⟨hw, fz, frz_bit (Nat.le_refl _)⟩
      · simp only [cmdV]
        simp (implicitDefEqProofs := false) (disch := omega) only [WPs, opds, List.all_cons, List.all_nil, List.cons_append, List.nil_append, cond_true, cond_false, eq_self, List.map_cons, List.map_nil, Nat.reduceAdd, Nat.testBit, Nat.reduceShiftRight, Nat.reduceAnd, Nat.reduceBNe, Nat.reduceMul, ey0, ey1, hd.one, hrb1, st9 hcr (vs := [.int .i64 zeroC.tag, .int .i64 zeroC.kind, .int .i64 zeroC.ord, .bool zeroC.force, .string zeroC.vol, .string zeroC.oth, .int .i64 zeroC.at_, .int .i64 zeroC.len, .slice none 0 0]) rfl]
        refine hQ _ _ _ _ _ (by omega) (fun b hb => by rw [fput_ne _ _ _ _ (by omega), hf1 b (by omega), hP.lo b hb]) ?_ rfl ⟨zeroC, .slice none 0 0, 4, rfl, DatV.nil _ _, zero_fit, zero_bytes, .inr ⟨rfl, rfl, hh, hno⟩⟩
        simp only [frz_iff]
        first | exact ⟨⟨hw, fz⟩, frz_bit (Nat.le_refl _)⟩ | exact ⟨hw, fz, frz_bit (Nat.le_refl _)⟩
    · simp (implicitDefEqProofs := false) (disch := omega) only [WPs, opds, List.all_cons, List.all_nil, List.cons_append, List.nil_append, cond_true, cond_false, eq_self, List.map_cons, List.map_nil, Nat.reduceAdd, Nat.testBit, Nat.reduceShiftRight, Nat.reduceAnd, Nat.reduceBNe, Nat.reduceMul, STs, decide_eq_false ht, hcc, hd.one, hP.lb, hP.lvw.one]
      refine use_rt (twin_spec L h28 hT M N hFc hB hd hP.lvw.one hP.lvw.len hwl hs) fun v1 M1 N1 r2 w1 hh2 => ?_
      obtain ⟨hN1, hf1, hw1, hres⟩ := hh2
      have hrb1 := (hf1 n (by omega)).trans hrb
      have fz := hw1 n (by omega)
      rcases hres with ⟨f, o, ho, hit, rfl⟩ | ⟨hno, rfl⟩
      · simp only [cmdV]
        simp (implicitDefEqProofs := false) (disch := omega) only [WPs, opds, List.all_cons, List.all_nil, List.cons_append, List.nil_append, cond_true, cond_false, eq_self, List.map_cons, List.map_nil, Nat.reduceAdd, Nat.testBit, Nat.reduceShiftRight, Nat.reduceAnd, Nat.reduceBNe, Nat.reduceMul, ey0, ey1, hd.one, hrb1, st9 hcr (vs := [.int .i64 (candC c s f o).tag, .int .i64 (candC c s f o).kind, .int .i64 (candC c s f o).ord, .bool (candC c s f o).force, .string (candC c s f o).vol, .string (candC c s f o).oth, .int .i64 (candC c s f o).at_, .int .i64 (candC c s f o).len, dv]) rfl]
        refine hQ _ _ _ _ _ (by omega) (fun b hb => by rw [fput_ne _ _ _ _ (by omega), hf1 b (by omega), hP.lo b hb]) ?_ rfl ⟨candC c s f o, dv, 0, rfl, dat_of_slz (ds := c.data) (n0 := cb + 1) (hP.dat.frame hN1 fun b hb hb2 => by rw [fput_ne _ _ _ _ (by omega), hf1 b hb2]) (fun d hd => (hB d hd).1), hFc f o ho, hB, .inl ⟨rfl, hit.1, hit.2⟩⟩
        simp only [frz_iff]
        first | exact ⟨⟨hw, fz⟩, frz_bit (Nat.le_refl _)⟩ | exact ⟨hw, fz, frz_bit (Nat.le_refl _)⟩
      · simp only [cmdV]
        simp (implicitDefEqProofs := false) (disch := omega) only [WPs, opds, List.all_cons, List.all_nil, List.cons_append, List.nil_append, cond_true, cond_false, eq_self, List.map_cons, List.map_nil, Nat.reduceAdd, Nat.testBit, Nat.reduceShiftRight, Nat.reduceAnd, Nat.reduceBNe, Nat.reduceMul, ey0, ey1, hd.one, hrb1, st9 hcr (vs := [.int .i64 zeroC.tag, .int .i64 zeroC.kind, .int .i64 zeroC.ord, .bool zeroC.force, .string zeroC.vol, .string zeroC.oth, .int .i64 zeroC.at_, .int .i64 zeroC.len, .slice none 0 0]) rfl]
        refine hQ _ _ _ _ _ (by omega) (fun b hb => by rw [fput_ne _ _ _ _ (by omega), hf1 b (by omega), hP.lo b hb]) ?_ rfl ⟨zeroC, .slice none 0 0, 4, rfl, DatV.nil _ _, zero_fit, zero_bytes, .inr ⟨rfl, rfl, hh, hno⟩⟩
        simp only [frz_iff]
        first | exact ⟨⟨hw, fz⟩, frz_bit (Nat.le_refl _)⟩ | exact ⟨hw, fz, frz_bit (Nat.le_refl _)⟩
end Go.Am.C39
