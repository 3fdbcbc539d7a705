/- The machine and its runs, part 12: Am06xf Am06u Am06xd Am06xe Am06xg Am06xc Am06xh AmPost AmArr8. -/
import Derived.ProofKit
import Derived.OpenShut
import Derived.Test.YtilnoajeofjckaaB11
set_option linter.unusedVariables false
set_option linter.unusedSimpArgs false
set_option linter.unusedSectionVars false
namespace Go.Am.C06
open Go Go.Am
variable {E : Nat → Option AFn} {Y : Nat → List Value → FM → Nat → OR FM}
def cellsC (f : Nat → Nat) (N : Nat) : List Value := (List.range N).map fun p => Value.int .i64 ((f p : Nat) : Int)
theorem cellsC_len (f : Nat → Nat) (N : Nat) : (cellsC f N).length = N := by rw [cellsC, List.length_map, List.length_range]
theorem cellsC_get (f : Nat → Nat) {N p : Nat} (h : p < N) : cget (cellsC f N) p = some (.int .i64 ((f p : Nat) : Int)) := by
  rw [cget_eq, cellsC, List.getElem?_map, List.getElem?_range h]; rfl
theorem cellsC_set (f : Nat → Nat) {N p : Nat} (h : p < N) : (cellsC f N).set p (.int .i64 ((f p + 1 : Nat) : Int)) = cellsC (fun x => f x + cond (Nat.beq x p) 1 0) N := by
  apply List.ext_getElem?
  intro i
  rw [List.getElem?_set, cellsC_len]
  by_cases hi : p = i
  · subst hi
    rw [if_pos rfl, if_pos h, cellsC, List.getElem?_map, List.getElem?_range h]
    show _ = some (Value.int .i64 ((f p + cond (Nat.beq p p) 1 0 : Nat) : Int))
    rw [Nat.beq_refl]; rfl
  · rw [if_neg hi, cellsC, cellsC, List.getElem?_map, List.getElem?_map]
    by_cases hiN : i < N
    · rw [List.getElem?_range hiN]
      show some _ = some (Value.int .i64 ((f i + cond (Nat.beq i p) 1 0 : Nat) : Int))
      rw [Bool.eq_false_iff.2 fun e => hi (Nat.eq_of_beq_eq_true e).symm]; rfl
    · rw [List.getElem?_eq_none (by rw [List.length_range]; omega)]; rfl
theorem cellsC_zero (N : Nat) : List.replicate N (Value.int .i64 0) = cellsC (fun _ => 0) N := by
  unfold cellsC
  apply List.ext_getElem?
  intro i
  rw [List.getElem?_replicate, List.getElem?_map]
  by_cases h : i < N
  · rw [if_pos h, List.getElem?_range h]; rfl
  · rw [if_neg h, List.getElem?_eq_none (by rw [List.length_range]; omega)]; rfl
def leftC (lg r : List Int) : Nat := (r.filter fun x => !decide (x ∈ lg)).length
def rowC (lg r : List Int) (p : Nat) : Nat := (r.filter fun x => decide (x = (p : Int)) && !decide (x ∈ lg)).length
theorem leftC_app (lg r : List Int) (x : Int) : leftC lg (r ++ [x]) = leftC lg r + cond (decide (x ∈ lg)) 0 1 := by
  unfold leftC
  rw [List.filter_append, List.length_append, List.filter_cons]
  cases decide (x ∈ lg) <;> rfl
theorem rowC_app (lg r : List Int) (x : Int) (p : Nat) : rowC lg (r ++ [x]) p = rowC lg r p + cond (decide (x ∈ lg)) 0 (cond (decide (x = (p : Int))) 1 0) := by
  unfold rowC
  rw [List.filter_append, List.length_append, List.filter_cons]
  cases decide (x ∈ lg) <;> cases decide (x = (p : Int)) <;> rfl
theorem leftC_le (lg r : List Int) : leftC lg r ≤ r.length := List.length_filter_le _ _
theorem rowC_le (lg r : List Int) (p : Nat) : rowC lg r p ≤ r.length := List.length_filter_le _ _
def totC (L : List (List Int)) (lg : List Int) (g : Nat) : Nat → Nat → Nat
  | 0, _ => 0
  | j + 1, p => totC L lg g j p + cond (Nat.beq j g) 0 (rowC lg (L.getD j []) p)
theorem totC_le {L : List (List Int)} {lg : List Int} {g B : Nat} (h : ∀ j, (L.getD j []).length ≤ B) : ∀ j p, totC L lg g j p ≤ j * B
  | 0, _ => Nat.zero_le _
  | j + 1, p => by
    have h1 := totC_le (lg := lg) (g := g) h j p
    have h2 := rowC_le lg (L.getD j []) p
    have h3 := h j
    rw [Nat.add_mul, Nat.one_mul]
    show totC L lg g j p + cond (Nat.beq j g) 0 _ ≤ _
    cases Nat.beq j g
    · show totC L lg g j p + rowC lg (L.getD j []) p ≤ _
      omega
    · show totC L lg g j p + 0 ≤ _
      omega
theorem cellsC_put (f : Nat → Nat) {N p x : Nat} (h : p < N) (hx : x = f p + 1) : setCells (cellsC f N) p [.int .i64 ((x : Nat) : Int)] = some (cellsC (fun x => f x + cond (Nat.beq x p) 1 0) N) := by
  subst hx
  rw [setCells_eq, if_pos (by rw [cellsC_len]; show p + 1 ≤ N; omega), ← cellsC_set f h, List.set_eq_take_append_cons_drop, if_pos (by rw [cellsC_len]; exact h), List.append_assoc]
  rfl
theorem shr_L0 (h21 : E 21 = some ac21) {m : FM} {n db N g h : Nat} {D : Int} {rv : Value} {L : List (List Int)} {lg r : List Int} (hR : Rows m n rv L) (hdb : db < n) (hd : m db = some (.cells [.int .i64 D, rv] 0 false true)) (hLN : L.length = N) (hN : N ≤ 57) (hg : L[g]? = some lg) (hh : L[h]? = some r) (hl : lg.length ≤ 8) (hr : r.length ≤ 8 ∧ ∀ x ∈ r, 0 ≤ x ∧ x < (N : Int)) (f : Nat → Nat) (hf : ∀ p, f p ≤ 1000) (z3 z4 z5 z6 z7 z8 z9 z10 z12 z15 : Value) (ys : List Value) {Q : AX → List Value → FM → Nat → Nat → Prop}
    (hQ : ∀ x0 x2 M' w, (∀ b, b < n → M' b = m b) → M' n = some (.cells (cellsC (fun p => f p + rowC lg r p) N) 1 false true) → (∀ j, j ≤ n → Nat.mod w (bit j) = 0) → Q (.exit 2) (x0 :: .int .i64 (leftC lg r : Int) :: x2 :: z3 :: z4 :: z5 :: z6 :: z7 :: z8 :: z9 :: z10 :: .int .i64 (h : Int) :: z12 :: .slice (some ⟨n, 0, none⟩) N N :: .int .i64 (g : Int) :: z15 :: .pointer (some ⟨db, 0, none⟩) :: ys) M' (n + 1) w) :
    ∀ d i, i + d = r.length → ∀ (x0 : Value) (M' : FM) (w0 : Nat), (∀ b, b < n → M' b = m b) → M' n = some (.cells (cellsC (fun p => f p + rowC lg (r.take i) p) N) 1 false true) → (∀ j, j ≤ n → Nat.mod w0 (bit j) = 0) →
    Gv (execW PG E Y ac7L0 (x0 :: .int .i64 (leftC lg (r.take i) : Int) :: .int .i64 (i : Int) :: z3 :: z4 :: z5 :: z6 :: z7 :: z8 :: z9 :: z10 :: .int .i64 (h : Int) :: z12 :: .slice (some ⟨n, 0, none⟩) N N :: .int .i64 (g : Int) :: z15 :: .pointer (some ⟨db, 0, none⟩) :: ys) M' (n + 1)) fun X e m n w => Q X e m n (Nat.lor w0 w) := by
  intro d
  obtain ⟨hgl, hge⟩ := List.getElem?_eq_some_iff.1 hg
  obtain ⟨hhl, hhe⟩ := List.getElem?_eq_some_iff.1 hh
  induction d with
  | zero =>
    intro i hi x0 M' w0 hM hc hw
    obtain rfl : i = r.length := by omega
    rw [List.take_length] at hc
    have hd' : M' db = some (.cells [.int .i64 D, rv] 0 false true) := (hM db hdb).trans hd
    have hR' := hR.frame (n' := n + 1) (by omega) hM
    obtain ⟨bx, o, c, p, w, x, i1, i2, i3, i4, i5⟩ := hR'.cell hhl
    rw [hhe] at i5
    have hxl := i5.len
    refine wr_loopN (L := ac7L0) (b := ac7L0b) rfl ?_
    simp only [ac7L0b, List.take_length]
    simp (implicitDefEqProofs := false) (disch := omega) only [WPs, opds, List.all_cons, List.all_nil, List.cons_append, List.nil_append, cond_true, cond_false, eq_self, List.map_cons, List.map_nil, Nat.reduceAdd, Nat.testBit, Nat.reduceShiftRight, Nat.reduceAnd, Nat.reduceBNe, Nat.reduceMul, hd', hR.bel (n + 1) (by omega), i1, i3, i4, hxl, i5.bel (n + 1) (by omega)]
    exact hQ _ _ _ _ hM hc hw
  | succ d ih =>
    intro i hi x0 M' w0 hM hc hw
    have hil : i < r.length := by omega
    have hd' : M' db = some (.cells [.int .i64 D, rv] 0 false true) := (hM db hdb).trans hd
    have hR' := hR.frame (n' := n + 1) (by omega) hM
    obtain ⟨bx, o, c, p, w, x, i1, i2, i3, i4, i5⟩ := hR'.cell hhl
    rw [hhe] at i5
    have hxl := i5.len
    obtain ⟨by1, o1, c1, p1, w1, j1, j2, j3, j4⟩ := i5.cell hil
    obtain ⟨bg, og, cg, pg, wg, xg, k1, k2, k3, k4, k5⟩ := hR'.cell hgl
    rw [hge] at k5
    have ih' := ih (i + 1) (by omega)
    rw [List.take_add_one, List.getElem?_eq_getElem hil, Option.toList_some, leftC_app] at ih'
    have e1 : (fun p => f p + rowC lg (r.take i ++ [r[i]]) p) = fun p => f p + (rowC lg (r.take i) p + cond (decide (r[i] ∈ lg)) 0 (cond (decide (r[i] = (p : Int))) 1 0)) := funext fun p => by rw [rowC_app]
    rw [e1] at ih'
    have hlc := leftC_le lg (r.take i)
    have htl : (r.take i).length ≤ 8 := by rw [List.length_take]; omega
    obtain ⟨x1, x2⟩ := hr.2 _ (List.getElem_mem hil)
    have hbel := hR.bel (n + 1) (by omega)
    have ibel := i5.bel (n + 1) (by omega)
    have kbel := k5.bel (n + 1) (by omega)
    generalize r[i] = xe at *
    obtain ⟨pp, rfl⟩ := Int.eq_ofNat_of_zero_le x1
    have hpN : pp < N := by omega
    have hfp := hf pp
    have hrc := rowC_le lg (r.take i) pp
    have hcg := cellsC_get (fun p => f p + rowC lg (r.take i) p) hpN
    have hcs := cellsC_put (fun p => f p + rowC lg (r.take i) p) (x := f pp + (rowC lg (r.take i) pp + 1)) hpN (Nat.add_assoc _ _ _).symm
    have hM'' : ∀ (B : Option Blk), (∀ b, b < n → AMem.put M' n B b = m b) := fun B b hb => (fput_ne _ _ _ _ (by omega)).trans (hM b hb)
    refine wr_loopN (L := ac7L0) (b := ac7L0b) rfl ?_
    simp only [ac7L0b]
    simp (implicitDefEqProofs := false) (disch := omega) only [WPs, opds, List.all_cons, List.all_nil, List.cons_append, List.nil_append, cond_true, cond_false, eq_self, List.map_cons, List.map_nil, Nat.reduceAdd, Nat.testBit, Nat.reduceShiftRight, Nat.reduceAnd, Nat.reduceBNe, Nat.reduceMul, hd', hbel, i1, i3, i4, hxl, ibel, j1, j3, j4, k1, k3, k4, kbel]
    refine use_pure (hasR_spec h21 k5 (by omega) _) fun _ => ?_
    by_cases hx : (pp : Int) ∈ lg
    · rw [decide_eq_true hx] at ih'
      simp (implicitDefEqProofs := false) (disch := omega) only [WPs, opds, List.all_cons, List.all_nil, List.cons_append, List.nil_append, cond_true, cond_false, eq_self, List.map_cons, List.map_nil, Nat.reduceAdd, Nat.testBit, Nat.reduceShiftRight, Nat.reduceAnd, Nat.reduceBNe, Nat.reduceMul, decide_eq_true hx, hc, hcg]
      refine wr_end (ih' x0 M' w0 hM ?_ hw) fun X e m n w hq => by simpa only [zero_lor'] using hq
      simpa only [cond_true, Nat.add_zero] using hc
    · rw [decide_eq_false hx] at ih'
      simp (implicitDefEqProofs := false) (disch := omega) only [WPs, opds, List.all_cons, List.all_nil, List.cons_append, List.nil_append, cond_true, cond_false, eq_self, List.map_cons, List.map_nil, Nat.reduceAdd, Nat.testBit, Nat.reduceShiftRight, Nat.reduceAnd, Nat.reduceBNe, Nat.reduceMul, decide_eq_false hx, hc, hcg, hcs]
      refine wr_end (ih' x0 _ (Nat.lor w0 (bit n)) (hM'' _) ?_ (fun j hj => by rw [frz_iff]; exact ⟨hw j hj, frz_bit (by omega)⟩)) fun X e m n w hq => by rw [← lor_assoc']; exact hq
      rw [fput_same]
      congr 4
      funext p
      congr 2
      rw [cond_false]
      by_cases hp : p = pp
      · subst hp; rw [Nat.beq_refl, decide_eq_true rfl]
      · rw [Bool.eq_false_iff.2 fun e => hp (Nat.eq_of_beq_eq_true e), decide_eq_false (by omega)]
theorem shr_L1 (h21 : E 21 = some ac21) {m : FM} {n db q N g : Nat} {D : Int} {rv : Value} {L : List (List Int)} {lg : List Int} (hR : Rows m n rv L) (hdb : db < n) (hd : m db = some (.cells [.int .i64 D, rv] 0 false true)) (hLN : L.length = N) (hN : N ≤ 57) (hq : q ≤ 7) (hg : L[g]? = some lg) (hrow : ∀ r ∈ L, r.length ≤ 8 ∧ ∀ x ∈ r, 0 ≤ x ∧ x < (N : Int)) (hleft : ∀ j, j < N → j ≠ g → leftC lg (L.getD j []) = q) (y2 y5 y7 : Value) (ys : List Value) {Q : AX → List Value → FM → Nat → Nat → Prop}
    (hQ : ∀ x0 M' w, (∀ b, b < n → M' b = m b) → M' n = some (.cells (cellsC (totC L lg g N) N) 1 false true) → (∀ j, j ≤ n → Nat.mod w (bit j) = 0) → Q (.exit 0) (x0 :: y2 :: .slice (some ⟨n, 0, none⟩) N N :: .int .i64 (g : Int) :: y5 :: .pointer (some ⟨db, 0, none⟩) :: y7 :: .int .i64 (q : Int) :: ys) M' (n + 1) w) :
    ∀ d j, j + d = N → ∀ (x0 : Value) (M' : FM) (w0 : Nat), (∀ b, b < n → M' b = m b) → M' n = some (.cells (cellsC (totC L lg g j) N) 1 false true) → (∀ j, j ≤ n → Nat.mod w0 (bit j) = 0) →
    Gv (execW PG E Y ac7L1 (x0 :: .int .i64 (j : Int) :: y2 :: .slice (some ⟨n, 0, none⟩) N N :: .int .i64 (g : Int) :: y5 :: .pointer (some ⟨db, 0, none⟩) :: y7 :: .int .i64 (q : Int) :: ys) M' (n + 1)) fun X e m n w => Q X e m n (Nat.lor w0 w) := by
  intro d
  induction d with
  | zero =>
    intro j hj x0 M' w0 hM hc hw
    obtain rfl : j = N := by omega
    have hd' : M' db = some (.cells [.int .i64 D, rv] 0 false true) := (hM db hdb).trans hd
    have hlen := hR.len
    rw [hLN] at hlen
    refine wr_loopN (L := ac7L1) (b := ac7L1b) rfl ?_
    simp only [ac7L1b]
    simp (implicitDefEqProofs := false) (disch := omega) only [WPs, opds, List.all_cons, List.all_nil, List.cons_append, List.nil_append, cond_true, cond_false, eq_self, List.map_cons, List.map_nil, Nat.reduceAdd, Nat.testBit, Nat.reduceShiftRight, Nat.reduceAnd, Nat.reduceBNe, Nat.reduceMul, hlen, hd', hR.bel (n + 1) (by omega)]
    exact hQ _ _ _ hM hc hw
  | succ d ih =>
    intro j hj x0 M' w0 hM hc hw
    have hd' : M' db = some (.cells [.int .i64 D, rv] 0 false true) := (hM db hdb).trans hd
    have hlen := hR.len
    rw [hLN] at hlen
    have ih' := ih (j + 1) (by omega)
    have hbel := hR.bel (n + 1) (by omega)
    refine wr_loopN (L := ac7L1) (b := ac7L1b) rfl ?_
    simp only [ac7L1b]
    have hjl : j < L.length := by omega
    have hgj : L.getD j [] = L[j] := by rw [List.getD_eq_getElem?_getD, List.getElem?_eq_getElem hjl]; rfl
    by_cases hjg : j = g
    · have e1 : totC L lg g (j + 1) = totC L lg g j := funext fun p => by
        show totC L lg g j p + cond (Nat.beq j g) 0 _ = _
        rw [hjg, Nat.beq_refl]; rfl
      rw [e1] at ih'
      have hjg' : (j : Int) = (g : Int) := by omega
      simp (implicitDefEqProofs := false) (disch := omega) only [WPs, opds, List.all_cons, List.all_nil, List.cons_append, List.nil_append, cond_true, cond_false, eq_self, List.map_cons, List.map_nil, Nat.reduceAdd, Nat.testBit, Nat.reduceShiftRight, Nat.reduceAnd, Nat.reduceBNe, Nat.reduceMul, hlen, hd', hbel, decide_eq_true hjg']
      exact wr_end (ih' x0 M' w0 hM hc hw) fun X e m n w hq => by simpa only [zero_lor'] using hq
    · have e1 : totC L lg g (j + 1) = fun p => totC L lg g j p + rowC lg (L[j]) p := funext fun p => by
        show totC L lg g j p + cond (Nat.beq j g) 0 (rowC lg (L.getD j []) p) = _
        rw [Bool.eq_false_iff.2 fun e => hjg (Nat.eq_of_beq_eq_true e), hgj]; rfl
      rw [e1] at ih'
      have hjg' : ¬ (j : Int) = (g : Int) := by omega
      have hlf := hleft j (by omega) hjg
      rw [hgj] at hlf
      simp (implicitDefEqProofs := false) (disch := omega) only [WPs, opds, List.all_cons, List.all_nil, List.cons_append, List.nil_append, cond_true, cond_false, eq_self, List.map_cons, List.map_nil, Nat.reduceAdd, Nat.testBit, Nat.reduceShiftRight, Nat.reduceAnd, Nat.reduceBNe, Nat.reduceMul, hlen, hd', hbel, decide_eq_false hjg']
      refine wr_kont (shr_L0 h21 hR hdb hd hLN hN hg (List.getElem?_eq_getElem hjl) (hrow lg (List.mem_of_getElem? hg)).1 (hrow _ (List.getElem_mem hjl)) (totC L lg g j) (fun p => ?_) _ _ _ _ _ _ _ _ _ _ _ (fun x0 x2 M3 w3 hM3 hc3 hw3 rr => ?_) (L[j]).length 0 (by omega) _ M' 0 hM ?_ (fun _ _ => Nat.zero_mod _))
      · have h1 := totC_le (L := L) (lg := lg) (g := g) (B := 8) (fun j => ?_) j p
        · have : j * 8 ≤ 57 * 8 := Nat.mul_le_mul_right 8 (by omega)
          omega
        · by_cases hjj : j < L.length
          · rw [List.getD_eq_getElem?_getD, List.getElem?_eq_getElem hjj]
            exact (hrow _ (List.getElem_mem hjj)).1
          · rw [List.getD_eq_getElem?_getD, List.getElem?_eq_none (by omega)]
            exact Nat.zero_le _
      · rw [hlf]
        simp (implicitDefEqProofs := false) (disch := omega) only [WPs, opds, List.all_cons, List.all_nil, List.cons_append, List.nil_append, cond_true, cond_false, eq_self, List.map_cons, List.map_nil, Nat.reduceAdd, Nat.testBit, Nat.reduceShiftRight, Nat.reduceAnd, Nat.reduceBNe, Nat.reduceMul]
        refine wr_end (ih' _ M3 (Nat.lor w0 w3) hM3 hc3 (fun j hj => by rw [frz_iff]; exact ⟨hw j hj, hw3 j hj⟩)) fun X e m n w hq => ?_
        rw [← lor_assoc']; exact hq
      · rw [hc]; rfl
end Go.Am.C06
namespace Go.Am.C06
open Go Go.Am
set_option maxRecDepth 1000000
noncomputable def okA1 (q D N : Nat) (G : List (List Int)) (Th : List (List Nat)) : Bool :=
  ((List.range N).all fun h => decide ((G.getD h []).length = q)) && (List.range D).all fun a => decide ((List.range N).filter (fun h => decide (((a : Nat) : Int) ∈ G.getD h [])) = Th.getD a [])
noncomputable def okA2 (N : Nat) (G : List (List Int)) (Pa : List (List Nat)) : Bool :=
  (List.range N).all fun g => (List.range N).all fun h => decide (comR (G.getD h []) (G.getD g []) = []) == (Pa.getD g []).elem h
noncomputable def parN (Th Pa : List (List Nat)) (a g : Nat) : Nat := ((Th.getD a []).filter fun h => (Pa.getD g []).elem h).length
noncomputable def joinN (G : List (List Int)) (Th : List (List Nat)) (a b : Nat) : Nat := ((Th.getD a []).filter fun h => decide (((b : Nat) : Int) ∈ G.getD h [])).length
noncomputable def okA3 (q D N : Nat) (G : List (List Int)) (Th Pa : List (List Nat)) : Bool :=
  (List.range D).all fun a => ((List.range N).all fun g => (decide (((a : Nat) : Int) ∈ G.getD g []) == Nat.beq (parN Th Pa a g) 0) && Nat.ble (parN Th Pa a g) 1) && (List.range D).all fun b => Nat.beq (joinN G Th a b) (cond (Nat.beq a b) (q + 1) 1)
def G2 : List (List Int) := [[0, 2], [1, 3], [0, 3], [1, 2], [0, 1], [2, 3]]
def Th2 : List (List Nat) := [[0, 2, 4], [1, 3, 4], [0, 3, 5], [1, 2, 5]]
def Pa2 : List (List Nat) := [[1], [0], [3], [2], [5], [4]]
theorem aff2 : affR A2 T2 2 = G2 := by decide +kernel
theorem oka2 : okA1 2 4 6 G2 Th2 = true := by kernel_rfl
theorem okb2 : okA2 6 G2 Pa2 = true := by kernel_rfl
theorem okc2 : okA3 2 4 6 G2 Th2 Pa2 = true := by kernel_rfl
def G3 : List (List Int) := [[0, 3, 6], [1, 4, 7], [2, 5, 8], [0, 4, 8], [1, 5, 6], [2, 3, 7], [0, 5, 7], [1, 3, 8], [2, 4, 6], [0, 1, 2], [3, 4, 5], [6, 7, 8]]
def Th3 : List (List Nat) := [[0, 3, 6, 9], [1, 4, 7, 9], [2, 5, 8, 9], [0, 5, 7, 10], [1, 3, 8, 10], [2, 4, 6, 10], [0, 4, 8, 11], [1, 5, 6, 11], [2, 3, 7, 11]]
def Pa3 : List (List Nat) := [[1, 2], [0, 2], [0, 1], [4, 5], [3, 5], [3, 4], [7, 8], [6, 8], [6, 7], [10, 11], [9, 11], [9, 10]]
theorem aff3 : affR A3 T3 3 = G3 := by decide +kernel
theorem oka3 : okA1 3 9 12 G3 Th3 = true := by kernel_rfl
theorem okb3 : okA2 12 G3 Pa3 = true := by kernel_rfl
theorem okc3 : okA3 3 9 12 G3 Th3 Pa3 = true := by kernel_rfl
def G4 : List (List Int) := [[0, 4, 8, 12], [1, 5, 9, 13], [2, 6, 10, 14], [3, 7, 11, 15], [0, 5, 10, 15], [1, 4, 11, 14], [2, 7, 8, 13], [3, 6, 9, 12], [0, 6, 11, 13], [1, 7, 10, 12], [2, 4, 9, 15], [3, 5, 8, 14], [0, 7, 9, 14], [1, 6, 8, 15], [2, 5, 11, 12], [3, 4, 10, 13], [0, 1, 2, 3], [4, 5, 6, 7], [8, 9, 10, 11], [12, 13, 14, 15]]
def Th4 : List (List Nat) := [[0, 4, 8, 12, 16], [1, 5, 9, 13, 16], [2, 6, 10, 14, 16], [3, 7, 11, 15, 16], [0, 5, 10, 15, 17], [1, 4, 11, 14, 17], [2, 7, 8, 13, 17], [3, 6, 9, 12, 17], [0, 6, 11, 13, 18], [1, 7, 10, 12, 18], [2, 4, 9, 15, 18], [3, 5, 8, 14, 18], [0, 7, 9, 14, 19], [1, 6, 8, 15, 19], [2, 5, 11, 12, 19], [3, 4, 10, 13, 19]]
def Pa4 : List (List Nat) := [[1, 2, 3], [0, 2, 3], [0, 1, 3], [0, 1, 2], [5, 6, 7], [4, 6, 7], [4, 5, 7], [4, 5, 6], [9, 10, 11], [8, 10, 11], [8, 9, 11], [8, 9, 10], [13, 14, 15], [12, 14, 15], [12, 13, 15], [12, 13, 14], [17, 18, 19], [16, 18, 19], [16, 17, 19], [16, 17, 18]]
theorem aff4 : affR A4 T4 4 = G4 := by decide +kernel
theorem oka4 : okA1 4 16 20 G4 Th4 = true := by kernel_rfl
theorem okb4 : okA2 20 G4 Pa4 = true := by kernel_rfl
theorem okc4 : okA3 4 16 20 G4 Th4 Pa4 = true := by kernel_rfl
def G5 : List (List Int) := [[0, 5, 10, 15, 20], [1, 6, 11, 16, 21], [2, 7, 12, 17, 22], [3, 8, 13, 18, 23], [4, 9, 14, 19, 24], [0, 6, 12, 18, 24], [1, 7, 13, 19, 20], [2, 8, 14, 15, 21], [3, 9, 10, 16, 22], [4, 5, 11, 17, 23], [0, 7, 14, 16, 23], [1, 8, 10, 17, 24], [2, 9, 11, 18, 20], [3, 5, 12, 19, 21], [4, 6, 13, 15, 22], [0, 8, 11, 19, 22], [1, 9, 12, 15, 23], [2, 5, 13, 16, 24], [3, 6, 14, 17, 20], [4, 7, 10, 18, 21], [0, 9, 13, 17, 21], [1, 5, 14, 18, 22], [2, 6, 10, 19, 23], [3, 7, 11, 15, 24], [4, 8, 12, 16, 20], [0, 1, 2, 3, 4], [5, 6, 7, 8, 9], [10, 11, 12, 13, 14], [15, 16, 17, 18, 19], [20, 21, 22, 23, 24]]
def Th5 : List (List Nat) := [[0, 5, 10, 15, 20, 25], [1, 6, 11, 16, 21, 25], [2, 7, 12, 17, 22, 25], [3, 8, 13, 18, 23, 25], [4, 9, 14, 19, 24, 25], [0, 9, 13, 17, 21, 26], [1, 5, 14, 18, 22, 26], [2, 6, 10, 19, 23, 26], [3, 7, 11, 15, 24, 26], [4, 8, 12, 16, 20, 26], [0, 8, 11, 19, 22, 27], [1, 9, 12, 15, 23, 27], [2, 5, 13, 16, 24, 27], [3, 6, 14, 17, 20, 27], [4, 7, 10, 18, 21, 27], [0, 7, 14, 16, 23, 28], [1, 8, 10, 17, 24, 28], [2, 9, 11, 18, 20, 28], [3, 5, 12, 19, 21, 28], [4, 6, 13, 15, 22, 28], [0, 6, 12, 18, 24, 29], [1, 7, 13, 19, 20, 29], [2, 8, 14, 15, 21, 29], [3, 9, 10, 16, 22, 29], [4, 5, 11, 17, 23, 29]]
def Pa5 : List (List Nat) := [[1, 2, 3, 4], [0, 2, 3, 4], [0, 1, 3, 4], [0, 1, 2, 4], [0, 1, 2, 3], [6, 7, 8, 9], [5, 7, 8, 9], [5, 6, 8, 9], [5, 6, 7, 9], [5, 6, 7, 8], [11, 12, 13, 14], [10, 12, 13, 14], [10, 11, 13, 14], [10, 11, 12, 14], [10, 11, 12, 13], [16, 17, 18, 19], [15, 17, 18, 19], [15, 16, 18, 19], [15, 16, 17, 19], [15, 16, 17, 18], [21, 22, 23, 24], [20, 22, 23, 24], [20, 21, 23, 24], [20, 21, 22, 24], [20, 21, 22, 23], [26, 27, 28, 29], [25, 27, 28, 29], [25, 26, 28, 29], [25, 26, 27, 29], [25, 26, 27, 28]]
theorem aff5 : affR A5 T5 5 = G5 := by decide +kernel
theorem oka5 : okA1 5 25 30 G5 Th5 = true := by kernel_rfl
theorem okb5 : okA2 30 G5 Pa5 = true := by kernel_rfl
theorem okc5 : okA3 5 25 30 G5 Th5 Pa5 = true := by kernel_rfl
def G7 : List (List Int) := [[0, 7, 14, 21, 28, 35, 42], [1, 8, 15, 22, 29, 36, 43], [2, 9, 16, 23, 30, 37, 44], [3, 10, 17, 24, 31, 38, 45], [4, 11, 18, 25, 32, 39, 46], [5, 12, 19, 26, 33, 40, 47], [6, 13, 20, 27, 34, 41, 48], [0, 8, 16, 24, 32, 40, 48], [1, 9, 17, 25, 33, 41, 42], [2, 10, 18, 26, 34, 35, 43], [3, 11, 19, 27, 28, 36, 44], [4, 12, 20, 21, 29, 37, 45], [5, 13, 14, 22, 30, 38, 46], [6, 7, 15, 23, 31, 39, 47], [0, 9, 18, 27, 29, 38, 47], [1, 10, 19, 21, 30, 39, 48], [2, 11, 20, 22, 31, 40, 42], [3, 12, 14, 23, 32, 41, 43], [4, 13, 15, 24, 33, 35, 44], [5, 7, 16, 25, 34, 36, 45], [6, 8, 17, 26, 28, 37, 46], [0, 10, 20, 23, 33, 36, 46], [1, 11, 14, 24, 34, 37, 47], [2, 12, 15, 25, 28, 38, 48], [3, 13, 16, 26, 29, 39, 42], [4, 7, 17, 27, 30, 40, 43], [5, 8, 18, 21, 31, 41, 44], [6, 9, 19, 22, 32, 35, 45], [0, 11, 15, 26, 30, 41, 45], [1, 12, 16, 27, 31, 35, 46], [2, 13, 17, 21, 32, 36, 47], [3, 7, 18, 22, 33, 37, 48], [4, 8, 19, 23, 34, 38, 42], [5, 9, 20, 24, 28, 39, 43], [6, 10, 14, 25, 29, 40, 44], [0, 12, 17, 22, 34, 39, 44], [1, 13, 18, 23, 28, 40, 45], [2, 7, 19, 24, 29, 41, 46], [3, 8, 20, 25, 30, 35, 47], [4, 9, 14, 26, 31, 36, 48], [5, 10, 15, 27, 32, 37, 42], [6, 11, 16, 21, 33, 38, 43], [0, 13, 19, 25, 31, 37, 43], [1, 7, 20, 26, 32, 38, 44], [2, 8, 14, 27, 33, 39, 45], [3, 9, 15, 21, 34, 40, 46], [4, 10, 16, 22, 28, 41, 47], [5, 11, 17, 23, 29, 35, 48], [6, 12, 18, 24, 30, 36, 42], [0, 1, 2, 3, 4, 5, 6], [7, 8, 9, 10, 11, 12, 13], [14, 15, 16, 17, 18, 19, 20], [21, 22, 23, 24, 25, 26, 27], [28, 29, 30, 31, 32, 33, 34], [35, 36, 37, 38, 39, 40, 41], [42, 43, 44, 45, 46, 47, 48]]
def Th7 : List (List Nat) := [[0, 7, 14, 21, 28, 35, 42, 49], [1, 8, 15, 22, 29, 36, 43, 49], [2, 9, 16, 23, 30, 37, 44, 49], [3, 10, 17, 24, 31, 38, 45, 49], [4, 11, 18, 25, 32, 39, 46, 49], [5, 12, 19, 26, 33, 40, 47, 49], [6, 13, 20, 27, 34, 41, 48, 49], [0, 13, 19, 25, 31, 37, 43, 50], [1, 7, 20, 26, 32, 38, 44, 50], [2, 8, 14, 27, 33, 39, 45, 50], [3, 9, 15, 21, 34, 40, 46, 50], [4, 10, 16, 22, 28, 41, 47, 50], [5, 11, 17, 23, 29, 35, 48, 50], [6, 12, 18, 24, 30, 36, 42, 50], [0, 12, 17, 22, 34, 39, 44, 51], [1, 13, 18, 23, 28, 40, 45, 51], [2, 7, 19, 24, 29, 41, 46, 51], [3, 8, 20, 25, 30, 35, 47, 51], [4, 9, 14, 26, 31, 36, 48, 51], [5, 10, 15, 27, 32, 37, 42, 51], [6, 11, 16, 21, 33, 38, 43, 51], [0, 11, 15, 26, 30, 41, 45, 52], [1, 12, 16, 27, 31, 35, 46, 52], [2, 13, 17, 21, 32, 36, 47, 52], [3, 7, 18, 22, 33, 37, 48, 52], [4, 8, 19, 23, 34, 38, 42, 52], [5, 9, 20, 24, 28, 39, 43, 52], [6, 10, 14, 25, 29, 40, 44, 52], [0, 10, 20, 23, 33, 36, 46, 53], [1, 11, 14, 24, 34, 37, 47, 53], [2, 12, 15, 25, 28, 38, 48, 53], [3, 13, 16, 26, 29, 39, 42, 53], [4, 7, 17, 27, 30, 40, 43, 53], [5, 8, 18, 21, 31, 41, 44, 53], [6, 9, 19, 22, 32, 35, 45, 53], [0, 9, 18, 27, 29, 38, 47, 54], [1, 10, 19, 21, 30, 39, 48, 54], [2, 11, 20, 22, 31, 40, 42, 54], [3, 12, 14, 23, 32, 41, 43, 54], [4, 13, 15, 24, 33, 35, 44, 54], [5, 7, 16, 25, 34, 36, 45, 54], [6, 8, 17, 26, 28, 37, 46, 54], [0, 8, 16, 24, 32, 40, 48, 55], [1, 9, 17, 25, 33, 41, 42, 55], [2, 10, 18, 26, 34, 35, 43, 55], [3, 11, 19, 27, 28, 36, 44, 55], [4, 12, 20, 21, 29, 37, 45, 55], [5, 13, 14, 22, 30, 38, 46, 55], [6, 7, 15, 23, 31, 39, 47, 55]]
def Pa7 : List (List Nat) := [[1, 2, 3, 4, 5, 6], [0, 2, 3, 4, 5, 6], [0, 1, 3, 4, 5, 6], [0, 1, 2, 4, 5, 6], [0, 1, 2, 3, 5, 6], [0, 1, 2, 3, 4, 6], [0, 1, 2, 3, 4, 5], [8, 9, 10, 11, 12, 13], [7, 9, 10, 11, 12, 13], [7, 8, 10, 11, 12, 13], [7, 8, 9, 11, 12, 13], [7, 8, 9, 10, 12, 13], [7, 8, 9, 10, 11, 13], [7, 8, 9, 10, 11, 12], [15, 16, 17, 18, 19, 20], [14, 16, 17, 18, 19, 20], [14, 15, 17, 18, 19, 20], [14, 15, 16, 18, 19, 20], [14, 15, 16, 17, 19, 20], [14, 15, 16, 17, 18, 20], [14, 15, 16, 17, 18, 19], [22, 23, 24, 25, 26, 27], [21, 23, 24, 25, 26, 27], [21, 22, 24, 25, 26, 27], [21, 22, 23, 25, 26, 27], [21, 22, 23, 24, 26, 27], [21, 22, 23, 24, 25, 27], [21, 22, 23, 24, 25, 26], [29, 30, 31, 32, 33, 34], [28, 30, 31, 32, 33, 34], [28, 29, 31, 32, 33, 34], [28, 29, 30, 32, 33, 34], [28, 29, 30, 31, 33, 34], [28, 29, 30, 31, 32, 34], [28, 29, 30, 31, 32, 33], [36, 37, 38, 39, 40, 41], [35, 37, 38, 39, 40, 41], [35, 36, 38, 39, 40, 41], [35, 36, 37, 39, 40, 41], [35, 36, 37, 38, 40, 41], [35, 36, 37, 38, 39, 41], [35, 36, 37, 38, 39, 40], [43, 44, 45, 46, 47, 48], [42, 44, 45, 46, 47, 48], [42, 43, 45, 46, 47, 48], [42, 43, 44, 46, 47, 48], [42, 43, 44, 45, 47, 48], [42, 43, 44, 45, 46, 48], [42, 43, 44, 45, 46, 47], [50, 51, 52, 53, 54, 55], [49, 51, 52, 53, 54, 55], [49, 50, 52, 53, 54, 55], [49, 50, 51, 53, 54, 55], [49, 50, 51, 52, 54, 55], [49, 50, 51, 52, 53, 55], [49, 50, 51, 52, 53, 54]]
theorem aff7 : affR A7 T7 7 = G7 := by decide +kernel
theorem oka7 : okA1 7 49 56 G7 Th7 = true := by kernel_rfl
theorem okb7 : okA2 56 G7 Pa7 = true := by kernel_rfl
theorem okc7 : okA3 7 49 56 G7 Th7 Pa7 = true := by kernel_rfl
end Go.Am.C06
namespace Go.Am.C06
open Go Go.Am
variable {E : Nat → Option AFn} {Y : Nat → List Value → FM → Nat → OR FM}
def parQ (L : List (List Int)) (a : Int) (g h : Nat) : Bool := decide (a ∈ L.getD h []) && decide (comR (L.getD h []) (L.getD g []) = [])
def joQ (L : List (List Int)) (a b : Int) (h : Nat) : Bool := decide (a ∈ L.getD h []) && decide (b ∈ L.getD h [])
def cntN (p : Nat → Bool) (j : Nat) : Nat := ((List.range j).filter p).length
theorem cntN_succ (p : Nat → Bool) (j : Nat) : cntN p (j + 1) = cntN p j + (cond (p j) 1 0) := by
  unfold cntN
  rw [List.range_succ, List.filter_append, List.length_append, List.filter_cons]
  cases p j <;> rfl
theorem cntN_le (p : Nat → Bool) (j : Nat) : cntN p j ≤ j := Nat.le_trans (List.length_filter_le _ _) (Nat.le_of_eq List.length_range)
theorem par_L0 (h19 : E 19 = some ac19) (h21 : E 21 = some ac21) {m : FM} {n db : Nat} {D : Int} {rv : Value} {L : List (List Int)} (hR : Rows m n rv L) (hdb : db < n) (hd : m db = some (.cells [.int .i64 D, rv] 0 false true)) (hs : L.length < 1000000) (hs2 : ∀ r ∈ L, r.length < 1000000) (a b : Int) {g : Nat} (hg : g < L.length) (y3 y4 y5 y9 : Value) (ys : List Value) {Q : AX → List Value → FM → Nat → Nat → Prop}
    (hQ : ∀ M' N' w, n ≤ N' → (∀ b, b < n → M' b = m b) → (∀ j, j ≤ n → Nat.mod w (bit j) = 0) → Q (.exit 0) (.int .i64 (cntN (parQ L a g) L.length : Int) :: .int .i64 (cntN (joQ L a b) L.length : Int) :: y3 :: y4 :: y5 :: .int .i64 (g : Int) :: .int .i64 b :: .int .i64 a :: y9 :: .pointer (some ⟨db, 0, none⟩) :: ys) M' N' w) :
    ∀ d j, j + d = L.length → ∀ (M' : FM) (N' w0 : Nat), n ≤ N' → (∀ b, b < n → M' b = m b) → (∀ j, j ≤ n → Nat.mod w0 (bit j) = 0) →
    Gv (execW PG E Y ac6L0 (.int .i64 (cntN (parQ L a g) j : Int) :: .int .i64 (cntN (joQ L a b) j : Int) :: .int .i64 (j : Int) :: y3 :: y4 :: y5 :: .int .i64 (g : Int) :: .int .i64 b :: .int .i64 a :: y9 :: .pointer (some ⟨db, 0, none⟩) :: ys) M' N') fun X e m n w => Q X e m n (Nat.lor w0 w) := by
  intro d
  induction d with
  | zero =>
    intro j hj M' N' w0 hN hM hw
    obtain rfl : j = L.length := by omega
    have hd' : M' db = some (.cells [.int .i64 D, rv] 0 false true) := (hM db hdb).trans hd
    refine wr_loopN (L := ac6L0) (b := ac6L0b) rfl ?_
    simp only [ac6L0b]
    simp (implicitDefEqProofs := false) (disch := omega) only [WPs, opds, List.all_cons, List.all_nil, List.cons_append, List.nil_append, cond_true, cond_false, eq_self, List.map_cons, List.map_nil, Nat.reduceAdd, Nat.testBit, Nat.reduceShiftRight, Nat.reduceAnd, Nat.reduceBNe, Nat.reduceMul, hR.len, hd', hR.bel N' hN]
    exact hQ _ _ _ hN hM hw
  | succ d ih =>
    intro j hj M' N' w0 hN hM hw
    have hjl : j < L.length := by omega
    have ih' := ih (j + 1) (by omega)
    have hR' := hR.frame hN hM
    have hd' : M' db = some (.cells [.int .i64 D, rv] 0 false true) := (hM db hdb).trans hd
    obtain ⟨bx, o, c, p, w, x, i1, i2, i3, i4, i5⟩ := hR'.cell hjl
    obtain ⟨bg, og, cg, pg, wg, xg, k1, k2, k3, k4, k5⟩ := hR'.cell hg
    have hp1 := cntN_le (parQ L a g) j
    have hp2 := cntN_le (joQ L a b) j
    rw [cntN_succ, cntN_succ, parQ, joQ] at ih'
    have hgj : L.getD j [] = L[j] := by rw [List.getD_eq_getElem?_getD, List.getElem?_eq_getElem hjl]; rfl
    have hgg : L.getD g [] = L[g] := by rw [List.getD_eq_getElem?_getD, List.getElem?_eq_getElem hg]; rfl
    rw [hgj, hgg] at ih'
    have hrl := hs2 _ (List.getElem_mem hjl)
    have hgl := hs2 _ (List.getElem_mem hg)
    refine wr_loopN (L := ac6L0) (b := ac6L0b) rfl ?_
    simp only [ac6L0b]
    generalize L[j] = r at *
    generalize L[g] = s at *
    generalize cntN (parQ L a g) j = cp at *
    generalize cntN (joQ L a b) j = cj at *
    have hbel := hR.bel N' hN
    have ibel := i5.bel N' (Nat.le_refl _)
    have kbel := k5.bel N' (Nat.le_refl _)
    simp (implicitDefEqProofs := false) (disch := omega) only [WPs, opds, List.all_cons, List.all_nil, List.cons_append, List.nil_append, cond_true, cond_false, eq_self, List.map_cons, List.map_nil, Nat.reduceAdd, Nat.testBit, Nat.reduceShiftRight, Nat.reduceAnd, Nat.reduceBNe, Nat.reduceMul, hR.len, hd', hbel, i1, i3, i4, ibel]
    refine use_pureX (hasR_spec h21 i5 hrl a) fun _ => ?_
    by_cases hx : a ∈ r
    · rw [decide_eq_true hx, Bool.true_and, Bool.true_and] at ih'
      simp (implicitDefEqProofs := false) (disch := omega) only [WPs, opds, List.all_cons, List.all_nil, List.cons_append, List.nil_append, cond_true, cond_false, eq_self, List.map_cons, List.map_nil, Nat.reduceAdd, Nat.testBit, Nat.reduceShiftRight, Nat.reduceAnd, Nat.reduceBNe, Nat.reduceMul, decide_eq_true hx, hd', hbel, i1, i3, i4, ibel, k1, k3, k4, kbel]
      refine use_rtX (com_spec h19 h21 i5 k5 hrl hgl) fun v M3 N3 r3 w3 ⟨n3, m3, f3, hI⟩ => ?_
      have hIl := hI.ints.len
      have hIb := hI.ints.bel N3 (Nat.le_refl _)
      have hll : (comR r s).length ≤ r.length := List.length_filter_le _ _
      have hR3 := hR'.frame n3 m3
      have hd3 : M3 db = some (.cells [.int .i64 D, rv] 0 false true) := (m3 db (by omega)).trans hd'
      have hM3 : ∀ b, b < n → M3 b = m b := fun b hb => (m3 b (by omega)).trans (hM b hb)
      have i5' := i5.frame n3 m3
      have ibel3 := i5'.bel N3 (Nat.le_refl _)
      have hbel3 := hR3.bel N3 (Nat.le_refl _)
      have i3' : M3 bx = some (.cells c 1 p w) := (m3 bx i2).trans i3
      have hw3 : ∀ j, j ≤ n → Nat.mod (Nat.lor w0 w3) (bit j) = 0 := fun j hj => by rw [frz_iff]; exact ⟨hw j hj, f3 j (by omega)⟩
      by_cases hc : comR r s = []
      · rw [decide_eq_true hc] at ih'
        rw [hc] at hIl
        have hIl' : lenV false v = some (.int .i64 0) := hIl
        simp (implicitDefEqProofs := false) (disch := omega) only [WPs, opds, List.all_cons, List.all_nil, List.cons_append, List.nil_append, cond_true, cond_false, eq_self, List.map_cons, List.map_nil, Nat.reduceAdd, Nat.testBit, Nat.reduceShiftRight, Nat.reduceAnd, Nat.reduceBNe, Nat.reduceMul, hIl', hIb, hd3, hbel3, i1, i3', i4, ibel3]
        refine use_pure (hasR_spec h21 i5' hrl a) fun _ => ?_
        simp (implicitDefEqProofs := false) (disch := omega) only [WPs, opds, List.all_cons, List.all_nil, List.cons_append, List.nil_append, cond_true, cond_false, eq_self, List.map_cons, List.map_nil, Nat.reduceAdd, Nat.testBit, Nat.reduceShiftRight, Nat.reduceAnd, Nat.reduceBNe, Nat.reduceMul, decide_eq_true hx, hd3, hbel3, i1, i3', i4, ibel3]
        refine use_pure (hasR_spec h21 i5' hrl b) fun _ => ?_
        by_cases hy : b ∈ r
        · rw [decide_eq_true hy] at ih'
          simp (implicitDefEqProofs := false) (disch := omega) only [WPs, opds, List.all_cons, List.all_nil, List.cons_append, List.nil_append, cond_true, cond_false, eq_self, List.map_cons, List.map_nil, Nat.reduceAdd, Nat.testBit, Nat.reduceShiftRight, Nat.reduceAnd, Nat.reduceBNe, Nat.reduceMul, decide_eq_true hy]
          refine wr_end (ih' M3 N3 (Nat.lor w0 w3) (by omega) hM3 hw3) fun X e m n w hq => ?_
          rw [← lor_assoc']; exact hq
        · rw [decide_eq_false hy] at ih'
          simp (implicitDefEqProofs := false) (disch := omega) only [WPs, opds, List.all_cons, List.all_nil, List.cons_append, List.nil_append, cond_true, cond_false, eq_self, List.map_cons, List.map_nil, Nat.reduceAdd, Nat.testBit, Nat.reduceShiftRight, Nat.reduceAnd, Nat.reduceBNe, Nat.reduceMul, decide_eq_false hy]
          refine wr_end (ih' M3 N3 (Nat.lor w0 w3) (by omega) hM3 hw3) fun X e m n w hq => ?_
          rw [← lor_assoc']; exact hq
      · rw [decide_eq_false hc] at ih'
        have hc0 : ¬ ((comR r s).length : Int) = 0 := fun h => hc (List.length_eq_zero_iff.1 (by omega))
        simp (implicitDefEqProofs := false) (disch := omega) only [WPs, opds, List.all_cons, List.all_nil, List.cons_append, List.nil_append, cond_true, cond_false, eq_self, List.map_cons, List.map_nil, Nat.reduceAdd, Nat.testBit, Nat.reduceShiftRight, Nat.reduceAnd, Nat.reduceBNe, Nat.reduceMul, hIl, hIb, decide_eq_false hc0, hd3, hbel3, i1, i3', i4, ibel3]
        refine use_pure (hasR_spec h21 i5' hrl a) fun _ => ?_
        simp (implicitDefEqProofs := false) (disch := omega) only [WPs, opds, List.all_cons, List.all_nil, List.cons_append, List.nil_append, cond_true, cond_false, eq_self, List.map_cons, List.map_nil, Nat.reduceAdd, Nat.testBit, Nat.reduceShiftRight, Nat.reduceAnd, Nat.reduceBNe, Nat.reduceMul, decide_eq_true hx, hd3, hbel3, i1, i3', i4, ibel3]
        refine use_pure (hasR_spec h21 i5' hrl b) fun _ => ?_
        by_cases hy : b ∈ r
        · rw [decide_eq_true hy] at ih'
          simp (implicitDefEqProofs := false) (disch := omega) only [WPs, opds, List.all_cons, List.all_nil, List.cons_append, List.nil_append, cond_true, cond_false, eq_self, List.map_cons, List.map_nil, Nat.reduceAdd, Nat.testBit, Nat.reduceShiftRight, Nat.reduceAnd, Nat.reduceBNe, Nat.reduceMul, decide_eq_true hy]
          refine wr_end (ih' M3 N3 (Nat.lor w0 w3) (by omega) hM3 hw3) fun X e m n w hq => ?_
          rw [← lor_assoc']; exact hq
        · rw [decide_eq_false hy] at ih'
          simp (implicitDefEqProofs := false) (disch := omega) only [WPs, opds, List.all_cons, List.all_nil, List.cons_append, List.nil_append, cond_true, cond_false, eq_self, List.map_cons, List.map_nil, Nat.reduceAdd, Nat.testBit, Nat.reduceShiftRight, Nat.reduceAnd, Nat.reduceBNe, Nat.reduceMul, decide_eq_false hy]
          refine wr_end (ih' M3 N3 (Nat.lor w0 w3) (by omega) hM3 hw3) fun X e m n w hq => ?_
          rw [← lor_assoc']; exact hq
    · rw [decide_eq_false hx, Bool.false_and, Bool.false_and] at ih'
      simp (implicitDefEqProofs := false) (disch := omega) only [WPs, opds, List.all_cons, List.all_nil, List.cons_append, List.nil_append, cond_true, cond_false, eq_self, List.map_cons, List.map_nil, Nat.reduceAdd, Nat.testBit, Nat.reduceShiftRight, Nat.reduceAnd, Nat.reduceBNe, Nat.reduceMul, decide_eq_false hx, hd', hbel, i1, i3, i4, ibel]
      refine use_pure (hasR_spec h21 i5 hrl a) fun _ => ?_
      simp (implicitDefEqProofs := false) (disch := omega) only [WPs, opds, List.all_cons, List.all_nil, List.cons_append, List.nil_append, cond_true, cond_false, eq_self, List.map_cons, List.map_nil, Nat.reduceAdd, Nat.testBit, Nat.reduceShiftRight, Nat.reduceAnd, Nat.reduceBNe, Nat.reduceMul, decide_eq_false hx]
      exact wr_end (ih' M' N' w0 hN hM hw) fun X e m n w hq => by simpa only [zero_lor'] using hq
end Go.Am.C06
namespace Go.Am.C06
open Go Go.Am
set_option maxRecDepth 1000000
variable {E : Nat → Option AFn} {Y : Nat → List Value → FM → Nat → OR FM}
structure Af (q N : Nat) (A M : Tab) (G : List (List Int)) : Prop where
  sm : Sm q A M
  n : N = q * q + q
  lN : G.length = N
  pr : affR A M q = G
  row : ∀ g, g < N → (G.getD g []).length = q
  par : ∀ a g, a < q * q → g < N → decide ((a : Int) ∈ G.getD g []) = Nat.beq (cntN (parQ G (a : Int) g) N) 0 ∧ cntN (parQ G (a : Int) g) N ≤ 1
  jo : ∀ a b, a < q * q → b < q * q → cntN (joQ G (a : Int) (b : Int)) N = cond (Nat.beq a b) (q + 1) 1
theorem af_of {q D N : Nat} {A M : Tab} {G : List (List Int)} {Th Pa : List (List Nat)} (sm : Sm q A M) (hD : D = q * q) (hn : N = q * q + q) (h1 : affR A M q = G) (hl : G.length = N) (ha : okA1 q D N G Th = true) (hb : okA2 N G Pa = true) (hc : okA3 q D N G Th Pa = true) : Af q N A M G := by
  subst hD
  unfold okA1 at ha
  unfold okA2 at hb
  unfold okA3 at hc
  simp only [List.all_eq_true, List.mem_range, Bool.and_eq_true, decide_eq_true_eq, beq_iff_eq] at ha hb hc
  have th : ∀ a, a < q * q → (List.range N).filter (fun h => decide (((a : Nat) : Int) ∈ G.getD h [])) = Th.getD a [] := fun a h => ha.2 a h
  have inN : ∀ a, a < q * q → ∀ h ∈ Th.getD a [], h < N := fun a h1 h h2 => by
    rw [← th a h1] at h2
    exact List.mem_range.1 (List.mem_filter.1 h2).1
  have ep : ∀ a g, a < q * q → g < N → cntN (parQ G (a : Int) g) N = parN Th Pa a g := fun a g h1 h2 => by
    unfold cntN parN
    rw [show parQ G (a : Int) g = (fun h => decide (comR (G.getD h []) (G.getD g []) = []) && decide (((a : Nat) : Int) ∈ G.getD h [])) from funext fun h => Bool.and_comm _ _, ← List.filter_filter, th a h1]
    congr 1
    exact List.filter_congr fun h hh => hb g h2 h (inN a h1 h hh)
  have ej : ∀ a b, a < q * q → b < q * q → cntN (joQ G (a : Int) (b : Int)) N = joinN G Th a b := fun a b h1 h2 => by
    unfold cntN joinN
    rw [show joQ G (a : Int) (b : Int) = (fun h => decide (((b : Nat) : Int) ∈ G.getD h []) && decide (((a : Nat) : Int) ∈ G.getD h [])) from funext fun h => Bool.and_comm _ _, ← List.filter_filter, th a h1]
  refine ⟨sm, hn, hl, h1, fun g hg => ha.1 g hg, fun a g h1 h2 => ?_, fun a b h1 h2 => ?_⟩
  · rw [ep a g h1 h2]
    exact ⟨((hc a h1).1 g h2).1, Nat.le_of_ble_eq_true ((hc a h1).1 g h2).2⟩
  · rw [ej a b h1 h2]
    exact Nat.eq_of_beq_eq_true ((hc a h1).2 b h2)
theorem af2 : Af 2 6 A2 T2 G2 := af_of (D := 4) ⟨.s2, by omega, by omega⟩ rfl rfl aff2 rfl oka2 okb2 okc2
theorem af3 : Af 3 12 A3 T3 G3 := af_of (D := 9) ⟨.s3, by omega, by omega⟩ rfl rfl aff3 rfl oka3 okb3 okc3
theorem af4 : Af 4 20 A4 T4 G4 := af_of (D := 16) ⟨.s4, by omega, by omega⟩ rfl rfl aff4 rfl oka4 okb4 okc4
theorem af5 : Af 5 30 A5 T5 G5 := af_of (D := 25) ⟨.s5, by omega, by omega⟩ rfl rfl aff5 rfl oka5 okb5 okc5
theorem af7 : Af 7 56 A7 T7 G7 := af_of (D := 49) ⟨.s7, by omega, by omega⟩ rfl rfl aff7 rfl oka7 okb7 okc7
theorem size_af (z : Nat) : ∃ q N A M G, sizeN z = q ∧ Af q N A M G := by
  have h5 : z % 5 < 5 := Nat.mod_lt _ (by omega)
  unfold sizeN
  generalize z % 5 = k at *
  match k, h5 with
  | 0, _ => exact ⟨_, _, _, _, _, rfl, af2⟩
  | 1, _ => exact ⟨_, _, _, _, _, rfl, af3⟩
  | 2, _ => exact ⟨_, _, _, _, _, rfl, af4⟩
  | 3, _ => exact ⟨_, _, _, _, _, rfl, af5⟩
  | 4, _ => exact ⟨_, _, _, _, _, rfl, af7⟩
theorem Af.aff {q N : Nat} {A M : Tab} {G : List (List Int)} (h : Af q N A M G) (T : En E Y) (m : FM) (n : Nat) :
    Rt (callW PG E Y 16 [.int .i64 (q : Int)] m n) (Kpt m n fun v M' N' => ∃ rv, v = .tuple #[.agg #[.int .i64 ((q * q : Nat) : Int), rv], .int .i64 0] ∧ RowsZ M' n N' rv G) := by
  have h1 := aff_good T h.sm m n
  rw [h.pr] at h1
  refine rt_imp h1 fun v m' n' w ⟨a1, a2, a3, dv, e1, rv, e2, hr⟩ => ⟨a1, a2, a3, rv, ?_, hr⟩
  rw [e1, e2]
theorem planeParallel_exec (T : En E Y) {z l i k q N : Nat} {A M : Tab} {G : List (List Int)} (hz : z < 256) (hl : l < 256) (hi : i < 256) (hk : k < 256) (hq : sizeN z = q) (hA : Af q N A M G) (m : FM) (n : Nat) :
    Pure (callW PG E Y 6 [.int .u8 (z : Int), .agg #[.int .u8 (l : Int), .int .u8 (i : Int), .int .u8 (k : Int)]] m n) m n (.bool true) := by
  refine pure_spec T.e6 rfl rfl ?_
  simp only [ac6]
  have hqq : q * q ≤ 7 * 7 := Nat.mul_le_mul hA.sm.le hA.sm.le
  have hq2 : 2 * 2 ≤ q * q := Nat.mul_le_mul hA.sm.ge hA.sm.ge
  have hq7 := hA.sm.le
  have hn := hA.n
  simp (implicitDefEqProofs := false) (disch := omega) only [WPs, opds, List.all_cons, List.all_nil, List.cons_append, List.nil_append, cond_true, cond_false, eq_self, List.map_cons, List.map_nil, Nat.reduceAdd, Nat.testBit, Nat.reduceShiftRight, Nat.reduceAnd, Nat.reduceBNe, Nat.reduceMul]
  refine use_pure (T.aw _ _) fun _ => ?_
  simp (implicitDefEqProofs := false) (disch := omega) only [WPs, opds, List.all_cons, List.all_nil, List.cons_append, List.nil_append, cond_true, cond_false, eq_self, List.map_cons, List.map_nil, Nat.reduceAdd, Nat.testBit, Nat.reduceShiftRight, Nat.reduceAnd, Nat.reduceBNe, Nat.reduceMul]
  refine use_pure (size_spec T _ _ hz) fun _ => ?_
  rw [hq]
  simp (implicitDefEqProofs := false) (disch := omega) only [WPs, opds, List.all_cons, List.all_nil, List.cons_append, List.nil_append, cond_true, cond_false, eq_self, List.map_cons, List.map_nil, Nat.reduceAdd, Nat.testBit, Nat.reduceShiftRight, Nat.reduceAnd, Nat.reduceBNe, Nat.reduceMul]
  refine use_rt (hA.aff T _ _) fun v M1 N1 r1 w1 ⟨n1, m1, f1, rv, hv, hR⟩ => ?_
  subst hv
  have hone := hR.one
  simp (implicitDefEqProofs := false) (disch := omega) only [WPs, opds, List.all_cons, List.all_nil, List.cons_append, List.nil_append, cond_true, cond_false, eq_self, List.map_cons, List.map_nil, Nat.reduceAdd, Nat.testBit, Nat.reduceShiftRight, Nat.reduceAnd, Nat.reduceBNe, Nat.reduceMul, hone]
  generalize hM2 : (AMem.put M1 N1 (some (.cells [.int .i64 ((q * q : Nat) : Int), rv] 0 false true)) : FM) = M2
  have d2 : M2 N1 = some (.cells [.int .i64 ((q * q : Nat) : Int), rv] 0 false true) := by rw [← hM2]; exact fput_same _ _ _
  have hR2 : Rows M2 (N1 + 1) rv G := hR.rows.frame (by omega) fun b hb => by rw [← hM2, fput_ne _ _ _ _ (by omega)]
  have hlen := hR2.len
  have hLN := hA.lN
  rw [hLN] at hlen
  have fzn := f1 n (by omega)
  have fzm : Nat.mod (bit n) (bit n) = 0 := frz_bit (Nat.le_refl _)
  have fza : Nat.mod (bit N1) (bit n) = 0 := frz_bit (by omega)
  have ha : i % (q * q) < q * q := Nat.mod_lt _ (by omega)
  have hb : k % (q * q) < q * q := Nat.mod_lt _ (by omega)
  have hg : l % N < N := Nat.mod_lt _ (by omega)
  have hri : binV PG .rem 3 (.int .i64 (i : Int)) (.int .i64 ((q * q : Nat) : Int)) = some (.int .i64 ((i % (q * q) : Nat) : Int)) := binV_rem_nat (by omega)
  have hrk : binV PG .rem 3 (.int .i64 (k : Int)) (.int .i64 ((q * q : Nat) : Int)) = some (.int .i64 ((k % (q * q) : Nat) : Int)) := binV_rem_nat (by omega)
  have hrl : binV PG .rem 3 (.int .i64 (l : Int)) (.int .i64 (N : Int)) = some (.int .i64 ((l % N : Nat) : Int)) := binV_rem_nat (by omega)
  generalize i % (q * q) = a at *
  generalize k % (q * q) = b at *
  generalize l % N = g at *
  have hbel := hR2.bel (N1 + 1) (Nat.le_refl _)
  simp (implicitDefEqProofs := false) (disch := omega) only [WPs, opds, List.all_cons, List.all_nil, List.cons_append, List.nil_append, cond_true, cond_false, eq_self, List.map_cons, List.map_nil, Nat.reduceAdd, Nat.testBit, Nat.reduceShiftRight, Nat.reduceAnd, Nat.reduceBNe, Nat.reduceMul, d2, hlen, hbel, conv_u8 hi, conv_u8 hk, conv_u8 hl, hri, hrk, hrl]
  have rowlen : ∀ r ∈ G, r.length = q := fun r hr => by
    obtain ⟨i', hi', rfl⟩ := List.getElem_of_mem hr
    have := hA.row i' (by omega)
    rw [List.getD_eq_getElem?_getD, List.getElem?_eq_getElem hi'] at this
    exact this
  refine wr_kont (par_L0 T.e19 T.e21 hR2 (Nat.lt_succ_self _) d2 (by omega) (fun r hr => by rw [rowlen r hr]; omega) (a : Int) (b : Int) (g := g) (by omega) _ _ _ _ _ (fun M3 N3 w3 hN hM hw rr => ?_) G.length 0 (by omega) M2 (N1 + 1) 0 (Nat.le_refl _) (fun _ _ => rfl) (fun _ _ => Nat.zero_mod _))
  obtain ⟨hp1, hp2⟩ := hA.par a g ha hg
  have hj := hA.jo a b ha hb
  rw [hLN]
  have hR3 := hR2.frame hN hM
  have d3 : M3 N1 = some (.cells [.int .i64 ((q * q : Nat) : Int), rv] 0 false true) := (hM N1 (Nat.lt_succ_self _)).trans d2
  obtain ⟨bx, o, c, p, w, x, i1, i2, i3, i4, i5⟩ := hR3.cell (i := g) (by omega)
  have hgr : G.getD g [] = G[g] := by rw [List.getD_eq_getElem?_getD, List.getElem?_eq_getElem (by omega)]; rfl
  rw [hgr] at hp1
  have hrl2 : (G[g]).length = q := rowlen _ (List.getElem_mem _)
  have hxl := i5.len
  rw [hrl2] at hxl
  have hbel3 := hR3.bel N3 (Nat.le_refl _)
  have ibel := i5.bel N3 (Nat.le_refl _)
  generalize G[g] = r at *
  generalize cntN (parQ G (a : Int) g) N = cp at *
  generalize cntN (joQ G (a : Int) (b : Int)) N = cj at *
  have fz3 := hw n (by omega)
  simp (implicitDefEqProofs := false) (disch := omega) only [WPs, opds, List.all_cons, List.all_nil, List.cons_append, List.nil_append, cond_true, cond_false, eq_self, List.map_cons, List.map_nil, Nat.reduceAdd, Nat.testBit, Nat.reduceShiftRight, Nat.reduceAnd, Nat.reduceBNe, Nat.reduceMul, d3, hbel3, i1, i3, i4, hxl, ibel]
  refine use_pure (hasR_spec T.e21 i5 (by omega) _) fun _ => ?_
  rw [hp1]
  have bt : binV PG .neq 4 (.bool true) (.bool true) = some (.bool false) := rfl
  have bf : binV PG .neq 4 (.bool false) (.bool false) = some (.bool false) := rfl
  have hc : cp = 0 ∨ cp = 1 := by omega
  have e0 : Nat.beq 0 0 = true := rfl
  have e1 : Nat.beq 1 0 = false := rfl
  by_cases hab : a = b
  · subst hab
    rw [Nat.beq_refl] at hj
    have hj' : cj = q + 1 := hj
    subst hj'
    rcases hc with rfl | rfl
    · simp (implicitDefEqProofs := false) (disch := omega) only [WPs, opds, List.all_cons, List.all_nil, List.cons_append, List.nil_append, cond_true, cond_false, eq_self, List.map_cons, List.map_nil, Nat.reduceAdd, Nat.testBit, Nat.reduceShiftRight, Nat.reduceAnd, Nat.reduceBNe, Nat.reduceMul, bt, bf, e0, e1]
      simp only [frz_iff, fzm, fzn, fza, fz3, and_self]
    · simp (implicitDefEqProofs := false) (disch := omega) only [WPs, opds, List.all_cons, List.all_nil, List.cons_append, List.nil_append, cond_true, cond_false, eq_self, List.map_cons, List.map_nil, Nat.reduceAdd, Nat.testBit, Nat.reduceShiftRight, Nat.reduceAnd, Nat.reduceBNe, Nat.reduceMul, bt, bf, e0, e1]
      simp only [frz_iff, fzm, fzn, fza, fz3, and_self]
  · have hne : Nat.beq a b = false := Bool.eq_false_iff.2 fun e => hab (Nat.eq_of_beq_eq_true e)
    rw [hne] at hj
    have hj' : cj = 1 := hj
    subst hj'
    have hab' : ¬ (a : Int) = (b : Int) := by omega
    rcases hc with rfl | rfl
    · simp (implicitDefEqProofs := false) (disch := omega) only [WPs, opds, List.all_cons, List.all_nil, List.cons_append, List.nil_append, cond_true, cond_false, eq_self, List.map_cons, List.map_nil, Nat.reduceAdd, Nat.testBit, Nat.reduceShiftRight, Nat.reduceAnd, Nat.reduceBNe, Nat.reduceMul, bt, bf, e0, e1, decide_eq_false hab']
      simp only [frz_iff, fzm, fzn, fza, fz3, and_self]
    · simp (implicitDefEqProofs := false) (disch := omega) only [WPs, opds, List.all_cons, List.all_nil, List.cons_append, List.nil_append, cond_true, cond_false, eq_self, List.map_cons, List.map_nil, Nat.reduceAdd, Nat.testBit, Nat.reduceShiftRight, Nat.reduceAnd, Nat.reduceBNe, Nat.reduceMul, bt, bf, e0, e1, decide_eq_false hab']
      simp only [frz_iff, fzm, fzn, fza, fz3, and_self]
end Go.Am.C06
namespace Go.Am.C06
open Go Go.Am
variable {E : Nat → Option AFn} {Y : Nat → List Value → FM → Nat → OR FM}
theorem shr_L2 (h21 : E 21 = some ac21) {n db q N g : Nat} {D : Int} {rv : Value} {L : List (List Int)} {lg : List Int} {M : FM} (hR : Rows M (n + 1) rv L) (hdb : db < n + 1) (hd : M db = some (.cells [.int .i64 D, rv] 0 false true)) (hN : N ≤ 57) (hq : q ≤ 7) (hg : L[g]? = some lg) (hl : lg.length ≤ 8) {f : Nat → Nat} (hc : M n = some (.cells (cellsC f N) 1 false true)) (hf : ∀ p, p < N → f p = cond (decide ((p : Int) ∈ lg)) 0 (q + 1)) (y2 y3 y4 y7 y9 : Value) (ys : List Value) {Q : AX → List Value → FM → Nat → Nat → Prop}
    (hQ : ∀ x0, Q (.exit 4) (x0 :: y2 :: y3 :: y4 :: .slice (some ⟨n, 0, none⟩) N N :: .int .i64 (g : Int) :: y7 :: .pointer (some ⟨db, 0, none⟩) :: y9 :: .int .i64 (q : Int) :: ys) M (n + 1) 0) :
    ∀ d j, j + d = N → ∀ (x0 : Value),
    Gv (execW PG E Y ac7L2 (x0 :: .int .i64 (j : Int) :: y2 :: y3 :: y4 :: .slice (some ⟨n, 0, none⟩) N N :: .int .i64 (g : Int) :: y7 :: .pointer (some ⟨db, 0, none⟩) :: y9 :: .int .i64 (q : Int) :: ys) M (n + 1)) Q := by
  intro d
  obtain ⟨hgl, hge⟩ := List.getElem?_eq_some_iff.1 hg
  obtain ⟨bg, og, cg, pg, wg, xg, k1, k2, k3, k4, k5⟩ := hR.cell hgl
  rw [hge] at k5
  have hbel := hR.bel (n + 1) (by omega)
  have kbel := k5.bel (n + 1) (by omega)
  induction d with
  | zero =>
    intro j hj x0
    obtain rfl : j = N := by omega
    refine wr_loopN (L := ac7L2) (b := ac7L2b) rfl ?_
    simp only [ac7L2b]
    simp (implicitDefEqProofs := false) (disch := omega) only [WPs, opds, List.all_cons, List.all_nil, List.cons_append, List.nil_append, cond_true, cond_false, eq_self, List.map_cons, List.map_nil, Nat.reduceAdd, Nat.testBit, Nat.reduceShiftRight, Nat.reduceAnd, Nat.reduceBNe, Nat.reduceMul]
    exact hQ _
  | succ d ih =>
    intro j hj x0
    have ih' := ih (j + 1) (by omega)
    have hjN : j < N := by omega
    have hcg := cellsC_get f hjN
    have hfj := hf j hjN
    have bt : binV PG .neq 4 (.bool true) (.bool true) = some (.bool false) := rfl
    have bf : binV PG .neq 4 (.bool false) (.bool false) = some (.bool false) := rfl
    refine wr_loopN (L := ac7L2) (b := ac7L2b) rfl ?_
    simp only [ac7L2b]
    simp (implicitDefEqProofs := false) (disch := omega) only [WPs, opds, List.all_cons, List.all_nil, List.cons_append, List.nil_append, cond_true, cond_false, eq_self, List.map_cons, List.map_nil, Nat.reduceAdd, Nat.testBit, Nat.reduceShiftRight, Nat.reduceAnd, Nat.reduceBNe, Nat.reduceMul, hd, hbel, k1, k3, k4, kbel]
    refine use_pureX (hasR_spec h21 k5 (by omega) _) fun _ => ?_
    by_cases hx : (j : Int) ∈ lg
    · rw [decide_eq_true hx] at hfj
      rw [show f j = 0 from hfj] at hcg
      simp (implicitDefEqProofs := false) (disch := omega) only [WPs, opds, List.all_cons, List.all_nil, List.cons_append, List.nil_append, cond_true, cond_false, eq_self, List.map_cons, List.map_nil, Nat.reduceAdd, Nat.testBit, Nat.reduceShiftRight, Nat.reduceAnd, Nat.reduceBNe, Nat.reduceMul, decide_eq_true hx, hc, hcg, bt]
      exact wr_end (ih' _) fun X e m n w hq => by simpa only [zero_lor'] using hq
    · rw [decide_eq_false hx] at hfj
      rw [show f j = q + 1 from hfj] at hcg
      simp (implicitDefEqProofs := false) (disch := omega) only [WPs, opds, List.all_cons, List.all_nil, List.cons_append, List.nil_append, cond_true, cond_false, eq_self, List.map_cons, List.map_nil, Nat.reduceAdd, Nat.testBit, Nat.reduceShiftRight, Nat.reduceAnd, Nat.reduceBNe, Nat.reduceMul, decide_eq_false hx, hc, hcg, bf]
      exact wr_end (ih' _) fun X e m n w hq => by simpa only [zero_lor'] using hq
theorem filt_split (p : Int → Bool) : ∀ l : List Int, l.length = (l.filter p).length + (l.filter fun x => !p x).length
  | [] => rfl
  | x :: l => by
    have := filt_split p l
    rw [List.filter_cons, List.filter_cons, List.length_cons]
    cases p x
    · show _ = (l.filter p).length + ((l.filter fun x => !p x).length + 1)
      omega
    · show _ = ((l.filter p).length + 1) + (l.filter fun x => !p x).length
      omega
noncomputable def okN (N : Nat) (L : List (List Int)) : Bool :=
  (List.range N).all fun j => (List.range N).all fun p => decide (((L.getD j []).filter fun x => decide (x = ((p : Nat) : Int))).length = cond (decide (((p : Nat) : Int) ∈ L.getD j [])) 1 0)
theorem Pl.left {q N : Nat} {A M : Tab} {L : List (List Int)} (h : Pl q N A M L) {j g : Nat} (hj : j < N) (hg : g < N) (hjg : j ≠ g) : leftC (L.getD g []) (L.getD j []) = q := by
  have h1 := h.meet j g hj hg hjg
  obtain ⟨r, r1, r2, _⟩ := h.row j hj
  have hr : L.getD j [] = r := by rw [List.getD_eq_getElem?_getD, r1]; rfl
  rw [hr] at h1 ⊢
  have h2 := filt_split (fun x => decide (x ∈ L.getD g [])) r
  have h3 : (r.filter fun x => decide (x ∈ L.getD g [])).length = 1 := by
    show (comR r (L.getD g [])).length = 1
    rw [h1]; rfl
  show (r.filter fun x => !decide (x ∈ L.getD g [])).length = q
  omega
theorem Pl.tot {q N : Nat} {A M : Tab} {L : List (List Int)} (h : Pl q N A M L) (hF : okF N L = true) (hN : okN N L = true) {g p : Nat} (hg : g < N) (hp : p < N) : totC L (L.getD g []) g N p = cond (decide ((p : Int) ∈ L.getD g [])) 0 (q + 1) := by
  by_cases hx : (p : Int) ∈ L.getD g []
  · rw [decide_eq_true hx]
    have h0 : ∀ r, rowC (L.getD g []) r p = 0 := fun r => by
      unfold rowC
      rw [List.length_eq_zero_iff, List.filter_eq_nil_iff]
      intro x _ hc
      rw [Bool.and_eq_true, decide_eq_true_eq] at hc
      rw [hc.1, decide_eq_true hx] at hc
      exact absurd hc.2 (by decide)
    have : ∀ j, totC L (L.getD g []) g j p = 0 := fun j => by
      induction j with
      | zero => rfl
      | succ j ih =>
        show totC L (L.getD g []) g j p + cond (Nat.beq j g) 0 (rowC (L.getD g []) (L.getD j []) p) = 0
        rw [ih, h0]
        cases Nat.beq j g <;> rfl
    exact this N
  · rw [decide_eq_false hx]
    unfold okN at hN
    simp only [List.all_eq_true, List.mem_range, decide_eq_true_eq] at hN
    have h1 : ∀ j, j < N → rowC (L.getD g []) (L.getD j []) p = cond (decide ((p : Int) ∈ L.getD j [])) 1 0 := fun j hj => by
      rw [← hN j hj p hp]
      unfold rowC
      congr 1
      apply List.filter_congr
      intro x _
      by_cases hxp : x = (p : Int)
      · rw [hxp, decide_eq_false hx]; exact Bool.and_true _
      · rw [decide_eq_false hxp]; rfl
    have h2 : ∀ j, j ≤ N → totC L (L.getD g []) g j p = cntN (fun j => decide ((p : Int) ∈ L.getD j [])) j := fun j => by
      induction j with
      | zero => intro _; rfl
      | succ j ih =>
        intro hj
        show totC L (L.getD g []) g j p + cond (Nat.beq j g) 0 (rowC (L.getD g []) (L.getD j []) p) = _
        rw [ih (by omega), h1 j (by omega), cntN_succ]
        by_cases hjg : j = g
        · subst hjg
          rw [decide_eq_false hx, Nat.beq_refl]; rfl
        · rw [Bool.eq_false_iff.2 fun e => hjg (Nat.eq_of_beq_eq_true e)]; rfl
    rw [h2 N (Nat.le_refl _)]
    have hf := filt_of (q := q) (A := A) (M := M) hF hp
    obtain ⟨r, r1, r2, _⟩ := h.row p hp
    have hr : L.getD p [] = r := by rw [List.getD_eq_getElem?_getD, r1]; rfl
    show cntN _ N = q + 1
    rw [← r2, ← hr]
    conv => rhs; rw [← hf, List.filter_map, List.length_map]
    unfold cntN
    congr 1
    apply List.filter_congr
    intro j hj
    exact decide_eq_decide.2 (h.sym j p (List.mem_range.1 hj) hp)
theorem planeShrinks_exec (T : En E Y) {z i q N : Nat} {A M : Tab} {L : List (List Int)} (hz : z < 256) (hi : i < 256) (hq : sizeN z = q) (hP : Pl q N A M L) (hF : okF N L = true) (hNN : okN N L = true) (m : FM) (n : Nat) :
    Pure (callW PG E Y 7 [.int .u8 (z : Int), .int .u8 (i : Int)] m n) m n (.bool true) := by
  refine pure_spec T.e7 rfl rfl ?_
  simp only [ac7]
  obtain ⟨hN57, hN0⟩ := hP.small
  simp (implicitDefEqProofs := false) (disch := omega) only [WPs, opds, List.all_cons, List.all_nil, List.cons_append, List.nil_append, cond_true, cond_false, eq_self, List.map_cons, List.map_nil, Nat.reduceAdd, Nat.testBit, Nat.reduceShiftRight, Nat.reduceAnd, Nat.reduceBNe, Nat.reduceMul]
  refine use_pure (T.aw _ _) fun _ => ?_
  simp (implicitDefEqProofs := false) (disch := omega) only [WPs, opds, List.all_cons, List.all_nil, List.cons_append, List.nil_append, cond_true, cond_false, eq_self, List.map_cons, List.map_nil, Nat.reduceAdd, Nat.testBit, Nat.reduceShiftRight, Nat.reduceAnd, Nat.reduceBNe, Nat.reduceMul]
  refine use_pure (size_spec T _ _ hz) fun _ => ?_
  rw [hq]
  simp (implicitDefEqProofs := false) (disch := omega) only [WPs, opds, List.all_cons, List.all_nil, List.cons_append, List.nil_append, cond_true, cond_false, eq_self, List.map_cons, List.map_nil, Nat.reduceAdd, Nat.testBit, Nat.reduceShiftRight, Nat.reduceAnd, Nat.reduceBNe, Nat.reduceMul]
  refine use_rt (hP.proj T _ _) fun v M1 N1 r1 w1 ⟨n1, m1, f1, rv, hv, hR⟩ => ?_
  subst hv
  have hone := hR.one
  simp (implicitDefEqProofs := false) (disch := omega) only [WPs, opds, List.all_cons, List.all_nil, List.cons_append, List.nil_append, cond_true, cond_false, eq_self, List.map_cons, List.map_nil, Nat.reduceAdd, Nat.testBit, Nat.reduceShiftRight, Nat.reduceAnd, Nat.reduceBNe, Nat.reduceMul, hone]
  generalize hM2 : (AMem.put M1 N1 (some (.cells [.int .i64 (N : Int), rv] 0 false true)) : FM) = M2
  have d2 : M2 N1 = some (.cells [.int .i64 (N : Int), rv] 0 false true) := by rw [← hM2]; exact fput_same _ _ _
  have hR2 : Rows M2 (N1 + 1) rv L := hR.rows.frame (by omega) fun b hb => by rw [← hM2, fput_ne _ _ _ _ (by omega)]
  have hlen := hR2.len
  rw [hP.lN] at hlen
  have hLN := hP.lN
  have hqq : q * q ≤ 7 * 7 := Nat.mul_le_mul hP.sm.le hP.sm.le
  have hq7 := hP.sm.le
  have hn := hP.n
  have hn' : (q : Int) * (q : Int) + (q : Int) + 1 = (N : Int) := by rw [hn]; push_cast; rfl
  have fzn := f1 n (Nat.le_refl _)
  have fza : Nat.mod (bit N1) (bit n) = 0 := frz_bit (by omega)
  have ha : i % N < N := Nat.mod_lt _ hN0
  have hri : binV PG .rem 3 (.int .i64 (i : Int)) (.int .i64 (N : Int)) = some (.int .i64 ((i % N : Nat) : Int)) := binV_rem_nat (by omega)
  generalize i % N = g at *
  have hbel := hR2.bel (N1 + 1) (Nat.le_refl _)
  simp (implicitDefEqProofs := false) (disch := omega) only [WPs, opds, List.all_cons, List.all_nil, List.cons_append, List.nil_append, cond_true, cond_false, eq_self, List.map_cons, List.map_nil, Nat.reduceAdd, Nat.testBit, Nat.reduceShiftRight, Nat.reduceAnd, Nat.reduceBNe, Nat.reduceMul, d2, hlen, hbel, conv_u8 hi, hri]
  rw [cellsC_zero]
  obtain ⟨lg, g1, g2, g3⟩ := hP.row g ha
  have hgd : L.getD g [] = lg := by rw [List.getD_eq_getElem?_getD, g1]; rfl
  have hrow : ∀ r ∈ L, r.length ≤ 8 ∧ ∀ x ∈ r, 0 ≤ x ∧ x < (N : Int) := fun r hr => by
    obtain ⟨i', hi', rfl⟩ := List.getElem_of_mem hr
    obtain ⟨r', h1, h2, h3⟩ := hP.row i' (by omega)
    rw [(List.getElem?_eq_some_iff.1 h1).2]
    exact ⟨by omega, h3⟩
  refine wr_kont (shr_L1 T.e21 hR2 (Nat.lt_succ_self _) d2 hLN hN57 hq7 g1 hrow (fun j hj hjg => by rw [← hgd]; exact hP.left hj ha hjg) _ _ _ _ (fun x0 M3 w3 hM3 hc3 hw3 rr => ?_) N 0 (by omega) _ _ 0 (fun b hb => fput_ne _ _ _ _ (by omega)) (fput_same _ _ _) (fun _ _ => Nat.zero_mod _))
  simp (implicitDefEqProofs := false) (disch := omega) only [WPs, opds, List.all_cons, List.all_nil, List.cons_append, List.nil_append, cond_true, cond_false, eq_self, List.map_cons, List.map_nil, Nat.reduceAdd, Nat.testBit, Nat.reduceShiftRight, Nat.reduceAnd, Nat.reduceBNe, Nat.reduceMul]
  have hR3 := hR2.frame (n' := N1 + 1 + 1) (by omega) hM3
  have d3 : M3 N1 = some (.cells [.int .i64 (N : Int), rv] 0 false true) := (hM3 N1 (by omega)).trans d2
  have fz3 := hw3 n (by omega)
  have fzc : Nat.mod (bit (N1 + 1)) (bit n) = 0 := frz_bit (by omega)
  refine wr_kont (shr_L2 T.e21 hR3 (by omega) d3 hN57 hq7 g1 (by omega) hc3 (fun p hp => by rw [← hgd]; exact hP.tot hF hNN ha hp) _ _ _ _ _ _ (fun x0 rr => ?_) N 0 (by omega) _)
  simp (implicitDefEqProofs := false) (disch := omega) only [WPs, opds, List.all_cons, List.all_nil, List.cons_append, List.nil_append, cond_true, cond_false, eq_self, List.map_cons, List.map_nil, Nat.reduceAdd, Nat.testBit, Nat.reduceShiftRight, Nat.reduceAnd, Nat.reduceBNe, Nat.reduceMul]
  exact ⟨fzn, fz3⟩
end Go.Am.C06
namespace Go.Am.C06
open Go Go.Am Go.Am.V
set_option maxRecDepth 1000000
theorem calls_of {f : Nat} {args : List Value} (hrun : ∀ m n, Pure (callW PG (look tabC) YC f args m n) m n (.bool true)) (hf : args.all addrFree = true) (w : World) :
    Calls Proofs.Try.prog f args.toArray w fun e w' => e = .returned (.bool true) ∧ RowKit.Below w.heap.size w w' := by
  obtain ⟨r, hr⟩ := hrun FM0 0
  obtain ⟨k, hk⟩ := callW_some hr
  exact envC.topA (free_args hf) hk w
theorem size_okf {z q N : Nat} {A M : Tab} {L : List (List Int)} (hP : Pl q N A M L) : okF N L = true := by
  have hsm := hP.sm.size
  have h7 := hP.sm.le
  have h1 := hP.pr
  have h2 := hP.n
  cases hsm
  · rw [pts2, proj2] at h1; subst h1; subst h2; exact okf2
  · rw [pts3, proj3] at h1; subst h1; subst h2; exact okf3
  · rw [pts4, proj4] at h1; subst h1; subst h2; exact okf4
  · rw [pts5, proj5] at h1; subst h1; subst h2; exact okf5
  · rw [pts7, proj7] at h1; subst h1; subst h2; exact okf7
  · omega
  · omega
end Go.Am.C06
namespace Go.Am.C06
open Go Go.Am Go.Am.V
set_option maxRecDepth 1000000
theorem okn2 : okN 7 L2 = true := by kernel_rfl
theorem okn3 : okN 13 L3 = true := by kernel_rfl
theorem okn4 : okN 21 L4 = true := by kernel_rfl
theorem okn5 : okN 31 L5 = true := by kernel_rfl
theorem okn7 : okN 57 L7 = true := by kernel_rfl
theorem size_okn {q N : Nat} {A M : Tab} {L : List (List Int)} (hP : Pl q N A M L) : okN N L = true := by
  have hsm := hP.sm.size
  have h7 := hP.sm.le
  have h1 := hP.pr
  have h2 := hP.n
  cases hsm
  · rw [pts2, proj2] at h1; subst h1; subst h2; exact okn2
  · rw [pts3, proj3] at h1; subst h1; subst h2; exact okn3
  · rw [pts4, proj4] at h1; subst h1; subst h2; exact okn4
  · rw [pts5, proj5] at h1; subst h1; subst h2; exact okn5
  · rw [pts7, proj7] at h1; subst h1; subst h2; exact okn7
  · omega
  · omega
theorem planeShrinks_calls (z : Nat) (hz : z < 256) (i : Nat) (hi : i < 256) (w : World) : Calls Proofs.Try.prog 7 #[.int .u8 z, .int .u8 i] w fun e w' => e = .returned (.bool true) ∧ RowKit.Below w.heap.size w w' := by
  obtain ⟨q, N, A, M, L, hq, hP⟩ := size_pl z
  exact calls_of (args := [.int .u8 z, .int .u8 i]) (fun m n => planeShrinks_exec enC hz hi hq hP (size_okf (z := z) hP) (size_okn hP) m n) rfl w
theorem nat_u8 {a : Int} (h : (Lit.int .u8 a).wf = true) : ∃ z : Nat, z < 256 ∧ a = (z : Int) := by
  simp only [Lit.wf, Bool.and_eq_true, decide_eq_true_eq] at h
  have h1 : IntKind.u8.min = 0 := by kernel_rfl
  have h2 : IntKind.u8.max = 255 := by kernel_rfl
  rw [h1, h2] at h
  exact ⟨a.toNat, by omega, by omega⟩
theorem planeParallel_calls (z : Nat) (hz : z < 256) (l i k : Int) (hl : (Lit.int .u8 l).wf = true) (hi : (Lit.int .u8 i).wf = true) (hk : (Lit.int .u8 k).wf = true) (w : World) : Calls Proofs.Try.prog 6 #[.int .u8 z, .agg #[.int .u8 l, .int .u8 i, .int .u8 k]] w fun e w' => e = .returned (.bool true) ∧ RowKit.Below w.heap.size w w' := by
  obtain ⟨q, N, A, M, G, hq, hA⟩ := size_af z
  obtain ⟨l, hl', rfl⟩ := nat_u8 hl
  obtain ⟨i, hi', rfl⟩ := nat_u8 hi
  obtain ⟨k, hk', rfl⟩ := nat_u8 hk
  exact calls_of (args := [.int .u8 z, .agg #[.int .u8 l, .int .u8 i, .int .u8 k]]) (fun m n => planeParallel_exec enC hz hl' hi' hk' hq hA m n) rfl w
end Go.Am.C06
namespace Go.Am
open Go Go.RowKit Go.ChangeShapes
theorem post_below {H : Type} {enc : TypeId × Value → H} {P : Program} {f : Func} {s : ChangeSpec} {apart fresh handsOn again : Bool} {W W' : World} {args : Array Value} {v : Value} {ds gs : List (DataW H)} {before pa pv : List MemPlace}
    (hW : DataW.Whole enc P f.params.toList s.vars apart W args.toList ds gs before)
    (hres : ∀ (b : Nat) (sp : Nat → Bool) (hd : Bool), DataW.TrodAll enc P W' b sp hd f.resultTypes.toList (v.resultList f.resultTypes.size) (s.fn H (ds ++ gs)).results [])
    (hargs : ∀ sp : Nat → Bool, (∀ p ∈ before, sp p.block = true) → DataW.TrodAll enc P W' 0 sp true f.params.toList args.toList (s.fn H (ds ++ gs)).args pa)
    (hvars : ∀ sp : Nat → Bool, (∀ p ∈ before, sp p.block = true) → DataW.TrodVars enc P W' sp s.vars (s.fn H (ds ++ gs)).vars pv)
    (hps : before = pa ++ pv) (hb : Below W.heap.size W W')
    (hok : ∀ (j : Nat) (t : TypeId) (r : Value), f.resultTypes[j]? = some t → (v.resultList f.resultTypes.size)[j]? = some r → Value.okWide P W' .any 0 t r) :
    s.post enc P f apart fresh handsOn again W args v W' := by
  have hlt := hW.lt
  obtain ⟨_, _, _, _, _, hz, hn⟩ := id hW
  refine ⟨ds, gs, before, [], pa, pv, hW, hres _ _ _, hargs _ fun p hp => by simpa using hlt p hp, hvars _ fun p hp => by simpa using hlt p hp, World.keptBut_mono (fun p hp => ⟨hp, ?_⟩) (hb.frame (· ∈ before)), fun _ => ⟨hok, _, _, ([] ++ pa) ++ pv, ⟨[] ++ pa, pv, trodAll_append (hargs _ fun _ _ => rfl) (hres _ _ _), hvars _ fun _ _ => rfl, rfl, fun b off hp => ?_, fun ha => ?_⟩, fun p hp _ => ?_⟩⟩
  · rw [hps, List.mem_append] at hp; exact .inr hp
  · have hm : MemPlace.cell b off ∈ before := by rw [hps]; simpa using hp
    rw [hb.frozen (p := ⟨b, off, none⟩) (hlt _ hm)]
    exact hz b off hm
  · have := hn ha
    rw [hps] at this
    simpa using this
  · rw [hps]; simpa using hp
end Go.Am
namespace Go.Am
open Go Go.ChangeShapes Go.WideShapes Go.RowKit
section
variable {H : Type} {enc : TypeId × Value → H} {P : Program} {W : World} {base : Nat} {sp : Nat → Bool} {held : Bool} {t e : TypeId} {k : IntKind}
theorem open_arr3 {r : Reach} {b0 : Nat} {v : Value} {d : DataW H} {ps : List MemPlace} (hu : P.underlying t = some (.array 3 e)) (he : P.underlying e = some (.int k)) (h1 : P.cellsOf e = 1) (hs : P.cellsOf t = 3) (hval : Value.okWide P W r b0 t v) (hd : DataW.Trod enc P W base sp held t v d ps) :
    ∃ a b c, v = .agg #[.int k a, .int k b, .int k c] ∧ d = .agg [.lit (.int k a), .lit (.int k b), .lit (.int k c)] ∧ ps = [] ∧ (Lit.int k a).wf = true ∧ (Lit.int k b).wf = true ∧ (Lit.int k c).wf = true := by
  simp only [Value.okWide, hu] at hval
  obtain ⟨cs, rfl, hcs, _⟩ := hval
  rw [hs] at hcs
  obtain ⟨l⟩ := cs
  match l, hcs with
  | [x, y, z], _ =>
    obtain ⟨fuel, hf⟩ := hd
    cases fuel with
    | zero => simp [DataW.trod] at hf
    | succ m =>
      unfold DataW.trod at hf
      simp only [hu, Value.cells, h1, hs, List.length_cons, List.length_nil, if_true] at hf
      simp only [List.range_succ, List.range_zero, List.nil_append, List.cons_append, List.mapM_cons, List.mapM_nil, bind, Option.bind_eq_some_iff, Option.map_eq_some_iff, pure, Option.some.injEq] at hf
      obtain ⟨_, ⟨p1, g1, _, ⟨p2, g2, _, ⟨p3, g3, _, rfl, rfl⟩, rfl⟩, rfl⟩, hx⟩ := hf
      obtain ⟨a, ea, rfl, wa⟩ := DataW.trod_int he g1
      obtain ⟨b, eb, rfl, wb⟩ := DataW.trod_int he g2
      obtain ⟨c, ec, rfl, wc⟩ := DataW.trod_int he g3
      simp at ea eb ec
      subst ea; subst eb; subst ec
      simp only [Prod.mk.injEq] at hx
      exact ⟨a, b, c, rfl, hx.1.symm, by simpa using hx.2.symm, wa, wb, wc⟩
theorem shut_arr3 {a b c : Int} (hu : P.underlying t = some (.array 3 e)) (he : P.underlying e = some (.int k)) (h1 : P.cellsOf e = 1) (hs : P.cellsOf t = 3) (wa : (Lit.int k a).wf = true) (wb : (Lit.int k b).wf = true) (wc : (Lit.int k c).wf = true) :
    DataW.Trod enc P W base sp held t (.agg #[.int k a, .int k b, .int k c]) (.agg [.lit (.int k a), .lit (.int k b), .lit (.int k c)]) [] :=
  ⟨2, by simp [DataW.trod, Value.cells, hu, he, h1, hs, wa, wb, wc, List.range_succ]⟩
end
end Go.Am
