/- The machine and its runs, part E: Am07se. -/
import Derived.Test.YtfkbmdhlopkfnaaB16
set_option linter.unusedVariables false
set_option linter.unusedSimpArgs false
set_option linter.unusedSectionVars false
namespace Go.Am.C07
open Go Go.Am
variable {E : Nat → Option AFn} {Y : Nat → List Value → FM → Nat → OR FM}
theorem app_cp {M : FM} {N b r w : Nat} {xs : List Value} (hw : 0 < w) :
    Rt (appG M N 1 0 w 0 [] xs r (some ⟨b, 0, none⟩)) fun v' M' N' wm =>
      v' = .slice (some ⟨N, 0, none⟩) w UNK ∧ N' = N + 1 ∧ M' = AMem.put M N (some (.cells xs 1 true true)) ∧ wm = bit N := by
  show Rt (cond (Nat.ble (Nat.add 0 w) 0) (appR M N 1 0 (0 + w) 0 xs r b 0 (getb M N b)) (appN M N 1 (0 + w) ([] ++ xs) r)) _
  have hle : Nat.ble (Nat.add 0 w) 0 = false := by
    cases hq : Nat.ble (Nat.add 0 w) 0
    · rfl
    · have : 0 + w ≤ 0 := Nat.le_of_ble_eq_true hq
      omega
  rw [hle, cond_false, Nat.zero_add, List.nil_append]
  exact ⟨rfl, rfl, rfl, rfl⟩
theorem ints_one (x : List Int) : (x.map (Value.int .i64)).all Am.one = true := by
  rw [List.all_eq_true]
  intro v hv
  obtain ⟨z, _, rfl⟩ := List.mem_map.1 hv
  rfl
theorem sc_int {xs : List Int} {i : Nat} (a : Int) (h : i < xs.length) : setCells (xs.map (Value.int .i64)) i [.int .i64 a] = some ((xs.set i a).map (Value.int .i64)) := by
  rw [setCells_eq, if_pos (by simp; omega)]
  congr 1
  rw [List.map_set]
  rw [List.set_eq_take_append_cons_drop, if_pos (by simpa using h), List.append_assoc]
  rfl
theorem cg_int {xs : List Int} {i : Nat} {a : Int} (h : xs[i]? = some a) : cget (xs.map (Value.int .i64)) i = some (.int .i64 a) := by
  rw [cget_eq, List.getElem?_map, h]; rfl
theorem rc_L0 {m : FM} {n lb w : Nat} (hl : lb < n) (hw : w ≤ 1000) (y1 y3 y4 y5 : Value) (ys : List Value) {Q : AX → List Value → FM → Nat → Nat → Prop}
    (hQ : ∀ M, (∀ b, b ≠ lb → M b = m b) → M lb = some (.cells ((upto 0 w).map (Value.int .i64)) 1 false true) → ∀ w2, (∀ j, j ≤ lb → Nat.mod w2 (bit j) = 0) → Q (.exit 0) (y1 :: .slice (some ⟨lb, 0, none⟩) w w :: y3 :: y4 :: y5 :: .int .i64 (w : Int) :: ys) M n w2) :
    ∀ j i, i + j = w → ∀ M : FM, (∀ b, b ≠ lb → M b = m b) → ∀ xs : List Int, xs.length = w → (∀ k, k < i → xs[k]? = some (k : Int)) → M lb = some (.cells (xs.map (Value.int .i64)) 1 false true) → ∀ w0, (∀ j, j ≤ lb → Nat.mod w0 (bit j) = 0) →
    Gv (execW PG E Y ac14L0 (.int .i64 (i : Int) :: y1 :: .slice (some ⟨lb, 0, none⟩) w w :: y3 :: y4 :: y5 :: .int .i64 (w : Int) :: ys) M n) fun X e m n w => Q X e m n (Nat.lor w0 w) := by
  intro j
  induction j with
  | zero =>
    intro i hi M hM xs hxl hx hml w0 hw0
    obtain rfl : i = w := by omega
    have e : xs = upto 0 i := by
      apply List.ext_getElem?
      intro k
      by_cases hk : k < i
      · rw [hx k hk, upto_get 0 i k hk, Int.zero_add]
      · rw [List.getElem?_eq_none (by omega), List.getElem?_eq_none (by rw [upto_len]; omega)]
    subst e
    refine wr_loopN (L := ac14L0) (b := ac14L0b) rfl ?_
    simp only [ac14L0b]
    simp (implicitDefEqProofs := false) (disch := omega) only [W2, opds, Nat.testBit, Nat.reduceAdd, Nat.reduceShiftRight, Nat.reduceAnd, Nat.reduceBNe, Nat.reduceMul]
    exact hQ M hM hml _ hw0
  | succ j ih =>
    intro i hi M hM xs hxl hx hml w0 hw0
    have hiw : i < w := by omega
    refine wr_loopN (L := ac14L0) (b := ac14L0b) rfl ?_
    simp only [ac14L0b]
    have hlm : (xs.map (Value.int .i64)).length = w := by rw [List.length_map, hxl]
    simp (implicitDefEqProofs := false) (disch := omega) only [W2, opds, Nat.testBit, Nat.reduceAdd, Nat.reduceShiftRight, Nat.reduceAnd, Nat.reduceBNe, Nat.reduceMul, hml, hlm, sc_int (xs := xs) (i := i) (i : Int) (by omega)]
    have ih' := ih (i + 1) (by omega) (AMem.put M lb (some (.cells ((xs.set i (i : Int)).map (Value.int .i64)) 1 false true))) (fun b hb => by rw [fput_ne _ _ _ _ hb]; exact hM b hb) (xs.set i (i : Int)) (by rw [List.length_set, hxl]) (fun k hk => ?_) (fput_same _ _ _) (Nat.lor w0 (bit lb)) (fun j hj => by rw [frz_iff]; exact ⟨hw0 j hj, frz_bit hj⟩)
    · refine wr_end ih' fun X e m n w hq => ?_
      rw [← lor_assoc']; exact hq
    · by_cases hki : k = i
      · subst hki; rw [List.getElem?_set_self (by omega)]
      · rw [List.getElem?_set_ne (by omega)]; exact hx k (by omega)
theorem rc_L1 {M : FM} {N lb D w : Nat} (hwD : w ≤ D) (hD : D ≤ 60) (hlb : lb < N) {x : List Int} (hx : x.length = w) (hM : M lb = some (.cells (x.map (Value.int .i64)) 1 false true)) (c : Nat)
    (ht : ∀ j, c ≤ j → j < w → x[j]? = some ((D - w + j : Nat) : Int)) (hc : ∀ k, c = k + 1 → ∃ a : Int, x[k]? = some a ∧ a ≠ ((D - w + k : Nat) : Int))
    (y1 y2 y3 y4 y5 y6 y7 y8 y9 y11 y12 : Value) (ys : List Value) {Q : AX → List Value → FM → Nat → Nat → Prop}
    (hQ : Q (.exit 4) (.int .i64 ((c : Int) - 1) :: y1 :: y2 :: y3 :: y4 :: y5 :: y6 :: y7 :: y8 :: y9 :: .slice (some ⟨lb, 0, none⟩) w w :: y11 :: y12 :: .int .i64 (D : Int) :: .int .i64 (w : Int) :: ys) M N 0) :
    ∀ k, c ≤ k → k ≤ w → ∀ i : Int, i = (k : Int) - 1 → Gv (execW PG E Y ac14L1 (.int .i64 i :: y1 :: y2 :: y3 :: y4 :: y5 :: y6 :: y7 :: y8 :: y9 :: .slice (some ⟨lb, 0, none⟩) w w :: y11 :: y12 :: .int .i64 (D : Int) :: .int .i64 (w : Int) :: ys) M N) Q := by
  intro k
  induction k with
  | zero =>
    intro h1 h2 i hi
    obtain rfl : c = 0 := by omega
    have e : ((0 : Nat) : Int) - 1 = i := by omega
    rw [e] at hQ
    have hge : ¬ i ≥ 0 := by omega
    refine wr_loopN (L := ac14L1) (b := ac14L1b) rfl ?_
    simp only [ac14L1b]
    simp (implicitDefEqProofs := false) (disch := omega) only [W2, opds, Nat.testBit, Nat.reduceAdd, Nat.reduceShiftRight, Nat.reduceAnd, Nat.reduceBNe, Nat.reduceMul, decide_eq_false hge]
    exact hQ
  | succ k ih =>
    intro h1 h2 i hi
    obtain rfl : i = (k : Int) := by omega
    have hge : (k : Int) ≥ 0 := by omega
    refine wr_loopN (L := ac14L1) (b := ac14L1b) rfl ?_
    simp only [ac14L1b]
    by_cases hk : c = k + 1
    · obtain ⟨a, ha, hne⟩ := hc k hk
      have e : (c : Int) - 1 = (k : Int) := by omega
      rw [e] at hQ
      simp (implicitDefEqProofs := false) (disch := omega) only [W2, opds, Nat.testBit, Nat.reduceAdd, Nat.reduceShiftRight, Nat.reduceAnd, Nat.reduceBNe, Nat.reduceMul, decide_eq_true hge, hM, cg_int ha, decide_eq_false hne]
      exact hQ
    · have hxk := ht k (by omega) (by omega)
      have hb : binV PG .sub 3 (.int .i64 (k : Int)) (.int .i64 1) = some (.int .i64 ((k : Int) - 1)) := by
        show some (Value.int .i64 (wrapF .i64 ((k : Int) - 1))) = _
        rw [wrapF_eq, wrap_small (by omega) (by omega)]
      simp (implicitDefEqProofs := false) (disch := omega) only [W2, opds, Nat.testBit, Nat.reduceAdd, Nat.reduceShiftRight, Nat.reduceAnd, Nat.reduceBNe, Nat.reduceMul, decide_eq_true hge, hM, cg_int hxk, hb]
      exact wr_end (ih (by omega) (by omega) _ rfl) fun X e m n w hq => by simpa only [zero_lor'] using hq
theorem rc_L2 {m : FM} {n lb w s : Nat} {u : List Int} (hl : lb < n) (hw : w ≤ 1000) (hul : u.length = w) (hu : ∀ j, s < j → j < w → ∃ b : Int, u[j - 1]? = some b ∧ u[j]? = some (b + 1)) (hub : ∀ x ∈ u, 0 ≤ x ∧ x < 1000) (y1 y2 y3 y4 y5 y6 y7 y8 y9 y10 y11 y12 y13 y14 y15 y16 y18 y19 y20 : Value) (ys : List Value) {Q : AX → List Value → FM → Nat → Nat → Prop}
    (hQ : ∀ M, (∀ b, b ≠ lb → M b = m b) → M lb = some (.cells (u.map (Value.int .i64)) 1 false true) → ∀ w2, (∀ j, j ≤ lb → Nat.mod w2 (bit j) = 0) → Q (.exit 6) (.int .i64 (w : Int) :: y1 :: y2 :: y3 :: y4 :: y5 :: y6 :: y7 :: y8 :: y9 :: y10 :: y11 :: y12 :: y13 :: y14 :: y15 :: y16 :: .slice (some ⟨lb, 0, none⟩) w w :: y18 :: y19 :: y20 :: .int .i64 (w : Int) :: ys) M n w2) :
    ∀ j k, k + j = w → s < k → ∀ M : FM, (∀ b, b ≠ lb → M b = m b) → ∀ xs : List Int, xs.length = w → (∀ i, i < k → xs[i]? = u[i]?) → M lb = some (.cells (xs.map (Value.int .i64)) 1 false true) → ∀ w0, (∀ j, j ≤ lb → Nat.mod w0 (bit j) = 0) →
    Gv (execW PG E Y ac14L2 (.int .i64 (k : Int) :: y1 :: y2 :: y3 :: y4 :: y5 :: y6 :: y7 :: y8 :: y9 :: y10 :: y11 :: y12 :: y13 :: y14 :: y15 :: y16 :: .slice (some ⟨lb, 0, none⟩) w w :: y18 :: y19 :: y20 :: .int .i64 (w : Int) :: ys) M n) fun X e m n w => Q X e m n (Nat.lor w0 w) := by
  intro j
  induction j with
  | zero =>
    intro k hk hsk M hM xs hxl hx hml w0 hw0
    obtain rfl : k = w := by omega
    have e : xs = u := by
      apply List.ext_getElem?
      intro i
      by_cases hi : i < k
      · exact hx i hi
      · rw [List.getElem?_eq_none (by omega), List.getElem?_eq_none (by omega)]
    subst e
    refine wr_loopN (L := ac14L2) (b := ac14L2b) rfl ?_
    simp only [ac14L2b]
    simp (implicitDefEqProofs := false) (disch := omega) only [W2, opds, Nat.testBit, Nat.reduceAdd, Nat.reduceShiftRight, Nat.reduceAnd, Nat.reduceBNe, Nat.reduceMul]
    exact hQ M hM hml _ hw0
  | succ j ih =>
    intro k hk hsk M hM xs hxl hx hml w0 hw0
    have hkw : k < w := by omega
    obtain ⟨b, hb1, hb2⟩ := hu k hsk hkw
    have hbb := hub b (List.mem_of_getElem? hb1)
    have hx1 : xs[k - 1]? = some b := by rw [hx (k - 1) (by omega), hb1]
    refine wr_loopN (L := ac14L2) (b := ac14L2b) rfl ?_
    simp only [ac14L2b]
    have hlm : (xs.map (Value.int .i64)).length = w := by rw [List.length_map, hxl]
    have hwb : IntKind.i64.wrap (b + 1) = b + 1 := wrap_small (by omega) (by omega)
    simp (implicitDefEqProofs := false) (disch := omega) only [W2, opds, Nat.testBit, Nat.reduceAdd, Nat.reduceShiftRight, Nat.reduceAnd, Nat.reduceBNe, Nat.reduceMul, hml, hlm, cg_int hx1, hwb, sc_int (xs := xs) (i := k) (b + 1) (by omega)]
    have ih' := ih (k + 1) (by omega) (by omega) (AMem.put M lb (some (.cells ((xs.set k (b + 1)).map (Value.int .i64)) 1 false true))) (fun c hc => by rw [fput_ne _ _ _ _ hc]; exact hM c hc) (xs.set k (b + 1)) (by rw [List.length_set, hxl]) (fun i hi => ?_) (fput_same _ _ _) (Nat.lor w0 (bit lb)) (fun j hj => by rw [frz_iff]; exact ⟨hw0 j hj, frz_bit hj⟩)
    · refine wr_end ih' fun X e m n w hq => ?_
      rw [← lor_assoc']; exact hq
    · by_cases hki : i = k
      · subst hki; rw [List.getElem?_set_self (by omega), hb2]
      · rw [List.getElem?_set_ne (by omega)]; exact hx i (by omega)
structure RcS (m : FM) (n1 db rb lb : Nat) (D : Nat) (w : Nat) (M : FM) (N : Nat) (gs : List (List Int)) (x : List Int) : Prop where
  le : n1 ≤ N
  low : ∀ b, b < n1 → b ≠ db → b ≠ lb → M b = m b
  d : ∃ rv, M db = some (.cells [.int .i64 (D : Int), rv] 0 false true) ∧ RowsZ M n1 N rv gs
  l : M lb = some (.cells (x.map (Value.int .i64)) 1 false true)
  xl : x.length = w
  inc : Inc D 0 x
theorem rc_L3 {m : FM} {n0 n1 db rb lb D w : Nat} (hn0 : n0 ≤ db ∧ n0 ≤ rb ∧ n0 ≤ lb) (hw : 2 ≤ w) (hwD : w ≤ D) (hD : D ≤ 60) (hdb : db < n1) (hrb : rb < n1) (hlb : lb < n1) (h1 : db ≠ rb) (h2 : db ≠ lb) (h3 : rb ≠ lb) (hr : m rb = some (.cells [.int .i64 0, .slice none 0 0] 0 false true)) (y : Value) {Q : AX → List Value → FM → Nat → Nat → Prop} (z : List Int) (hz : z = upto (D - (w : Int)) w) (all : List (List Int))
    (hQ : ∀ rv M' N' w2 e, n1 ≤ N' → (∀ b, b < n0 → M' b = m b) → (∀ j, j ≤ n0 → Nat.mod w2 (bit j) = 0) → addrFree (.agg #[.int .i64 (D : Int), rv]) = false → RowsZ M' n1 N' rv all → Q (.ret (.agg #[.int .i64 (D : Int), rv])) e M' N' w2) :
    ∀ (d : Nat) (L : List (List Int)), L.length = d → ∀ (x : List Int) (gs : List (List Int)) (M : FM) (N : Nat) (w0 : Nat), Path D x L z → (∀ u ∈ L, Inc D 0 u) → gs.length + L.length ≤ 100000 → gs ++ x :: L = all → (∀ j, j ≤ n0 → Nat.mod w0 (bit j) = 0) → RcS m n1 db rb lb D w M N gs x →
    Gv (execW PG E Y ac14L3 [y, .slice (some ⟨lb, 0, none⟩) w w, .pointer (some ⟨db, 0, none⟩), .pointer (some ⟨rb, 0, none⟩), .int .i64 (D : Int), .int .i64 (w : Int)] M N) fun X e m n w => Q X e m n (Nat.lor w0 w) := by
  intro d
  induction d using Nat.strongRecOn with
  | _ d ih =>
    intro L hLd x gs M N w0 hP hL hgl hall hw0 hS
    refine wr_loopN (L := ac14L3) (b := ac14L3b) rfl ?_
    simp only [ac14L3b]
    obtain ⟨le, low, ⟨rv, d1, d2⟩, l1, xl, inc⟩ := hS
    have hro := d2.one
    have hrbel := d2.bel N (Nat.le_refl _)
    have hrbel3 := d2.bel (N + 3) (by omega)
    have hct : ctake (x.map (Value.int .i64)) w = some (x.map (Value.int .i64)) := cells_all (by rw [List.length_map, xl])
    simp (implicitDefEqProofs := false) (disch := omega) only [W2, opds, Nat.testBit, Nat.reduceAdd, Nat.reduceShiftRight, Nat.reduceAnd, Nat.reduceBNe, Nat.reduceMul, d1, l1, hro, hrbel, hrbel3, hct, ints_one x]
    refine use_rtX (app_cp (by omega)) fun v1 M1 N1 r1 w1 ⟨hv1, hn1, hm1, hw1⟩ => ?_
    subst hv1
    subst hn1
    subst hm1
    subst hw1
    simp (implicitDefEqProofs := false) (disch := omega) only [W2, opds, Nat.testBit, Nat.reduceAdd, Nat.reduceShiftRight, Nat.reduceAnd, Nat.reduceBNe, Nat.reduceMul, d1, l1, hro, hrbel, hrbel3]
    generalize hM3 : (AMem.put (AMem.put (AMem.put M N (some (.cells [] 1 false true))) (N + 1) (some (.cells (x.map (Value.int .i64)) 1 true true))) (N + 2) (some (.cells [.slice (some ⟨N + 1, 0, none⟩) w UNK] 1 false true)) : FM) = M3
    have o3 : ∀ b, b < N → M3 b = M b := fun b hb => by rw [← hM3, fput_ne _ _ _ _ (by omega), fput_ne _ _ _ _ (by omega), fput_ne _ _ _ _ (by omega)]
    have x3 : M3 (N + 1) = some (.cells (x.map (Value.int .i64)) 1 true true) := by rw [← hM3, fput_ne _ _ _ _ (by omega)]; exact fput_same _ _ _
    have hZ : IntZ M3 N (N + 3) (.slice (some ⟨N + 1, 0, none⟩) w UNK) x := .inr ⟨by omega, by rw [List.length_map]; omega, N + 1, by rw [xl], by omega, by omega, x3⟩
    refine use_rtX (app_rowsZ (n0 := n1) (n1 := N) (gs := gs) (g := x) (RowsZ.frame d2 (Nat.le_refl _) fun b h1 h2 => o3 b h2) hZ (by omega) (by omega) (some ⟨N + 2, 0, none⟩) 1 (bit (N + 2)) (by omega)) fun v5 M5 N5 r5 w5 hA => ?_
    obtain ⟨av, an, as5, al, aw⟩ := hA
    subst an
    subst av
    have d5 : M5 db = some (.cells [.int .i64 (D : Int), rv] 0 false true) := by rw [al db hdb, o3 db (by omega)]; exact d1
    have l5 : M5 lb = some (.cells (x.map (Value.int .i64)) 1 false true) := by rw [al lb hlb, o3 lb (by omega)]; exact l1
    simp (implicitDefEqProofs := false) (disch := omega) only [W2, opds, Nat.testBit, Nat.reduceAdd, Nat.reduceShiftRight, Nat.reduceAnd, Nat.reduceBNe, Nat.reduceMul, d5, l5]
    generalize hM6 : (AMem.put M5 db (some (.cells [.int .i64 (D : Int), .slice (some ⟨N + 3, 0, none⟩) (gs ++ [x]).length UNK] 0 false true)) : FM) = M6
    have d6 : M6 db = some (.cells [.int .i64 (D : Int), .slice (some ⟨N + 3, 0, none⟩) (gs ++ [x]).length UNK] 0 false true) := by rw [← hM6]; exact fput_same _ _ _
    have o6 : ∀ b, b ≠ db → M6 b = M5 b := fun b hb => by rw [← hM6, fput_ne _ _ _ _ hb]
    have l6 : M6 lb = some (.cells (x.map (Value.int .i64)) 1 false true) := by rw [o6 lb (Ne.symm h2)]; exact l5
    have low6 : ∀ b, b < n1 → b ≠ db → b ≠ lb → M6 b = m b := fun b hb k1 k2 => by rw [o6 b k1, al b hb, o3 b (by omega)]; exact low b hb k1 k2
    have as6 : RowsZ M6 n1 (N + 4) (.slice (some ⟨N + 3, 0, none⟩) (gs ++ [x]).length UNK) (gs ++ [x]) := RowsZ.frame as5 (Nat.le_refl _) fun b k1 _ => o6 b (by omega)
    have r6 : M6 rb = some (.cells [.int .i64 0, .slice none 0 0] 0 false true) := by rw [low6 rb hrb (Ne.symm h1) h3]; exact hr
    cases L with
    | nil =>
      have hxz : x = z := hP
      have hp := last_places (D : Int) w
      rw [← hz, ← hxz] at hp
      refine wr_kont (rc_L1 hwD hD (by omega) xl l6 0 (fun j _ hj => by rw [hp j hj]; congr 1; omega) (fun k hk => by omega) _ _ _ _ _ _ _ _ _ _ _ [] ?_ w (by omega) (Nat.le_refl _) _ (by omega))
      intro rr
      simp (implicitDefEqProofs := false) (disch := omega) only [W2, opds, Nat.testBit, Nat.reduceAdd, Nat.reduceShiftRight, Nat.reduceAnd, Nat.reduceBNe, Nat.reduceMul, d6, r6]
      refine hQ _ _ _ _ _ (by omega) (fun b hb => by rw [fput_ne _ _ _ _ (by omega)]; exact low6 b (by omega) (by omega) (by omega)) (fun j hj => ?_) rfl (by rw [← hall]; exact RowsZ.frame as6 (Nat.le_refl _) fun b k1 _ => fput_ne _ _ _ _ (by omega))
      simp only [frz_iff]
      exact ⟨hw0 j hj, ⟨⟨⟨⟨frz_bit (by omega), frz_bit (by omega)⟩, frz_bit (by omega)⟩, aw j (by omega)⟩, frz_bit (by omega)⟩, frz_bit (by omega)⟩
    | cons u L =>
      obtain ⟨hN, hP2⟩ := hP
      obtain ⟨hul, s, hs, g1, ⟨a, g2, g3, g4⟩, g5, g6⟩ := hN.places
      rw [xl] at hs g1 g3 g6 hul
      refine wr_kont (rc_L1 hwD hD (by omega) xl l6 (s + 1) (fun j h1 hj => by rw [g1 j (by omega) hj]; congr 1; omega) (fun k hk => ⟨a, by rw [show k = s by omega]; exact g2, by omega⟩) _ _ _ _ _ _ _ _ _ _ _ [] ?_ w (by omega) (Nat.le_refl _) _ (by omega))
      intro rr
      rw [show ((s + 1 : Nat) : Int) - 1 = (s : Int) by omega]
      have ha := inc.mem a (List.mem_of_getElem? g2)
      have hwa : IntKind.i64.wrap (a + 1) = a + 1 := wrap_small (by omega) (by omega)
      simp (implicitDefEqProofs := false) (disch := omega) only [W2, opds, Nat.testBit, Nat.reduceAdd, Nat.reduceShiftRight, Nat.reduceAnd, Nat.reduceBNe, Nat.reduceMul, d6, r6, l6, cg_int g2, hwa, sc_int (xs := x) (i := s) (a + 1) (by omega)]
      have incu : Inc D 0 u := hL u (by simp)
      refine wr_kont (rc_L2 (m := M6) (lb := lb) (w := w) (s := s) (u := u) (by omega) (by omega) hul g6 (fun v hv => by have := incu.mem v hv; omega) _ _ _ _ _ _ _ _ _ _ _ _ _ _ _ _ _ _ _ [] (fun M7 hM7 l7 w7 hw7 => ?_) (w - (s + 1)) (s + 1) (by omega) (Nat.lt_succ_self _) (AMem.put M6 lb (some (.cells ((x.set s (a + 1)).map (Value.int .i64)) 1 false true))) (fun b hb => fput_ne _ _ _ _ hb) (x.set s (a + 1)) (by rw [List.length_set, xl]) (fun i hi => ?_) (fput_same _ _ _) 0 (fun _ _ => Nat.zero_mod _))
      · intro rr
        simp (implicitDefEqProofs := false) (disch := omega) only [W2, opds, Nat.testBit, Nat.reduceAdd, Nat.reduceShiftRight, Nat.reduceAnd, Nat.reduceBNe, Nat.reduceMul]
        have hf : ∀ j, j ≤ n0 → Nat.mod (Nat.lor w0 (Nat.lor (Nat.lor (Nat.lor (Nat.lor (Nat.lor (Nat.lor (bit N) (bit (N + 1))) (bit (N + 2))) w5) (bit db)) (bit lb)) w7)) (bit j) = 0 := fun j hj => by
          simp only [frz_iff]
          exact ⟨hw0 j hj, ⟨⟨⟨⟨⟨frz_bit (by omega), frz_bit (by omega)⟩, frz_bit (by omega)⟩, aw j (by omega)⟩, frz_bit (by omega)⟩, frz_bit (by omega)⟩, hw7 j (by omega)⟩
        simp only [List.length_cons] at hLd hgl
        refine wr_end (ih L.length (by omega) L rfl u (gs ++ [x]) M7 (N + 4) _ hP2 (fun v hv => hL v (by simp [hv])) (by rw [List.length_append, List.length_singleton]; omega) (by rw [← hall, List.append_assoc]; rfl) hf
          ⟨by omega, fun b hb k1 k2 => by rw [hM7 b k2]; exact low6 b hb k1 k2, ⟨_, by rw [hM7 db h2]; exact d6, RowsZ.frame as6 (Nat.le_refl _) fun b k1 _ => hM7 b (by omega)⟩, l7, hul, incu⟩) fun X e m n w hq => ?_
        rw [← lor_assoc']; exact hq
      · by_cases his : i = s
        · subst his; rw [List.getElem?_set_self (by omega), g4]
        · rw [List.getElem?_set_ne (by omega), g5 i (by omega)]
theorem refCpl_spec (hE : E 14 = some ac14) {D w : Nat} (hw : 2 ≤ w) (hwD : w ≤ D) (hD : D ≤ 60) (hch : ch D w ≤ 50000) (m : FM) (n : Nat) :
    Rt (callW PG E Y 14 [.int .i64 (D : Int), .int .i64 (w : Int)] m n) (Kpt m n fun v M' N' => DesV M' n N' v (D : Int) (combos D w 0 [])) := by
  refine kept_specQ hE rfl fun Q hQ => ?_
  simp only [ac14]
  simp (implicitDefEqProofs := false) (disch := omega) only [W2, opds, Nat.testBit, Nat.reduceAdd, Nat.reduceShiftRight, Nat.reduceAnd, Nat.reduceBNe, Nat.reduceMul]
  obtain ⟨L, hL1, hL2⟩ := combos_path (D := (D : Int)) D w 0 [] (by omega) hwD
  rw [List.nil_append] at hL1 hL2
  have hlen := cpl_len D w
  have hmem : ∀ u ∈ combos (D : Int) w 0 [], Inc D 0 u := fun u hu => (cpl_fm (D := D) (k := w) u hu).2
  generalize hM0 : (AMem.put (AMem.put (AMem.put m n (some (.cells [.int .i64 0, .slice none 0 0] 0 false true))) (n + 1) (some (.cells [.int .i64 (D : Int), .slice none 0 0] 0 false true))) (n + 2) (some (.cells (List.replicate w (.int .i64 0)) 1 false true)) : FM) = M0
  have a0 : M0 n = some (.cells [.int .i64 0, .slice none 0 0] 0 false true) := by rw [← hM0, fput_ne _ _ _ _ (by omega), fput_ne _ _ _ _ (by omega)]; exact fput_same _ _ _
  have a1 : M0 (n + 1) = some (.cells [.int .i64 (D : Int), .slice none 0 0] 0 false true) := by rw [← hM0, fput_ne _ _ _ _ (by omega)]; exact fput_same _ _ _
  have a2 : M0 (n + 2) = some (.cells ((List.replicate w (0 : Int)).map (Value.int .i64)) 1 false true) := by rw [← hM0, List.map_replicate]; exact fput_same _ _ _
  have lo : ∀ b, b < n → M0 b = m b := fun b hb => by rw [← hM0, fput_ne _ _ _ _ (by omega), fput_ne _ _ _ _ (by omega), fput_ne _ _ _ _ (by omega)]
  refine wr_kont (rc_L0 (m := M0) (n := n + 3) (lb := n + 2) (w := w) (by omega) (by omega) _ _ _ _ [] (fun M1 hM1 l1 w1 hw1 => ?_) w 0 (by omega) M0 (fun _ _ => rfl) (List.replicate w 0) List.length_replicate (fun k hk => by omega) a2 0 (fun _ _ => Nat.zero_mod _))
  intro rr
  simp (implicitDefEqProofs := false) (disch := omega) only [W2, opds, Nat.testBit, Nat.reduceAdd, Nat.reduceShiftRight, Nat.reduceAnd, Nat.reduceBNe, Nat.reduceMul]
  refine wr_kont (rc_L3 (m := M1) (n0 := n) (n1 := n + 3) (db := n + 1) (rb := n) (lb := n + 2) (D := D) (w := w) ⟨by omega, by omega, by omega⟩ hw hwD hD (by omega) (by omega) (by omega) (by omega) (by omega) (by omega) (by rw [hM1 n (by omega)]; exact a0) _ _ rfl (combos (D : Int) w 0 []) (fun rv M2 N2 w2 e k1 k2 k3 k4 k5 => ?_) L.length L rfl (upto 0 w) [] M1 (n + 3) 0 hL2 (fun u hu => hmem u (by rw [hL1]; simp [hu])) ?_ (by rw [hL1]; rfl) (fun _ _ => Nat.zero_mod _) ⟨Nat.le_refl _, fun b _ _ _ => rfl, ⟨_, by rw [hM1 (n + 1) (by omega)]; exact a1, RowsZ.nil _ _ _⟩, l1, upto_len _ _, hmem _ (by rw [hL1]; simp)⟩)
  · intro rr
    simp (implicitDefEqProofs := false) (disch := omega) only [W2, opds, Nat.testBit, Nat.reduceAdd, Nat.reduceShiftRight, Nat.reduceAnd, Nat.reduceBNe, Nat.reduceMul]
    refine hQ _ _ _ _ _ (by omega) (fun b hb => by rw [k2 b hb, hM1 b (by omega)]; exact lo b hb) ?_ k4 ⟨rv, rfl, RowsZ.low k5 (by omega)⟩
    simp only [frz_iff]
    exact ⟨⟨⟨⟨frz_bit (Nat.le_refl _), frz_bit (by omega), frz_bit (by omega)⟩, frz_bit (by omega)⟩, hw1 n (by omega)⟩, k3 n (Nat.le_refl _)⟩
  · rw [hL1] at hlen
    simp only [List.length_cons] at hlen
    simp only [List.length_nil]
    omega
end Go.Am.C07
