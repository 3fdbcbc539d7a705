/- The machine and its runs, part Bd: Am41pe Am41pg Am41pd. -/
import Derived.Test.YtjhomcflchfamaaDoorBc
import Derived.Test.YtjhomcflchfamaaDoorBf
set_option linter.unusedVariables false
set_option linter.unusedSimpArgs false
set_option linter.unusedSectionVars false
namespace Go.Am.C41
open Go Go.Am
variable {E : Nat → Option AFn} {Y : Nat → List Value → FM → Nat → OR FM}
theorem live_L1 (H : Hy E Y) {M : FM} {N : Nat} {st : Value} {l : List (Cmd × Value)} (h : RecsV recC M N st l) (hs : l.length ≤ 1000) {i : Nat} (hi : i < l.length) (hp : ∀ k (hk : k < i), befB (l[k]'(by omega)).1 l[i].1 = false) {Q : AX → List Value → FM → Nat → Nat → Prop} (y6 y7 y8 : Value) (ys : List Value)
    (hQ : ∀ x0 x1 x2 x3 x4, Q (.exit 6) (x0 :: x1 :: x2 :: x3 :: x4 :: .int .i64 (i : Int) :: y6 :: y7 :: y8 :: st :: ys) M N 0) :
    ∀ d k, k + d = i → ∀ x0 x2 x3 x4 : Value, Gv (execW PG E Y ac8L1 (x0 :: .int .i64 (k : Int) :: x2 :: x3 :: x4 :: .int .i64 (i : Int) :: y6 :: y7 :: y8 :: st :: ys) M N) Q := by
  intro d
  induction d with
  | zero =>
    intro k hk x0 x2 x3 x4
    obtain rfl : k = i := by omega
    refine wr_loopN (L := ac8L1) (b := ac8L1b) rfl ?_
    simp only [ac8L1b]
    simp (implicitDefEqProofs := false) (disch := omega) only [WPs, opds, List.all_cons, List.all_nil, List.cons_append, List.nil_append, cond_true, cond_false, eq_self, List.map_cons, List.map_nil, Nat.reduceAdd, Nat.testBit, Nat.reduceShiftRight, Nat.reduceAnd, Nat.reduceBNe, Nat.reduceMul]
    exact hQ _ _ _ _ _
  | succ d ih =>
    intro k hk x0 x2 x3 x4
    have hkl : k < l.length := by omega
    obtain ⟨b, o, cells, opn, wr, i1, i2, i3, i4, i5, i6⟩ := h.at hkl
    obtain ⟨b', o', cells', opn', wr', j1, j2, j3, j4, j5, j6⟩ := h.at hi
    have i1 : idxV 9 k st = some (.pointer (some ⟨b, o, none⟩)) := i1
    have j1 : idxV 9 i st = some (.pointer (some ⟨b', o', none⟩)) := j1
    have i3 : M b = some (.cells cells 9 opn wr) := i3
    have j3 : M b' = some (.cells cells' 9 opn' wr') := j3
    have i4 : ctake (ldrop cells o) 9 = some (l[k].1.cells l[k].2) := i4
    have j4 : ctake (ldrop cells' o') 9 = some (l[i].1.cells l[i].2) := j4
    have i6 : DatS M N l[k].2 l[k].1.data := i6
    have j6 : DatS M N l[i].2 l[i].1.data := j6
    have g1 := item_agg l[k].1 l[k].2 i6.v.one
    have g2 := item_agg l[i].1 l[i].2 j6.v.one
    have f1 : belowF N l[k].2 = true := by
      have hb := i6.v.bel N (Nat.le_refl _)
      obtain ⟨a, cc, e, _⟩ := i6.v
      rw [e] at hb ⊢; exact hb
    have f2 : belowF N l[i].2 = true := by
      have hb := j6.v.bel N (Nat.le_refl _)
      obtain ⟨a, cc, e, _⟩ := j6.v
      rw [e] at hb ⊢; exact hb
    have hc1 := bel_cmd l[k].1 f1
    have hc2 := bel_cmd l[i].1 f2
    have hbs := h.bel N (Nat.le_refl _)
    have hb := hp k (by omega)
    refine wr_loopN (L := ac8L1) (b := ac8L1b) rfl ?_
    simp only [ac8L1b]
    simp (implicitDefEqProofs := false) (disch := omega) only [WPs, opds, List.all_cons, List.all_nil, List.cons_append, List.nil_append, cond_true, cond_false, eq_self, List.map_cons, List.map_nil, Nat.reduceAdd, Nat.testBit, Nat.reduceShiftRight, Nat.reduceAnd, Nat.reduceBNe, Nat.reduceMul, i1, j1, i3, j3, i4, j4, g1, g2, hc1, hc2, hbs]
    refine use_pureX (H.b17 M N l[k].1 l[i].1 _ _ i5 j5 i6.v j6.v) fun _ => ?_
    rw [hb]
    simp (implicitDefEqProofs := false) (disch := omega) only [WPs, opds, List.all_cons, List.all_nil, List.cons_append, List.nil_append, cond_true, cond_false, eq_self, List.map_cons, List.map_nil, Nat.reduceAdd, Nat.testBit, Nat.reduceShiftRight, Nat.reduceAnd, Nat.reduceBNe, Nat.reduceMul]
    exact wr_end (ih (k + 1) (by omega) _ _ _ _) fun X e m n w hq => by simpa only [zero_lor'] using hq
theorem live_L2 (H : Hy E Y) {M : FM} {N : Nat} {st : Value} {l : List (Cmd × Value)} (h : RecsV recC M N st l) (hs : l.length ≤ 1000) (hp : ∀ i (hi : i < l.length) k (hk : k < i), befB (l[k]'(by omega)).1 l[i].1 = false) {Q : AX → List Value → FM → Nat → Nat → Prop} (y4 : Value) (ys : List Value)
    (hQ : ∀ x0 x1 x2 x3, Q (.exit 4) (x0 :: x1 :: x2 :: x3 :: y4 :: st :: ys) M N 0) :
    ∀ d i, i + d = l.length → ∀ x0 x2 : Value, Gv (execW PG E Y ac8L2 (x0 :: .int .i64 (i : Int) :: x2 :: .int .i64 (l.length : Int) :: y4 :: st :: ys) M N) Q := by
  intro d
  induction d with
  | zero =>
    intro i hi x0 x2
    obtain rfl : i = l.length := by omega
    refine wr_loopN (L := ac8L2) (b := ac8L2b) rfl ?_
    simp only [ac8L2b]
    simp (implicitDefEqProofs := false) (disch := omega) only [WPs, opds, List.all_cons, List.all_nil, List.cons_append, List.nil_append, cond_true, cond_false, eq_self, List.map_cons, List.map_nil, Nat.reduceAdd, Nat.testBit, Nat.reduceShiftRight, Nat.reduceAnd, Nat.reduceBNe, Nat.reduceMul]
    exact hQ _ _ _ _
  | succ d ih =>
    intro i hi x0 x2
    have hil : i < l.length := by omega
    refine wr_loopN (L := ac8L2) (b := ac8L2b) rfl ?_
    simp only [ac8L2b]
    simp (implicitDefEqProofs := false) (disch := omega) only [WPs, opds, List.all_cons, List.all_nil, List.cons_append, List.nil_append, cond_true, cond_false, eq_self, List.map_cons, List.map_nil, Nat.reduceAdd, Nat.testBit, Nat.reduceShiftRight, Nat.reduceAnd, Nat.reduceBNe, Nat.reduceMul]
    refine wr_cps (live_L1 H h hs hil (fun k hk => hp i hil k hk) _ _ _ _ (fun x0 x1 x2 x3 x4 r => ?_) i 0 (by omega) _ _ _ _)
    simp (implicitDefEqProofs := false) (disch := omega) only [WPs, opds, List.all_cons, List.all_nil, List.cons_append, List.nil_append, cond_true, cond_false, eq_self, List.map_cons, List.map_nil, Nat.reduceAdd, Nat.testBit, Nat.reduceShiftRight, Nat.reduceAnd, Nat.reduceBNe, Nat.reduceMul]
    exact wr_end (ih (i + 1) (by omega) _ _) fun X e m n w hq => by simpa only [zero_lor'] using hq
end Go.Am.C41
namespace Go.Am.C41
open Go Go.Am
variable {E : Nat → Option AFn} {Y : Nat → List Value → FM → Nat → OR FM}
theorem QIv.fit {M : FM} {n0 N : Nat} {tag : Tags} {q : Nat} {v : QV} (h : QIv M n0 N tag q v) : ∀ y ∈ v, y.1.Fit := fun y hy => by
  obtain ⟨its, S, tv, cb, sb, h, rfl⟩ := h
  obtain ⟨it, hit, rfl⟩ := List.mem_map.1 hy
  exact (h.dat it hit).1
structure Gath (M : FM) (N0 N : Nat) (T : Tags) (st : Value) (l : List (Cmd × Value)) : Prop where
  own : Own9 M (fun b => N0 ≤ b ∧ b < N ∧ T b = 1) st l
  dat : ∀ x ∈ l, x.1.Fit ∧ DatF M (fun b => N0 ≤ b ∧ b < N ∧ T b = 2) x.2 x.1.data
theorem live_L0 (T : Tq E) {M0 : FM} {n0 N0 : Nat} {tag : Tags} {q : Nat} {v : QV} (hq : QIv M0 n0 N0 tag q v) {sv : Value} (hsv : Ints M0 N0 sv (startedL v)) (y6 y7 y8 y9 y10 y11 y12 y13 y14 y15 y16 y17 y18 y19 y20 y21 y22 y23 y24 y25 y26 y27 y28 y29 : Value) (ys : List Value) {Q : AX → List Value → FM → Nat → Nat → Prop}
    (hQ : ∀ M N w T' st l, N0 ≤ N → (∀ b, b < N0 → M b = M0 b) → (∀ j, j ≤ N0 → Nat.mod w (bit j) = 0) → Gath M N0 N T' st l → l.map (·.1) = (v.filter (·.2)).map (·.1) → ∀ x0 x2 x3 x4, Q (.exit 2) (x0 :: st :: x2 :: x3 :: x4 :: sv :: y6 :: y7 :: y8 :: y9 :: y10 :: y11 :: y12 :: y13 :: y14 :: y15 :: y16 :: y17 :: y18 :: y19 :: y20 :: y21 :: y22 :: y23 :: y24 :: y25 :: y26 :: y27 :: y28 :: y29 :: .pointer (some ⟨q, 0, none⟩) :: ys) M N w) :
    ∀ d j, j + d = (startedL v).length → ∀ (M : FM) (N w0 : Nat) (T' : Tags) (st : Value) (l : List (Cmd × Value)) (x0 x3 : Value), N0 ≤ N → (∀ b, b < N0 → M b = M0 b) → (∀ i, i ≤ N0 → Nat.mod w0 (bit i) = 0) → Gath M N0 N T' st l → l.map (·.1) = ((v.filter (·.2)).take j).map (·.1) →
    Gv (execW PG E Y ac8L0 (x0 :: st :: .int .i64 (j : Int) :: x3 :: .int .i64 ((startedL v).length : Int) :: sv :: y6 :: y7 :: y8 :: y9 :: y10 :: y11 :: y12 :: y13 :: y14 :: y15 :: y16 :: y17 :: y18 :: y19 :: y20 :: y21 :: y22 :: y23 :: y24 :: y25 :: y26 :: y27 :: y28 :: y29 :: .pointer (some ⟨q, 0, none⟩) :: ys) M N) fun X e m n w => Q X e m n (Nat.lor w0 w) := by
  have hlen := hq.len
  obtain ⟨ls, _, _⟩ := lenV_startedV v hlen
  have hsl : (startedL v).length = (v.filter (·.2)).length := by rw [startedL_eq, List.length_map]
  intro d
  induction d with
  | zero =>
    intro j hj M N w0 T' st l x0 x3 hN hM hw hG hl
    refine wr_loopN (L := ac8L0) (b := ac8L0b) rfl ?_
    simp only [ac8L0b]
    simp (implicitDefEqProofs := false) (disch := omega) only [WPs, opds, List.all_cons, List.all_nil, List.cons_append, List.nil_append, cond_true, cond_false, eq_self, List.map_cons, List.map_nil, Nat.reduceAdd, Nat.testBit, Nat.reduceShiftRight, Nat.reduceAnd, Nat.reduceBNe, Nat.reduceMul]
    exact hQ _ _ _ T' st l hN hM hw hG (by rw [hl, List.take_of_length_le (by omega)]) _ _ _ _
  | succ d ih =>
    intro j hj M N w0 T' st l x0 x3 hN hM hw hG hl
    have hjl : j < (startedL v).length := by omega
    have hjf : j < (v.filter (·.2)).length := by omega
    obtain ⟨b, o, c, opn, wr, i1, i2, i3, i4⟩ := (hsv.frame hN hM).cell hjl
    have hy := (List.mem_filter.1 (List.getElem_mem hjf)).1
    have ht : (startedL v)[j] = (v.filter (·.2))[j].1.tag := by simp only [startedL_eq, List.getElem_map]
    rw [ht] at i4
    generalize hyy : (v.filter (·.2))[j] = y at hy i4
    refine wr_loopN (L := ac8L0) (b := ac8L0b) rfl ?_
    simp only [ac8L0b]
    simp (implicitDefEqProofs := false) (disch := omega) only [WPs, opds, List.all_cons, List.all_nil, List.cons_append, List.nil_append, cond_true, cond_false, eq_self, List.map_cons, List.map_nil, Nat.reduceAdd, Nat.testBit, Nat.reduceShiftRight, Nat.reduceAnd, Nat.reduceBNe, Nat.reduceMul, i1, i3, i4]
    refine use_rt (get_z T (hq.stay hN hM) hy) fun x M1 N1 r1 w1 ⟨n1, m1, f1, dd, ex, hd⟩ => ?_
    subst ex
    have od := hd.one
    have cd := cells_of_one od
    have hf1 : ∀ b, b < N → (AMem.put (AMem.put M1 N1 (some (.cells (y.1.cells dd) 0 false true))) (N1 + 1) (some (.cells (y.1.cells dd) 9 false true)) : FM) b = M b := fun b hb => by
      rw [fput_ne _ _ _ _ (by omega), fput_ne _ _ _ _ (by omega), m1 b hb]
    have key := app_own9 (M := AMem.put (AMem.put M1 N1 (some (.cells (y.1.cells dd) 0 false true))) (N1 + 1) (some (.cells (y.1.cells dd) 9 false true))) (N := N1 + 2) (P := fun b => N0 ≤ b ∧ b < N ∧ T' b = 1) (l := l) (l2 := [(y.1, dd)]) (v := st) (hG.own.frame fun b hb => ⟨hb, hf1 b hb.2.1⟩) (fun b hb => by omega) (some ⟨N1 + 1, 0, none⟩) 1 (bit (N1 + 1)) (by
      show (y.1.cells dd ++ []).all Am.one = true
      simp [Cmd.cells, od, one_int, one_bool, one_str]) (by
      have e := congrArg List.length hl
      rw [List.length_map, List.length_map, List.length_take] at e
      simp; omega)
    simp (implicitDefEqProofs := false) (disch := omega) only [WPs, opds, List.all_cons, List.all_nil, List.cons_append, List.nil_append, cond_true, cond_false, eq_self, List.map_cons, List.map_nil, Nat.reduceAdd, Nat.testBit, Nat.reduceShiftRight, Nat.reduceAnd, Nat.reduceBNe, Nat.reduceMul, cmdV, od, e_tup0, e_tup1]
    refine use_rt key fun st2 M2 N2 r2 w2 ⟨u1, u2, u3', u4, u5⟩ => ?_
    simp (implicitDefEqProofs := false) (disch := omega) only [WPs, opds, List.all_cons, List.all_nil, List.cons_append, List.nil_append, cond_true, cond_false, eq_self, List.map_cons, List.map_nil, Nat.reduceAdd, Nat.testBit, Nat.reduceShiftRight, Nat.reduceAnd, Nat.reduceBNe, Nat.reduceMul]
    refine wr_end (ih (j + 1) (by omega) M2 N2 (Nat.lor w0 (Nat.lor (Nat.lor (Nat.lor w1 (bit N1)) (bit N1)) (Nat.lor (bit (N1 + 1)) w2))) (fun b => if b < N then T' b else if b = N1 + 2 then 1 else 2) st2 (l ++ [(y.1, dd)]) _ _ (by omega) (fun b hb => ?_) (fun i hi => ?_) ⟨u3'.frame fun b hb => ?_, fun x hx => ?_⟩ ?_) fun X e m n w hq => ?_
    · rw [u4 b (by omega) (by omega), hf1 b (by omega), hM b hb]
    · simp only [frz_iff]
      exact ⟨hw i hi, ⟨⟨f1 i (by omega), frz_bit (by omega)⟩, frz_bit (by omega)⟩, frz_bit (by omega), u5 i (by omega) (fun b hb => by omega)⟩
    · rcases hb with ⟨⟨h1, h2, h3⟩ | rfl, h4⟩
      · exact ⟨⟨h1, h4, by rw [if_pos h2]; exact h3⟩, rfl⟩
      · exact ⟨⟨by omega, h4, by rw [if_neg (by omega), if_pos rfl]⟩, rfl⟩
    · rcases List.mem_append.1 hx with hx | hx
      · obtain ⟨d1, d2⟩ := hG.dat x hx
        exact ⟨d1, d2.frame fun b ⟨b1, b2, b3⟩ => ⟨⟨b1, by omega, by rw [if_pos b2]; exact b3⟩, (u4 b (by omega) (fun hh => by omega)).trans (hf1 b b2)⟩⟩
      · obtain rfl := List.mem_singleton.1 hx
        exact ⟨hq.fit y hy, hd.frame fun b ⟨b1, b2⟩ => ⟨⟨by omega, by omega, by rw [if_neg (by omega), if_neg (by omega)]⟩, (u4 b (by omega) (fun hh => by omega)).trans (by rw [fput_ne _ _ _ _ (by omega), fput_ne _ _ _ _ (by omega)])⟩⟩
    · rw [List.map_append, hl, List.take_add_one, List.getElem?_eq_getElem hjf, Option.toList_some, List.map_append, hyy]; rfl
    · rw [← lor_assoc']; exact hq
end Go.Am.C41
namespace Go.Am.C41
open Go Go.Am
variable {E : Nat → Option AFn} {Y : Nat → List Value → FM → Nat → OR FM}
theorem Gath.recs {M : FM} {N0 N : Nat} {T : Tags} {st : Value} {l : List (Cmd × Value)} (h : Gath M N0 N T st l) : RecsV recC M N st l := by
  refine ⟨?_, fun c hc => ⟨(h.dat c hc).1, (h.dat c hc).2.s fun b hb => hb.2.1⟩⟩
  rcases h.own with ⟨rfl, rfl⟩ | ⟨rfl, b, rfl, hb, _⟩ | ⟨hne, b, rfl, hb, hm⟩
  · exact ⟨none, 0, rfl, rfl, .inl rfl⟩
  · exact ⟨_, _, rfl, blt_true (show b < N from hb.2.1), .inl rfl⟩
  · refine ⟨_, _, rfl, blt_true (show b < N from hb.2.1), .inr ⟨b, 0, _, true, true, rfl, hb.2.1, hm, fun i hi => ?_⟩⟩
    show ctake (ldrop (cmds9 l) (0 + i * 9)) 9 = some (l[i].1.cells l[i].2)
    rw [Nat.zero_add, ldrop_eq, ctake_eq, if_pos (by rw [List.length_drop, cmds9_len]; omega)]
    congr 1
    apply List.ext_getElem?
    intro k
    rw [List.getElem?_take]
    split
    · rw [List.getElem?_drop, cmds9_get l i k (by omega), List.getElem?_eq_getElem hi]; rfl
    · exact (List.getElem?_eq_none (by show 9 ≤ k; omega)).symm
theorem live_L3 (H : Hy E Y) (T : Tq E) (R : Tr E) {m : FM} {n : Nat} {lv : Value} {cs : List (Act × Value)} (hl : RecsV recA m n lv cs) (hbg : largeB cs = false) (q r : Nat) {Q : AX → List Value → FM → Nat → Nat → Prop}
    (hQ : ∀ M' N' w, (∀ j, j ≤ n → Nat.mod w (bit j) = 0) → ∀ e', Q (.exit 0) e' M' N' w) : ∀ d j, j + d = cs.length → ∀ (M' : FM) (N' w0 : Nat) (tag : Tags) (v : QV) (x0 x2 x6 x7 x8 : Value), n ≤ N' → (∀ b, b < n → M' b = m b) → (∀ j, j ≤ n → Nat.mod w0 (bit j) = 0) → Both M' n N' tag q r v → InvV v →
    Gv (execW PG E Y ac8L3 [x0, .int .i64 (j : Int), x2, .int .i64 (cs.length : Int), .pointer (some ⟨r, 0, none⟩), .pointer (some ⟨q, 0, none⟩), x6, x7, x8, lv] M' N') fun X e m n w => Q X e m n (Nat.lor w0 w) := by
  have h150 : cs.length ≤ 150 := by
    rw [largeB, Bool.or_eq_false_iff] at hbg
    have := of_decide_eq_false hbg.2
    omega
  intro d
  induction d with
  | zero =>
    intro j hj M' N' w0 tag v x0 x2 x6 x7 x8 hN hM hw hB hI
    refine wr_loopN (L := ac8L3) (b := ac8L3b) rfl ?_
    simp only [ac8L3b]
    simp (implicitDefEqProofs := false) (disch := omega) only [WPs, opds, List.all_cons, List.all_nil, List.cons_append, List.nil_append, cond_true, cond_false, eq_self, List.map_cons, List.map_nil, Nat.reduceAdd, Nat.testBit, Nat.reduceShiftRight, Nat.reduceAnd, Nat.reduceBNe, Nat.reduceMul]
    exact hQ _ _ _ hw _
  | succ d ih =>
    intro j hj M' N' w0 tag v x0 x2 x6 x7 x8 hN hM hw hB hI
    have hjl : j < cs.length := by omega
    have hl' := hl.frame hN hM
    obtain ⟨b, o, cells, opn, wr, i1, i2, i3, i4, i5, i6⟩ := hl'.at hjl
    have i6n := (hl.at hjl)
    obtain ⟨_, _, _, _, _, _, _, _, _, _, i7⟩ := i6n
    have i1 : idxV 11 j lv = some (.pointer (some ⟨b, o, none⟩)) := i1
    have i3 : M' b = some (.cells cells 11 opn wr) := i3
    have i4 : ctake (ldrop cells o) 11 = some (cs[j].1.cells cs[j].2) := i4
    have i7 : DatS m n cs[j].2 cs[j].1.c.data := i7
    have i5 : cs[j].1.c.Fit := i5
    have od := i7.v.one
    have hds : cs[j].1.c.data.length ≤ 1000000 := by
      rw [largeB, Bool.or_eq_false_iff] at hbg
      have h1 := hbg.1
      rw [← Bool.not_eq_true, List.any_eq_true] at h1
      by_cases h2 : 100 < cs[j].1.c.data.length
      · exact absurd ⟨_, List.getElem_mem hjl, by simp only [bigB, decide_eq_true h2, Bool.true_or]⟩ h1
      · omega
    obtain ⟨tag0, t0, hB0⟩ := hB.box (some (.cells (cs[j].1.cells cs[j].2) 0 false true))
    have q1 := hB.1.q1
    have r1 := hB.2.r1
    simp only [Act.cells] at i4 hB0
    refine wr_loopN (L := ac8L3) (b := ac8L3b) rfl ?_
    simp only [ac8L3b]
    simp (implicitDefEqProofs := false) (disch := omega) only [WPs, opds, List.all_cons, List.all_nil, List.cons_append, List.nil_append, cond_true, cond_false, eq_self, List.map_cons, List.map_nil, Nat.reduceAdd, Nat.testBit, Nat.reduceShiftRight, Nat.reduceAnd, Nat.reduceBNe, Nat.reduceMul, i1, i3, i4, od]
    refine use_rt (do_spec H T R hB0 cs[j].1 cs[j].2 i5 (i7.frame (Nat.le_refl _) fun b hb => by rw [fput_ne _ _ _ _ (by omega)]; exact hM b hb) hds) fun x M1 N1 r1' w1 ⟨hx, tag1, c1, hB1⟩ => ?_
    subst hx
    have n1 := c1.n
    have fz1 := c1.w
    generalize hv1 : stepV v cs[j].1 = v1 at hB1
    have hI1 : InvV v1 := by rw [← hv1]; exact inv_step hI hB.1.nd _
    obtain ⟨ls, le, lt⟩ := lenV_startedV v1 hB1.1.len
    have hnd := hB1.1.nd
    simp (implicitDefEqProofs := false) (disch := omega) only [WPs, opds, List.all_cons, List.all_nil, List.cons_append, List.nil_append, cond_true, cond_false, eq_self, List.map_cons, List.map_nil, Nat.reduceAdd, Nat.testBit, Nat.reduceShiftRight, Nat.reduceAnd, Nat.reduceBNe, Nat.reduceMul]
    refine use_rt (tags_v T hB1.1) fun x2 M2 N2 r2' w2 ⟨n2, m2, f2, g2⟩ => ?_
    have hB2 := hB1.stay n2 m2
    have l2 := g2.len
    rw [tagsV_len] at l2
    by_cases h0 : v1.length = 0
    · rw [h0] at l2
      simp (implicitDefEqProofs := false) (disch := omega) only [WPs, opds, List.all_cons, List.all_nil, List.cons_append, List.nil_append, cond_true, cond_false, eq_self, List.map_cons, List.map_nil, Nat.reduceAdd, Nat.testBit, Nat.reduceShiftRight, Nat.reduceAnd, Nat.reduceBNe, Nat.reduceMul, l2]
      refine use_rt (started_v T hB2.1) fun sv Ms Ns rs ws ⟨ns, ms, fs, gs⟩ => ?_
      have hBs := hB2.stay ns ms
      simp (implicitDefEqProofs := false) (disch := omega) only [WPs, opds, List.all_cons, List.all_nil, List.cons_append, List.nil_append, cond_true, cond_false, eq_self, List.map_cons, List.map_nil, Nat.reduceAdd, Nat.testBit, Nat.reduceShiftRight, Nat.reduceAnd, Nat.reduceBNe, Nat.reduceMul, gs.len]
      refine wr_kont (live_L0 T hBs.1 gs _ _ _ _ _ _ _ _ _ _ _ _ _ _ _ _ _ _ _ _ _ _ _ _ _ (fun M N w T' st l hNl hMl hwl hG hll x0 x2 x3 x4 rr => ?_) (startedL v1).length 0 (by omega) Ms Ns 0 (fun _ => 0) _ [] _ _ (Nat.le_refl _) (fun _ _ => rfl) (fun _ _ => Nat.zero_mod _) ⟨.inl ⟨rfl, rfl⟩, fun x hx => by cases hx⟩ rfl)
      have hR := hG.recs
      have hlen2 : l.length = (v1.filter (·.2)).length := by
        have e := congrArg List.length hll
        rwa [List.length_map, List.length_map] at e
      have hfl := List.length_filter_le (fun y : Cmd × Bool => y.2) v1
      have hv64 := hB2.1.len
      simp (implicitDefEqProofs := false) (disch := omega) only [WPs, opds, List.all_cons, List.all_nil, List.cons_append, List.nil_append, cond_true, cond_false, eq_self, List.map_cons, List.map_nil, Nat.reduceAdd, Nat.testBit, Nat.reduceShiftRight, Nat.reduceAnd, Nat.reduceBNe, Nat.reduceMul, hR.len]
      refine wr_cps (live_L2 H hR (by omega) (fun i hi k hk => ?_) _ _ (fun x0 x1 x2 x3 r => ?_) l.length 0 (by omega) _ _)
      · have hp := List.pairwise_iff_getElem.1 (started_pair hI1) k i (by omega) (by omega) hk
        have e1 : ∀ a (ha : a < l.length), l[a].1 = ((v1.filter (·.2))[a]'(by omega)).1 := fun a ha => by
          have h1 : (l.map (·.1))[a]? = ((v1.filter (·.2)).map (·.1))[a]? := by rw [hll]
          rw [List.getElem?_map, List.getElem?_map, List.getElem?_eq_getElem ha, List.getElem?_eq_getElem (by omega)] at h1
          simpa using h1
        rw [e1 k (by omega), e1 i hi]
        exact hp
      · simp (implicitDefEqProofs := false) (disch := omega) only [WPs, opds, List.all_cons, List.all_nil, List.cons_append, List.nil_append, cond_true, cond_false, eq_self, List.map_cons, List.map_nil, Nat.reduceAdd, Nat.testBit, Nat.reduceShiftRight, Nat.reduceAnd, Nat.reduceBNe, Nat.reduceMul]
        refine wr_end (ih (j + 1) (by omega) M N (Nat.lor w0 (Nat.lor (Nat.lor (Nat.lor (Nat.lor (Nat.lor (bit N') (bit N')) w1) w2) ws) w)) tag1 v1 _ _ _ _ _ (by omega) (fun b hb => ?_) (fun i hi => ?_) (hBs.stay hNl hMl) hI1) fun X e m n w hq => ?_
        · rw [hMl b (by omega), ms b (by omega),  m2 b (by omega), c1.fr b (by omega) (.inl hb), fput_ne _ _ _ _ (by omega)]
          exact hM b hb
        · simp only [frz_iff]
          exact ⟨hw i hi, ⟨⟨⟨⟨frz_bit (by omega), frz_bit (by omega)⟩, fz1 i hi⟩, f2 i (by omega)⟩, fs i (by omega)⟩, hwl i (by omega)⟩
        · rw [← lor_assoc']; exact hq
    · simp (implicitDefEqProofs := false) (disch := omega) only [WPs, opds, List.all_cons, List.all_nil, List.cons_append, List.nil_append, cond_true, cond_false, eq_self, List.map_cons, List.map_nil, Nat.reduceAdd, Nat.testBit, Nat.reduceShiftRight, Nat.reduceAnd, Nat.reduceBNe, Nat.reduceMul, l2, decide_eq_true (show (0 : Int) < (v1.length : Int) by omega)]
      refine use_rt (started_v T hB2.1) fun x3 M3 N3 r3' w3 ⟨n3, m3, f3, g3⟩ => ?_
      have hB3 := hB2.stay n3 m3
      by_cases h1 : (startedL v1).length = 0
      · have h2 := live_v (fun e => h0 (by rw [e]; rfl)) (List.length_eq_zero_iff.1 h1)
        have h3 : (eligL v1).length ≠ 0 := fun e => h2 (List.length_eq_zero_iff.1 e)
        have l3 := g3.len
        rw [h1] at l3
        simp (implicitDefEqProofs := false) (disch := omega) only [WPs, opds, List.all_cons, List.all_nil, List.cons_append, List.nil_append, cond_true, cond_false, eq_self, List.map_cons, List.map_nil, Nat.reduceAdd, Nat.testBit, Nat.reduceShiftRight, Nat.reduceAnd, Nat.reduceBNe, Nat.reduceMul, l3]
        refine use_rt (elig_v H T hB3.1) fun x4 M4 N4 r4' w4 ⟨n4, m4, f4, g4⟩ => ?_
        have hB4 := hB3.stay n4 m4
        simp (implicitDefEqProofs := false) (disch := omega) only [WPs, opds, List.all_cons, List.all_nil, List.cons_append, List.nil_append, cond_true, cond_false, eq_self, List.map_cons, List.map_nil, Nat.reduceAdd, Nat.testBit, Nat.reduceShiftRight, Nat.reduceAnd, Nat.reduceBNe, Nat.reduceMul, g4.len, decide_eq_false (show ¬ ((eligL v1).length : Int) = 0 by omega)]
        refine use_rt (started_v T hB4.1) fun sv Ms Ns rs ws ⟨ns, ms, fs, gs⟩ => ?_
        have hBs := hB4.stay ns ms
        simp (implicitDefEqProofs := false) (disch := omega) only [WPs, opds, List.all_cons, List.all_nil, List.cons_append, List.nil_append, cond_true, cond_false, eq_self, List.map_cons, List.map_nil, Nat.reduceAdd, Nat.testBit, Nat.reduceShiftRight, Nat.reduceAnd, Nat.reduceBNe, Nat.reduceMul, gs.len]
        refine wr_kont (live_L0 T hBs.1 gs _ _ _ _ _ _ _ _ _ _ _ _ _ _ _ _ _ _ _ _ _ _ _ _ _ (fun M N w T' st l hNl hMl hwl hG hll x0 x2 x3 x4 rr => ?_) (startedL v1).length 0 (by omega) Ms Ns 0 (fun _ => 0) _ [] _ _ (Nat.le_refl _) (fun _ _ => rfl) (fun _ _ => Nat.zero_mod _) ⟨.inl ⟨rfl, rfl⟩, fun x hx => by cases hx⟩ rfl)
        have hR := hG.recs
        have hlen2 : l.length = (v1.filter (·.2)).length := by
          have e := congrArg List.length hll
          rwa [List.length_map, List.length_map] at e
        have hfl := List.length_filter_le (fun y : Cmd × Bool => y.2) v1
        have hv64 := hB4.1.len
        simp (implicitDefEqProofs := false) (disch := omega) only [WPs, opds, List.all_cons, List.all_nil, List.cons_append, List.nil_append, cond_true, cond_false, eq_self, List.map_cons, List.map_nil, Nat.reduceAdd, Nat.testBit, Nat.reduceShiftRight, Nat.reduceAnd, Nat.reduceBNe, Nat.reduceMul, hR.len]
        refine wr_cps (live_L2 H hR (by omega) (fun i hi k hk => ?_) _ _ (fun x0 x1 x2 x3 r => ?_) l.length 0 (by omega) _ _)
        · have hp := List.pairwise_iff_getElem.1 (started_pair hI1) k i (by omega) (by omega) hk
          have e1 : ∀ a (ha : a < l.length), l[a].1 = ((v1.filter (·.2))[a]'(by omega)).1 := fun a ha => by
            have h1 : (l.map (·.1))[a]? = ((v1.filter (·.2)).map (·.1))[a]? := by rw [hll]
            rw [List.getElem?_map, List.getElem?_map, List.getElem?_eq_getElem ha, List.getElem?_eq_getElem (by omega)] at h1
            simpa using h1
          rw [e1 k (by omega), e1 i hi]
          exact hp
        · simp (implicitDefEqProofs := false) (disch := omega) only [WPs, opds, List.all_cons, List.all_nil, List.cons_append, List.nil_append, cond_true, cond_false, eq_self, List.map_cons, List.map_nil, Nat.reduceAdd, Nat.testBit, Nat.reduceShiftRight, Nat.reduceAnd, Nat.reduceBNe, Nat.reduceMul]
          refine wr_end (ih (j + 1) (by omega) M N (Nat.lor w0 (Nat.lor (Nat.lor (Nat.lor (Nat.lor (Nat.lor (bit N') (bit N')) w1) (Nat.lor (Nat.lor w2 w3) w4)) ws) w)) tag1 v1 _ _ _ _ _ (by omega) (fun b hb => ?_) (fun i hi => ?_) (hBs.stay hNl hMl) hI1) fun X e m n w hq => ?_
          · rw [hMl b (by omega), ms b (by omega), m4 b (by omega), m3 b (by omega), m2 b (by omega), c1.fr b (by omega) (.inl hb), fput_ne _ _ _ _ (by omega)]
            exact hM b hb
          · simp only [frz_iff]
            exact ⟨hw i hi, ⟨⟨⟨⟨frz_bit (by omega), frz_bit (by omega)⟩, fz1 i hi⟩, ⟨⟨f2 i (by omega), f3 i (by omega)⟩, f4 i (by omega)⟩⟩, fs i (by omega)⟩, hwl i (by omega)⟩
          · rw [← lor_assoc']; exact hq
      · simp (implicitDefEqProofs := false) (disch := omega) only [WPs, opds, List.all_cons, List.all_nil, List.cons_append, List.nil_append, cond_true, cond_false, eq_self, List.map_cons, List.map_nil, Nat.reduceAdd, Nat.testBit, Nat.reduceShiftRight, Nat.reduceAnd, Nat.reduceBNe, Nat.reduceMul, g3.len, decide_eq_false (show ¬ ((startedL v1).length : Int) = 0 by omega)]
        refine use_rt (started_v T hB3.1) fun sv Ms Ns rs ws ⟨ns, ms, fs, gs⟩ => ?_
        have hBs := hB3.stay ns ms
        simp (implicitDefEqProofs := false) (disch := omega) only [WPs, opds, List.all_cons, List.all_nil, List.cons_append, List.nil_append, cond_true, cond_false, eq_self, List.map_cons, List.map_nil, Nat.reduceAdd, Nat.testBit, Nat.reduceShiftRight, Nat.reduceAnd, Nat.reduceBNe, Nat.reduceMul, gs.len]
        refine wr_kont (live_L0 T hBs.1 gs _ _ _ _ _ _ _ _ _ _ _ _ _ _ _ _ _ _ _ _ _ _ _ _ _ (fun M N w T' st l hNl hMl hwl hG hll x0 x2 x3 x4 rr => ?_) (startedL v1).length 0 (by omega) Ms Ns 0 (fun _ => 0) _ [] _ _ (Nat.le_refl _) (fun _ _ => rfl) (fun _ _ => Nat.zero_mod _) ⟨.inl ⟨rfl, rfl⟩, fun x hx => by cases hx⟩ rfl)
        have hR := hG.recs
        have hlen2 : l.length = (v1.filter (·.2)).length := by
          have e := congrArg List.length hll
          rwa [List.length_map, List.length_map] at e
        have hfl := List.length_filter_le (fun y : Cmd × Bool => y.2) v1
        have hv64 := hB3.1.len
        simp (implicitDefEqProofs := false) (disch := omega) only [WPs, opds, List.all_cons, List.all_nil, List.cons_append, List.nil_append, cond_true, cond_false, eq_self, List.map_cons, List.map_nil, Nat.reduceAdd, Nat.testBit, Nat.reduceShiftRight, Nat.reduceAnd, Nat.reduceBNe, Nat.reduceMul, hR.len]
        refine wr_cps (live_L2 H hR (by omega) (fun i hi k hk => ?_) _ _ (fun x0 x1 x2 x3 r => ?_) l.length 0 (by omega) _ _)
        · have hp := List.pairwise_iff_getElem.1 (started_pair hI1) k i (by omega) (by omega) hk
          have e1 : ∀ a (ha : a < l.length), l[a].1 = ((v1.filter (·.2))[a]'(by omega)).1 := fun a ha => by
            have h1 : (l.map (·.1))[a]? = ((v1.filter (·.2)).map (·.1))[a]? := by rw [hll]
            rw [List.getElem?_map, List.getElem?_map, List.getElem?_eq_getElem ha, List.getElem?_eq_getElem (by omega)] at h1
            simpa using h1
          rw [e1 k (by omega), e1 i hi]
          exact hp
        · simp (implicitDefEqProofs := false) (disch := omega) only [WPs, opds, List.all_cons, List.all_nil, List.cons_append, List.nil_append, cond_true, cond_false, eq_self, List.map_cons, List.map_nil, Nat.reduceAdd, Nat.testBit, Nat.reduceShiftRight, Nat.reduceAnd, Nat.reduceBNe, Nat.reduceMul]
          refine wr_end (ih (j + 1) (by omega) M N (Nat.lor w0 (Nat.lor (Nat.lor (Nat.lor (Nat.lor (Nat.lor (bit N') (bit N')) w1) (Nat.lor w2 w3)) ws) w)) tag1 v1 _ _ _ _ _ (by omega) (fun b hb => ?_) (fun i hi => ?_) (hBs.stay hNl hMl) hI1) fun X e m n w hq => ?_
          · rw [hMl b (by omega), ms b (by omega), m3 b (by omega), m2 b (by omega), c1.fr b (by omega) (.inl hb), fput_ne _ _ _ _ (by omega)]
            exact hM b hb
          · simp only [frz_iff]
            exact ⟨hw i hi, ⟨⟨⟨⟨frz_bit (by omega), frz_bit (by omega)⟩, fz1 i hi⟩, ⟨f2 i (by omega), f3 i (by omega)⟩⟩, fs i (by omega)⟩, hwl i (by omega)⟩
          · rw [← lor_assoc']; exact hq
theorem liveLaw (H : Hy E Y) (T : Tq E) (R : Tr E) (hE : E 8 = some ac8) (m : FM) (n : Nat) (lv : Value) (cs : List (Act × Value)) (hl : RecsV recA m n lv cs) (hs : cs.length ≤ 9223372036854775807) : Pure (callW PG E Y 8 [lv] m n) m n (.bool true) := by
  refine pure_spec hE rfl rfl ?_
  simp only [ac8]
  simp (implicitDefEqProofs := false) (disch := omega) only [WPs, opds, List.all_cons, List.all_nil, List.cons_append, List.nil_append, cond_true, cond_false, eq_self, List.map_cons, List.map_nil, Nat.reduceAdd, Nat.testBit, Nat.reduceShiftRight, Nat.reduceAnd, Nat.reduceBNe, Nat.reduceMul]
  refine use_pure (awake_spec H T R m n) fun _ => ?_
  simp (implicitDefEqProofs := false) (disch := omega) only [WPs, opds, List.all_cons, List.all_nil, List.cons_append, List.nil_append, cond_true, cond_false, eq_self, List.map_cons, List.map_nil, Nat.reduceAdd, Nat.testBit, Nat.reduceShiftRight, Nat.reduceAnd, Nat.reduceBNe, Nat.reduceMul]
  refine use_pure (large_spec R hl hs) fun _ => ?_
  cases hbg : largeB cs with
  | true => simp (implicitDefEqProofs := false) (disch := omega) only [WPs, opds, List.all_cons, List.all_nil, List.cons_append, List.nil_append, cond_true, cond_false, eq_self, List.map_cons, List.map_nil, Nat.reduceAdd, Nat.testBit, Nat.reduceShiftRight, Nat.reduceAnd, Nat.reduceBNe, Nat.reduceMul]
  | false =>
    simp (implicitDefEqProofs := false) (disch := omega) only [WPs, opds, List.all_cons, List.all_nil, List.cons_append, List.nil_append, cond_true, cond_false, eq_self, List.map_cons, List.map_nil, Nat.reduceAdd, Nat.testBit, Nat.reduceShiftRight, Nat.reduceAnd, Nat.reduceBNe, Nat.reduceMul]
    refine use_rt (new_spec T m n) fun x M1 N1 r1 w1 ⟨a1, a2, a3, ex, eN, a4⟩ => ?_
    subst ex eN
    have hN := a4 (fun b => if b = n then 2 else if b = n + 1 then 3 else if b = n + 2 then 1 else if b = n + 3 then 11 else 0) (if_pos rfl) (by show (if n + 1 = n then 2 else if n + 1 = n + 1 then 3 else _) = 3; rw [if_neg (by omega), if_pos rfl]) (by show (if n + 2 = n then 2 else if n + 2 = n + 1 then 3 else if n + 2 = n + 2 then 1 else _) = 1; rw [if_neg (by omega), if_neg (by omega), if_pos rfl])
    have hB := both_new (m := m) hN
    simp (implicitDefEqProofs := false) (disch := omega) only [WPs, opds, List.all_cons, List.all_nil, List.cons_append, List.nil_append, cond_true, cond_false, eq_self, List.map_cons, List.map_nil, Nat.reduceAdd, Nat.testBit, Nat.reduceShiftRight, Nat.reduceAnd, Nat.reduceBNe, Nat.reduceMul, hl.len]
    refine wr_kont (live_L3 H T R hl hbg (n + 2) (n + 3) (fun M' N' w hw e' r => ?_) cs.length 0 (by omega) _ (n + 4) 0 _ [] _ _ _ _ _ (by omega) (fun b hb => ?_) (fun j _ => Nat.zero_mod _) hB List.Pairwise.nil)
    · have fz := hw n (Nat.le_refl _)
      have fz1 := a3 n (Nat.le_refl _)
      simp (implicitDefEqProofs := false) (disch := omega) only [WPs, opds, List.all_cons, List.all_nil, List.cons_append, List.nil_append, cond_true, cond_false, eq_self, List.map_cons, List.map_nil, Nat.reduceAdd, Nat.testBit, Nat.reduceShiftRight, Nat.reduceAnd, Nat.reduceBNe, Nat.reduceMul, fz, fz1]
    · rw [fput_ne _ _ _ _ (by omega)]; exact a2 b hb
end Go.Am.C41
