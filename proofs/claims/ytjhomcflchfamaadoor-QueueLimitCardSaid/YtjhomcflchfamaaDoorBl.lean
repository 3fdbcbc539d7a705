/- The machine and its runs, part Bl: Am41qf. -/
import Derived.Test.YtjhomcflchfamaaDoorZ
import Derived.Test.YtjhomcflchfamaaDoorBx
set_option linter.unusedVariables false
set_option linter.unusedSimpArgs false
set_option linter.unusedSectionVars false
namespace Go.Am.C41
open Go Go.Am
set_option maxRecDepth 100000
variable {E : Nat → Option AFn} {Y : Nat → List Value → FM → Nat → OR FM}
def rdC (i : Nat) : Cmd := ⟨(i : Int), 1, 0, false, ⟨#[118]⟩, ⟨#[]⟩, (i : Int), 1, []⟩
def flC (t : Int) : Cmd := ⟨t, 4, 0, false, ⟨#[]⟩, ⟨#[]⟩, 0, 0, []⟩
def rdV (k : Nat) : QV := (List.range k).map fun i => (rdC i, false)
theorem rd_valid {i : Nat} (h : i < 68) : ValidP (rdC i) := ⟨⟨show (0 : Int) ≤ (i : Int) by omega, show (i : Int) ≤ 2147483647 by omega, .inl rfl⟩, .inl ⟨rfl, np, rfl, rfl, rfl, ⟨show (0 : Int) ≤ (i : Int) by omega, show (1 : Int) ≤ 1 by decide, show (i : Int) ≤ 65536 by omega, show (1 : Int) ≤ 65536 by decide, show (i : Int) + 1 ≤ 65536 by omega⟩, show (1 : Int) ≤ 16 by decide⟩⟩
theorem fl_valid {t : Int} (h : 0 ≤ t) (h' : t < 60) : ValidP (flC t) := ⟨⟨h, show t ≤ 2147483647 by omega, .inl rfl⟩, .inr (.inr (.inr (.inl ⟨rfl, rfl, rfl, rfl, rfl, rfl, rfl⟩)))⟩
theorem rd_fit {i : Nat} (h : i < 68) : (rdC i).Fit := by
  constructor
  · exact ⟨show (-9223372036854775808 : Int) ≤ (i : Int) by omega, show (i : Int) < 9223372036854775808 by omega⟩
  · exact ⟨show (-9223372036854775808 : Int) ≤ 1 by decide, show (1 : Int) < 9223372036854775808 by decide⟩
  · exact ⟨show (-9223372036854775808 : Int) ≤ 0 by decide, show (0 : Int) < 9223372036854775808 by decide⟩
  · exact ⟨show (-9223372036854775808 : Int) ≤ (i : Int) by omega, show (i : Int) < 9223372036854775808 by omega⟩
  · exact ⟨show (-9223372036854775808 : Int) ≤ 1 by decide, show (1 : Int) < 9223372036854775808 by decide⟩
  · exact show (⟨#[118]⟩ : ByteArray).size ≤ 9223372036854775807 by decide
  · exact show (⟨#[]⟩ : ByteArray).size ≤ 9223372036854775807 by decide
  · exact Nat.zero_le _
theorem fl_fit {t : Int} (h : 0 ≤ t) (h' : t < 60) : (flC t).Fit := by
  constructor
  · exact ⟨show (-9223372036854775808 : Int) ≤ t by omega, show t < 9223372036854775808 by omega⟩
  · exact ⟨show (-9223372036854775808 : Int) ≤ 4 by decide, show (4 : Int) < 9223372036854775808 by decide⟩
  · exact ⟨show (-9223372036854775808 : Int) ≤ 0 by decide, show (0 : Int) < 9223372036854775808 by decide⟩
  · exact ⟨show (-9223372036854775808 : Int) ≤ 0 by decide, show (0 : Int) < 9223372036854775808 by decide⟩
  · exact ⟨show (-9223372036854775808 : Int) ≤ 0 by decide, show (0 : Int) < 9223372036854775808 by decide⟩
  · exact show (⟨#[]⟩ : ByteArray).size ≤ 9223372036854775807 by decide
  · exact show (⟨#[]⟩ : ByteArray).size ≤ 9223372036854775807 by decide
  · exact Nat.zero_le _
theorem rdV_len (k : Nat) : (rdV k).length = k := by rw [rdV, List.length_map, List.length_range]
theorem rdV_succ (k : Nat) : rdV (k + 1) = rdV k ++ [(rdC k, false)] := by rw [rdV, List.range_succ, List.map_append]; rfl
theorem rdV_tag {k : Nat} {t : Int} : t ∈ tagsV (rdV k) ↔ ∃ i, i < k ∧ (i : Int) = t := by
  rw [tagsV, rdV, List.map_map]
  constructor
  · intro h
    obtain ⟨i, h1, h2⟩ := List.mem_map.1 h
    exact ⟨i, List.mem_range.1 h1, h2⟩
  · rintro ⟨i, h1, h2⟩
    exact List.mem_map.2 ⟨i, List.mem_range.2 h1, h2⟩
theorem rd_sub {j : Nat} (h : j < 64) : subEV (rdV j) (rdC j) = 0 := by
  rw [subEV, if_pos (validB_t (rd_valid (by omega))), if_neg, if_neg (by rw [rdV_len]; omega)]
  intro hm
  obtain ⟨i, h1, h2⟩ := rdV_tag.1 hm
  have h2 : (i : Int) = (j : Int) := h2
  omega
theorem rd_full {j : Nat} (h : j < 68) (h' : 64 ≤ j) : subEV (rdV 64) (rdC j) = 7 := by
  rw [subEV, if_pos (validB_t (rd_valid h)), if_neg, if_pos (by rw [rdV_len]; omega)]
  intro hm
  obtain ⟨i, h1, h2⟩ := rdV_tag.1 hm
  have h2 : (i : Int) = (j : Int) := h2
  omega
theorem fl_dup {k : Nat} {t : Int} (h : 0 ≤ t) (h' : t < 60) (hk : 60 ≤ k) : subEV (rdV k) (flC t) = 10 := by
  rw [subEV, if_pos (validB_t (fl_valid h h')), if_pos]
  exact rdV_tag.2 ⟨t.toNat, by omega, show ((t.toNat : Nat) : Int) = t by omega⟩
theorem rd_bef (i j : Nat) : befB (rdC i) (rdC j) = false := by
  rw [befB, overB_f]; rfl
  rintro ⟨_, _, ⟨h, _⟩ | ⟨_, _, _, h1, h2, h3⟩⟩
  · rcases h with h | h
    · exact absurd (show (5 : Int) ≤ 1 from h) (by decide)
    · exact absurd (show (5 : Int) ≤ 1 from h) (by decide)
  · rcases h3 with h3 | h3
    · exact absurd rfl h3
    · exact absurd rfl h3
theorem rdV_elig (k : Nat) : (eligL (rdV k)).length = k := by
  have h : eligL (rdV k) = tagsV (rdV k) := by
    rw [eligL, pick_congr (p' := fun _ => true) fun i hi => ?_, pick_true _ (by rw [tagsV_len]; exact Nat.le_refl _), List.take_of_length_le (by rw [tagsV_len]; exact Nat.le_refl _)]
    have hk := rdV_len k
    have e1 : ∀ a, a < k → cmV (rdV k) a = rdC a := fun a ha => by
      rw [cmV_eq (by omega)]; simp [rdV]
    rw [eligV, flV_eq hi, show (rdV k)[i].2 = false by simp [rdV]]
    have : ((List.range i).any fun a => befB (cmV (rdV k) a) (cmV (rdV k) i)) = false := by
      rw [← Bool.not_eq_true, List.any_eq_true]
      rintro ⟨a, ha, hp⟩
      have ha := List.mem_range.1 ha
      rw [e1 a (by omega), e1 i (by omega), rd_bef] at hp
      cases hp
    rw [this]; rfl
  rw [h, tagsV_len, rdV_len]
theorem t_min {P : Program} {k k' : IntKind} {a b : Int} : purV P .min [.int k a, .int k' b] = some (.int k (if b < a then b else a)) := by
  show some (Value.int k (cond (ltB b a) b a)) = _
  rw [ltB_eq]
  by_cases h : b < a <;> simp [h]
theorem t_purm (P : Program) (rec : Nat → List Value → FM → Nat → OR FM) (e : List Value) (m : FM) (n : Nat) (xs : List Opd) : stepA P rec e m n (.pur .min xs) = valO m n (purV P .min (evs e xs)) := rfl
theorem lim_L0 (H : Hy E Y) (T : Tq E) {n : Nat} (q B : Nat) (hB : B < 68) (h60 : 60 ≤ B) (x5 x6 nv tv : Value) {Q : AX → List Value → FM → Nat → Nat → Prop}
    (hQ : ∀ M N w tag, (∀ j, j ≤ n → Nat.mod w (bit j) = 0) → QIv M n N tag q (rdV (if B < 64 then B else 64)) → ∀ x0 x2, Q (.exit 0) [x0, x2, .int .i64 (B : Int), .pointer (some ⟨q, 0, none⟩), x5, x6, nv, tv] M N w) :
    ∀ d j, j + d = B → ∀ (M : FM) (N w0 : Nat) (tag : Tags) (x0 x2 : Value), (∀ j, j ≤ n → Nat.mod w0 (bit j) = 0) → QIv M n N tag q (rdV (if j < 64 then j else 64)) →
    Gv (execW PG E Y ac4L0 [x0, .int .i64 (j : Int), x2, .int .i64 (B : Int), .pointer (some ⟨q, 0, none⟩), x5, x6, nv, tv] M N) fun X e m n w => Q X e m n (Nat.lor w0 w) := by
  intro d
  induction d with
  | zero =>
    intro j hj M N w0 tag x0 x2 hw hI
    obtain rfl : j = B := by omega
    refine wr_loopN (L := ac4L0) (b := ac4L0b) rfl ?_
    simp only [ac4L0b]
    simp (implicitDefEqProofs := false) (disch := omega) only [WPs, opds, List.all_cons, List.all_nil, List.cons_append, List.nil_append, cond_true, cond_false, eq_self, List.map_cons, List.map_nil, Nat.reduceAdd, Nat.testBit, Nat.reduceShiftRight, Nat.reduceAnd, Nat.reduceBNe, Nat.reduceMul]
    exact hQ _ _ _ tag hw hI _ _
  | succ d ih =>
    intro j hj M N w0 tag x0 x2 hw hI
    have hn0 := hI.n0
    refine wr_loopN (L := ac4L0) (b := ac4L0b) rfl ?_
    simp only [ac4L0b]
    simp (implicitDefEqProofs := false) (disch := omega) only [WPs, opds, List.all_cons, List.all_nil, List.cons_append, List.nil_append, cond_true, cond_false, eq_self, List.map_cons, List.map_nil, Nat.reduceAdd, Nat.testBit, Nat.reduceShiftRight, Nat.reduceAnd, Nat.reduceBNe, Nat.reduceMul]
    refine use_rt (submit_v H T hI (rdC j) _ (rd_fit (by omega)) (datQ_nil _ _ _ _) (Nat.zero_le _)) fun x M1 N1 r1 w1 ⟨hm, _⟩ => ?_
    by_cases h64 : j < 64
    · rw [if_pos h64] at hm hI
      obtain ⟨rfl, tag1, c1, q1⟩ := hm.ok (rd_sub h64)
      have fz := c1.w
      simp (implicitDefEqProofs := false) (disch := omega) only [WPs, opds, List.all_cons, List.all_nil, List.cons_append, List.nil_append, cond_true, cond_false, eq_self, List.map_cons, List.map_nil, Nat.reduceAdd, Nat.testBit, Nat.reduceShiftRight, Nat.reduceAnd, Nat.reduceBNe, Nat.reduceMul, neq_bools 4 t4, decide_eq_true (show (j : Int) < 64 by omega), decide_eq_true (show (true : Bool) = true from rfl)]
      refine wr_end (ih (j + 1) (by omega) M1 N1 (Nat.lor w0 w1) tag1 _ _ (fun i hi => ?_) ?_) fun X e m n w hq => ?_
      · rw [frz_iff]; exact ⟨hw i hi, fz i hi⟩
      · rw [← rdV_succ] at q1
        by_cases h : j + 1 < 64
        · rw [if_pos h]; exact q1
        · obtain rfl : j = 63 := by omega
          exact q1
      · rw [← lor_assoc']; exact hq
    · rw [if_neg h64] at hm hI
      rw [rd_full (by omega) (by omega)] at hm
      obtain ⟨rfl, rfl, rfl, rfl⟩ := hm.bad (by decide)
      simp (implicitDefEqProofs := false) (disch := omega) only [WPs, opds, List.all_cons, List.all_nil, List.cons_append, List.nil_append, cond_true, cond_false, eq_self, List.map_cons, List.map_nil, Nat.reduceAdd, Nat.testBit, Nat.reduceShiftRight, Nat.reduceAnd, Nat.reduceBNe, Nat.reduceMul, neq_bools 4 t4, decide_eq_false (show ¬ (j : Int) < 64 by omega), decide_eq_true (show (64 : Int) ≤ (j : Int) by omega), decide_eq_true (show (false : Bool) = false from rfl)]
      refine wr_end (ih (j + 1) (by omega) M1 N1 w0 tag _ _ hw ?_) fun X e m n w hq => ?_
      · rw [if_neg (by omega)]; exact hI
      · simpa only [zero_lor'] using hq
theorem limitLaw (H : Hy E Y) (T : Tq E) (R : Tr E) (hE : E 4 = some ac4) (m : FM) (n : Nat) (z : Int) (hz : 0 ≤ z ∧ z < 256) (t : Int) : Pure (callW PG E Y 4 [.int .u8 z, .int .i64 t] m n) m n (.bool true) := by
  obtain ⟨k, rfl⟩ : ∃ k : Nat, z = (k : Int) := ⟨z.toNat, by omega⟩
  obtain ⟨B, hB0⟩ : ∃ B : Nat, B = 60 + k % 8 := ⟨_, rfl⟩
  have hB1 : 60 ≤ B ∧ B < 68 := by omega
  have hBz : (60 : Int) + ((k % 8 : Nat) : Int) = (B : Int) := by omega
  refine pure_spec hE rfl rfl ?_
  simp only [ac4]
  simp (implicitDefEqProofs := false) (disch := omega) only [WPs, opds, List.all_cons, List.all_nil, List.cons_append, List.nil_append, cond_true, cond_false, eq_self, List.map_cons, List.map_nil, Nat.reduceAdd, Nat.testBit, Nat.reduceShiftRight, Nat.reduceAnd, Nat.reduceBNe, Nat.reduceMul]
  refine use_pure (awake_spec H T R m n) fun _ => ?_
  simp (implicitDefEqProofs := false) (disch := omega) only [WPs, opds, List.all_cons, List.all_nil, List.cons_append, List.nil_append, cond_true, cond_false, eq_self, List.map_cons, List.map_nil, Nat.reduceAdd, Nat.testBit, Nat.reduceShiftRight, Nat.reduceAnd, Nat.reduceBNe, Nat.reduceMul]
  refine use_rt (new_spec T m n) fun x M1 N1 r1 w1 ⟨a1, a2, a3, ex, eN, a4⟩ => ?_
  subst ex eN
  have hN := a4 (fun b => if b = n then 2 else if b = n + 1 then 3 else if b = n + 2 then 1 else 0) (if_pos rfl) (by rw [if_neg (by omega), if_pos rfl]) (by rw [if_neg (by omega), if_neg (by omega), if_pos rfl])
  have hq : QIv M1 n (n + 3) _ (n + 2) (rdV (if 0 < 64 then 0 else 64)) := ⟨[], [], _, _, _, hN, rfl⟩
  have hcz := conv_u8i (q := k % 8) (by omega)
  simp (implicitDefEqProofs := false) (disch := omega) only [WPs, opds, List.all_cons, List.all_nil, List.cons_append, List.nil_append, cond_true, cond_false, eq_self, List.map_cons, List.map_nil, Nat.reduceAdd, Nat.testBit, Nat.reduceShiftRight, Nat.reduceAnd, Nat.reduceBNe, Nat.reduceMul, rem8_u8, hcz, hBz]
  refine wr_kont (lim_L0 H T (n + 2) B hB1.2 hB1.1 _ _ _ _ (fun M N w tag hw hI x0 x2 rr => ?_) B 0 (by omega) M1 (n + 3) 0 _ _ _ (fun _ _ => Nat.zero_mod _) hq)
  have fzw := hw n (Nat.le_refl _)
  have fz1 := a3 n (Nat.le_refl _)
  have hk60 : 60 ≤ (if B < 64 then B else 64) := by split <;> omega
  have hmin : (if (B : Int) < 64 then (B : Int) else 64) = (((if B < 64 then B else 64) : Nat) : Int) := by
    by_cases h : B < 64
    · rw [if_pos (by omega), if_pos h]
    · rw [if_neg (by omega), if_neg h]; rfl
  generalize hK : (if B < 64 then B else 64) = K at hI hk60 hmin
  by_cases ht : t < 0
  · simp (implicitDefEqProofs := false) (disch := omega) only [WPs, opds, List.all_cons, List.all_nil, List.cons_append, List.nil_append, cond_true, cond_false, eq_self, List.map_cons, List.map_nil, Nat.reduceAdd, Nat.testBit, Nat.reduceShiftRight, Nat.reduceAnd, Nat.reduceBNe, Nat.reduceMul, fzw, fz1]
  by_cases ht2 : 60 ≤ t
  · simp (implicitDefEqProofs := false) (disch := omega) only [WPs, opds, List.all_cons, List.all_nil, List.cons_append, List.nil_append, cond_true, cond_false, eq_self, List.map_cons, List.map_nil, Nat.reduceAdd, Nat.testBit, Nat.reduceShiftRight, Nat.reduceAnd, Nat.reduceBNe, Nat.reduceMul, fzw, fz1]
  simp (implicitDefEqProofs := false) (disch := omega) only [WPs, opds, List.all_cons, List.all_nil, List.cons_append, List.nil_append, cond_true, cond_false, eq_self, List.map_cons, List.map_nil, Nat.reduceAdd, Nat.testBit, Nat.reduceShiftRight, Nat.reduceAnd, Nat.reduceBNe, Nat.reduceMul, fzw, fz1]
  refine use_rt (submit_v H T hI (flC t) _ (fl_fit (by omega) (by omega)) (datQ_nil _ _ _ _) (Nat.zero_le _)) fun x M2 N2 r2 w2 ⟨hm, _⟩ => ?_
  rw [fl_dup (by omega) (by omega) hk60] at hm
  obtain ⟨rfl, rfl, rfl, rfl⟩ := hm.bad (by decide)
  simp (implicitDefEqProofs := false) (disch := omega) only [WPs, opds, List.all_cons, List.all_nil, List.cons_append, List.nil_append, cond_true, cond_false, eq_self, List.map_cons, List.map_nil, Nat.reduceAdd, Nat.testBit, Nat.reduceShiftRight, Nat.reduceAnd, Nat.reduceBNe, Nat.reduceMul]
  refine use_rt (tags_v T hI) fun x3 M3 N3 r3 w3 ⟨n3, m3, f3, g3⟩ => ?_
  have l3 := g3.len
  rw [tagsV_len, rdV_len] at l3
  have hI3 := hI.stay n3 m3
  simp (implicitDefEqProofs := false) (disch := omega) only [WPs, opds, List.all_cons, List.all_nil, List.cons_append, List.nil_append, cond_true, cond_false, eq_self, List.map_cons, List.map_nil, Nat.reduceAdd, Nat.testBit, Nat.reduceShiftRight, Nat.reduceAnd, Nat.reduceBNe, Nat.reduceMul, l3, rem8_u8, hcz, hBz, t_purm, t_min, hmin]
  refine use_rt (elig_v H T hI3) fun x4 M4 N4 r4 w4 ⟨n4, m4, f4, g4⟩ => ?_
  have l4 := g4.len
  rw [rdV_elig] at l4
  have hI4 := hI3.stay n4 m4
  simp (implicitDefEqProofs := false) (disch := omega) only [WPs, opds, List.all_cons, List.all_nil, List.cons_append, List.nil_append, cond_true, cond_false, eq_self, List.map_cons, List.map_nil, Nat.reduceAdd, Nat.testBit, Nat.reduceShiftRight, Nat.reduceAnd, Nat.reduceBNe, Nat.reduceMul, l4]
  refine use_rt (tags_v T hI4) fun x5 M5 N5 r5 w5 ⟨n5, m5, f5, g5⟩ => ?_
  have l5 := g5.len
  rw [tagsV_len, rdV_len] at l5
  simp (implicitDefEqProofs := false) (disch := omega) only [WPs, opds, List.all_cons, List.all_nil, List.cons_append, List.nil_append, cond_true, cond_false, eq_self, List.map_cons, List.map_nil, Nat.reduceAdd, Nat.testBit, Nat.reduceShiftRight, Nat.reduceAnd, Nat.reduceBNe, Nat.reduceMul, l5]
  have nI := hI.n0
  exact ⟨⟨fz1, fzw⟩, ⟨f3 n (by omega), f4 n (by omega)⟩, f5 n (by omega)⟩
end Go.Am.C41
