/- The machine and its runs, part 15: Am41md Am41na Am41nb Am41oa Am41ob Am41j AmArgs AmWorld AmTrod AmTrod2 Am41oe AmVals Am41of Am41og AmPost. -/
import Derived.Deep.Matrix
import Derived.OpenShut
import Derived.ProofKit
import Derived.Test.YtjhomcflchfamaaDoorB14
set_option linter.unusedVariables false
set_option linter.unusedSimpArgs false
set_option linter.unusedSectionVars false
namespace Go.Am.C41
open Go Go.Am
variable {E : Nat → Option AFn} {Y : Nat → List Value → FM → Nat → OR FM}
def Both (M : FM) (n0 N : Nat) (tag : Tags) (q r : Nat) (v : QV) : Prop := QIv M n0 N tag q v ∧ QRv M n0 N tag r v
noncomputable def stepV (v : QV) (a : Act) : QV :=
  if a.kind = 0 then (if subEV v a.c = 0 then v ++ [(a.c, false)] else v)
  else if a.kind = 1 then (if startEV v (tagZ (tagsV v) a.k) = 0 then startV v (tagZ (tagsV v) a.k) else v)
  else if a.kind = 2 then (if remEV v (tagZ (tagsV v) a.k) true = 0 then remV v (tagZ (tagsV v) a.k) else v)
  else if a.kind = 3 then (if remEV v (tagZ (tagsV v) a.k) false = 0 then remV v (tagZ (tagsV v) a.k) else v)
  else v
theorem do_spec (H : Hy E Y) (T : Tq E) (R : Tr E) {M : FM} {n0 N : Nat} {tag : Tags} {q r : Nat} {v : QV} (h : Both M n0 N tag q r v) (a : Act) (d : Value) (hF : a.c.Fit) (hv : DatS M n0 d a.c.data) (hs : a.c.data.length ≤ 1000000) :
    Rt (callW PG E Y 20 [.pointer (some ⟨q, 0, none⟩), .pointer (some ⟨r, 0, none⟩), actV a d] M N) fun x M' N' w => x = .bool true ∧ ∃ tag', Chg M n0 N tag 1 15 M' N' w tag' ∧ Both M' n0 N' tag' q r (stepV v a) := by
  have q1 := h.1.q1
  have r1 := h.2.r1
  have hn0 := h.1.n0
  have hnd := h.1.nd
  have hvN := hv.frame (by omega : n0 ≤ N) (fun _ _ => rfl)
  have fd : ∀ k, N ≤ k → belowF k d = true := fun k hk => by
    have hb := hvN.v.bel k hk
    obtain ⟨a, cc, e, _⟩ := hvN.v
    rw [e] at hb ⊢; exact hb
  have od := hvN.v.one
  refine chg_spec R.e20 rfl fun Q hQ => ?_
  simp only [ac20, actV]
  generalize hM0 : (AMem.put M N (some (.cells (a.cells d) 0 false true)) : FM) = M0
  have hM0b : ∀ b, b < N → M0 b = M b := fun b hb => by rw [← hM0]; exact fput_ne _ _ _ _ (by omega)
  have hbx : M0 N = some (.cells (a.cells d) 0 false true) := by rw [← hM0]; exact fput_same _ _ _
  obtain ⟨tag0, ht0, htN⟩ : ∃ tag0 : Tags, (∀ b, b < N → tag0 b = tag b) ∧ tag0 N = 0 := ⟨fun b => if b < N then tag b else 0, fun b hb => if_pos hb, if_neg (by omega)⟩
  have hI : QIv M0 n0 (N + 1) tag0 q v := h.1.frame (by omega) (fun b _ hb => ht0 b hb) (fun b _ hb _ _ => hM0b b hb)
  have hR : QRv M0 n0 (N + 1) tag0 r v := h.2.frame (by omega) (fun b _ hb => ht0 b hb) (fun b _ hb _ _ => hM0b b hb)
  have hag : aggO (some (a.cells d)) = some (actV a d) := rfl
  have hba : belowV (N + 1) (actV a d) = true := by
    simp only [actV]
    rw [belowV_agg]
    simp only [List.all_cons, List.all_nil, fd (N + 1) (by omega), Bool.and_true]
    rfl
  simp only [Act.cells] at hM0 hbx
  simp (implicitDefEqProofs := false) (disch := omega) only [WPs, opds, List.all_cons, List.all_nil, List.cons_append, List.nil_append, cond_true, cond_false, eq_self, List.map_cons, List.map_nil, Nat.reduceAdd, Nat.testBit, Nat.reduceShiftRight, Nat.reduceAnd, Nat.reduceBNe, Nat.reduceMul, od, hM0, hbx]
  refine use_pure (tag_v R hR a d od) fun _ => ?_
  generalize hz : tagZ (tagsV v) a.k = z
  have hmz : Nat.mod (bit N) (bit N) = 0 := frz_bit (Nat.le_refl _)
  have hnot : ∀ w1 wt, Wrt (N + 1) tag0 1 5 w1 → (∀ k, Nat.testBit w1 k = true → Nat.testBit wt k = true) → ¬ Nat.mod wt (bit N) = 0 := fun w1 wt ⟨k, hk, k1, k2, k3⟩ hs hw => by
    have hkN : k < N := by
      rcases Nat.lt_or_ge k N with h | h
      · exact h
      · have : k = N := by omega
        subst this; omega
    have := mod_bit hw k hkN
    rw [hs k k3] at this; cases this
  have hfin : ∀ {M1 N1 w1 tag1 M3 N3 w2 tag3 wt}, Chg M0 n0 (N + 1) tag0 1 5 M1 N1 w1 tag1 → Chg M1 n0 N1 tag1 11 15 M3 N3 w2 tag3 → (∀ j, j ≤ n0 → Nat.mod wt (bit j) = 0) → Chg M n0 N tag 1 15 M3 N3 wt tag3 := fun {M1 N1 w1 tag1 M3 N3 w2 tag3 wt} c1 c3 hw => by
    have hn1 := c1.n
    have hn3 := c3.n
    exact ⟨by omega, hw, fun b hb => by rw [c3.tg b (by omega), c1.tg b (by omega), ht0 b hb], fun b hb hx => by
      have ht := ht0 b hb
      have ht1 := c1.tg b (by omega : b < N + 1)
      rw [c3.fr b (by omega) (by omega), c1.fr b (by omega) (by omega), hM0b b hb]⟩
  have hboth : ∀ {M1 N1 w1 tag1 M3 N3 w2 tag3 v'}, Chg M0 n0 (N + 1) tag0 1 5 M1 N1 w1 tag1 → Chg M1 n0 N1 tag1 11 15 M3 N3 w2 tag3 → QIv M1 n0 N1 tag1 q v' → QRv M3 n0 N3 tag3 r v' → Both M3 n0 N3 tag3 q r v' := fun {M1 N1 w1 tag1 M3 N3 w2 tag3 v'} c1 c3 hq hr =>
    ⟨hq.frame c3.n (fun b _ hb => c3.tg b hb) (fun b _ hb k1 k2 => c3.fr b hb (.inr (.inl (by omega)))), hr⟩
  by_cases k0 : a.kind = 0
  · have hst : stepV v a = if subEV v a.c = 0 then v ++ [(a.c, false)] else v := by rw [stepV, if_pos k0]
    have hv0 := hv.frame (m' := M0) (Nat.le_refl _) fun b hb => hM0b b (by omega)
    simp (implicitDefEqProofs := false) (disch := omega) only [WPs, opds, List.all_cons, List.all_nil, List.cons_append, List.nil_append, cond_true, cond_false, eq_self, List.map_cons, List.map_nil, Nat.reduceAdd, Nat.testBit, Nat.reduceShiftRight, Nat.reduceAnd, Nat.reduceBNe, Nat.reduceMul, hbx, decide_eq_true k0, fd]
    refine use_rtX (submit_v H T hI a.c d hF (hv0.q (by omega)) hs) fun x M1 N1 rr1 w1 ⟨⟨hx, hm⟩, hland⟩ => ?_
    subst hx
    have lN : Nat.land w1 (bit N) = 0 := hland N (by omega) (by omega) (.inl (by omega))
    have lN2 : Nat.land (bit N) w1 = 0 := by rw [show Nat.land (bit N) w1 = Nat.land w1 (bit N) from Nat.and_comm ..]; exact lN
    rcases hm with ⟨z0, rfl, rfl, rfl⟩ | ⟨z0, hw, tag1, hc1, hq1⟩
    · simp (implicitDefEqProofs := false) (disch := omega) only [WPs, opds, List.all_cons, List.all_nil, List.cons_append, List.nil_append, cond_true, cond_false, eq_self, List.map_cons, List.map_nil, Nat.reduceAdd, Nat.testBit, Nat.reduceShiftRight, Nat.reduceAnd, Nat.reduceBNe, Nat.reduceMul, hbx, fd]
      refine use_rtX (rsubmit_v H R hR a.c d hF hv0 hs) fun x M3 N3 rr3 w3 ⟨hx, hm⟩ => ?_
      subst hx
      rcases hm with ⟨z1, rfl, rfl, rfl⟩ | ⟨z1, _⟩
      · rw [if_neg z0] at hst
        simp (implicitDefEqProofs := false) (disch := omega) only [WPs, opds, List.all_cons, List.all_nil, List.cons_append, List.nil_append, cond_true, cond_false, eq_self, List.map_cons, List.map_nil, Nat.reduceAdd, Nat.testBit, Nat.reduceShiftRight, Nat.reduceAnd, Nat.reduceBNe, Nat.reduceMul]
        exact hQ _ _ _ _ _ (fun _ _ => ⟨rfl, tag, Chg.none _ _ _ _ _ _, by rw [hst]; exact h⟩) (fun hn => absurd ⟨rfl, hmz⟩ hn)
      · exact absurd z1 z0
    · have hR1 := hR.frame hc1.n (fun b _ hb => hc1.tg b hb) (fun b _ hb k1 k2 => hc1.fr b hb (.inr (.inr (by omega))))
      have hn1 := hc1.n
      have hbx1 := (hc1.fr N (by omega) (.inr (.inl (by omega)))).trans hbx
      have hv1 := hv0.frame (m' := M1) (Nat.le_refl _) fun b hb => hc1.fr b (by omega) (.inl hb)
      simp (implicitDefEqProofs := false) (disch := omega) only [WPs, opds, List.all_cons, List.all_nil, List.cons_append, List.nil_append, cond_true, cond_false, eq_self, List.map_cons, List.map_nil, Nat.reduceAdd, Nat.testBit, Nat.reduceShiftRight, Nat.reduceAnd, Nat.reduceBNe, Nat.reduceMul, hbx1, fd, lN, lN2]
      refine use_rtX (rsubmit_v H R hR1 a.c d hF hv1 hs) fun x M3 N3 rr3 w3 ⟨hx, hm⟩ => ?_
      subst hx
      rcases hm with ⟨z1, _⟩ | ⟨_, hw3, tag3, hc3, hr3⟩
      · exact absurd z0 z1
      · rw [if_pos z0] at hst
        simp (implicitDefEqProofs := false) (disch := omega) only [WPs, opds, List.all_cons, List.all_nil, List.cons_append, List.nil_append, cond_true, cond_false, eq_self, List.map_cons, List.map_nil, Nat.reduceAdd, Nat.testBit, Nat.reduceShiftRight, Nat.reduceAnd, Nat.reduceBNe, Nat.reduceMul]
        exact hQ _ _ _ _ _ (fun _ hw0 => absurd hw0 (hnot _ _ hw (fun k hk => by simp only [lor_test, hk, Bool.true_or, Bool.or_true]))) (fun _ => ⟨rfl, tag3, hfin hc1 hc3 (fun j hj => by simp only [frz_iff]; exact ⟨frz_bit (by omega), hc1.w j hj, hc3.w j hj⟩), by rw [hst]; exact hboth hc1 hc3 hq1 hr3⟩)
  by_cases k1 : a.kind = 1
  · have hst : stepV v a = if startEV v z = 0 then startV v z else v := by rw [stepV, if_neg k0, if_pos k1, hz]
    simp (implicitDefEqProofs := false) (disch := omega) only [WPs, opds, List.all_cons, List.all_nil, List.cons_append, List.nil_append, cond_true, cond_false, eq_self, List.map_cons, List.map_nil, Nat.reduceAdd, Nat.testBit, Nat.reduceShiftRight, Nat.reduceAnd, Nat.reduceBNe, Nat.reduceMul, hbx, decide_eq_false k0, decide_eq_true k1]
    refine use_rt (start_v H T hI z) fun x M1 N1 rr1 w1 ⟨hx, hm⟩ => ?_
    subst hx
    rcases hm with ⟨z0, rfl, rfl, rfl⟩ | ⟨z0, hw, tag1, hc1, hq1⟩
    · simp (implicitDefEqProofs := false) (disch := omega) only [WPs, opds, List.all_cons, List.all_nil, List.cons_append, List.nil_append, cond_true, cond_false, eq_self, List.map_cons, List.map_nil, Nat.reduceAdd, Nat.testBit, Nat.reduceShiftRight, Nat.reduceAnd, Nat.reduceBNe, Nat.reduceMul]
      refine use_rt (rstart_v H R hR hnd z) fun x M3 N3 rr3 w3 ⟨hx, hm⟩ => ?_
      subst hx
      rcases hm with ⟨z1, rfl, rfl, rfl⟩ | ⟨z1, _⟩
      · rw [if_neg z0] at hst
        simp (implicitDefEqProofs := false) (disch := omega) only [WPs, opds, List.all_cons, List.all_nil, List.cons_append, List.nil_append, cond_true, cond_false, eq_self, List.map_cons, List.map_nil, Nat.reduceAdd, Nat.testBit, Nat.reduceShiftRight, Nat.reduceAnd, Nat.reduceBNe, Nat.reduceMul]
        exact hQ _ _ _ _ _ (fun _ _ => ⟨rfl, tag, Chg.none _ _ _ _ _ _, by rw [hst]; exact h⟩) (fun hn => absurd ⟨rfl, hmz⟩ hn)
      · exact absurd z1 z0
    · have hR1 := hR.frame hc1.n (fun b _ hb => hc1.tg b hb) (fun b _ hb k1 k2 => hc1.fr b hb (.inr (.inr (by omega))))
      simp (implicitDefEqProofs := false) (disch := omega) only [WPs, opds, List.all_cons, List.all_nil, List.cons_append, List.nil_append, cond_true, cond_false, eq_self, List.map_cons, List.map_nil, Nat.reduceAdd, Nat.testBit, Nat.reduceShiftRight, Nat.reduceAnd, Nat.reduceBNe, Nat.reduceMul]
      refine use_rt (rstart_v H R hR1 hnd z) fun x M3 N3 rr3 w3 ⟨hx, hm⟩ => ?_
      subst hx
      rcases hm with ⟨z1, _⟩ | ⟨_, hw3, tag3, hc3, hr3⟩
      · exact absurd z0 z1
      · rw [if_pos z0] at hst
        simp (implicitDefEqProofs := false) (disch := omega) only [WPs, opds, List.all_cons, List.all_nil, List.cons_append, List.nil_append, cond_true, cond_false, eq_self, List.map_cons, List.map_nil, Nat.reduceAdd, Nat.testBit, Nat.reduceShiftRight, Nat.reduceAnd, Nat.reduceBNe, Nat.reduceMul]
        exact hQ _ _ _ _ _ (fun _ hw0 => absurd hw0 (hnot _ _ hw (fun k hk => by simp only [lor_test, hk, Bool.true_or, Bool.or_true]))) (fun _ => ⟨rfl, tag3, hfin hc1 hc3 (fun j hj => by simp only [frz_iff]; exact ⟨frz_bit (by omega), hc1.w j hj, hc3.w j hj⟩), by rw [hst]; exact hboth hc1 hc3 hq1 hr3⟩)
  by_cases k2 : a.kind = 2
  · have hst : stepV v a = if remEV v z true = 0 then remV v z else v := by rw [stepV, if_neg k0, if_neg k1, if_pos k2, hz]
    simp (implicitDefEqProofs := false) (disch := omega) only [WPs, opds, List.all_cons, List.all_nil, List.cons_append, List.nil_append, cond_true, cond_false, eq_self, List.map_cons, List.map_nil, Nat.reduceAdd, Nat.testBit, Nat.reduceShiftRight, Nat.reduceAnd, Nat.reduceBNe, Nat.reduceMul, hbx, decide_eq_false k0, decide_eq_false k1, decide_eq_true k2]
    refine use_rt (finish_v T hI z) fun x M1 N1 rr1 w1 ⟨hx, hm⟩ => ?_
    subst hx
    rcases hm with ⟨z0, rfl, rfl, rfl⟩ | ⟨z0, hw, tag1, hc1, hq1⟩
    · simp (implicitDefEqProofs := false) (disch := omega) only [WPs, opds, List.all_cons, List.all_nil, List.cons_append, List.nil_append, cond_true, cond_false, eq_self, List.map_cons, List.map_nil, Nat.reduceAdd, Nat.testBit, Nat.reduceShiftRight, Nat.reduceAnd, Nat.reduceBNe, Nat.reduceMul]
      refine use_rt (rremove_v R hR hnd z true) fun x M3 N3 rr3 w3 ⟨hx, hm⟩ => ?_
      subst hx
      rcases hm with ⟨z1, rfl, rfl, rfl⟩ | ⟨z1, _⟩
      · rw [if_neg z0] at hst
        simp (implicitDefEqProofs := false) (disch := omega) only [WPs, opds, List.all_cons, List.all_nil, List.cons_append, List.nil_append, cond_true, cond_false, eq_self, List.map_cons, List.map_nil, Nat.reduceAdd, Nat.testBit, Nat.reduceShiftRight, Nat.reduceAnd, Nat.reduceBNe, Nat.reduceMul]
        exact hQ _ _ _ _ _ (fun _ _ => ⟨rfl, tag, Chg.none _ _ _ _ _ _, by rw [hst]; exact h⟩) (fun hn => absurd ⟨rfl, hmz⟩ hn)
      · exact absurd z1 z0
    · have hR1 := hR.frame hc1.n (fun b _ hb => hc1.tg b hb) (fun b _ hb k1 k2 => hc1.fr b hb (.inr (.inr (by omega))))
      simp (implicitDefEqProofs := false) (disch := omega) only [WPs, opds, List.all_cons, List.all_nil, List.cons_append, List.nil_append, cond_true, cond_false, eq_self, List.map_cons, List.map_nil, Nat.reduceAdd, Nat.testBit, Nat.reduceShiftRight, Nat.reduceAnd, Nat.reduceBNe, Nat.reduceMul]
      refine use_rt (rremove_v R hR1 hnd z true) fun x M3 N3 rr3 w3 ⟨hx, hm⟩ => ?_
      subst hx
      rcases hm with ⟨z1, _⟩ | ⟨_, hw3, tag3, hc3, hr3⟩
      · exact absurd z0 z1
      · rw [if_pos z0] at hst
        simp (implicitDefEqProofs := false) (disch := omega) only [WPs, opds, List.all_cons, List.all_nil, List.cons_append, List.nil_append, cond_true, cond_false, eq_self, List.map_cons, List.map_nil, Nat.reduceAdd, Nat.testBit, Nat.reduceShiftRight, Nat.reduceAnd, Nat.reduceBNe, Nat.reduceMul]
        exact hQ _ _ _ _ _ (fun _ hw0 => absurd hw0 (hnot _ _ hw (fun k hk => by simp only [lor_test, hk, Bool.true_or, Bool.or_true]))) (fun _ => ⟨rfl, tag3, hfin hc1 hc3 (fun j hj => by simp only [frz_iff]; exact ⟨frz_bit (by omega), hc1.w j hj, hc3.w j hj⟩), by rw [hst]; exact hboth hc1 hc3 hq1 hr3⟩)
  by_cases k3 : a.kind = 3
  · have hst : stepV v a = if remEV v z false = 0 then remV v z else v := by rw [stepV, if_neg k0, if_neg k1, if_neg k2, if_pos k3, hz]
    simp (implicitDefEqProofs := false) (disch := omega) only [WPs, opds, List.all_cons, List.all_nil, List.cons_append, List.nil_append, cond_true, cond_false, eq_self, List.map_cons, List.map_nil, Nat.reduceAdd, Nat.testBit, Nat.reduceShiftRight, Nat.reduceAnd, Nat.reduceBNe, Nat.reduceMul, hbx, decide_eq_false k0, decide_eq_false k1, decide_eq_false k2, decide_eq_true k3]
    refine use_rt (cancel_v T hI z) fun x M1 N1 rr1 w1 ⟨hx, hm⟩ => ?_
    subst hx
    rcases hm with ⟨z0, rfl, rfl, rfl⟩ | ⟨z0, hw, tag1, hc1, hq1⟩
    · simp (implicitDefEqProofs := false) (disch := omega) only [WPs, opds, List.all_cons, List.all_nil, List.cons_append, List.nil_append, cond_true, cond_false, eq_self, List.map_cons, List.map_nil, Nat.reduceAdd, Nat.testBit, Nat.reduceShiftRight, Nat.reduceAnd, Nat.reduceBNe, Nat.reduceMul]
      refine use_rt (rremove_v R hR hnd z false) fun x M3 N3 rr3 w3 ⟨hx, hm⟩ => ?_
      subst hx
      rcases hm with ⟨z1, rfl, rfl, rfl⟩ | ⟨z1, _⟩
      · rw [if_neg z0] at hst
        simp (implicitDefEqProofs := false) (disch := omega) only [WPs, opds, List.all_cons, List.all_nil, List.cons_append, List.nil_append, cond_true, cond_false, eq_self, List.map_cons, List.map_nil, Nat.reduceAdd, Nat.testBit, Nat.reduceShiftRight, Nat.reduceAnd, Nat.reduceBNe, Nat.reduceMul]
        exact hQ _ _ _ _ _ (fun _ _ => ⟨rfl, tag, Chg.none _ _ _ _ _ _, by rw [hst]; exact h⟩) (fun hn => absurd ⟨rfl, hmz⟩ hn)
      · exact absurd z1 z0
    · have hR1 := hR.frame hc1.n (fun b _ hb => hc1.tg b hb) (fun b _ hb k1 k2 => hc1.fr b hb (.inr (.inr (by omega))))
      simp (implicitDefEqProofs := false) (disch := omega) only [WPs, opds, List.all_cons, List.all_nil, List.cons_append, List.nil_append, cond_true, cond_false, eq_self, List.map_cons, List.map_nil, Nat.reduceAdd, Nat.testBit, Nat.reduceShiftRight, Nat.reduceAnd, Nat.reduceBNe, Nat.reduceMul]
      refine use_rt (rremove_v R hR1 hnd z false) fun x M3 N3 rr3 w3 ⟨hx, hm⟩ => ?_
      subst hx
      rcases hm with ⟨z1, _⟩ | ⟨_, hw3, tag3, hc3, hr3⟩
      · exact absurd z0 z1
      · rw [if_pos z0] at hst
        simp (implicitDefEqProofs := false) (disch := omega) only [WPs, opds, List.all_cons, List.all_nil, List.cons_append, List.nil_append, cond_true, cond_false, eq_self, List.map_cons, List.map_nil, Nat.reduceAdd, Nat.testBit, Nat.reduceShiftRight, Nat.reduceAnd, Nat.reduceBNe, Nat.reduceMul]
        exact hQ _ _ _ _ _ (fun _ hw0 => absurd hw0 (hnot _ _ hw (fun k hk => by simp only [lor_test, hk, Bool.true_or, Bool.or_true]))) (fun _ => ⟨rfl, tag3, hfin hc1 hc3 (fun j hj => by simp only [frz_iff]; exact ⟨frz_bit (by omega), hc1.w j hj, hc3.w j hj⟩), by rw [hst]; exact hboth hc1 hc3 hq1 hr3⟩)
  have hst : stepV v a = v := by rw [stepV, if_neg k0, if_neg k1, if_neg k2, if_neg k3]
  simp (implicitDefEqProofs := false) (disch := omega) only [WPs, opds, List.all_cons, List.all_nil, List.cons_append, List.nil_append, cond_true, cond_false, eq_self, List.map_cons, List.map_nil, Nat.reduceAdd, Nat.testBit, Nat.reduceShiftRight, Nat.reduceAnd, Nat.reduceBNe, Nat.reduceMul, hbx, decide_eq_false k0, decide_eq_false k1, decide_eq_false k2, decide_eq_false k3]
  exact hQ _ _ _ _ _ (fun _ _ => ⟨rfl, tag, Chg.none _ _ _ _ _ _, by rw [hst]; exact h⟩) (fun hn => absurd ⟨rfl, hmz⟩ hn)
end Go.Am.C41
namespace Go.Am.C41
open Go Go.Am
def exD : List (List Int) := [[0,0,0,0,0,0,0,0],[0,0,0,0,0,0,0,0],[0,0,0,0,0,0,0,0],[0,0,0,0,0,0,0,0]]
def exA : Cmd := ⟨1, 2, 0, false, ⟨#[118]⟩, ⟨#[]⟩, 0, 4, exD⟩
def exB : Cmd := ⟨2, 1, 0, false, ⟨#[118]⟩, ⟨#[]⟩, 2, 4, []⟩
def exC : Cmd := ⟨3, 1, 0, false, ⟨#[118]⟩, ⟨#[]⟩, 9, 1, []⟩
def exF : Cmd := ⟨4, 4, 0, false, ⟨#[]⟩, ⟨#[]⟩, 0, 0, []⟩
theorem np : NameP ⟨#[118]⟩ := by
  refine ⟨by decide, by decide, by decide, fun i h1 h2 => ?_⟩
  have h3 : i < 1 := h2
  have : i = 0 := by omega
  subst this; rfl
theorem vA : ValidP exA := ⟨⟨by decide, by decide, .inl rfl⟩, .inr (.inl ⟨rfl, np, rfl, ⟨by decide, by decide, by decide, by decide, by decide⟩, by decide, rfl⟩)⟩
theorem vB : ValidP exB := ⟨⟨by decide, by decide, .inl rfl⟩, .inl ⟨rfl, np, rfl, rfl, rfl, ⟨by decide, by decide, by decide, by decide, by decide⟩, by decide⟩⟩
theorem vC : ValidP exC := ⟨⟨by decide, by decide, .inl rfl⟩, .inl ⟨rfl, np, rfl, rfl, rfl, ⟨by decide, by decide, by decide, by decide, by decide⟩, by decide⟩⟩
theorem vF : ValidP exF := ⟨⟨by decide, by decide, .inl rfl⟩, .inr (.inr (.inr (.inl ⟨rfl, rfl, rfl, rfl, rfl, rfl, rfl⟩)))⟩
theorem bfAB : befB exA exB = true := by
  rw [befB, overB_t ⟨vA, vB, .inr ⟨by decide, by decide, rfl, by decide, by decide, .inl (by decide)⟩⟩]; rfl
theorem bfAC : befB exA exC = false := by
  rw [befB, overB_f]; rfl
  rintro ⟨_, _, ⟨h, _⟩ | ⟨_, _, _, h1, h2, _⟩⟩
  · revert h; decide
  · revert h2; decide
theorem bfBC : befB exB exC = false := by
  rw [befB, overB_f]; rfl
  rintro ⟨_, _, ⟨h, _⟩ | ⟨_, _, _, h1, h2, _⟩⟩
  · revert h; decide
  · revert h2; decide
theorem bfF (a : Cmd) : befB a exF = true := by
  rw [befB, show fenceB exF = true from rfl]
  cases fenceB a <;> rfl
def ex4 : QV := [(exA, false), (exB, false), (exC, false), (exF, false)]
def ex5 : QV := [(exA, true), (exB, false), (exC, false), (exF, false)]
def ex6 : QV := [(exB, false), (exC, false), (exF, false)]
theorem el4 : eligL ex4 = [1, 3] := by
  show pick (eligV ex4) (tagsV ex4) 4 = _
  have e0 : eligV ex4 0 = true := rfl
  have e1 : eligV ex4 1 = false := by
    simp [eligV, List.range_succ, flV, cmV, ex4, bfAB]
  have e2 : eligV ex4 2 = true := by
    simp [eligV, List.range_succ, flV, cmV, ex4, bfAC, bfBC]
  have e3 : eligV ex4 3 = false := by
    simp [eligV, List.range_succ, flV, cmV, ex4, bfF]
  simp only [pick, e0, e1, e2, e3, if_true]
  rfl
theorem el6 : eligL ex6 = [2, 3] := by
  show pick (eligV ex6) (tagsV ex6) 3 = _
  have e0 : eligV ex6 0 = true := rfl
  have e1 : eligV ex6 1 = true := by
    simp [eligV, List.range_succ, flV, cmV, ex6, bfBC]
  have e2 : eligV ex6 2 = false := by
    simp [eligV, List.range_succ, flV, cmV, ex6, bfF]
  simp only [pick, e0, e1, e2, if_true]
  rfl
theorem sb1 : subEV [] exA = 0 := by rw [subEV, validB_t vA]; rfl
theorem sb2 : subEV [(exA, false)] exB = 0 := by rw [subEV, validB_t vB]; rfl
theorem sb3 : subEV [(exA, false), (exB, false)] exC = 0 := by rw [subEV, validB_t vC]; rfl
theorem sb4 : subEV [(exA, false), (exB, false), (exC, false)] exF = 0 := by rw [subEV, validB_t vF]; rfl
theorem sE2 : startEV ex4 2 = 8 := by rw [startEV, el4]; rfl
theorem sE1 : startEV ex4 1 = 0 := by rw [startEV, el4]; rfl
theorem sV1 : startV ex4 1 = ex5 := rfl
theorem rE1 : remEV ex5 1 true = 0 := rfl
theorem rV1 : remV ex5 1 = ex6 := rfl
theorem fitA : exA.Fit := by constructor <;> decide
theorem fitB : exB.Fit := by constructor <;> decide
theorem fitC : exC.Fit := by constructor <;> decide
theorem fitF : exF.Fit := by constructor <;> decide
end Go.Am.C41
namespace Go.Am.C41
open Go Go.Am
variable {E : Nat → Option AFn} {Y : Nat → List Value → FM → Nat → OR FM}
def Tell (M : FM) (N : Nat) (l : List Int) (x : Value) (M' : FM) (N' w : Nat) : Prop := N ≤ N' ∧ (∀ b, b < N → M' b = M b) ∧ (∀ j, j ≤ N → Nat.mod w (bit j) = 0) ∧ Ints M' N' x l
theorem tags_v (T : Tq E) {M : FM} {n0 N : Nat} {tag : Tags} {q : Nat} {v : QV} (h : QIv M n0 N tag q v) : Rt (callW PG E Y 18 [.pointer (some ⟨q, 0, none⟩)] M N) (Tell M N (tagsV v)) := by
  obtain ⟨its, S, tv, cb, sb, h, rfl⟩ := h
  rw [vI_tags]; exact qtags_spec T.e18 T.e32 T.e43 h
theorem started_v (T : Tq E) {M : FM} {n0 N : Nat} {tag : Tags} {q : Nat} {v : QV} (h : QIv M n0 N tag q v) : Rt (callW PG E Y 14 [.pointer (some ⟨q, 0, none⟩)] M N) (Tell M N (startedL v)) := by
  obtain ⟨its, S, tv, cb, sb, h, rfl⟩ := h
  rw [← vI_started]; exact qstarted_spec T.e14 T.e32 T.e37 h
theorem elig_v (H : Hy E Y) (T : Tq E) {M : FM} {n0 N : Nat} {tag : Tags} {q : Nat} {v : QV} (h : QIv M n0 N tag q v) : Rt (callW PG E Y 13 [.pointer (some ⟨q, 0, none⟩)] M N) (Tell M N (eligL v)) := by
  obtain ⟨its, S, tv, cb, sb, h, rfl⟩ := h
  rw [← vI_elig]; exact qelig_spec H T.e13 T.e32 T.e33 T.e34 T.e56 T.e35 h
theorem rtags_v (R : Tr E) {M : FM} {n0 N : Nat} {tag : Tags} {r : Nat} {v : QV} (h : QRv M n0 N tag r v) : Rt (callW PG E Y 26 [.pointer (some ⟨r, 0, none⟩), .bool false] M N) (Tell M N (tagsV v)) := by
  obtain ⟨l, iv, h, rfl⟩ := h
  rw [← vR_tagsF]; exact rtags_spec R.e26 false h
theorem rstarted_v (R : Tr E) {M : FM} {n0 N : Nat} {tag : Tags} {r : Nat} {v : QV} (h : QRv M n0 N tag r v) : Rt (callW PG E Y 26 [.pointer (some ⟨r, 0, none⟩), .bool true] M N) (Tell M N (startedL v)) := by
  obtain ⟨l, iv, h, rfl⟩ := h
  rw [← vR_tagsT]; exact rtags_spec R.e26 true h
theorem relig_v (H : Hy E Y) (R : Tr E) {M : FM} {n0 N : Nat} {tag : Tags} {r : Nat} {v : QV} (h : QRv M n0 N tag r v) : Rt (callW PG E Y 27 [.pointer (some ⟨r, 0, none⟩)] M N) (Tell M N (eligL v)) := by
  obtain ⟨l, iv, h, rfl⟩ := h
  rw [← vR_eligL]; exact relig_spec H R.e27 R.e49 h
theorem QIv.stay {M M' : FM} {n0 N N' : Nat} {tag : Tags} {q : Nat} {v : QV} (h : QIv M n0 N tag q v) (hN : N ≤ N') (hM : ∀ b, b < N → M' b = M b) : QIv M' n0 N' tag q v := h.frame hN (fun _ _ _ => rfl) fun b _ hb _ _ => hM b hb
theorem QRv.stay {M M' : FM} {n0 N N' : Nat} {tag : Tags} {r : Nat} {v : QV} (h : QRv M n0 N tag r v) (hN : N ≤ N') (hM : ∀ b, b < N → M' b = M b) : QRv M' n0 N' tag r v := h.frame hN (fun _ _ _ => rfl) fun b _ hb _ _ => hM b hb
theorem pick_lenV (p : Nat → Bool) (v : QV) : (pick p (tagsV v) v.length).length ≤ v.length := pick_le _ _ _
theorem Mut.ok {e : Int} {M : FM} {n0 N : Nat} {tag : Tags} {lo hi : Nat} {P : FM → Nat → Tags → Prop} {x : Value} {M' : FM} {N' w : Nat} (h : Mut e M n0 N tag lo hi P x M' N' w) (he : e = 0) : x = .int .i64 0 ∧ ∃ tag', Chg M n0 N tag lo hi M' N' w tag' ∧ P M' N' tag' := by
  subst he
  obtain ⟨h1, h2 | ⟨_, _, h3⟩⟩ := h
  · exact absurd rfl h2.1
  · exact ⟨h1, h3⟩
theorem Mut.bad {e : Int} {M : FM} {n0 N : Nat} {tag : Tags} {lo hi : Nat} {P : FM → Nat → Tags → Prop} {x : Value} {M' : FM} {N' w : Nat} (h : Mut e M n0 N tag lo hi P x M' N' w) (he : e ≠ 0) : x = .int .i64 e ∧ M' = M ∧ N' = N ∧ w = 0 := by
  obtain ⟨h1, h2 | ⟨h2, _⟩⟩ := h
  · exact ⟨h1, h2.2⟩
  · exact absurd h2 he
theorem ints_mkl {M : FM} {N b c : Nat} {opn wr : Bool} {l : List Int} (hb : b < N) (h : M b = some (.cells (l.map (Value.int .i64)) 1 opn wr)) : Ints M N (.slice (some ⟨b, 0, none⟩) l.length c) l :=
  .inr <| .inl ⟨b, 0, c, _, opn, wr, by rw [List.length_map], hb, h, fun i x hx => by rw [Nat.zero_add]; exact hx⟩
theorem datQ_nil (M : FM) (n0 N : Nat) (tag : Tags) : DatQ M n0 N tag (.slice none 0 0) [] := fun M' _ => .inl ⟨rfl, rfl⟩
theorem awake_spec (H : Hy E Y) (T : Tq E) (R : Tr E) (M : FM) (n : Nat) : Pure (callW PG E Y 10 [] M n) M n (.bool true) := by
  refine pure_spec R.e10 rfl rfl ?_
  simp only [ac10]
  simp (implicitDefEqProofs := false) (disch := omega) only [WPs, opds, List.all_cons, List.all_nil, List.cons_append, List.nil_append, cond_true, cond_false, eq_self, List.map_cons, List.map_nil, Nat.reduceAdd, Nat.testBit, Nat.reduceShiftRight, Nat.reduceAnd, Nat.reduceBNe, Nat.reduceMul]
  refine use_rt (new_spec T M n) fun x M1 N1 r1 w1 ⟨a1, a2, a3, ex, eN, a4⟩ => ?_
  subst ex eN
  have hq := a4 (fun b => if b = n then 2 else if b = n + 1 then 3 else if b = n + 2 then 1 else 0) (if_pos rfl) (by rw [if_neg (by omega), if_pos rfl]) (by rw [if_neg (by omega), if_neg (by omega), if_pos rfl])
  have hq : QIv M1 n (n + 3) _ (n + 2) [] := ⟨[], [], _, _, _, hq, rfl⟩
  have fz1 := a3 n (Nat.le_refl _)
  simp (implicitDefEqProofs := false) (disch := omega) only [WPs, opds, List.all_cons, List.all_nil, List.cons_append, List.nil_append, cond_true, cond_false, eq_self, List.map_cons, List.map_nil, Nat.reduceAdd, Nat.testBit, Nat.reduceShiftRight, Nat.reduceAnd, Nat.reduceBNe, Nat.reduceMul, eqlnil_ptr pt25, isNone_some]
  refine use_rt ((submit_v H T (hq.stay (by omega : n + 3 ≤ n + 4) (fun b hb => fput_ne _ _ _ _ (by omega))) exA _ fitA (fun M' hM => .inr (.inr ⟨n + 3, 0, 4, _, false, true, rfl, by decide, by omega, (hM (n + 3) (by omega) (.inr (.inl (by show (if n + 3 = n then 2 else if n + 3 = n + 1 then 3 else if n + 3 = n + 2 then 1 else 0) < 1; rw [if_neg (by omega), if_neg (by omega), if_neg (by omega)]; omega)))).trans (fput_same _ _ _), by decide, rfl⟩)) (by decide))) fun x M2 N2 r2 w2 ⟨hm, _⟩ => ?_
  obtain ⟨rfl, tag2, c2, q2⟩ := hm.ok sb1
  have n2 := c2.n
  have fz2 := c2.w n (Nat.le_refl _)
  simp (implicitDefEqProofs := false) (disch := omega) only [WPs, opds, List.all_cons, List.all_nil, List.cons_append, List.nil_append, cond_true, cond_false, eq_self, List.map_cons, List.map_nil, Nat.reduceAdd, Nat.testBit, Nat.reduceShiftRight, Nat.reduceAnd, Nat.reduceBNe, Nat.reduceMul]
  refine use_rt (submit_v H T q2 exB _ fitB (datQ_nil _ _ _ _) (by decide)) fun x M3 N3 r3 w3 ⟨hm, _⟩ => ?_
  obtain ⟨rfl, tag3, c3, q3⟩ := hm.ok sb2
  have n3 := c3.n
  have fz3 := c3.w n (Nat.le_refl _)
  simp (implicitDefEqProofs := false) (disch := omega) only [WPs, opds, List.all_cons, List.all_nil, List.cons_append, List.nil_append, cond_true, cond_false, eq_self, List.map_cons, List.map_nil, Nat.reduceAdd, Nat.testBit, Nat.reduceShiftRight, Nat.reduceAnd, Nat.reduceBNe, Nat.reduceMul]
  refine use_rt (submit_v H T q3 exC _ fitC (datQ_nil _ _ _ _) (by decide)) fun x M4 N4 r4 w4 ⟨hm, _⟩ => ?_
  obtain ⟨rfl, tag4, c4, q4⟩ := hm.ok sb3
  have n4 := c4.n
  have fz4 := c4.w n (Nat.le_refl _)
  simp (implicitDefEqProofs := false) (disch := omega) only [WPs, opds, List.all_cons, List.all_nil, List.cons_append, List.nil_append, cond_true, cond_false, eq_self, List.map_cons, List.map_nil, Nat.reduceAdd, Nat.testBit, Nat.reduceShiftRight, Nat.reduceAnd, Nat.reduceBNe, Nat.reduceMul]
  refine use_rt (submit_v H T q4 exF _ fitF (datQ_nil _ _ _ _) (by decide)) fun x M5 N5 r5 w5 ⟨hm, _⟩ => ?_
  obtain ⟨rfl, tag5, c5, q5⟩ := hm.ok sb4
  have n5 := c5.n
  have fz5 := c5.w n (Nat.le_refl _)
  have q5 : QIv M5 n N5 tag5 (n + 2) ex4 := q5
  simp (implicitDefEqProofs := false) (disch := omega) only [WPs, opds, List.all_cons, List.all_nil, List.cons_append, List.nil_append, cond_true, cond_false, eq_self, List.map_cons, List.map_nil, Nat.reduceAdd, Nat.testBit, Nat.reduceShiftRight, Nat.reduceAnd, Nat.reduceBNe, Nat.reduceMul]
  refine use_rt (elig_v H T q5) fun x M6 N6 r6 w6 ⟨n6, hm6, fz6, i6⟩ => ?_
  have fz6 := fz6 n (by omega)
  rw [el4] at i6
  simp (implicitDefEqProofs := false) (disch := omega) only [WPs, opds, List.all_cons, List.all_nil, List.cons_append, List.nil_append, cond_true, cond_false, eq_self, List.map_cons, List.map_nil, Nat.reduceAdd, Nat.testBit, Nat.reduceShiftRight, Nat.reduceAnd, Nat.reduceBNe, Nat.reduceMul]
  refine use_pure (sameInts_spec R.e22 (AMem.put M6 N6 (some (Blk.cells [Value.int IntKind.i64 1, Value.int IntKind.i64 3] 1 false true))) (N6 + 1) x (.slice (some ⟨N6, 0, none⟩) 2 2) [1, 3] (i6.frame (by omega) fun b hb => fput_ne _ _ _ _ (by omega)) (ints_mkl (l := [1, 3]) (by omega) (fput_same _ _ _)) (by decide)) fun _ => ?_
  have hm7 : ∀ b, b < N5 → (AMem.put M6 N6 (some (Blk.cells [Value.int IntKind.i64 1, Value.int IntKind.i64 3] 1 false true)) : FM) b = M5 b := fun b hb => by rw [fput_ne _ _ _ _ (by omega), hm6 b hb]
  simp (implicitDefEqProofs := false) (disch := omega) only [WPs, opds, List.all_cons, List.all_nil, List.cons_append, List.nil_append, cond_true, cond_false, eq_self, List.map_cons, List.map_nil, Nat.reduceAdd, Nat.testBit, Nat.reduceShiftRight, Nat.reduceAnd, Nat.reduceBNe, Nat.reduceMul]
  refine use_rt (start_v H T (q5.stay (by omega : N5 ≤ N6 + 1) hm7) 2) fun x7 M7 N7 r7 w7 hm => ?_
  rw [sE2] at hm
  obtain ⟨rfl, rfl, rfl, rfl⟩ := hm.bad (by decide)
  simp (implicitDefEqProofs := false) (disch := omega) only [WPs, opds, List.all_cons, List.all_nil, List.cons_append, List.nil_append, cond_true, cond_false, eq_self, List.map_cons, List.map_nil, Nat.reduceAdd, Nat.testBit, Nat.reduceShiftRight, Nat.reduceAnd, Nat.reduceBNe, Nat.reduceMul]
  refine use_rt (start_v H T (q5.stay (by omega : N5 ≤ N6 + 1) hm7) 1) fun x7 M7 N7 r7 w7 hm => ?_
  obtain ⟨rfl, tag7, c7, q7⟩ := hm.ok sE1
  have n7 := c7.n
  have fz7 := c7.w n (Nat.le_refl _)
  rw [sV1] at q7
  simp (implicitDefEqProofs := false) (disch := omega) only [WPs, opds, List.all_cons, List.all_nil, List.cons_append, List.nil_append, cond_true, cond_false, eq_self, List.map_cons, List.map_nil, Nat.reduceAdd, Nat.testBit, Nat.reduceShiftRight, Nat.reduceAnd, Nat.reduceBNe, Nat.reduceMul]
  refine use_rt (finish_v T q7 1) fun x8 M8 N8 r8 w8 hm => ?_
  obtain ⟨rfl, tag8, c8, q8⟩ := hm.ok rE1
  have n8 := c8.n
  have fz8 := c8.w n (Nat.le_refl _)
  rw [rV1] at q8
  simp (implicitDefEqProofs := false) (disch := omega) only [WPs, opds, List.all_cons, List.all_nil, List.cons_append, List.nil_append, cond_true, cond_false, eq_self, List.map_cons, List.map_nil, Nat.reduceAdd, Nat.testBit, Nat.reduceShiftRight, Nat.reduceAnd, Nat.reduceBNe, Nat.reduceMul]
  refine use_rt (elig_v H T q8) fun x9 M9 N9 r9 w9 ⟨n9, hm9, fz9, i9⟩ => ?_
  have fz9 := fz9 n (by omega)
  rw [el6] at i9
  simp (implicitDefEqProofs := false) (disch := omega) only [WPs, opds, List.all_cons, List.all_nil, List.cons_append, List.nil_append, cond_true, cond_false, eq_self, List.map_cons, List.map_nil, Nat.reduceAdd, Nat.testBit, Nat.reduceShiftRight, Nat.reduceAnd, Nat.reduceBNe, Nat.reduceMul]
  refine use_pure (sameInts_spec R.e22 (AMem.put M9 N9 (some (Blk.cells [Value.int IntKind.i64 2, Value.int IntKind.i64 3] 1 false true))) (N9 + 1) x9 (.slice (some ⟨N9, 0, none⟩) 2 2) [2, 3] (i9.frame (by omega) fun b hb => fput_ne _ _ _ _ (by omega)) (ints_mkl (l := [2, 3]) (by omega) (fput_same _ _ _)) (by decide)) fun _ => ?_
  simp (implicitDefEqProofs := false) (disch := omega) only [WPs, opds, List.all_cons, List.all_nil, List.cons_append, List.nil_append, cond_true, cond_false, eq_self, List.map_cons, List.map_nil, Nat.reduceAdd, Nat.testBit, Nat.reduceShiftRight, Nat.reduceAnd, Nat.reduceBNe, Nat.reduceMul, fz1, fz2, fz3, fz4, fz5, fz6, fz7, fz8, fz9]
end Go.Am.C41
namespace Go.Am.C41
open Go Go.Am
variable {E : Nat → Option AFn} {Y : Nat → List Value → FM → Nat → OR FM}
structure Rec (α : Type) where
  K : Nat
  cf : α → Value → List Value
  df : α → List (List Int)
  ft : α → Prop
def RecsV {α : Type} (R : Rec α) (m : FM) (n : Nat) (v : Value) (cs : List (α × Value)) : Prop :=
  (∃ a c, v = .slice a cs.length c ∧ belowV n v = true ∧ (cs = [] ∨ ∃ b o cells opn wr, a = some ⟨b, o, none⟩ ∧ b < n ∧ m b = some (.cells cells R.K opn wr) ∧ ∀ i (h : i < cs.length), ctake (ldrop cells (o + i * R.K)) R.K = some (R.cf cs[i].1 cs[i].2))) ∧
    ∀ c ∈ cs, R.ft c.1 ∧ DatS m n c.2 (R.df c.1)
def recC : Rec Cmd := ⟨9, Cmd.cells, Cmd.data, Cmd.Fit⟩
def recA : Rec Act := ⟨11, Act.cells, fun a => a.c.data, fun a => a.c.Fit⟩
theorem RecsV.len {α : Type} {R : Rec α} {m : FM} {n : Nat} {v : Value} {cs : List (α × Value)} (h : RecsV R m n v cs) : lenV false v = some (.int .i64 (cs.length : Int)) := by
  obtain ⟨⟨a, c, rfl, _⟩, _⟩ := h; rfl
theorem RecsV.one {α : Type} {R : Rec α} {m : FM} {n : Nat} {v : Value} {cs : List (α × Value)} (h : RecsV R m n v cs) : Am.one v = true := by
  obtain ⟨⟨a, c, rfl, _⟩, _⟩ := h; rfl
theorem RecsV.bel {α : Type} {R : Rec α} {m : FM} {n : Nat} {v : Value} {cs : List (α × Value)} (h : RecsV R m n v cs) (k : Nat) (hk : n ≤ k) : belowV k v = true := by
  obtain ⟨⟨a, c, rfl, hb, _⟩, _⟩ := h
  cases a with
  | none => exact hb
  | some a => exact blt_true (show a.block < k from Nat.lt_of_lt_of_le (Nat.le_of_ble_eq_true hb) hk)
theorem RecsV.frame {α : Type} {R : Rec α} {m m' : FM} {n n' : Nat} {v : Value} {cs : List (α × Value)} (h : RecsV R m n v cs) (hn : n ≤ n') (hf : ∀ b, b < n → m' b = m b) : RecsV R m' n' v cs := by
  have hb := h.bel n' hn
  obtain ⟨⟨a, c, rfl, _, h⟩, hd⟩ := h
  refine ⟨⟨a, c, rfl, hb, ?_⟩, fun c hc => ⟨(hd c hc).1, (hd c hc).2.frame hn hf⟩⟩
  rcases h with h | ⟨b, o, cs, opn, wr, h1, h2, h3, h4⟩
  · exact .inl h
  · exact .inr ⟨b, o, cs, opn, wr, h1, by omega, (hf b h2).trans h3, h4⟩
theorem RecsV.at {α : Type} {R : Rec α} {m : FM} {n : Nat} {v : Value} {cs : List (α × Value)} (h : RecsV R m n v cs) {i : Nat} (hi : i < cs.length) :
    ∃ b o cells opn wr, idxV R.K i v = some (.pointer (some ⟨b, o, none⟩)) ∧ b < n ∧ m b = some (.cells cells R.K opn wr) ∧ ctake (ldrop cells o) R.K = some (R.cf cs[i].1 cs[i].2) ∧ R.ft cs[i].1 ∧ DatS m n cs[i].2 (R.df cs[i].1) := by
  obtain ⟨⟨a, c, rfl, _, h⟩, hd⟩ := h
  have hmem := hd cs[i] (List.getElem_mem hi)
  rcases h with rfl | ⟨b, o, cells, opn, wr, rfl, h2, h3, h4⟩
  · simp at hi
  · exact ⟨b, o + i * R.K, cells, opn, wr, idx_mk hi, h2, h3, h4 i hi, hmem⟩
def bigB (c : Cmd) : Bool := decide (100 < c.data.length) || decide (100 < c.vol.size) || decide (100 < c.oth.size)
theorem large_L0 {M : FM} {n N : Nat} {lv : Value} {cs : List (Act × Value)} (hl : RecsV recA M n lv cs) (hs : cs.length ≤ 9223372036854775807) (hn : n ≤ N) {Q : AX → List Value → FM → Nat → Nat → Prop}
    (hQt : (∀ i (hi : i < cs.length), bigB cs[i].1.c = false) → ∀ M' N' w, N ≤ N' → (∀ b, b < N → M' b = M b) → (∀ j, j ≤ N → Nat.mod w (bit j) = 0) → ∀ x0 x1 x3, Q (.exit 0) [x0, x1, .int .i64 (cs.length : Int), x3, lv] M' N' w) (hQf : (∃ i, ∃ hi : i < cs.length, bigB cs[i].1.c = true) → ∀ M' N' w, N ≤ N' → (∀ b, b < N → M' b = M b) → (∀ j, j ≤ N → Nat.mod w (bit j) = 0) → ∀ e', Q (.ret (.bool true)) e' M' N' w) : ∀ d j, j + d = cs.length → (∀ i (hi : i < cs.length), i < j → bigB cs[i].1.c = false) → ∀ (M' : FM) (N' w0 : Nat) (x0 x2 x4 : Value), N ≤ N' → (∀ b, b < N → M' b = M b) → (∀ j, j ≤ N → Nat.mod w0 (bit j) = 0) →
    Gv (execW PG E Y ac19L0 [x0, .int .i64 (j : Int), x2, .int .i64 (cs.length : Int), x4, lv] M' N') fun X e m n w => Q X e m n (Nat.lor w0 w) := by
  intro d
  induction d with
  | zero =>
    intro j hj ha M' N' w0 x0 x2 x4 hN hM hw
    refine wr_loopN (L := ac19L0) (b := ac19L0b) rfl ?_
    simp only [ac19L0b]
    simp (implicitDefEqProofs := false) (disch := omega) only [WPs, opds, List.all_cons, List.all_nil, List.cons_append, List.nil_append, cond_true, cond_false, eq_self, List.map_cons, List.map_nil, Nat.reduceAdd, Nat.testBit, Nat.reduceShiftRight, Nat.reduceAnd, Nat.reduceBNe, Nat.reduceMul]
    exact hQt (fun i hi => ha i hi (by omega)) _ _ _ hN hM hw _ _ _
  | succ d ih =>
    intro j hj ha M' N' w0 x0 x2 x4 hN hM hw
    have hjl : j < cs.length := by omega
    have hl' := hl.frame (by omega : n ≤ N') (fun b hb => hM b (by omega))
    obtain ⟨b, o, cells, opn, wr, i1, i2, i3, i4, i5, i6⟩ := hl'.at hjl
    have i1 : idxV 11 j lv = some (.pointer (some ⟨b, o, none⟩)) := i1
    have i3 : M' b = some (.cells cells 11 opn wr) := i3
    have i4 : ctake (ldrop cells o) 11 = some (cs[j].1.cells cs[j].2) := i4
    simp only [Act.cells] at i4
    refine wr_loopN (L := ac19L0) (b := ac19L0b) rfl ?_
    simp only [ac19L0b]
    have i6 : DatS M' N' cs[j].2 cs[j].1.c.data := i6
    have i5 : cs[j].1.c.Fit := i5
    have od := i6.v.one
    have ld := i6.v.len
    have z1 := i5.vol
    have z2 := i5.oth
    have hw' : ∀ i, i ≤ N → Nat.mod (Nat.lor w0 (bit N')) (bit i) = 0 := fun i hi => by rw [frz_iff]; exact ⟨hw i hi, frz_bit (by omega)⟩
    have hM' : ∀ (x : Option Blk) b, b < N → (AMem.put M' N' x : FM) b = M b := fun x b hb => by rw [fput_ne _ _ _ _ (by omega)]; exact hM b hb
    have nxt := fun (hb : bigB cs[j].1.c = false) => ih (j + 1) (by omega) (fun i hi hij => by
      rcases Nat.lt_or_ge i j with h1 | h1
      · exact ha i hi h1
      · have e1 : i = j := by omega
        subst e1; exact hb)
    have fin := fun (hb : bigB cs[j].1.c = true) => hQf ⟨j, hjl, hb⟩
    by_cases c1 : 100 < cs[j].1.c.data.length
    · simp (implicitDefEqProofs := false) (disch := omega) only [WPs, opds, List.all_cons, List.all_nil, List.cons_append, List.nil_append, cond_true, cond_false, eq_self, List.map_cons, List.map_nil, Nat.reduceAdd, Nat.testBit, Nat.reduceShiftRight, Nat.reduceAnd, Nat.reduceBNe, Nat.reduceMul, i1, i3, i4, od, ld, decide_eq_true (show (100 : Int) < (cs[j].1.c.data.length : Int) by omega)]
      exact fin (by simp only [bigB, decide_eq_true c1, Bool.true_or, Bool.or_true]) _ _ _ (by omega) (hM' _) (fun i hi => by simp only [frz_iff]; exact ⟨hw i hi, frz_bit (by omega), frz_bit (by omega)⟩) _
    by_cases c2 : 100 < cs[j].1.c.vol.size
    · simp (implicitDefEqProofs := false) (disch := omega) only [WPs, opds, List.all_cons, List.all_nil, List.cons_append, List.nil_append, cond_true, cond_false, eq_self, List.map_cons, List.map_nil, Nat.reduceAdd, Nat.testBit, Nat.reduceShiftRight, Nat.reduceAnd, Nat.reduceBNe, Nat.reduceMul, i1, i3, i4, od, ld, decide_eq_false (show ¬ (100 : Int) < (cs[j].1.c.data.length : Int) by omega), decide_eq_true (show (100 : Int) < (cs[j].1.c.vol.size : Int) by omega)]
      exact fin (by simp only [bigB, decide_eq_true c2, Bool.true_or, Bool.or_true]) _ _ _ (by omega) (hM' _) (fun i hi => by simp only [frz_iff]; exact ⟨hw i hi, frz_bit (by omega), frz_bit (by omega)⟩) _
    by_cases c3 : 100 < cs[j].1.c.oth.size
    · simp (implicitDefEqProofs := false) (disch := omega) only [WPs, opds, List.all_cons, List.all_nil, List.cons_append, List.nil_append, cond_true, cond_false, eq_self, List.map_cons, List.map_nil, Nat.reduceAdd, Nat.testBit, Nat.reduceShiftRight, Nat.reduceAnd, Nat.reduceBNe, Nat.reduceMul, i1, i3, i4, od, ld, decide_eq_false (show ¬ (100 : Int) < (cs[j].1.c.data.length : Int) by omega), decide_eq_false (show ¬ (100 : Int) < (cs[j].1.c.vol.size : Int) by omega), decide_eq_true (show (100 : Int) < (cs[j].1.c.oth.size : Int) by omega)]
      exact fin (by simp only [bigB, decide_eq_true c3, Bool.true_or, Bool.or_true]) _ _ _ (by omega) (hM' _) (fun i hi => by simp only [frz_iff]; exact ⟨hw i hi, frz_bit (by omega), frz_bit (by omega)⟩) _
    · simp (implicitDefEqProofs := false) (disch := omega) only [WPs, opds, List.all_cons, List.all_nil, List.cons_append, List.nil_append, cond_true, cond_false, eq_self, List.map_cons, List.map_nil, Nat.reduceAdd, Nat.testBit, Nat.reduceShiftRight, Nat.reduceAnd, Nat.reduceBNe, Nat.reduceMul, i1, i3, i4, od, ld, decide_eq_false (show ¬ (100 : Int) < (cs[j].1.c.data.length : Int) by omega), decide_eq_false (show ¬ (100 : Int) < (cs[j].1.c.vol.size : Int) by omega), decide_eq_false (show ¬ (100 : Int) < (cs[j].1.c.oth.size : Int) by omega)]
      refine wr_end (nxt (by simp only [bigB, decide_eq_false c1, decide_eq_false c2, decide_eq_false c3, Bool.or_self]) _ (N' + 1) (Nat.lor w0 (Nat.lor (bit N') (bit N'))) _ _ _ (by omega) (hM' _) (fun i hi => by simp only [frz_iff]; exact ⟨hw i hi, frz_bit (by omega), frz_bit (by omega)⟩)) fun X e m n w hq => ?_
      rw [← lor_assoc']; exact hq
def largeB (cs : List (Act × Value)) : Bool := cs.any (fun a => bigB a.1.c) || decide (150 < cs.length)
theorem large_spec (T : Tr E) {M : FM} {N : Nat} {lv : Value} {cs : List (Act × Value)} (hl : RecsV recA M N lv cs) (hs : cs.length ≤ 9223372036854775807) :
    Pure (callW PG E Y 19 [lv] M N) M N (.bool (largeB cs)) := by
  refine pure_spec T.e19 rfl rfl ?_
  simp only [ac19]
  simp (implicitDefEqProofs := false) (disch := omega) only [WPs, opds, List.all_cons, List.all_nil, List.cons_append, List.nil_append, cond_true, cond_false, eq_self, List.map_cons, List.map_nil, Nat.reduceAdd, Nat.testBit, Nat.reduceShiftRight, Nat.reduceAnd, Nat.reduceBNe, Nat.reduceMul, hl.len]
  refine wr_kont (large_L0 hl hs (Nat.le_refl _) (fun ha M' N' w hN hM hw x0 x1 x3 r => ?_) (fun hb M' N' w hN hM hw e' r => ?_) cs.length 0 (by omega) (fun i hi h => by omega) M N 0 _ _ _ (Nat.le_refl _) (fun _ _ => rfl) (fun j _ => Nat.zero_mod _))
  · have h1 : cs.any (fun a => bigB a.1.c) = false := by
      rw [← Bool.not_eq_true, List.any_eq_true]
      rintro ⟨a, ha1, ha2⟩
      obtain ⟨i, hi, rfl⟩ := List.mem_iff_getElem.1 ha1
      rw [ha i hi] at ha2; cases ha2
    have fz := hw N (Nat.le_refl _)
    by_cases h3 : 150 < cs.length
    · simp (implicitDefEqProofs := false) (disch := omega) only [WPs, opds, List.all_cons, List.all_nil, List.cons_append, List.nil_append, cond_true, cond_false, eq_self, List.map_cons, List.map_nil, Nat.reduceAdd, Nat.testBit, Nat.reduceShiftRight, Nat.reduceAnd, Nat.reduceBNe, Nat.reduceMul, hl.len, largeB, h1, decide_eq_true h3, decide_eq_true (show (150 : Int) < (cs.length : Int) by omega), fz]
    · simp (implicitDefEqProofs := false) (disch := omega) only [WPs, opds, List.all_cons, List.all_nil, List.cons_append, List.nil_append, cond_true, cond_false, eq_self, List.map_cons, List.map_nil, Nat.reduceAdd, Nat.testBit, Nat.reduceShiftRight, Nat.reduceAnd, Nat.reduceBNe, Nat.reduceMul, hl.len, largeB, h1, decide_eq_false h3, decide_eq_false (show ¬ (150 : Int) < (cs.length : Int) by omega), fz]
  · obtain ⟨i, hi, hb⟩ := hb
    have h1 : cs.any (fun a => bigB a.1.c) = true := List.any_eq_true.2 ⟨_, List.getElem_mem hi, hb⟩
    have fz := hw N (Nat.le_refl _)
    simp (implicitDefEqProofs := false) (disch := omega) only [WPs, opds, List.all_cons, List.all_nil, List.cons_append, List.nil_append, cond_true, cond_false, eq_self, List.map_cons, List.map_nil, Nat.reduceAdd, Nat.testBit, Nat.reduceShiftRight, Nat.reduceAnd, Nat.reduceBNe, Nat.reduceMul, largeB, h1, fz]
end Go.Am.C41
namespace Go.Am.C41
open Go Go.Am
variable {E : Nat → Option AFn} {Y : Nat → List Value → FM → Nat → OR FM}
def Gets (M : FM) (N : Nat) (v : QV) (t : Int) (x : Value) (M' : FM) (N' w : Nat) : Prop := N ≤ N' ∧ (∀ b, b < N → M' b = M b) ∧ (∀ j, j ≤ N → Nat.mod w (bit j) = 0) ∧ ((t ∉ tagsV v ∧ x = .tuple [cmdV zeroC (.slice none 0 0), .bool false].toArray) ∨ (∃ y ∈ v, y.1.tag = t ∧ ∃ d, x = .tuple [cmdV y.1 d, .bool true].toArray ∧ DatS M' N' d y.1.data ∧ y.1.data.length ≤ 1000000))
theorem get_v (T : Tq E) {M : FM} {n0 N : Nat} {tag : Tags} {q : Nat} {v : QV} (h : QIv M n0 N tag q v) (t : Int) : Rt (callW PG E Y 24 [.pointer (some ⟨q, 0, none⟩), .int .i64 t] M N) (Gets M N v t) := by
  obtain ⟨its, S, tv, cb, sb, h, rfl⟩ := h
  refine (get_spec T h t).mono fun x M' N' w ⟨h1, h2, h3, h4⟩ => ⟨h1, h2, h3, ?_⟩
  rcases h4 with ⟨h5, h6⟩ | ⟨it, hit, ht, d, hx, hd⟩
  · exact .inl ⟨by rw [vI_tags]; exact h5, h6⟩
  · exact .inr ⟨_, List.mem_map.2 ⟨it, hit, rfl⟩, ht, d, hx, hd.s (fun b hb => hb.2), (h.dat it hit).2.2⟩
theorem rget_v (R : Tr E) {M : FM} {n0 N : Nat} {tag : Tags} {r : Nat} {v : QV} (h : QRv M n0 N tag r v) (t : Int) : Rt (callW PG E Y 29 [.pointer (some ⟨r, 0, none⟩), .int .i64 t] M N) (Gets M N v t) := by
  obtain ⟨l, iv, h, rfl⟩ := h
  refine (rget_spec R h t).mono fun x M' N' w ⟨h1, h2, h3, h4⟩ => ⟨h1, h2, h3, ?_⟩
  rcases h4 with ⟨h5, h6⟩ | ⟨i, hf, hi, hx⟩
  · exact .inl ⟨by rw [vR_tags]; exact findR_nil h5, h6⟩
  · obtain ⟨hi', he, _⟩ := List.findIdx?_eq_some_iff_getElem.mp hf
    have hd := h.dat _ (List.getElem_mem hi)
    exact .inr ⟨(l[i].c, l[i].f), List.mem_map.2 ⟨_, List.getElem_mem hi, rfl⟩, of_decide_eq_true he, _, hx, (hd.2.1.s (fun b hb => hb.2.1) : DatS M N l[i].d l[i].c.data).frame h1 h2, hd.2.2⟩
theorem nd_view {v : QV} (hn : (tagsV v).Nodup) {y z : Cmd × Bool} (hy : y ∈ v) (hz : z ∈ v) (h : y.1.tag = z.1.tag) : y = z := by
  obtain ⟨i, hi, rfl⟩ := List.mem_iff_getElem.1 hy
  obtain ⟨j, hj, rfl⟩ := List.mem_iff_getElem.1 hz
  have hi' : i < (tagsV v).length := by rw [tagsV_len]; exact hi
  have hj' : j < (tagsV v).length := by rw [tagsV_len]; exact hj
  have hp := List.pairwise_iff_getElem.1 hn
  have h2 : (tagsV v)[i] = (tagsV v)[j] := by simp only [tagsV, List.getElem_map]; exact h
  rcases Nat.lt_trichotomy i j with h3 | h3 | h3
  · exact absurd h2 (hp i j hi' hj' h3)
  · subst h3; rfl
  · exact absurd h2.symm (hp j i hj' hi' h3)
theorem Gets.shape {M M' : FM} {N N' w : Nat} {v : QV} {t : Int} {x : Value} (hn : (tagsV v).Nodup) (h : Gets M N v t x M' N' w) : ∃ c d ok, x = .tuple #[cmdV c d, .bool ok] ∧ DatS M' N' d c.data ∧ c.data.length ≤ 1000000 ∧ (ok = true → (c, flT v t) ∈ v ∧ c.tag = t) ∧ (ok = decide (t ∈ tagsV v)) ∧
    ∀ {M2 M2' : FM} {N2 N2' w2 : Nat} {y : Value}, Gets M2 N2 v t y M2' N2' w2 → ∃ e, y = .tuple #[cmdV c e, .bool ok] ∧ DatS M2' N2' e c.data := by
  rcases h.2.2.2 with ⟨h1, rfl⟩ | ⟨z, hz, ht, d, rfl, hd, hs⟩
  · refine ⟨zeroC, .slice none 0 0, false, rfl, .inl ⟨rfl, rfl⟩, by decide, fun h => (by cases h), (decide_eq_false h1).symm, fun {M2 M2' N2 N2' w2 y} h2 => ?_⟩
    rcases h2.2.2.2 with ⟨_, rfl⟩ | ⟨z, hz, ht, _⟩
    · exact ⟨_, rfl, .inl ⟨rfl, rfl⟩⟩
    · exact absurd (ht ▸ List.mem_map.2 ⟨z, hz, rfl⟩) h1
  · have hm : t ∈ tagsV v := ht ▸ List.mem_map.2 ⟨z, hz, rfl⟩
    have hfl : flT v t = z.2 := by
      rw [flT, Bool.eq_iff_iff, List.any_eq_true]
      constructor
      · rintro ⟨y, hy, hp⟩
        simp only [Bool.and_eq_true, decide_eq_true_iff] at hp
        have := nd_view hn hy hz (hp.1.trans ht.symm)
        subst this; exact hp.2
      · intro h
        exact ⟨z, hz, by simp [h, ht]⟩
    refine ⟨z.1, d, true, rfl, hd, hs, fun _ => ⟨by rw [hfl]; exact hz, ht⟩, (decide_eq_true hm).symm, fun {M2 M2' N2 N2' w2 y} h2 => ?_⟩
    rcases h2.2.2.2 with ⟨h1, _⟩ | ⟨z2, hz2, ht2, e, rfl, he, _⟩
    · exact absurd hm h1
    · have := nd_view hn hz2 hz (ht2.trans ht.symm)
      subst this
      exact ⟨e, rfl, he⟩
theorem Both.stay {M M' : FM} {n0 N N' : Nat} {tag : Tags} {q r : Nat} {v : QV} (h : Both M n0 N tag q r v) (hN : N ≤ N') (hM : ∀ b, b < N → M' b = M b) : Both M' n0 N' tag q r v := ⟨h.1.stay hN hM, h.2.stay hN hM⟩
theorem Both.box {M : FM} {n0 N : Nat} {tag : Tags} {q r : Nat} {v : QV} (h : Both M n0 N tag q r v) (x : Option Blk) : ∃ tag0 : Tags, tag0 N = 0 ∧ Both (AMem.put M N x) n0 (N + 1) tag0 q r v := by
  refine ⟨fun b => if b < N then tag b else 0, if_neg (by omega), ?_⟩
  exact ⟨h.1.frame (by omega) (fun b _ hb => if_pos hb) (fun b _ hb _ _ => fput_ne _ _ _ _ (by omega)), h.2.frame (by omega) (fun b _ hb => if_pos hb) (fun b _ hb _ _ => fput_ne _ _ _ _ (by omega))⟩
theorem lenV_startedV (v : QV) (h : v.length ≤ 64) : (startedL v).length ≤ 64 ∧ (eligL v).length ≤ 64 ∧ (tagsV v).length ≤ 64 := by
  have h1 := pick_lenV (flV v) v
  have h2 := pick_lenV (eligV v) v
  rw [startedL, eligL, tagsV_len]; omega
theorem both_new {M : FM} {N : Nat} {m : FM} (hN : QI M N (N + 3) (fun b => if b = N then 2 else if b = N + 1 then 3 else if b = N + 2 then 1 else if b = N + 3 then 11 else 0) (N + 2) [] [] (.slice none 0 0) N (N + 1)) : Both (AMem.put M (N + 3) (some (.cells [.slice none 0 0] 0 false true))) N (N + 4) (fun b => if b = N then 2 else if b = N + 1 then 3 else if b = N + 2 then 1 else if b = N + 3 then 11 else 0) (N + 2) (N + 3) [] := by
  refine ⟨QIv.stay ⟨[], [], _, _, _, hN, rfl⟩ (by omega) fun b hb => fput_ne _ _ _ _ (by omega), [], .slice none 0 0, ⟨by omega, by omega, ?_, fput_same _ _ _, .inl ⟨rfl, rfl⟩, fun x hx => (by cases hx), Nat.zero_le _⟩, rfl⟩
  show (if N + 3 = N then 2 else if N + 3 = N + 1 then 3 else if N + 3 = N + 2 then 1 else if N + 3 = N + 3 then 11 else 0) = 11
  rw [if_neg (by omega), if_neg (by omega), if_neg (by omega), if_pos rfl]
end Go.Am.C41
namespace Go.Am.C41
open Go Go.Am Go.Am.V
set_option maxRecDepth 1000000
noncomputable def tabB : List (Nat × AFn) := [(3, ac3), (4, ac4), (5, ac5), (6, ac6), (7, ac7), (8, ac8), (9, ac9), (10, ac10), (11, ac11), (12, ac12), (13, ac13), (14, ac14), (15, ac15), (16, ac16), (17, ac17), (18, ac18), (19, ac19), (20, ac20), (21, ac21), (22, ac22), (23, ac23), (24, ac24), (25, ac25), (26, ac26), (27, ac27), (28, ac28), (29, ac29), (30, ac30), (31, ac31), (32, ac32), (33, ac33), (34, ac34), (35, ac35), (36, ac36), (37, ac37), (38, ac38), (39, ac39), (40, ac40), (41, ac41), (42, ac42), (43, ac43), (44, ac44), (45, ac45), (46, ac46), (47, ac47), (48, ac48), (49, ac49), (50, ac50), (51, ac51), (52, ac52), (53, ac53), (54, ac54), (55, ac55), (56, ac56), (57, ac57), (58, ac58), (59, ac59), (60, ac60), (61, ac61), (62, ac62), (63, ac63), (64, ac64), (65, ac65), (66, ac66), (67, ac67), (68, ac68), (70, ac70), (71, ac71), (72, ac72), (73, ac73), (74, ac74), (75, ac75), (76, ac76), (77, ac77), (80, ac80), (81, ac81), (82, ac82), (83, ac83), (85, ac85)]
theorem tabB_good : Good Proofs.Tryd.prog tabB := (.cons Proofs.Tryd.func3 chk3 (.cons Proofs.Tryd.func4 chk4 (.cons Proofs.Tryd.func5 chk5 (.cons Proofs.Tryd.func6 chk6 (.cons Proofs.Tryd.func7 chk7 (.cons Proofs.Tryd.func8 chk8 (.cons Proofs.Tryd.func9 chk9 (.cons Proofs.Tryd.func10 chk10 (.cons Proofs.Tryd.func11 chk11 (.cons Proofs.Tryd.func12 chk12 (.cons Proofs.Tryd.func13 chk13 (.cons Proofs.Tryd.func14 chk14 (.cons Proofs.Tryd.func15 chk15 (.cons Proofs.Tryd.func16 chk16 (.cons Proofs.Tryd.func17 chk17 (.cons Proofs.Tryd.func18 chk18 (.cons Proofs.Tryd.func19 chk19 (.cons Proofs.Tryd.func20 chk20 (.cons Proofs.Tryd.func21 chk21 (.cons Proofs.Tryd.func22 chk22 (.cons Proofs.Tryd.func23 chk23 (.cons Proofs.Tryd.func24 chk24 (.cons Proofs.Tryd.func25 chk25 (.cons Proofs.Tryd.func26 chk26 (.cons Proofs.Tryd.func27 chk27 (.cons Proofs.Tryd.func28 chk28 (.cons Proofs.Tryd.func29 chk29 (.cons Proofs.Tryd.func30 chk30 (.cons Proofs.Tryd.func31 chk31 (.cons Proofs.Tryd.func32 chk32 (.cons Proofs.Tryd.func33 chk33 (.cons Proofs.Tryd.func34 chk34 (.cons Proofs.Tryd.func35 chk35 (.cons Proofs.Tryd.func36 chk36 (.cons Proofs.Tryd.func37 chk37 (.cons Proofs.Tryd.func38 chk38 (.cons Proofs.Tryd.func39 chk39 (.cons Proofs.Tryd.func40 chk40 (.cons Proofs.Tryd.func41 chk41 (.cons Proofs.Tryd.func42 chk42 (.cons Proofs.Tryd.func43 chk43 (.cons Proofs.Tryd.func44 chk44 (.cons Proofs.Tryd.func45 chk45 (.cons Proofs.Tryd.func46 chk46 (.cons Proofs.Tryd.func47 chk47 (.cons Proofs.Tryd.func48 chk48 (.cons Proofs.Tryd.func49 chk49 (.cons Proofs.Tryd.func50 chk50 (.cons Proofs.Tryd.func51 chk51 (.cons Proofs.Tryd.func52 chk52 (.cons Proofs.Tryd.func53 chk53 (.cons Proofs.Tryd.func54 chk54 (.cons Proofs.Tryd.func55 chk55 (.cons Proofs.Tryd.func56 chk56 (.cons Proofs.Tryd.func57 chk57 (.cons Proofs.Tryd.func58 chk58 (.cons Proofs.Tryd.func59 chk59 (.cons Proofs.Tryd.func60 chk60 (.cons Proofs.Tryd.func61 chk61 (.cons Proofs.Tryd.func62 chk62 (.cons Proofs.Tryd.func63 chk63 (.cons Proofs.Tryd.func64 chk64 (.cons Proofs.Tryd.func65 chk65 (.cons Proofs.Tryd.func66 chk66 (.cons Proofs.Tryd.func67 chk67 (.cons Proofs.Tryd.func68 chk68 (.cons Proofs.Tryd.func70 chk70 (.cons Proofs.Tryd.func71 chk71 (.cons Proofs.Tryd.func72 chk72 (.cons Proofs.Tryd.func73 chk73 (.cons Proofs.Tryd.func74 chk74 (.cons Proofs.Tryd.func75 chk75 (.cons Proofs.Tryd.func76 chk76 (.cons Proofs.Tryd.func77 chk77 (.cons Proofs.Tryd.func80 chk80 (.cons Proofs.Tryd.func81 chk81 (.cons Proofs.Tryd.func82 chk82 (.cons Proofs.Tryd.func83 chk83 (.cons Proofs.Tryd.func85 chk85 .nil)))))))))))))))))))))))))))))))))))))))))))))))))))))))))))))))))))))))))))))))
def memL : List Memo := [m69]
theorem envB : Env Proofs.Tryd.prog tabB (memosA memL Y0) (memosF memL Yf0) :=
  env0.addMemos tabB_good (by kernel_rfl) (fun f fn h args m n => rfl) (by
    intro M h
    obtain rfl := List.mem_singleton.1 h
    exact sim69) (by
    intro M h
    obtain rfl := List.mem_singleton.1 h
    kernel_rfl)
theorem memo_call {f : Nat} (h : look tabB f = none) (args : List Value) (m : FM) (n : Nat) : callW PG (look tabB) (memosA memL Y0) f args m n = memosA memL Y0 f args m n := by
  unfold callW callA
  rw [h]
theorem set_pure (m : FM) (n : Nat) : Pure (callW PG (look tabB) (memosA memL Y0) 69 [.string cutS] m n) m n (.tuple #[.agg setL.toArray, .bool true]) := by
  rw [memo_call (by kernel_rfl)]
  have h0 : veqL [Value.string cutS] [.string cutS] = true := by kernel_rfl
  have hm : memoA m69 69 [.string cutS] m n = .ok (.tuple #[.agg setL.toArray, .bool true]) m n 0 0 := by
    show cond (Nat.beq 69 69 && veqL [Value.string cutS] [.string cutS]) (OR.ok (.tuple #[.agg setL.toArray, .bool true]) m n 0 (newW n 0)) .no = _
    rw [h0, show newW n 0 = 0 from Nat.zero_shiftLeft n]; rfl
  refine ⟨0, ?_⟩
  show altA (memoA m69) Y0 69 [.string cutS] m n = _
  unfold altA
  rw [hm]
theorem trimsB : Trims (look tabB) (memosA memL Y0) := ⟨by kernel_rfl, by kernel_rfl, by kernel_rfl, by kernel_rfl, set_pure⟩
theorem valsB : Vals (look tabB) (memosA memL Y0) where
  v29 := fun m n c d hF hc => cmdValid_spec (by kernel_rfl) (by kernel_rfl) trimsB (by kernel_rfl) (by kernel_rfl) (by kernel_rfl) m n c d hF hc
  v32 := fun m n c d hF hc => refValid_spec (by kernel_rfl) (by kernel_rfl) (by kernel_rfl) m n c d hF hc
theorem hyB : Hy (look tabB) (memosA memL Y0) where
  v30 := valsB.v29
  v23 := valsB.v32
  b36 := fun m n a b d e hF hG hd he => before_spec (by kernel_rfl) (by kernel_rfl) (by kernel_rfl) (by kernel_rfl) (by kernel_rfl) valsB m n a b d e hF hG hd he
  b17 := fun m n a b d e hF hG hd he => refBefore_spec (by kernel_rfl) (by kernel_rfl) (by kernel_rfl) (by kernel_rfl) (by kernel_rfl) valsB m n a b d e hF hG hd he
theorem tqB : Tq (look tabB) where
  e11 := by kernel_rfl
  e12 := by kernel_rfl
  e13 := by kernel_rfl
  e14 := by kernel_rfl
  e15 := by kernel_rfl
  e16 := by kernel_rfl
  e18 := by kernel_rfl
  e21 := by kernel_rfl
  e24 := by kernel_rfl
  e31 := by kernel_rfl
  e32 := by kernel_rfl
  e33 := by kernel_rfl
  e34 := by kernel_rfl
  e35 := by kernel_rfl
  e37 := by kernel_rfl
  e38 := by kernel_rfl
  e39 := by kernel_rfl
  e40 := by kernel_rfl
  e43 := by kernel_rfl
  e55 := by kernel_rfl
  e56 := by kernel_rfl
  e59 := by kernel_rfl
  e60 := by kernel_rfl
theorem trB : Tr (look tabB) where
  e10 := by kernel_rfl
  e19 := by kernel_rfl
  e20 := by kernel_rfl
  e22 := by kernel_rfl
  e25 := by kernel_rfl
  e26 := by kernel_rfl
  e27 := by kernel_rfl
  e28 := by kernel_rfl
  e29 := by kernel_rfl
  e44 := by kernel_rfl
  e45 := by kernel_rfl
  e46 := by kernel_rfl
  e49 := by kernel_rfl
  e50 := by kernel_rfl
  e63 := by kernel_rfl
end Go.Am.C41
namespace Go.Am
open Go Go.Am.V Go.RowKit
theorem Env.topW {P : Program} {tab : List (Nat × AFn)} {Y : Nat → List Value → FM → Nat → OR FM} {Yf : FCal} (h : Env P tab Y Yf) {f : Nat} {args : List Value} {m0 m : FM} {n0 n r wm : Nat} (hrun : callW P (look tab) Y f args m0 n0 = .ok (.bool true) m n r wm)
    {ρ : Ren} {w : World} {args' : Array Value} (ha : LRel ρ args args'.toList) (hm : MRel ρ m0 w w.heap.size) (hf : Free ρ n0) :
    Calls P f args' w fun e w' => e = .returned (.bool true) ∧ Below w.heap.size w w' := by
  obtain ⟨k, hk⟩ := call_rch f args m0 n0 _ _ _ _ _ hrun
  obtain ⟨_, hc⟩ := h.calls k f args m0 n0 (.bool true) m n r wm (hk k (Nat.le_refl _)) ρ m0 w w.heap.size (Nat.lor r wm) args' ha (Sub.refl _) (fun b hb _ => rfl) hm hf
  refine hc.mono fun e w' hh => ?_
  obtain ⟨ρ', v', rfl, hv, hp⟩ := hh
  rw [hv.flat_eq rfl]
  exact ⟨rfl, hp.below⟩
def IntsW (w : World) (v : Value) (xs : List Int) : Prop :=
  (v = .slice none 0 0 ∧ xs = []) ∨ (∃ a' c', v = .slice (some a') 0 c' ∧ xs = []) ∨ ∃ (blk off cap : Nat) (cc : Array Value) (e : TypeId) (fz : Nat × Nat), v = .slice (some ⟨blk, off, none⟩) xs.length cap ∧ 0 < xs.length ∧ w.heap[blk]? = some (.cells cc e fz) ∧ xs.length ≤ cap ∧ off + xs.length ≤ cc.size ∧ ∀ (i : Nat) x, xs[i]? = some x → cc[off + i]? = some (.int .i64 x)
def RowsW (w : World) (v : Value) (gs : List (List Int)) : Prop :=
  (v = .slice none 0 0 ∧ gs = []) ∨ (∃ a' c', v = .slice (some a') 0 c' ∧ gs = []) ∨ ∃ (blk off cap : Nat) (cc : Array Value) (e : TypeId) (fz : Nat × Nat) (vs : List Value), v = .slice (some ⟨blk, off, none⟩) vs.length cap ∧ w.heap[blk]? = some (.cells cc e fz) ∧ vs.length ≤ cap ∧ off + vs.length ≤ cc.size ∧ vs.length = gs.length ∧ (∀ (i : Nat) x, vs[i]? = some x → cc[off + i]? = some x) ∧ ∀ (i : Nat) x g, vs[i]? = some x → gs[i]? = some g → IntsW w x g
def plOf : Value → Option Place
  | .slice (some ⟨b, o, none⟩) (_ + 1) c => some ⟨b, o, c, 1⟩
  | _ => none
def fvOf (i : Nat) : Value → Value
  | .slice (some ⟨_, _, none⟩) (l + 1) _ => .slice (some ⟨i + 1, 0, none⟩) (l + 1) UNK
  | .slice (some _) 0 _ => .slice (some ⟨0, 0, none⟩) 0 VAG
  | v => v
def rowsRen (p : Place) (vs : List Value) : Ren
  | 0 => some p
  | i + 1 => (vs[i]?).bind plOf
def rowsMem (vs : List Value) (gs : List (List Int)) : FM
  | 0 => some (.cells (vs.mapIdx fvOf) 1 false false)
  | i + 1 => (gs[i]?).map fun g => .cells (g.map (Value.int .i64)) 1 false false
end Go.Am
namespace Go.Am
open Go Go.RowKit Go.Deep Go.ChangeShapes
theorem cells_row {w : World} {a : Addr} {n : Nat} {f : Nat → Value} (h0 : 0 < n) (h : ∀ i, i < n → w.cell? (a.add i) = some (f i)) :
    ∃ (blk off : Nat) (cc : Array Value) (e : TypeId) (fz : Nat × Nat), a = ⟨blk, off, none⟩ ∧ w.heap[blk]? = some (.cells cc e fz) ∧ off + n ≤ cc.size ∧ ∀ i, i < n → cc[off + i]? = some (f i) := by
  obtain ⟨blk, off, spot⟩ := a
  have ha : ∀ i, (Addr.add ⟨blk, off, spot⟩ i).block = blk ∧ (Addr.add ⟨blk, off, spot⟩ i).off = off + i := fun i => by
    unfold Addr.add
    by_cases hi : i = 0
    · rw [if_pos hi, hi]; exact ⟨rfl, rfl⟩
    · rw [if_neg hi]; exact ⟨rfl, rfl⟩
  have hc := h 0 h0
  have hadd : Addr.add ⟨blk, off, spot⟩ 0 = ⟨blk, off, spot⟩ := by unfold Addr.add; rw [if_pos rfl]
  rw [hadd] at hc
  unfold World.cell? at hc
  split at hc
  · rename_i cc e fz hh
    replace hh : w.heap[blk]? = some (.cells cc e fz) := hh
    cases spot with
    | some s => simp at hc
    | none =>
      have hall : ∀ i, i < n → cc[off + i]? = some (f i) := fun i hi => by
        have hci := h i hi
        unfold World.cell? at hci
        rw [(ha i).1, hh, (ha i).2] at hci
        replace hci : (if (Addr.add ⟨blk, off, none⟩ i).spot.isSome then none else cc[off + i]?) = some (f i) := hci
        split at hci
        · cases hci
        · exact hci
      refine ⟨blk, off, cc, e, fz, rfl, hh, ?_, hall⟩
      have := (Array.getElem?_eq_some_iff.1 (hall (n - 1) (by omega))).1
      omega
  · cases hc
end Go.Am
namespace Go.Am
open Go Go.RowKit
structure Ent where
  p : Place
  cs : List Value
def entRen (L : List (Option Ent)) : Ren := fun b => (L[b]?).bind fun o => o.map (·.p)
def entMem (L : List (Option Ent)) : FM := fun b => (L[b]?).bind fun o => o.map fun e => .cells e.cs e.p.sz false false
structure EntOk (w : World) (ρ : Ren) (e : Ent) : Prop where
  ok : ∃ (cc : Array Value) (ty : TypeId) (fz : Nat × Nat), w.heap[e.p.blk]? = some (.cells cc ty fz) ∧ e.p.base + e.cs.length ≤ cc.size ∧ ∀ (j : Nat) x, e.cs[j]? = some x → ∃ y, cc[e.p.base + j]? = some y ∧ VRel ρ x y
theorem ent_world {w : World} {L : List (Option Ent)} (h : ∀ (i : Nat) e, L[i]? = some (some e) → EntOk w (entRen L) e) : MRel (entRen L) (entMem L) w w.heap.size ∧ Free (entRen L) L.length := by
  have hlt : ∀ {b : Nat} {x}, w.heap[b]? = some x → b < w.heap.size := fun hb => (Array.getElem?_eq_some_iff.1 hb).1
  refine ⟨⟨?_, ?_, ?_, Nat.le_refl _⟩, ?_⟩
  · intro b p O hp hO
    replace hp : ((L[b]?).bind fun o => o.map (·.p)) = some p := hp
    replace hO : ((L[b]?).bind fun o => o.map fun e => Blk.cells e.cs e.p.sz false false) = some O := hO
    cases hy : L[b]? with
    | none => rw [hy] at hp; cases hp
    | some o =>
      rw [hy] at hp hO
      cases o with
      | none => cases hp
      | some e =>
      injection hp with hp; subst hp
      injection hO with hO; subst hO
      obtain ⟨cc, ty, fz, h1, h2, h3⟩ := (h b e hy).ok
      exact ⟨rfl, cc, ty, fz, h1, h3, fun h => absurd h (by decide), fun h => absurd h (by decide), h2⟩
  · intro b1 b2 p1 p2 O1 O2 _ _ hO1 _ _ hw
    replace hO1 : ((L[b1]?).bind fun o => o.map fun e => Blk.cells e.cs e.p.sz false false) = some O1 := hO1
    cases hy : L[b1]? with
    | none => rw [hy] at hO1; cases hO1
    | some o =>
      rw [hy] at hO1
      cases o with
      | none => cases hO1
      | some e => injection hO1 with hO1; subst hO1; cases hw
  · intro b p hp
    replace hp : ((L[b]?).bind fun o => o.map (·.p)) = some p := hp
    cases hy : L[b]? with
    | none => rw [hy] at hp; cases hp
    | some o =>
      rw [hy] at hp
      cases o with
      | none => cases hp
      | some e =>
      injection hp with hp; subst hp
      obtain ⟨cc, ty, fz, h1, h2, h3⟩ := (h b e hy).ok
      exact hlt h1
  · intro b hb
    show (L[b]?).bind _ = none
    rw [List.getElem?_eq_none (by omega)]; rfl
end Go.Am
namespace Go.Am
open Go Go.RowKit Go.ChangeShapes
theorem cells_at {w : World} {base k : Nat} {a : Addr} {l : List Value} (h : w.cells? base a k = some l) (hk : 0 < k) : ∃ (blk off : Nat) (cc : Array Value) (ty : TypeId) (fz : Nat × Nat), a = ⟨blk, off, none⟩ ∧ w.heap[blk]? = some (.cells cc ty fz) ∧ off + k ≤ cc.size ∧ l.length = k ∧ ∀ j, j < k → cc[off + j]? = l[j]? := by
  obtain ⟨_, hl, hc⟩ := World.cells?_some h
  have hget : ∀ i, i < k → w.cell? (a.add i) = some (l.getD i undef) := fun i hi => by
    have h1 : l[i]? = some (l.getD i undef) := by rw [List.getD_eq_getElem?_getD, List.getElem?_eq_getElem (by omega)]; rfl
    have := hc i hi
    rw [h1] at this
    exact this
  obtain ⟨blk, off, cc, ty, fz, rfl, hh, hs, hcell⟩ := cells_row hk hget
  refine ⟨blk, off, cc, ty, fz, rfl, hh, hs, hl, fun j hj => ?_⟩
  rw [hcell j hj, List.getD_eq_getElem?_getD, List.getElem?_eq_getElem (by omega)]; rfl
theorem add_mk (blk off i : Nat) : Addr.add ⟨blk, off, none⟩ i = ⟨blk, off + i, none⟩ := by
  unfold Addr.add
  by_cases h : i = 0
  · rw [if_pos h, h]; rfl
  · rw [if_neg h]
def SliceW (w : World) (k : Nat) (R : List Value → Prop) (v : Value) (len : Nat) : Prop :=
  (v = .slice none 0 0 ∧ len = 0) ∨ (∃ a c, v = .slice (some a) 0 c ∧ len = 0) ∨
    ∃ (blk off cap : Nat) (cc : Array Value) (ty : TypeId) (fz : Nat × Nat), v = .slice (some ⟨blk, off, none⟩) len cap ∧ 0 < len ∧ len ≤ cap ∧ w.heap[blk]? = some (.cells cc ty fz) ∧ off + len * k ≤ cc.size ∧
      ∀ i, i < len → ∃ l : List Value, l.length = k ∧ (∀ j, j < k → cc[off + i * k + j]? = l[j]?) ∧ R l
theorem slice_of_trod {H : Type} {enc : TypeId × Value → H} {P : Program} {w : World} {held : Bool} {sp : Nat → Bool} {t e k : Nat} {fuel : Nat} {cs : List Value} {x : DataW H × List MemPlace} (ht : P.underlying t = some (.slice e)) (ck : P.cellsOf e = k) (hk : 0 < k)
    (h : DataW.trod enc P w 0 sp held fuel t cs = some x) : ∃ v len, cs = [v] ∧ len ≤ maxLen ∧ SliceW w k (fun l => ∃ n y, DataW.trod enc P w 0 sp held n e l = some y) v len := by
  rcases DataW.trod_slice ht h with ⟨rfl, _⟩ | ⟨a, len, cap, elems, rest, n, _, rfl, _, _, hlc, hcm, hel, hi, _⟩
  · exact ⟨_, 0, rfl, Nat.zero_le _, .inl ⟨rfl, rfl⟩⟩
  · rcases Nat.eq_zero_or_pos len with h0 | h0
    · subst h0
      exact ⟨_, 0, rfl, Nat.zero_le _, .inr (.inl ⟨a, cap, rfl, rfl⟩)⟩
    · have key : ∀ i, i < len → ∃ l y, w.cells? 0 (a.add (i * k)) k = some l ∧ DataW.trod enc P w 0 sp held n e l = some y := fun i hil => by
        have h1 := hi i hil
        rw [ck, List.getElem?_eq_getElem (by omega)] at h1
        cases hc : w.cells? 0 (a.add (i * k)) k with
        | none => rw [hc] at h1; cases h1
        | some l => rw [hc] at h1; exact ⟨l, _, rfl, h1⟩
      obtain ⟨l0, y0, c0, _⟩ := key 0 h0
      have ha : a.add (0 * k) = a := by rw [Nat.zero_mul]; rfl
      rw [ha] at c0
      obtain ⟨blk, off, cc, ty, fz, rfl, hh, _, _, _⟩ := cells_at c0 hk
      have all : ∀ i, i < len → ∃ l : List Value, l.length = k ∧ off + i * k + k ≤ cc.size ∧ (∀ j, j < k → cc[off + i * k + j]? = l[j]?) ∧ ∃ n y, DataW.trod enc P w 0 sp held n e l = some y := fun i hil => by
        obtain ⟨l, y, c, hy⟩ := key i hil
        rw [add_mk] at c
        obtain ⟨blk', off', cc', ty', fz', he, hh', hs, hl, hj⟩ := cells_at c hk
        injection he with e1 e2 _
        subst e1; subst e2
        rw [hh] at hh'
        injection hh' with hh'; injection hh' with q1 q2 q3
        subst q1
        exact ⟨l, hl, hs, hj, n, y, hy⟩
      refine ⟨_, len, rfl, by omega, .inr (.inr ⟨blk, off, cap, cc, ty, fz, rfl, h0, hlc, hh, ?_, fun i hil => ?_⟩)⟩
      · obtain ⟨_, _, hs, _⟩ := all (len - 1) (by omega)
        have : len * k = (len - 1) * k + k := by
          obtain ⟨q, rfl⟩ : ∃ q, len = q + 1 := ⟨len - 1, by omega⟩
          rw [Nat.add_sub_cancel, Nat.succ_mul]
        omega
      · obtain ⟨l, hl, _, hj, hy⟩ := all i hil
        exact ⟨l, hl, hj, hy⟩
end Go.Am
namespace Go.Am
open Go Go.RowKit Go.ChangeShapes
def intOf : Value → Int
  | .int _ n => n
  | _ => 0
theorem bytes_of_trod {H : Type} {enc : TypeId × Value → H} {P : Program} {w : World} {held : Bool} {sp : Nat → Bool} {t e k : Nat} {fuel : Nat} {cs : List Value} {x : DataW H × List MemPlace} (ht : P.underlying t = some (.array k e)) (he : P.underlying e = some (.int .u8)) (ce : P.cellsOf e = 1)
    (hl : cs.length = k) (h : DataW.trod enc P w 0 sp held fuel t cs = some x) : ∃ d : List Int, d.length = k ∧ cs = d.map (Value.int .u8) := by
  obtain ⟨xs, m, _, _, _, hn, hall⟩ := DataW.trod_array ht h
  refine ⟨cs.map intOf, by rw [List.length_map, hl], ?_⟩
  refine List.ext_getElem (by simp) fun i h1 h2 => ?_
  have h3 := hall i (by omega)
  rw [ce, Nat.mul_one, List.getElem?_eq_getElem (by omega)] at h3
  obtain ⟨z, hz, _, _⟩ := DataW.trod_int he h3
  have h4 : cs[i] = .int .u8 z := by
    have := congrArg (fun l => l[0]?) hz
    simp only [List.getElem?_take, List.getElem?_drop, Nat.add_zero] at this
    rw [if_pos (by omega), List.getElem?_eq_getElem h1] at this
    simpa using this
  rw [List.getElem_map, List.getElem_map, h4]; rfl
def DatW (w : World) (v : Value) (ds : List (List Int)) : Prop :=
  (v = .slice none 0 0 ∧ ds = []) ∨ (∃ a c, v = .slice (some a) 0 c ∧ ds = []) ∨
    ∃ (blk off cap : Nat) (cc : Array Value) (ty : TypeId) (fz : Nat × Nat), v = .slice (some ⟨blk, off, none⟩) ds.length cap ∧ 0 < ds.length ∧ ds.length ≤ cap ∧ w.heap[blk]? = some (.cells cc ty fz) ∧ off + ds.length * 8 ≤ cc.size ∧
      ∀ i (h : i < ds.length), ds[i].length = 8 ∧ ∀ j, j < 8 → cc[off + i * 8 + j]? = (ds[i].map (Value.int .u8))[j]?
theorem datW_of_slice {w : World} {v : Value} {len : Nat} (h : SliceW w 8 (fun l => ∃ d : List Int, d.length = 8 ∧ l = d.map (Value.int .u8)) v len) : ∃ ds, ds.length = len ∧ DatW w v ds := by
  rcases h with ⟨rfl, rfl⟩ | ⟨a, c, rfl, rfl⟩ | ⟨blk, off, cap, cc, ty, fz, rfl, h0, h1, h2, h3, h4⟩
  · exact ⟨[], rfl, .inl ⟨rfl, rfl⟩⟩
  · exact ⟨[], rfl, .inr (.inl ⟨a, c, rfl, rfl⟩)⟩
  · have h5 : ∀ i, i < len → ∃ d : List Int, d.length = 8 ∧ ∀ j, j < 8 → cc[off + i * 8 + j]? = (d.map (Value.int .u8))[j]? := fun i hi => by
      obtain ⟨l, hl, hj, d, hd, rfl⟩ := h4 i hi
      exact ⟨d, hd, hj⟩
    have h6 : ∃ f : Nat → List Int, ∀ i, i < len → (f i).length = 8 ∧ ∀ j, j < 8 → cc[off + i * 8 + j]? = ((f i).map (Value.int .u8))[j]? :=
      ⟨fun i => if h : i < len then Classical.choose (h5 i h) else [], fun i hi => by
        simp only [dif_pos hi]
        exact Classical.choose_spec (h5 i hi)⟩
    obtain ⟨f, hf⟩ := h6
    have hl : ((List.range len).map f).length = len := by simp
    refine ⟨(List.range len).map f, hl, .inr (.inr ⟨blk, off, cap, cc, ty, fz, by rw [hl], by rw [hl]; exact h0, by rw [hl]; exact h1, h2, by rw [hl]; exact h3, fun i hi => ?_⟩)⟩
    have hi' : i < len := by rw [hl] at hi; exact hi
    have e : ((List.range len).map f)[i] = f i := by rw [List.getElem_map, List.getElem_range]
    rw [e]
    exact hf i hi'
end Go.Am
namespace Go.Am.C41
open Go Go.Am Go.RowKit Go.ChangeShapes
set_option maxRecDepth 100000
theorem u29 : PG.underlying 29 = some (.struct (PG.fieldsOf 29)) := by kernel_rfl
theorem l29 : (PG.fieldsOf 29).toList.map (fun f => (f.offset, f.type)) = [(0, 3), (1, 3), (2, 3), (3, 4), (4, 9), (5, 9), (6, 3), (7, 3), (8, 27)] := by kernel_rfl
theorem u9 : PG.underlying 9 = some .string := by kernel_rfl
theorem u27 : PG.underlying 27 = some (.slice 52) := by kernel_rfl
theorem u52 : PG.underlying 52 = some (.array 8 5) := by kernel_rfl
theorem c29 : PG.cellsOf 29 = 9 := by kernel_rfl
theorem c3 : PG.cellsOf 3 = 1 := by kernel_rfl
theorem c4 : PG.cellsOf 4 = 1 := by kernel_rfl
theorem c9 : PG.cellsOf 9 = 1 := by kernel_rfl
theorem c27 : PG.cellsOf 27 = 1 := by kernel_rfl
theorem c52 : PG.cellsOf 52 = 8 := by kernel_rfl
theorem c5 : PG.cellsOf 5 = 1 := by kernel_rfl
theorem wf_i64 {n : Int} (h : (Lit.int .i64 n).wf = true) : -9223372036854775808 ≤ n ∧ n < 9223372036854775808 := by
  simp only [Lit.wf, Bool.and_eq_true, decide_eq_true_eq] at h
  have h1 : IntKind.i64.min = -9223372036854775808 := by kernel_rfl
  have h2 : IntKind.i64.max = 9223372036854775807 := by kernel_rfl
  rw [h1, h2] at h
  omega
theorem cmd_of_trod {H : Type} {enc : TypeId × Value → H} {w : World} {held : Bool} {sp : Nat → Bool} {fuel : Nat} {cs : List Value} {x : DataW H × List MemPlace} (h : DataW.trod enc PG w 0 sp held fuel 29 cs = some x) :
    ∃ (c : Cmd) (sv : Value), cs = c.cells sv ∧ c.Fit ∧ DatW w sv c.data := by
  obtain ⟨xs, n, _, _, hl, hn, hall⟩ := DataW.trod_struct u29 h
  rw [c29] at hl
  have fld : ∀ (i off ty : Nat), [(0, 3), (1, 3), (2, 3), (3, 4), (4, 9), (5, 9), (6, 3), (7, 3), (8, 27)][i]? = some (off, ty) → ∃ y, DataW.trod enc PG w 0 sp held n ty ((cs.drop off).take (PG.cellsOf ty)) = some y := fun i off ty hi => by
    rw [← l29, List.getElem?_map] at hi
    cases hf : (PG.fieldsOf 29).toList[i]? with
    | none => rw [hf] at hi; cases hi
    | some f =>
      rw [hf] at hi
      injection hi with hi; injection hi with e1 e2
      subst e1; subst e2
      have hf' : (PG.fieldsOf 29)[i]? = some f := by simpa using hf
      have hi9 : i < xs.length := by rw [hn]; exact (Array.getElem?_eq_some_iff.1 hf').1
      exact ⟨xs[i], by rw [hall i f hf', List.getElem?_eq_getElem hi9]⟩
  match cs, hl with
  | [a0, a1, a2, a3, a4, a5, a6, a7, a8], _ =>
    obtain ⟨_, h0⟩ := fld 0 0 3 rfl
    obtain ⟨_, h1⟩ := fld 1 1 3 rfl
    obtain ⟨_, h2⟩ := fld 2 2 3 rfl
    obtain ⟨_, h3⟩ := fld 3 3 4 rfl
    obtain ⟨_, h4⟩ := fld 4 4 9 rfl
    obtain ⟨_, h5⟩ := fld 5 5 9 rfl
    obtain ⟨_, h6⟩ := fld 6 6 3 rfl
    obtain ⟨_, h7⟩ := fld 7 7 3 rfl
    obtain ⟨_, h8⟩ := fld 8 8 27 rfl
    rw [c3] at h0 h1 h2 h6 h7
    rw [c4] at h3
    rw [c9] at h4 h5
    rw [c27] at h8
    obtain ⟨tag, k0, _, w0⟩ := DataW.trod_int u3 h0
    obtain ⟨kind, k1, _, w1⟩ := DataW.trod_int u3 h1
    obtain ⟨ord, k2, _, w2⟩ := DataW.trod_int u3 h2
    obtain ⟨force, k3, _⟩ := DataW.trod_bool t4 h3
    obtain ⟨vol, k4, _, w4⟩ := DataW.trod_string u9 h4
    obtain ⟨oth, k5, _, w5⟩ := DataW.trod_string u9 h5
    obtain ⟨at_, k6, _, w6⟩ := DataW.trod_int u3 h6
    obtain ⟨len, k7, _, w7⟩ := DataW.trod_int u3 h7
    obtain ⟨sv, dl, k8, hdl, hS⟩ := slice_of_trod u27 c52 (by omega) h8
    obtain ⟨ds, hds, hD⟩ := datW_of_slice (w := w) (v := sv) (len := dl) (by
      rcases hS with h | h | ⟨blk, off, cap, cc, ty, fz, e1, e2, e3, e4, e5, e6⟩
      · exact .inl h
      · exact .inr (.inl h)
      · refine .inr (.inr ⟨blk, off, cap, cc, ty, fz, e1, e2, e3, e4, e5, fun i hi => ?_⟩)
        obtain ⟨l, q1, q2, n', y, q3⟩ := e6 i hi
        obtain ⟨d, hd, rfl⟩ := bytes_of_trod u52 u5 c5 q1 q3
        exact ⟨_, q1, q2, d, hd, rfl⟩)
    simp only [List.drop_succ_cons, List.drop_zero, List.take_succ_cons, List.take_zero, List.cons.injEq, and_true] at k0 k1 k2 k3 k4 k5 k6 k7 k8
    subst k0; subst k1; subst k2; subst k3; subst k4; subst k5; subst k6; subst k7; subst k8
    exact ⟨⟨tag, kind, ord, force, vol, oth, at_, len, ds⟩, _, rfl, ⟨wf_i64 w0, wf_i64 w1, wf_i64 w2, wf_i64 w6, wf_i64 w7, w4, w5, by show ds.length ≤ _; rw [hds]; exact hdl⟩, hD⟩

theorem u46 : PG.underlying 46 = some (.struct (PG.fieldsOf 46)) := by kernel_rfl
theorem l46 : (PG.fieldsOf 46).toList.map (fun f => (f.offset, f.type)) = [(0, 3), (1, 3), (2, 29)] := by kernel_rfl
theorem c46 : PG.cellsOf 46 = 11 := by kernel_rfl
theorem act_of_trod {H : Type} {enc : TypeId × Value → H} {w : World} {held : Bool} {sp : Nat → Bool} {fuel : Nat} {cs : List Value} {x : DataW H × List MemPlace} (h : DataW.trod enc PG w 0 sp held fuel 46 cs = some x) :
    ∃ (a : Act) (sv : Value), cs = a.cells sv ∧ a.c.Fit ∧ DatW w sv a.c.data := by
  obtain ⟨xs, n, _, _, hl, hn, hall⟩ := DataW.trod_struct u46 h
  rw [c46] at hl
  have fld : ∀ (i off ty : Nat), [(0, 3), (1, 3), (2, 29)][i]? = some (off, ty) → ∃ y, DataW.trod enc PG w 0 sp held n ty ((cs.drop off).take (PG.cellsOf ty)) = some y := fun i off ty hi => by
    rw [← l46, List.getElem?_map] at hi
    cases hf : (PG.fieldsOf 46).toList[i]? with
    | none => rw [hf] at hi; cases hi
    | some f =>
      rw [hf] at hi
      injection hi with hi; injection hi with e1 e2
      subst e1; subst e2
      have hf' : (PG.fieldsOf 46)[i]? = some f := by simpa using hf
      have hi9 : i < xs.length := by rw [hn]; exact (Array.getElem?_eq_some_iff.1 hf').1
      exact ⟨xs[i], by rw [hall i f hf', List.getElem?_eq_getElem hi9]⟩
  match cs, hl with
  | [b0, b1, a0, a1, a2, a3, a4, a5, a6, a7, a8], _ =>
    obtain ⟨_, h0⟩ := fld 0 0 3 rfl
    obtain ⟨_, h1⟩ := fld 1 1 3 rfl
    obtain ⟨_, h2⟩ := fld 2 2 29 rfl
    rw [c3] at h0 h1
    rw [c29] at h2
    obtain ⟨kind, k0, _, w0⟩ := DataW.trod_int u3 h0
    obtain ⟨k, k1, _, w1⟩ := DataW.trod_int u3 h1
    obtain ⟨c, sv, e, hF, hD⟩ := cmd_of_trod h2
    simp only [List.drop_succ_cons, List.drop_zero, List.take_succ_cons, List.take_zero, List.cons.injEq, and_true] at k0 k1 e
    subst k0; subst k1
    refine ⟨⟨kind, k, c⟩, sv, ?_, hF, hD⟩
    have e' : [a0, a1, a2, a3, a4, a5, a6, a7, a8] = c.cells sv := e
    show _ = .int .i64 kind :: .int .i64 k :: c.cells sv
    rw [← e']
end Go.Am.C41
namespace Go.Am
open Go Go.RowKit Go.ChangeShapes
def ValsW (w : World) (v : Value) (vs : List Value) : Prop :=
  (v = .slice none 0 0 ∧ vs = []) ∨ (∃ a c, v = .slice (some a) 0 c ∧ vs = []) ∨
    ∃ (blk off cap : Nat) (cc : Array Value) (ty : TypeId) (fz : Nat × Nat), v = .slice (some ⟨blk, off, none⟩) vs.length cap ∧ 0 < vs.length ∧ vs.length ≤ cap ∧ w.heap[blk]? = some (.cells cc ty fz) ∧ off + vs.length ≤ cc.size ∧ ∀ i, i < vs.length → cc[off + i]? = vs[i]?
theorem SliceW.mono {w : World} {k : Nat} {R R' : List Value → Prop} {v : Value} {len : Nat} (h : SliceW w k R v len) (hr : ∀ l, l.length = k → R l → R' l) : SliceW w k R' v len := by
  rcases h with h | h | ⟨blk, off, cap, cc, ty, fz, h1, h2, h3, h4, h5, h6⟩
  · exact .inl h
  · exact .inr (.inl h)
  · exact .inr (.inr ⟨blk, off, cap, cc, ty, fz, h1, h2, h3, h4, h5, fun i hi => by
      obtain ⟨l, q1, q2, q3⟩ := h6 i hi
      exact ⟨l, q1, q2, hr l q1 q3⟩⟩)
end Go.Am
namespace Go.Am.C41
open Go Go.Am Go.Am.V Go.RowKit Go.ChangeShapes
set_option maxRecDepth 100000
def tbl {α : Type} (n : Nat) (f : Nat → α) : List α := (List.range n).map f
theorem tbl_len {α : Type} (n : Nat) (f : Nat → α) : (tbl n f).length = n := by simp [tbl]
theorem tbl_at {α : Type} {n i : Nat} (f : Nat → α) (h : i < n) : (tbl n f)[i]? = some (f i) := by simp [tbl, h]
theorem u39 : PG.underlying 39 = some (.slice 46) := by kernel_rfl
theorem dat_ent {w : World} {sv : Value} {ds : List (List Int)} (h : DatW w sv ds) (i : Nat) : ∃ (o : Option Ent) (v : Value), (∀ ρ : Ren, (∀ e, o = some e → ρ i = some e.p) → VRel ρ v sv) ∧ (∀ ρ e, o = some e → EntOk w ρ e) ∧
    ∀ (m : FM) (n : Nat), i < n → (∀ e, o = some e → m i = some (.cells e.cs e.p.sz false false)) → DatS m n v ds := by
  rcases h with ⟨rfl, rfl⟩ | ⟨a, c, rfl, rfl⟩ | ⟨blk, off, cap, cc, ty, fz, rfl, h0, h1, h2, h3, h4⟩
  · exact ⟨none, .slice none 0 0, fun ρ _ => .flat rfl, fun ρ e h => (by cases h), fun m n _ _ => .inl ⟨rfl, rfl⟩⟩
  · exact ⟨none, .slice (some ⟨i, 0, none⟩) 0 VAG, fun ρ _ => .vag, fun ρ e h => (by cases h), fun m n hi _ => .inr (.inl ⟨i, 0, VAG, rfl, hi, rfl⟩)⟩
  · have hall : ∀ d ∈ ds, d.length = 8 := fun d hd => by
      obtain ⟨i, hi, rfl⟩ := List.mem_iff_getElem.1 hd
      exact (h4 i hi).1
    have hlen := u8all_len hall
    refine ⟨some ⟨⟨blk, off, cap * 8, 8⟩, u8all ds⟩, .slice (some ⟨i, 0, none⟩) ds.length UNK, fun ρ hρ => ?_, fun ρ e he => ?_, fun m n hi hm => ?_⟩
    · exact VRel.slice (p := ⟨blk, off, cap * 8, 8⟩) (hρ _ rfl) h1 (fun _ => by show 0 + cap * 8 = cap * 8; omega) (fun h => absurd rfl h) (by decide)
    · injection he with he; subst he
      refine ⟨cc, ty, fz, h2, by show off + (u8all ds).length ≤ _; rw [hlen]; exact h3, fun j x hx => ?_⟩
      replace hx : (u8all ds)[j]? = some x := hx
      have hj : j < ds.length * 8 := by rw [← hlen]; exact (List.getElem?_eq_some_iff.1 hx).1
      have hq : j / 8 < ds.length := by omega
      have hr : j % 8 < 8 := Nat.mod_lt _ (by omega)
      have hd := u8all_drop hall (j / 8) hq
      have hx2 : (u8s ds[j / 8])[j % 8]? = some x := by
        rw [← hd, List.getElem?_take, if_pos hr, List.getElem?_drop, show j / 8 * 8 + j % 8 = j by omega]; exact hx
      refine ⟨x, ?_, ?_⟩
      · show cc[off + j]? = some x
        have := (h4 (j / 8) hq).2 (j % 8) hr
        rw [show off + j / 8 * 8 + j % 8 = off + j by omega] at this
        rw [this]; exact hx2
      · rw [u8s, List.getElem?_map] at hx2
        cases hz : (ds[j / 8])[j % 8]? with
        | none => rw [hz] at hx2; cases hx2
        | some z => rw [hz] at hx2; injection hx2 with hx2; subst hx2; exact .int _ _ _
    · exact .inr (.inr ⟨i, 0, UNK, u8all ds, false, false, rfl, h0, hi, hm _ rfl, hall, by rw [ldrop_z]; exact cells_all hlen.symm⟩)
def at1ActsW (cs : List (Act × Value)) (i : Nat) : Act := (cs[i]?.map (·.1)).getD ⟨0, 0, ⟨0, 0, 0, false, ⟨#[]⟩, ⟨#[]⟩, 0, 0, []⟩⟩
def at2ActsW (cs : List (Act × Value)) (i : Nat) : Value := (cs[i]?.map (·.2)).getD (.bool false)
def ActsW (w : World) (v : Value) (cs : List (Act × Value)) : Prop :=
  ((v = .slice none 0 0 ∧ cs = []) ∨ (∃ a c, v = .slice (some a) 0 c ∧ cs = []) ∨
    ∃ (blk off cap : Nat) (cc : Array Value) (ty : TypeId) (fz : Nat × Nat), v = .slice (some ⟨blk, off, none⟩) cs.length cap ∧ 0 < cs.length ∧ cs.length ≤ cap ∧ w.heap[blk]? = some (.cells cc ty fz) ∧ off + cs.length * 11 ≤ cc.size ∧
      ∀ i (h : i < cs.length), ∀ j, j < 11 → cc[off + i * 11 + j]? = (cs[i].1.cells cs[i].2)[j]?) ∧ ∀ c ∈ cs, c.1.c.Fit ∧ DatW w c.2 c.1.c.data
theorem actsw_of_trod {H : Type} {enc : TypeId × Value → H} {w : World} {held : Bool} {sp : Nat → Bool} {fuel : Nat} {cs : List Value} {x : DataW H × List MemPlace} (h : DataW.trod enc PG w 0 sp held fuel 39 cs = some x) :
    ∃ v l, cs = [v] ∧ l.length ≤ maxLen ∧ ActsW w v l := by
  obtain ⟨v, len, rfl, hlen, hS⟩ := slice_of_trod u39 c46 (by omega) h
  rcases hS with ⟨rfl, rfl⟩ | ⟨a, c, rfl, rfl⟩ | ⟨blk, off, cap, cc, ty, fz, rfl, h0, h1, h2, h3, h4⟩
  · exact ⟨_, [], rfl, Nat.zero_le _, .inl ⟨rfl, rfl⟩, fun c h => by cases h⟩
  · exact ⟨_, [], rfl, Nat.zero_le _, .inr (.inl ⟨a, c, rfl, rfl⟩), fun c h => by cases h⟩
  · have h5 : ∀ i, i < len → ∃ c : Act × Value, (∀ j, j < 11 → cc[off + i * 11 + j]? = (c.1.cells c.2)[j]?) ∧ c.1.c.Fit ∧ DatW w c.2 c.1.c.data := fun i hi => by
      obtain ⟨l, hl, hj, n, y, hy⟩ := h4 i hi
      obtain ⟨c, sv, rfl, hF, hD⟩ := act_of_trod hy
      exact ⟨(c, sv), hj, hF, hD⟩
    have h6 : ∃ f : Nat → Act × Value, ∀ i, i < len → (∀ j, j < 11 → cc[off + i * 11 + j]? = ((f i).1.cells (f i).2)[j]?) ∧ (f i).1.c.Fit ∧ DatW w (f i).2 (f i).1.c.data :=
      ⟨fun i => if h : i < len then Classical.choose (h5 i h) else (⟨0, 0, ⟨0, 0, 0, false, ⟨#[]⟩, ⟨#[]⟩, 0, 0, []⟩⟩, .bool false), fun i hi => by
        simp only [dif_pos hi]
        exact Classical.choose_spec (h5 i hi)⟩
    obtain ⟨f, hf⟩ := h6
    have hl := tbl_len len f
    have hat : ∀ i (h : i < (tbl len f).length), (tbl len f)[i] = f i := fun i h => by
      have := tbl_at f (show i < len by rw [hl] at h; exact h)
      rw [List.getElem?_eq_getElem h] at this
      exact Option.some.inj this
    refine ⟨_, tbl len f, rfl, by rw [hl]; exact hlen, .inr (.inr ⟨blk, off, cap, cc, ty, fz, by rw [hl], by rw [hl]; exact h0, by rw [hl]; exact h1, h2, by rw [hl]; exact h3, fun i hi => ?_⟩), fun c hc => ?_⟩
    · rw [hat i hi]; exact (hf i (by rw [hl] at hi; exact hi)).1
    · obtain ⟨i, hi, rfl⟩ := List.mem_iff_getElem.1 hc
      rw [hat i hi]; exact (hf i (by rw [hl] at hi; exact hi)).2
theorem actsw_flat (f : Nat → List Value) (hf : ∀ i, (f i).length = 11) : ∀ (n i : Nat), i < n → ctake (ldrop ((tbl n f).flatten) (0 + i * 11)) 11 = some (f i) := by
  have hl : ∀ n, (tbl n f).flatten.length = n * 11 := fun n => by
    induction n with
    | zero => rfl
    | succ n ih => rw [tbl, List.range_succ, List.map_append, List.flatten_append, List.length_append]; simp only [List.map_cons, List.map_nil, List.flatten_cons, List.flatten_nil, List.append_nil, hf]; rw [show (List.map f (List.range n)).flatten.length = n * 11 from ih]; omega
  intro n i hi
  rw [Nat.zero_add, ldrop_eq, ctake_eq, if_pos (by rw [List.length_drop, hl]; omega)]
  congr 1
  induction n with
  | zero => omega
  | succ n ih =>
    have e : (tbl (n + 1) f).flatten = (tbl n f).flatten ++ f n := by rw [tbl, List.range_succ, List.map_append, List.flatten_append]; simp [tbl]
    rw [e]
    rcases Nat.lt_or_ge i n with h | h
    · rw [List.drop_append_of_le_length (by rw [hl]; omega), List.take_append_of_le_length (by rw [List.length_drop, hl]; omega)]
      exact ih h
    · obtain rfl : i = n := by omega
      have hz : ((tbl i f).flatten ++ f i).drop (i * 11) = f i := by rw [← hl i, List.drop_left]
      rw [hz, List.take_of_length_le (by rw [hf]; exact Nat.le_refl _)]
theorem actsw_len (f : Nat → List Value) (hf : ∀ i, (f i).length = 11) (n : Nat) : (tbl n f).flatten.length = n * 11 := by
  induction n with
  | zero => rfl
  | succ n ih => rw [tbl, List.range_succ, List.map_append, List.flatten_append, List.length_append]; simp only [List.map_cons, List.map_nil, List.flatten_cons, List.flatten_nil, List.append_nil, hf]; rw [show (List.map f (List.range n)).flatten.length = n * 11 from ih]; omega
theorem actsw_ent {w : World} {sv : Value} {cs : List (Act × Value)} (h : ActsW w sv cs) : ∃ (L : List (Option Ent)) (v : Value) (cs' : List (Act × Value)), L.length = 1 + cs.length ∧ cs'.length = cs.length ∧
    (∀ ρ : Ren, (∀ (i : Nat) e, L[i]? = some (some e) → ρ i = some e.p) → VRel ρ v sv ∧ ∀ (i : Nat) e, L[i]? = some (some e) → EntOk w ρ e) ∧
    ∀ (m : FM) (n : Nat), L.length ≤ n → (∀ (i : Nat) e, L[i]? = some (some e) → m i = some (.cells e.cs e.p.sz false false)) → RecsV recA m n v cs' := by
  obtain ⟨h, hall⟩ := h
  have hd : ∀ i, i < cs.length → ∃ (ov : Option Ent × Value), (∀ ρ : Ren, (∀ e, ov.1 = some e → ρ (1 + i) = some e.p) → VRel ρ ov.2 (at2ActsW cs i)) ∧ (∀ ρ e, ov.1 = some e → EntOk w ρ e) ∧
      ∀ (m : FM) (n : Nat), 1 + i < n → (∀ e, ov.1 = some e → m (1 + i) = some (.cells e.cs e.p.sz false false)) → DatS m n ov.2 (at1ActsW cs i).c.data := fun i hi => by
    have hm := hall _ (List.getElem_mem hi)
    have e1 : at1ActsW cs i = cs[i].1 := by simp [at1ActsW, hi]
    have e2 : at2ActsW cs i = cs[i].2 := by simp [at2ActsW, hi]
    rw [e1, e2]
    obtain ⟨o, v, k1, k2, k3⟩ := dat_ent hm.2 (1 + i)
    exact ⟨(o, v), k1, k2, k3⟩
  have hg : ∃ g : Nat → Option Ent × Value, ∀ i, i < cs.length → (∀ ρ : Ren, (∀ e, (g i).1 = some e → ρ (1 + i) = some e.p) → VRel ρ (g i).2 (at2ActsW cs i)) ∧ (∀ ρ e, (g i).1 = some e → EntOk w ρ e) ∧
      ∀ (m : FM) (n : Nat), 1 + i < n → (∀ e, (g i).1 = some e → m (1 + i) = some (.cells e.cs e.p.sz false false)) → DatS m n (g i).2 (at1ActsW cs i).c.data :=
    ⟨fun i => if h : i < cs.length then Classical.choose (hd i h) else (none, .bool false), fun i hi => by
      simp only [dif_pos hi]
      exact Classical.choose_spec (hd i hi)⟩
  obtain ⟨g, hg⟩ := hg
  have hlc := tbl_len cs.length (fun i => (at1ActsW cs i, (g i).2))
  have hcm : ∀ i (h : i < (tbl cs.length (fun i => (at1ActsW cs i, (g i).2))).length), (tbl cs.length (fun i => (at1ActsW cs i, (g i).2)))[i] = (at1ActsW cs i, (g i).2) := fun i h => by
    have := tbl_at (fun i => (at1ActsW cs i, (g i).2)) (show i < cs.length by rw [hlc] at h; exact h)
    rw [List.getElem?_eq_getElem h] at this
    exact Option.some.inj this
  have hfit : ∀ i, i < cs.length → (at1ActsW cs i).c.Fit := fun i hi => by
    rw [show at1ActsW cs i = cs[i].1 by simp [at1ActsW, hi]]
    exact (hall _ (List.getElem_mem hi)).1
  have build : ∀ (o : Option Ent) (v : Value),
      (∀ ρ : Ren, (∀ e, o = some e → ρ 0 = some e.p) → VRel ρ v sv) →
      (∀ ρ : Ren, (∀ i, i < cs.length → VRel ρ (g i).2 (at2ActsW cs i)) → ∀ e, o = some e → EntOk w ρ e) →
      (∀ (m : FM) (n : Nat), 0 < n → (∀ e, o = some e → m 0 = some (.cells e.cs e.p.sz false false)) → ∃ a c, v = .slice a (tbl cs.length (fun i => (at1ActsW cs i, (g i).2))).length c ∧ belowV n v = true ∧ (tbl cs.length (fun i => (at1ActsW cs i, (g i).2)) = [] ∨ ∃ b o cells opn wr, a = some ⟨b, o, none⟩ ∧ b < n ∧ m b = some (.cells cells 11 opn wr) ∧ ∀ i (h : i < (tbl cs.length (fun i => (at1ActsW cs i, (g i).2))).length), ctake (ldrop cells (o + i * 11)) 11 = some ((tbl cs.length (fun i => (at1ActsW cs i, (g i).2)))[i].1.cells (tbl cs.length (fun i => (at1ActsW cs i, (g i).2)))[i].2))) →
      ∃ (L : List (Option Ent)) (v : Value) (cs' : List (Act × Value)), L.length = 1 + cs.length ∧ cs'.length = cs.length ∧
        (∀ ρ : Ren, (∀ (i : Nat) e, L[i]? = some (some e) → ρ i = some e.p) → VRel ρ v sv ∧ ∀ (i : Nat) e, L[i]? = some (some e) → EntOk w ρ e) ∧
        ∀ (m : FM) (n : Nat), L.length ≤ n → (∀ (i : Nat) e, L[i]? = some (some e) → m i = some (.cells e.cs e.p.sz false false)) → RecsV recA m n v cs' := fun o v b1 b2 b3 => by
    have hL0 : (o :: tbl cs.length (fun i => (g i).1))[0]? = some o := rfl
    have hLs : ∀ i, i < cs.length → (o :: tbl cs.length (fun i => (g i).1))[1 + i]? = some (g i).1 := fun i hi => by
      rw [Nat.add_comm, List.getElem?_cons_succ]; exact tbl_at _ hi
    refine ⟨o :: tbl cs.length (fun i => (g i).1), v, tbl cs.length (fun i => (at1ActsW cs i, (g i).2)), by rw [List.length_cons, tbl_len]; omega, hlc, fun ρ hρ => ?_, fun m n hn hm => ?_⟩
    · have hv : ∀ i, i < cs.length → VRel ρ (g i).2 (at2ActsW cs i) := fun i hi => (hg i hi).1 ρ fun e he => hρ (1 + i) e (by rw [hLs i hi, he])
      refine ⟨b1 ρ fun e he => hρ 0 e (by rw [hL0, he]), fun i e he => ?_⟩
      match i with
      | 0 => rw [hL0] at he; injection he with he; exact b2 ρ hv e he
      | i + 1 =>
        rw [List.getElem?_cons_succ] at he
        have hi : i < cs.length := by have := (List.getElem?_eq_some_iff.1 he).1; rw [tbl_len] at this; exact this
        rw [tbl_at _ hi] at he
        injection he with he
        exact (hg i hi).2.1 ρ e he
    · rw [List.length_cons, tbl_len] at hn
      refine ⟨b3 m n (by omega) fun e he => hm 0 e (by rw [hL0, he]), fun c hc => ?_⟩
      obtain ⟨i, hi, rfl⟩ := List.mem_iff_getElem.1 hc
      rw [hcm i hi]
      have hi' : i < cs.length := by rw [hlc] at hi; exact hi
      exact ⟨hfit i hi', (hg i hi').2.2 m n (by omega) fun e he => hm (1 + i) e (by rw [hLs i hi', he])⟩
  rcases h with ⟨rfl, rfl⟩ | ⟨a, c, rfl, rfl⟩ | ⟨blk, off, cap, cc, ty, fz, rfl, h0, h1, h2, h3, h4⟩
  · exact build none (.slice none 0 0) (fun ρ _ => .flat rfl) (fun ρ _ e h => (by cases h)) fun m n hn _ => ⟨none, 0, rfl, rfl, .inl rfl⟩
  · exact build none (.slice (some ⟨0, 0, none⟩) 0 VAG) (fun ρ _ => .vag) (fun ρ _ e h => (by cases h)) fun m n hn _ => ⟨_, _, rfl, blt_true (show 0 < n from hn), .inl rfl⟩
  · have hcl : ∀ (f : Nat → Value) (i : Nat), ((at1ActsW cs i).cells (f i)).length = 11 := fun f i => rfl
    have hfl := actsw_len (fun i => (at1ActsW cs i).cells (g i).2) (hcl _) cs.length
    refine build (some ⟨⟨blk, off, cap * 11, 11⟩, (tbl cs.length (fun i => (at1ActsW cs i).cells (g i).2)).flatten⟩) (.slice (some ⟨0, 0, none⟩) cs.length UNK) (fun ρ hρ => ?_) (fun ρ hv e he => ?_) fun m n hn hm => ?_
    · exact VRel.slice (p := ⟨blk, off, cap * 11, 11⟩) (hρ _ rfl) h1 (fun _ => by show 0 + cap * 11 = cap * 11; omega) (fun h => absurd rfl h) (by decide)
    · injection he with he; subst he
      refine ⟨cc, ty, fz, h2, by show off + (tbl cs.length (fun i => (at1ActsW cs i).cells (g i).2)).flatten.length ≤ _; rw [hfl]; exact h3, fun j x hx => ?_⟩
      replace hx : ((tbl cs.length (fun i => (at1ActsW cs i).cells (g i).2)).flatten)[j]? = some x := hx
      have hj : j < cs.length * 11 := by rw [← hfl]; exact (List.getElem?_eq_some_iff.1 hx).1
      have hq : j / 11 < cs.length := by omega
      have hr : j % 11 < 11 := Nat.mod_lt _ (by omega)
      have ht := actsw_flat (fun i => (at1ActsW cs i).cells (g i).2) (hcl _) cs.length (j / 11) hq
      rw [Nat.zero_add, ldrop_eq, ctake_eq] at ht
      split at ht
      next =>
        injection ht with ht
        have hx2 : ((at1ActsW cs (j / 11)).cells (g (j / 11)).2)[j % 11]? = some x := by
          rw [← ht, List.getElem?_take, if_pos hr, List.getElem?_drop, show j / 11 * 11 + j % 11 = j by omega]; exact hx
        have hc4 := h4 (j / 11) hq (j % 11) hr
        rw [show off + j / 11 * 11 + j % 11 = off + j by omega] at hc4
        have e1 : at1ActsW cs (j / 11) = cs[j / 11].1 := by simp [at1ActsW, hq]
        have e2 : at2ActsW cs (j / 11) = cs[j / 11].2 := by simp [at2ActsW, hq]
        rw [← e1, ← e2] at hc4
        have hrel : LRel ρ ((at1ActsW cs (j / 11)).cells (g (j / 11)).2) ((at1ActsW cs (j / 11)).cells (at2ActsW cs (j / 11))) := .cons (.flat rfl) (.cons (.flat rfl) (.cons (.flat rfl) (.cons (.flat rfl) (.cons (.flat rfl) (.cons (.flat rfl) (.cons (.flat rfl) (.cons (.flat rfl) (.cons (.flat rfl) (.cons (.flat rfl) (.cons (hv _ hq) (.nil _)))))))))))
        have hlt : j % 11 < ((at1ActsW cs (j / 11)).cells (at2ActsW cs (j / 11))).length := hr
        refine ⟨((at1ActsW cs (j / 11)).cells (at2ActsW cs (j / 11)))[j % 11], ?_, ?_⟩
        · show cc[off + j]? = _
          rw [hc4, List.getElem?_eq_getElem hlt]
        · exact hrel.2 (j % 11) x _ hx2 (List.getElem?_eq_getElem hlt)
      next => cases ht
    · refine ⟨_, _, by rw [hlc], blt_true (show 0 < n from hn), .inr ⟨0, 0, _, false, false, rfl, hn, hm _ rfl, fun i hi => ?_⟩⟩
      rw [hcm i hi]
      exact actsw_flat (fun i => (at1ActsW cs i).cells (g i).2) (hcl _) cs.length i (by rw [hlc] at hi; exact hi)
def at1CmdsW (cs : List (Cmd × Value)) (i : Nat) : Cmd := (cs[i]?.map (·.1)).getD ⟨0, 0, 0, false, ⟨#[]⟩, ⟨#[]⟩, 0, 0, []⟩
def at2CmdsW (cs : List (Cmd × Value)) (i : Nat) : Value := (cs[i]?.map (·.2)).getD (.bool false)
def CmdsW (w : World) (v : Value) (cs : List (Cmd × Value)) : Prop :=
  ((v = .slice none 0 0 ∧ cs = []) ∨ (∃ a c, v = .slice (some a) 0 c ∧ cs = []) ∨
    ∃ (blk off cap : Nat) (cc : Array Value) (ty : TypeId) (fz : Nat × Nat), v = .slice (some ⟨blk, off, none⟩) cs.length cap ∧ 0 < cs.length ∧ cs.length ≤ cap ∧ w.heap[blk]? = some (.cells cc ty fz) ∧ off + cs.length * 9 ≤ cc.size ∧
      ∀ i (h : i < cs.length), ∀ j, j < 9 → cc[off + i * 9 + j]? = (cs[i].1.cells cs[i].2)[j]?) ∧ ∀ c ∈ cs, c.1.Fit ∧ DatW w c.2 c.1.data
end Go.Am.C41
namespace Go.Am.C41
open Go Go.Am Go.Am.V Go.RowKit Go.ChangeShapes
set_option maxRecDepth 1000000
theorem entRen_at {L : List (Option Ent)} {i : Nat} {e : Ent} (h : L[i]? = some (some e)) : entRen L i = some e.p := by
  show (L[i]?).bind _ = _
  rw [h]; rfl
theorem entMem_at {L : List (Option Ent)} {i : Nat} {e : Ent} (h : L[i]? = some (some e)) : entMem L i = some (.cells e.cs e.p.sz false false) := by
  show (L[i]?).bind _ = _
  rw [h]; rfl
theorem acts_calls {f : Nat} (ps : List Value) (hp : ∀ x ∈ ps, flat x = true) (hlaw : ∀ (m : FM) (n : Nat) (lv : Value) (cs : List (Act × Value)), RecsV recA m n lv cs → cs.length ≤ 9223372036854775807 → Pure (callW PG (look tabB) (memosA memL Y0) f (lv :: ps) m n) m n (.bool true))
    (w : World) (sv : Value) (cs : List (Act × Value)) (h : ActsW w sv cs) (hs : cs.length ≤ 9223372036854775807) :
    Calls Proofs.Tryd.prog f (sv :: ps).toArray w fun e w' => e = .returned (.bool true) ∧ Below w.heap.size w w' := by
  obtain ⟨L, v, cs', hL, hl', hrel, hmem⟩ := actsw_ent h
  obtain ⟨hv, hok⟩ := hrel (entRen L) fun i e he => entRen_at he
  obtain ⟨hm, hf⟩ := ent_world (w := w) (L := L) hok
  obtain ⟨r, hrun⟩ := hlaw (entMem L) L.length v cs' (hmem _ _ (Nat.le_refl _) fun i e he => entMem_at he) (by rw [hl']; exact hs)
  have hps : ∀ l : List Value, (∀ x ∈ l, flat x = true) → LRel (entRen L) l l := fun l => by
    induction l with
    | nil => exact fun _ => .nil _
    | cons x l ih => exact fun h => .cons (.flat (h x (by simp))) (ih fun y hy => h y (by simp [hy]))
  exact Go.Am.Env.topW envB (args' := (sv :: ps).toArray) hrun (.cons hv (hps ps hp)) hm hf
theorem plain_calls {f : Nat} (ps : List Value) (hp : ∀ x ∈ ps, flat x = true) (hlaw : ∀ (m : FM) (n : Nat), Pure (callW PG (look tabB) (memosA memL Y0) f ps m n) m n (.bool true)) (w : World) :
    Calls Proofs.Tryd.prog f ps.toArray w fun e w' => e = .returned (.bool true) ∧ Below w.heap.size w w' := by
  obtain ⟨hm, hf⟩ := ent_world (w := w) (L := []) (fun i e he => by simp at he)
  obtain ⟨r, hrun⟩ := hlaw (entMem []) 0
  have hps : ∀ l : List Value, (∀ x ∈ l, flat x = true) → LRel (entRen []) l l := fun l => by
    induction l with
    | nil => exact fun _ => .nil _
    | cons x l ih => exact fun h => .cons (.flat (h x (by simp))) (ih fun y hy => h y (by simp [hy]))
  exact Go.Am.Env.topW envB (args' := ps.toArray) hrun (hps ps hp) hm hf
end Go.Am.C41
namespace Go.Am
open Go Go.RowKit Go.ChangeShapes
theorem post_below {H : Type} {enc : TypeId × Value → H} {P : Program} {f : Func} {s : ChangeSpec} {apart fresh handsOn again : Bool} {W W' : World} {args : Array Value} {v : Value} {ds gs : List (DataW H)} {before pa pv : List MemPlace}
    (hW : DataW.Whole enc P f.params.toList s.vars apart W args.toList ds gs before)
    (hres : ∀ (b : Nat) (sp : Nat → Bool) (hd : Bool), DataW.TrodAll enc P W' b sp hd f.resultTypes.toList (v.resultList f.resultTypes.size) (s.fn H (ds ++ gs)).results [])
    (hargs : ∀ sp : Nat → Bool, (∀ p ∈ before, sp p.block = true) → DataW.TrodAll enc P W' 0 sp true f.params.toList args.toList (s.fn H (ds ++ gs)).args pa)
    (hvars : ∀ sp : Nat → Bool, (∀ p ∈ before, sp p.block = true) → DataW.TrodVars enc P W' sp s.vars (s.fn H (ds ++ gs)).vars pv)
    (hps : before = pa ++ pv) (hb : Below W.heap.size W W')
    (hok : ∀ (j : Nat) (t : TypeId) (r : Value), f.resultTypes[j]? = some t → (v.resultList f.resultTypes.size)[j]? = some r → Value.okWide P W' .any 0 t r) :
    s.post enc P f apart fresh handsOn again W args v W' := by
  have hlt := hW.lt
  obtain ⟨_, _, _, _, _, hz, hn⟩ := id hW
  refine ⟨ds, gs, before, [], pa, pv, hW, hres _ _ _, hargs _ fun p hp => by simpa using hlt p hp, hvars _ fun p hp => by simpa using hlt p hp, World.keptBut_mono (fun p hp => ⟨hp, ?_⟩) (hb.frame (· ∈ before)), fun _ => ⟨hok, _, _, ([] ++ pa) ++ pv, ⟨[] ++ pa, pv, trodAll_append (hargs _ fun _ _ => rfl) (hres _ _ _), hvars _ fun _ _ => rfl, rfl, fun b off hp => ?_, fun ha => ?_⟩, fun p hp _ => ?_⟩⟩
  · rw [hps, List.mem_append] at hp; exact .inr hp
  · have hm : MemPlace.cell b off ∈ before := by rw [hps]; simpa using hp
    rw [hb.frozen (p := ⟨b, off, none⟩) (hlt _ hm)]
    exact hz b off hm
  · have := hn ha
    rw [hps] at this
    simpa using this
  · rw [hps]; simpa using hp
end Go.Am
