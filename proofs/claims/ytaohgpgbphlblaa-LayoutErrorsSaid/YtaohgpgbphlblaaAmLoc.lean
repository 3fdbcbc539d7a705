/- What a run of the abstract machine changes: only what it says that it wrote. -/
import Derived.Test.YtaohgpgbphlblaaAmStep
set_option linter.unusedVariables false
set_option linter.unusedSimpArgs false
set_option linter.unusedSectionVars false
namespace Go.Am
open Go Go.RowKit
section
variable {μ : Type} [AMem μ] {P : Program}

structure Loc (m : μ) (n : Nat) (m' : μ) (n' W : Nat) : Prop where
  num : n ≤ n'
  same : ∀ b, W.testBit b = false → AMem.get m' b = AMem.get m b
  made : ∀ b, n ≤ b → b < n' → W.testBit b = true

theorem Loc.refl (m : μ) (n : Nat) : Loc m n m n 0 := ⟨Nat.le_refl _, fun _ _ => rfl, fun b h1 h2 => by omega⟩
theorem Loc.trans {m m1 m2 : μ} {n n1 n2 w1 w2 : Nat} (h : Loc m n m1 n1 w1) (k : Loc m1 n1 m2 n2 w2) : Loc m n m2 n2 (Nat.lor w1 w2) :=
  ⟨Nat.le_trans h.num k.num, fun b hb => by
    rw [lor_test, Bool.or_eq_false_iff] at hb
    rw [k.same b hb.2, h.same b hb.1], fun b h1 h2 => by
    rw [lor_test]
    by_cases hb : b < n1
    · rw [h.made b h1 hb]; rfl
    · rw [k.made b (by omega) h2]; simp⟩

theorem loc_put {m : μ} {n b : Nat} (x : Option Blk) (hl : AMem.lim m b = true) : Loc m n (AMem.put m b x) n (bit b) :=
  ⟨Nat.le_refl _, fun k hk => by rw [AMem.get_put m b k x hl, if_neg]; intro e; subst e; rw [bit_test] at hk; simp at hk, fun k h1 h2 => by omega⟩
theorem loc_new {m : μ} {n : Nat} (x : Option Blk) (hl : AMem.lim m n = true) : Loc m n (AMem.put m n x) (Nat.succ n) (bit n) :=
  ⟨Nat.le_succ _, fun k hk => by rw [AMem.get_put m n k x hl, if_neg]; intro e; subst e; rw [bit_test] at hk; simp at hk, fun k h1 h2 => by
    have : k = n := by omega
    subst this; rw [bit_test]; simp⟩

theorem newb_loc {m m' : μ} {n n' r wm : Nat} {O : Blk} {f : Nat → Value} {v : Value} (h : newb m n O f = .ok v m' n' r wm) : Loc m n m' n' wm := by
  unfold newb at h
  cases hl : AMem.lim m n
  · rw [hl, cond_false] at h; cases h
  · rw [hl, cond_true] at h; injection h with e1 e2 e3 e4 e5; subst e2; subst e3; subst e5; exact loc_new _ hl
theorem valO_loc {m m' : μ} {n n' r wm : Nat} {x : Option Value} {v : Value} (h : valO m n x = .ok v m' n' r wm) : Loc m n m' n' wm := by
  obtain ⟨_, rfl, rfl, _, rfl⟩ := valO_ok h; exact Loc.refl _ _
theorem valR_loc {m m' : μ} {n n' r wm b : Nat} {x : Option Value} {v : Value} (h : valR m n b x = .ok v m' n' r wm) : Loc m n m' n' wm := by
  obtain ⟨_, rfl, rfl, _, rfl⟩ := valR_ok h; exact Loc.refl _ _
omit [AMem μ] in
theorem withCells_ok {B : Option Blk} {f : List Value → OR μ} {v : Value} {m' : μ} {n' r wm : Nat} (h : withCells B f = .ok v m' n' r wm) : ∃ c, f c = .ok v m' n' r wm := by
  cases B with
  | none => cases h
  | some B => cases B with | cells c sz opn wr => exact ⟨c, h⟩
theorem putC_loc {m m' : μ} {n n' r r0 wm b sz : Nat} {opn : Bool} {v0 v : Value} {c : Option (List Value)} (hb : AMem.lim m b = true) (h : putC m n b sz opn v0 r0 c = .ok v m' n' r wm) : Loc m n m' n' wm := by
  unfold putC at h; split at h
  · injection h with e1 e2 e3 e4 e5; subst e2; subst e3; subst e5; exact loc_put _ hb
  · cases h
theorem appN_loc {m m' : μ} {n n' r r0 wm sz len : Nat} {c : List Value} {v : Value} (h : appN m n sz len c r0 = .ok v m' n' r wm) : Loc m n m' n' wm := by
  unfold appN at h
  cases hl : AMem.lim m n
  · rw [hl, cond_false] at h; cases h
  · rw [hl, cond_true] at h; injection h with e1 e2 e3 e4 e5; subst e2; subst e3; subst e5; exact loc_new _ hl

theorem step_loc {e : List Value} {m m' : μ} {n n' r wm : Nat} {v : Value} {rec : Nat → List Value → μ → Nat → OR μ} {x : AOp} (hrec : ∀ f args m n v m' n' r wm, rec f args m n = .ok v m' n' r wm → Loc m n m' n' wm)
    (h : stepA P rec e m n x = .ok v m' n' r wm) : Loc m n m' n' wm := by
  cases x with
  | mov x => injection h with e1 e2 e3 e4 e5; subst e2; subst e3; subst e5; exact Loc.refl _ _
  | func f a c => injection h with e1 e2 e3 e4 e5; subst e2; subst e3; subst e5; exact Loc.refl _ _
  | pick c a b => exact valO_loc h
  | bin op t x y => exact valO_loc h
  | una op x => exact valO_loc h
  | conv k x => exact valO_loc h
  | fld off x => exact valO_loc h
  | idx sz x i => exact valO_loc h
  | ida k sz x i => exact valO_loc h
  | build z ps => exact valO_loc h
  | extr i x => exact valO_loc h
  | nilck x => exact valO_loc h
  | len s x => exact valO_loc h
  | mx x y => exact valO_loc h
  | slc sz x lo hi =>
    replace h : slcM m n sz (slcV sz (oev e lo) (oev e hi) (ev e x)) (ev e x) = .ok v m' n' r wm := h
    unfold slcM at h
    split at h
    · rename_i b o ln c hx
      cases hc : Nat.beq c UNK
      · rw [hc, cond_false] at h; exact valO_loc h
      · rw [hc, cond_true] at h
        cases hz : szOk sz (getb m n b)
        · rw [hz, cond_false] at h; cases h
        · rw [hz, cond_true] at h; exact valR_loc h
    · exact valO_loc h
  | new c => exact newb_loc h
  | box x => exact newb_loc h
  | mkl sz len z ps =>
    replace h : mklC m n sz len (fillA (parts2 sz e ps) (reps z len)) = .ok v m' n' r wm := h
    unfold mklC at h; split at h
    · exact newb_loc h
    · cases h
  | make sz bytes z l c =>
    replace h : makeV sz bytes z m n (natOf (ev e l)) (natOf (ev e c)) = .ok v m' n' r wm := h
    unfold makeV at h; split at h
    · rename_i l1 c1 _ _
      cases hb : (Nat.ble l1 c1 && Nat.ble (Nat.mul c1 bytes) 281474976710656 && Nat.ble c1 1099511627776)
      · rw [hb, cond_false] at h; cases h
      · rw [hb, cond_true] at h; exact newb_loc h
    · cases h
  | ld1 x =>
    replace h : ld1V m n (ev e x) = .ok v m' n' r wm := h
    unfold ld1V at h; split at h
    · obtain ⟨c, h⟩ := withCells_ok h; exact valR_loc h
    · cases h
  | ldn k x =>
    replace h : ldnV k m n (ev e x) = .ok v m' n' r wm := h
    unfold ldnV at h; split at h
    · obtain ⟨c, h⟩ := withCells_ok h; exact valR_loc h
    · cases h
  | st k x y =>
    replace h : stV k (ev e y).cells.toList m n (ev e x) = .ok v m' n' r wm := h
    unfold stV at h; split at h
    · rename_i b o hx
      cases hc : (Nat.beq (llen (ev e y).cells.toList) k && (ev e y).cells.toList.all one)
      · rw [hc, cond_false] at h; cases h
      · rw [hc, cond_true] at h
        unfold stC at h; split at h
        · rename_i hg; exact putC_loc (AMem.get_lim _ _ _ (getb_some hg).2) h
        · cases h
    · cases h
  | app sz bytes x y =>
    replace h : appO sz bytes m n (ev e x) (ev e y) (shown m n sz (ev e x)) (shown m n sz (ev e y)) = .ok v m' n' r wm := h
    unfold appO at h; split at h
    · rename_i a b _ _
      unfold appV at h; split at h
      · rename_i ax lx cx ay ly cy hx hy
        cases hc : (b.1.all one && Nat.blt 0 sz && Nat.blt 0 bytes && Nat.ble (Nat.mul (Nat.add lx ly) bytes) 140737488355328)
        · rw [hc, cond_false] at h; cases h
        · rw [hc, cond_true] at h
          unfold appG at h; split at h
          · cases hl : Nat.beq ly 0
            · rw [hl, cond_false] at h; exact appN_loc h
            · rw [hl, cond_true] at h; injection h with e1 e2 e3 e4 e5; subst e2; subst e3; subst e5; exact Loc.refl _ _
          · rename_i bx ox
            cases hv : Nat.beq cx VAG
            · rw [hv, cond_false] at h
              cases hu : Nat.beq cx UNK
              · rw [hu, cond_false] at h
                cases hl : Nat.ble (Nat.add lx ly) cx
                · rw [hl, cond_false] at h; exact appN_loc h
                · rw [hl, cond_true] at h
                  unfold appR at h; split at h
                  · rename_i hg; exact putC_loc (AMem.get_lim _ _ _ (getb_some hg).2) h
                  · cases h
              · rw [hu, cond_true] at h
                unfold appU at h; split at h
                · rename_i c s hg
                  cases hl : (AMem.lim m n && Nat.beq s sz)
                  · rw [hl, cond_false] at h; cases h
                  · rw [hl, cond_true] at h; injection h with e1 e2 e3 e4 e5; subst e2; subst e3; subst e5
                    rw [Bool.and_eq_true] at hl
                    exact (loc_put _ (AMem.get_lim _ _ _ (getb_some hg).2)).trans (loc_new _ (by rw [AMem.lim_put]; exact hl.1))
                · cases h
            · rw [hv, cond_true] at h; cases h
          · cases h
      · cases h
    · cases h
  | call f args => exact hrec _ _ _ _ _ _ _ _ _ h
  | callv x args =>
    replace h : callV rec (evs e args) m n (ev e x) = .ok v m' n' r wm := h
    unfold callV at h; split at h
    · exact hrec _ _ _ _ _ _ _ _ _ h
    · cases h

omit [AMem μ] in
theorem orRec_ok {x : OR μ} {f : Value → μ → Nat → Nat → Nat → CR μ} {X : AX} {e' : List Value} {m' : μ} {n' r wm : Nat} (h : orRec x f = .ok X e' m' n' r wm) : ∃ v m1 n1 r1 w1, x = .ok v m1 n1 r1 w1 ∧ f v m1 n1 r1 w1 = .ok X e' m' n' r wm := by
  cases x with
  | no => cases h
  | ok v m1 n1 r1 w1 => exact ⟨v, m1, n1, r1, w1, rfl, h⟩
omit [AMem μ] in
theorem crRec_ok {x : CR μ} {f : AX → List Value → μ → Nat → Nat → Nat → CR μ} {X : AX} {e' : List Value} {m' : μ} {n' r wm : Nat} (h : crRec x f = .ok X e' m' n' r wm) : ∃ X1 e1 m1 n1 r1 w1, x = .ok X1 e1 m1 n1 r1 w1 ∧ f X1 e1 m1 n1 r1 w1 = .ok X e' m' n' r wm := by
  cases x with
  | no => cases h
  | ok v e1 m1 n1 r1 w1 => exact ⟨v, e1, m1, n1, r1, w1, rfl, h⟩
omit [AMem μ] in
theorem doneA_ok {X : AX} {e e' : List Value} {m m' : μ} {n n' r r' wm wm' : Nat} (h : doneA e m n r wm = .ok X e' m' n' r' wm') : X = .norm ∧ e' = e ∧ m' = m ∧ n' = n ∧ r' = r ∧ wm' = wm := by
  unfold doneA at h; rw [forceN_eq, forceN_eq] at h
  injection h with e1 e2 e3 e4 e5 e6; exact ⟨e1.symm, e2.symm, e3.symm, e4.symm, e5.symm, e6.symm⟩

/-- what a list of operations does: their own steps, one behind the other -/
theorem lor_assoc' (a b c : Nat) : Nat.lor (Nat.lor a b) c = Nat.lor a (Nat.lor b c) := Nat.or_assoc a b c
theorem lor_zero' (a : Nat) : Nat.lor a 0 = a := Nat.or_zero a
theorem zero_lor' (a : Nat) : Nat.lor 0 a = a := Nat.zero_or a


theorem opsA_loc {rec : Nat → List Value → μ → Nat → OR μ} (hrec : ∀ f args m n v m' n' r wm, rec f args m n = .ok v m' n' r wm → Loc m n m' n' wm) :
    ∀ (l : List AI) (e : List Value) (m : μ) (n r0 w0 : Nat) (X : AX) (e' : List Value) (m' : μ) (n' r wm : Nat), opsA P rec l e m n r0 w0 = .ok X e' m' n' r wm →
      ∃ r1 w1, r = Nat.lor r0 r1 ∧ wm = Nat.lor w0 w1 ∧ Loc m n m' n' w1
  | [], e, m, n, r0, w0, X, e', m', n', r, wm, h => by
    obtain ⟨_, _, rfl, rfl, rfl, rfl⟩ := doneA_ok h
    exact ⟨0, 0, (lor_zero' _).symm, (lor_zero' _).symm, Loc.refl _ _⟩
  | i :: l, e, m, n, r0, w0, X, e', m', n', r, wm, h => by
    have ih := opsA_loc hrec l
    have step : ∀ {o : AOp} {e2 : Value → List Value}, (orRec (stepA P rec e m n o) fun v m n r' w' => opsA P rec l (e2 v) m n (Nat.lor r0 r') (Nat.lor w0 w')) = .ok X e' m' n' r wm → ∃ r1 w1, r = Nat.lor r0 r1 ∧ wm = Nat.lor w0 w1 ∧ Loc m n m' n' w1 := by
      intro o e2 h
      obtain ⟨v, m1, n1, r1, w1, h1, h2⟩ := orRec_ok h
      have l1 := step_loc hrec h1
      obtain ⟨r2, w2, rfl, rfl, l2⟩ := ih _ _ _ _ _ _ _ _ _ _ _ h2
      exact ⟨Nat.lor r1 r2, Nat.lor w1 w2, lor_assoc' _ _ _, lor_assoc' _ _ _, l1.trans l2⟩
    cases i with
    | nop i => exact ih _ _ _ _ _ _ _ _ _ _ _ h
    | op o => exact step (e2 := fun v => v :: e) h
    | opg o gi gw =>
      replace h : cond (wantB gw (lget e gi)) (orRec (stepA P rec e m n o) fun v m n r' w' => opsA P rec l (v :: e) m n (Nat.lor r0 r') (Nat.lor w0 w')) (opsA P rec l (undef :: e) m n r0 w0) = .ok X e' m' n' r wm := h
      cases hw : wantB gw (lget e gi)
      · rw [hw, cond_false] at h; exact ih _ _ _ _ _ _ _ _ _ _ _ h
      · rw [hw, cond_true] at h; exact step (e2 := fun v => v :: e) h
    | eff o => exact step (e2 := fun _ => e) h
    | effg o gi gw =>
      replace h : cond (wantB gw (lget e gi)) (orRec (stepA P rec e m n o) fun v m n r' w' => opsA P rec l e m n (Nat.lor r0 r') (Nat.lor w0 w')) (opsA P rec l e m n r0 w0) = .ok X e' m' n' r wm := h
      cases hw : wantB gw (lget e gi)
      · rw [hw, cond_false] at h; exact ih _ _ _ _ _ _ _ _ _ _ _ h
      · rw [hw, cond_true] at h; exact step (e2 := fun _ => e) h

omit [AMem μ] in
theorem okD_ok {bef k : Nat} {done : List (Nat × Nat × Nat)} {x : OR μ} {f : Value → μ → Nat → Nat → Nat → List (Nat × Nat × Nat) → CR μ} {X : AX} {e' : List Value} {m' : μ} {n' r wm : Nat} (h : okD bef k done x f = .ok X e' m' n' r wm) :
    ∃ v m1 n1 r1 w1, x = .ok v m1 n1 r1 w1 ∧ ((Nat.lor r1 w1 = 0 ∧ f v m1 n1 r1 w1 done = .ok X e' m' n' r wm) ∨ (apart bef r1 w1 done = true ∧ f v m1 n1 r1 w1 ((k, r1, w1) :: done) = .ok X e' m' n' r wm)) := by
  obtain ⟨v, m1, n1, r1, w1, h1, h2⟩ := orRec_ok h
  rw [forceN_eq, forceN_eq] at h2
  refine ⟨v, m1, n1, r1, w1, h1, ?_⟩
  cases hb : Nat.beq (Nat.lor r1 w1) 0
  · rw [hb, cond_false] at h2
    cases ha : apart bef r1 w1 done
    · rw [ha, cond_false] at h2; cases h2
    · rw [ha, cond_true] at h2; exact .inr ⟨rfl, h2⟩
  · rw [hb, cond_true] at h2; exact .inl ⟨Nat.eq_of_beq_eq_true hb, h2⟩

theorem stepD_ok {rec : Nat → List Value → μ → Nat → OR μ} {e : List Value} {m m' : μ} {n n' r wm : Nat} {v : Value} {x : AOp} (h : stepD P rec e m n x = .ok v m' n' r wm) : belowOps n e x = true ∧ stepA P rec e m n x = .ok v m' n' r wm := by
  unfold stepD at h
  cases hb : belowOps n e x
  · rw [hb, cond_false] at h; cases h
  · rw [hb, cond_true] at h; exact ⟨rfl, h⟩

theorem opsD_loc {rec : Nat → List Value → μ → Nat → OR μ} (hrec : ∀ f args m n v m' n' r wm, rec f args m n = .ok v m' n' r wm → Loc m n m' n' wm) :
    ∀ (l : List AI) (bs : List Nat) (k : Nat) (done : List (Nat × Nat × Nat)) (e : List Value) (m : μ) (n r0 w0 : Nat) (X : AX) (e' : List Value) (m' : μ) (n' r wm : Nat), opsD P rec l bs k done e m n r0 w0 = .ok X e' m' n' r wm →
      ∃ r1 w1, r = Nat.lor r0 r1 ∧ wm = Nat.lor w0 w1 ∧ Loc m n m' n' w1
  | [], bs, k, done, e, m, n, r0, w0, X, e', m', n', r, wm, h => by
    obtain ⟨_, _, rfl, rfl, rfl, rfl⟩ := doneA_ok h
    exact ⟨0, 0, (lor_zero' _).symm, (lor_zero' _).symm, Loc.refl _ _⟩
  | i :: l, bs, k, done, e, m, n, r0, w0, X, e', m', n', r, wm, h => by
    have ih := opsD_loc hrec l
    have step : ∀ {o : AOp} {e2 : Value → List Value}, (okD (bs.headD 0) k done (stepD P rec e m n o) fun v m n r' w' done => opsD P rec l bs.tail (Nat.succ k) done (e2 v) m n (Nat.lor r0 r') (Nat.lor w0 w')) = .ok X e' m' n' r wm → ∃ r1 w1, r = Nat.lor r0 r1 ∧ wm = Nat.lor w0 w1 ∧ Loc m n m' n' w1 := by
      intro o e2 h
      obtain ⟨v, m1, n1, r1, w1, h1, h2⟩ := okD_ok h
      have l1 := step_loc hrec (stepD_ok h1).2
      rcases h2 with ⟨_, h2⟩ | ⟨_, h2⟩
      all_goals
        obtain ⟨r2, w2, rfl, rfl, l2⟩ := ih _ _ _ _ _ _ _ _ _ _ _ _ _ _ h2
        exact ⟨Nat.lor r1 r2, Nat.lor w1 w2, lor_assoc' _ _ _, lor_assoc' _ _ _, l1.trans l2⟩
    cases i with
    | nop i => exact ih _ _ _ _ _ _ _ _ _ _ _ _ _ _ h
    | op o => exact step (e2 := fun v => v :: e) h
    | opg o gi gw =>
      replace h : cond (wantB gw (lget e gi)) (okD (bs.headD 0) k done (stepD P rec e m n o) fun v m n r' w' done => opsD P rec l bs.tail (Nat.succ k) done (v :: e) m n (Nat.lor r0 r') (Nat.lor w0 w')) (opsD P rec l bs.tail (Nat.succ k) done (undef :: e) m n r0 w0) = .ok X e' m' n' r wm := h
      cases hw : wantB gw (lget e gi)
      · rw [hw, cond_false] at h; exact ih _ _ _ _ _ _ _ _ _ _ _ _ _ _ h
      · rw [hw, cond_true] at h; exact step (e2 := fun v => v :: e) h
    | eff o => exact step (e2 := fun _ => e) h
    | effg o gi gw =>
      replace h : cond (wantB gw (lget e gi)) (okD (bs.headD 0) k done (stepD P rec e m n o) fun v m n r' w' done => opsD P rec l bs.tail (Nat.succ k) done e m n (Nat.lor r0 r') (Nat.lor w0 w')) (opsD P rec l bs.tail (Nat.succ k) done e m n r0 w0) = .ok X e' m' n' r wm := h
      cases hw : wantB gw (lget e gi)
      · rw [hw, cond_false] at h; exact ih _ _ _ _ _ _ _ _ _ _ _ _ _ _ h
      · rw [hw, cond_true] at h; exact step (e2 := fun _ => e) h

theorem leaveA_loc {m0 m m' : μ} {n0 n n' r r0 w0 wm : Nat} {v0 v : Value} (h0 : Loc m0 n0 m n w0) (h : leaveA m0 n0 v0 m n r0 w0 = .ok v m' n' r wm) : Loc m0 n0 m' n' wm := by
  unfold leaveA at h
  cases hb : (addrFree v0 && Nat.beq (Nat.mod w0 (bit n0)) 0)
  · rw [hb, cond_false] at h; injection h with e1 e2 e3 e4 e5; subst e2; subst e3; subst e5; exact h0
  · rw [hb, cond_true, forceN_eq] at h; injection h with e1 e2 e3 e4 e5; subst e2; subst e3; subst e5; exact Loc.refl _ _

theorem call_loc {E : Nat → Option AFn} {Y : Nat → List Value → μ → Nat → OR μ} (hY : ∀ f args m n v m' n' r wm, Y f args m n = .ok v m' n' r wm → Loc m n m' n' wm) {rec : AC → List Value → μ → Nat → CR μ} (hrec : ∀ c e m n X e' m' n' r wm, rec c e m n = .ok X e' m' n' r wm → Loc m n m' n' wm)
    {f : Nat} {args : List Value} {m m' : μ} {n n' r wm : Nat} {v : Value} (h : callA E Y rec f args m n = .ok v m' n' r wm) : Loc m n m' n' wm := by
  unfold callA at h
  cases hE : E f with
  | none => rw [hE] at h; exact hY _ _ _ _ _ _ _ _ _ h
  | some fn =>
    rw [hE] at h
    replace h : callF rec args m n fn = .ok v m' n' r wm := h
    unfold callF at h
    cases hl : Nat.beq (llen args) fn.na
    · rw [hl, cond_false] at h; cases h
    · rw [hl, cond_true] at h
      cases hr : rec fn.code args m n with
      | no => rw [hr] at h; cases h
      | ok X e1 m1 n1 r1 w1 =>
        rw [hr] at h
        replace h : leaveX fn m n e1 m1 n1 r1 w1 X = .ok v m' n' r wm := h
        have l1 := hrec _ _ _ _ _ _ _ _ _ _ hr
        unfold leaveX at h
        split at h
        · unfold leaveO at h; split at h
          · exact leaveA_loc l1 h
          · cases h
        · exact leaveA_loc l1 h
        · cases h

omit [AMem μ] in
theorem addRW_ok {x : CR μ} {r0 w0 : Nat} {X : AX} {e' : List Value} {m' : μ} {n' r wm : Nat} (h : addRW r0 w0 x = .ok X e' m' n' r wm) : ∃ r1 w1, x = .ok X e' m' n' r1 w1 ∧ r = Nat.lor r0 r1 ∧ wm = Nat.lor w0 w1 := by
  unfold addRW at h; split at h
  · injection h with e1 e2 e3 e4 e5 e6; subst e1; subst e2; subst e3; subst e4; subst e5; subst e6; exact ⟨_, _, rfl, rfl, rfl⟩
  · cases h

theorem exec_loc {E : Nat → Option AFn} {Y : Nat → List Value → μ → Nat → OR μ} (hY : ∀ f args m n v m' n' r wm, Y f args m n = .ok v m' n' r wm → Loc m n m' n' wm) : ∀ (k : Nat) (c : AC) (e : List Value) (m : μ) (n : Nat) (X : AX) (e' : List Value) (m' : μ) (n' r wm : Nat), exec P E Y k c e m n = .ok X e' m' n' r wm → Loc m n m' n' wm
  | 0, c, e, m, n, X, e', m', n', r, wm, h => by cases h
  | k + 1, c, e, m, n, X, e', m', n', r, wm, h => by
    have ih := exec_loc (E := E) (Y := Y) hY k
    replace h : execF P E Y (exec P E Y k) c e m n = .ok X e' m' n' r wm := h
    have norm : ∀ {f : List Value → μ → Nat → CR μ} {X1 : AX} {e1 : List Value} {m1 : μ} {n1 r1 w1 : Nat}, Loc m n m1 n1 w1 → (∀ e m n X e' m' n' r wm, f e m n = .ok X e' m' n' r wm → Loc m n m' n' wm) → onNorm f X1 e1 m1 n1 r1 w1 = .ok X e' m' n' r wm → Loc m n m' n' wm := by
      intro f X1 e1 m1 n1 r1 w1 l1 hf h
      unfold onNorm at h
      split at h
      · obtain ⟨r2, w2, h2, rfl, rfl⟩ := addRW_ok h
        exact l1.trans (hf _ _ _ _ _ _ _ _ _ h2)
      · injection h with e1 e2 e3 e4 e5 e6; subst e3; subst e4; subst e6; exact l1
    cases c with
    | skip => injection h with e1 e2 e3 e4 e5 e6; subst e3; subst e4; subst e6; exact Loc.refl _ _
    | reg l =>
      obtain ⟨r1, w1, _, rfl, l1⟩ := opsA_loc (P := P) (fun f args m n v m' n' r wm h => call_loc hY ih h) l _ _ _ _ _ _ _ _ _ _ _ h
      rw [zero_lor']; exact l1
    | regD l bs =>
      obtain ⟨r1, w1, _, rfl, l1⟩ := opsD_loc (P := P) (fun f args m n v m' n' r wm h => call_loc hY ih h) l _ _ _ _ _ _ _ _ _ _ _ _ _ _ h
      rw [zero_lor']; exact l1
    | seq a b =>
      obtain ⟨X1, e1, m1, n1, r1, w1, h1, h2⟩ := crRec_ok h
      exact norm (ih _ _ _ _ _ _ _ _ _ _ h1) (fun _ _ _ _ _ _ _ _ _ h => ih _ _ _ _ _ _ _ _ _ _ h) h2
    | cond x a b =>
      replace h : onCond (exec P E Y k a e m n) (exec P E Y k b e m n) (ev e x) = .ok X e' m' n' r wm := h
      unfold onCond at h
      split at h
      · rename_i t _
        cases t
        · exact ih _ _ _ _ _ _ _ _ _ _ h
        · exact ih _ _ _ _ _ _ _ _ _ _ h
      · cases h
    | block id sh b =>
      obtain ⟨X1, e1, m1, n1, r1, w1, h1, h2⟩ := crRec_ok h
      have l1 := ih _ _ _ _ _ _ _ _ _ _ h1
      unfold onBlock at h2
      split at h2
      · rename_i i
        cases hi : Nat.beq i id
        · rw [hi, cond_false] at h2; injection h2 with e1 e2 e3 e4 e5 e6; subst e3; subst e4; subst e6; exact l1
        · rw [hi, cond_true] at h2; injection h2 with e1 e2 e3 e4 e5 e6; subst e3; subst e4; subst e6; exact l1
      · injection h2 with e1 e2 e3 e4 e5 e6; subst e3; subst e4; subst e6; exact l1
    | loop sh b =>
      obtain ⟨X1, e1, m1, n1, r1, w1, h1, h2⟩ := crRec_ok h
      exact norm (ih _ _ _ _ _ _ _ _ _ _ h1) (fun _ _ _ _ _ _ _ _ _ h => ih _ _ _ _ _ _ _ _ _ _ h) h2
    | pre sel d c => exact ih _ _ _ _ _ _ _ _ _ _ h
    | post c sel d =>
      obtain ⟨X1, e1, m1, n1, r1, w1, h1, h2⟩ := crRec_ok h
      have l1 := ih _ _ _ _ _ _ _ _ _ _ h1
      unfold onPost at h2
      split at h2
      · injection h2 with e1 e2 e3 e4 e5 e6; subst e3; subst e4; subst e6; exact l1
      · injection h2 with e1 e2 e3 e4 e5 e6; subst e3; subst e4; subst e6; exact l1
    | exit id => injection h with e1 e2 e3 e4 e5 e6; subst e3; subst e4; subst e6; exact Loc.refl _ _
    | ret rs =>
      replace h : onRet e m n (resA e m n rs) = .ok X e' m' n' r wm := h
      unfold onRet at h
      split at h
      · injection h with e1 e2 e3 e4 e5 e6; subst e3; subst e4; subst e6; exact Loc.refl _ _
      · cases h
end
end Go.Am
