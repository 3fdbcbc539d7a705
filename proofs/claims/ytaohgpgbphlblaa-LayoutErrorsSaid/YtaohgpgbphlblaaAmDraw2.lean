/- A region whose operations go in any order that its edges allow: what the abstract run says of each. -/
import Derived.Test.YtaohgpgbphlblaaAmDraw
set_option linter.unusedVariables false
set_option linter.unusedSimpArgs false
set_option linter.unusedSectionVars false
namespace Go.Am
open Go Go.RowKit
section
variable {μ : Type} [AMem μ] {P : Program}

def Apart (bef r w : Nat) (x : Nat × Nat × Nat) : Prop := bef.testBit x.1 = true ∨ ∀ b, (w.testBit b = true → x.2.1.testBit b = false ∧ x.2.2.testBit b = false) ∧ (x.2.2.testBit b = true → r.testBit b = false)
theorem land_zero {a b : Nat} (h : Nat.beq (Nat.land a b) 0 = true) (k : Nat) (hk : a.testBit k = true) : b.testBit k = false := by
  have h := Nat.eq_of_beq_eq_true h
  have h2 : (a &&& b).testBit k = false := by
    have : a &&& b = 0 := h
    rw [this]; exact Nat.zero_testBit k
  rw [Nat.testBit_and, hk] at h2
  simpa using h2
theorem apart_spec {bef r w : Nat} : ∀ {done : List (Nat × Nat × Nat)}, apart bef r w done = true → ∀ x ∈ done, Apart bef r w x
  | [], _, x, hx => by cases hx
  | (i, r', w') :: l, h, x, hx => by
    simp only [apart, Bool.and_eq_true, Bool.or_eq_true] at h
    rcases List.mem_cons.1 hx with rfl | hx
    · rcases h.1 with h1 | ⟨h1, h2⟩
      · exact .inl h1
      · refine .inr fun b => ⟨fun hb => ?_, fun hb => land_zero h2 b hb⟩
        have := land_zero h1 b hb
        rw [lor_test, Bool.or_eq_false_iff] at this
        exact this
    · exact apart_spec h.2 x hx
theorem Apart.none {bef : Nat} (x : Nat × Nat × Nat) : Apart bef 0 0 x := .inr fun b => ⟨fun h => by simp at h, fun _ => by simp⟩
theorem Apart.none' {bef r w i : Nat} : Apart bef r w (i, 0, 0) := .inr fun b => ⟨fun _ => by simp, fun h => by simp at h⟩

def Traced (P : Program) (ops : Array Oper) (nt k len : Nat) (s s' : St μ) (done : List (Nat × Nat × Nat)) (bs : List Nat) (r0 w0 r wm : Nat) : Prop :=
  Sub r0 r ∧ Sub w0 wm ∧ ∃ (G : Nat → St μ) (R W : Nat → Nat), G k = s ∧ G (k + len) = s' ∧ (∀ b, wm.testBit b = true → w0.testBit b = true ∨ ∃ j, k ≤ j ∧ j < k + len ∧ (W j).testBit b = true) ∧
    ∀ j o, k ≤ j → j < k + len → ops[j]? = some o → SStep P ops nt o (G j) (G (j + 1)) (R j) (W j) ∧ Sub (R j) r ∧ Sub (W j) wm ∧ (∀ x ∈ done, Apart (bs.getD (j - k) 0) (R j) (W j) x) ∧ ∀ i, k ≤ i → i < j → Apart (bs.getD (j - k) 0) (R j) (W j) (i, R i, W i)

theorem Traced.nil {ops : Array Oper} {nt k : Nat} (s : St μ) (done : List (Nat × Nat × Nat)) (bs : List Nat) (r w : Nat) : Traced P ops nt k 0 s s done bs r w r w :=
  ⟨Sub.refl _, Sub.refl _, fun _ => s, fun _ => 0, fun _ => 0, rfl, rfl, fun b h => .inl h, fun j o h1 h2 => by omega⟩

def ins {α : Type} (k : Nat) (a : α) (f : Nat → α) : Nat → α := fun j => if j = k then a else f j
theorem ins_eq {α : Type} (k : Nat) (a : α) (f : Nat → α) : ins k a f k = a := if_pos rfl
theorem ins_ne {α : Type} {k j : Nat} (a : α) (f : Nat → α) (h : j ≠ k) : ins k a f j = f j := if_neg h

theorem Traced.cons {ops : Array Oper} {nt k len : Nat} {s0 s s' : St μ} {done done' : List (Nat × Nat × Nat)} {bs : List Nat} {r0 w0 r1 w1 r wm : Nat} {o : Oper} (ho : ops[k]? = some o) (hs : SStep P ops nt o s0 s r1 w1)
    (hap : ∀ x ∈ done, Apart (bs.headD 0) r1 w1 x) (hd : ∀ x ∈ done, x ∈ done') (hk : (r1 = 0 ∧ w1 = 0) ∨ (k, r1, w1) ∈ done')
    (h : Traced P ops nt (k + 1) len s s' done' bs.tail (Nat.lor r0 r1) (Nat.lor w0 w1) r wm) : Traced P ops nt k (len + 1) s0 s' done bs r0 w0 r wm := by
  obtain ⟨h1, h2, G, R, W, h3, h4, h5, h6⟩ := h
  have hget : ∀ j, k + 1 ≤ j → bs.tail.getD (j - (k + 1)) 0 = bs.getD (j - k) 0 := by
    intro j hj
    have : j - k = (j - (k + 1)) + 1 := by omega
    rw [this]
    cases bs <;> simp
  refine ⟨Sub.trans (Sub.left _ _) h1, Sub.trans (Sub.left _ _) h2, ins k s0 G, ins k r1 R, ins k w1 W, ins_eq .., ?_, fun b hb => ?_, fun j o' hj hlt ho' => ?_⟩
  · rw [ins_ne _ _ (by omega), ← h4]; congr 1; omega
  · rcases h5 b hb with h7 | ⟨j, h7, h8, h9⟩
    · rw [lor_test, Bool.or_eq_true] at h7
      rcases h7 with h7 | h7
      · exact .inl h7
      · exact .inr ⟨k, Nat.le_refl _, by omega, by rw [ins_eq]; exact h7⟩
    · exact .inr ⟨j, by omega, by omega, by rw [ins_ne _ _ (by omega)]; exact h9⟩
  · by_cases e : j = k
    · subst e
      rw [ho] at ho'; injection ho' with ho'; subst ho'
      rw [ins_eq, ins_eq, ins_eq, ins_ne _ _ (by omega), h3]
      refine ⟨hs, Sub.trans (Sub.right _ _) h1, Sub.trans (Sub.right _ _) h2, ?_, fun i hi hi2 => by omega⟩
      rw [Nat.sub_self]
      intro x hx
      have := hap x hx
      cases bs <;> exact this
    · obtain ⟨a1, a2, a3, a4, a5⟩ := h6 j o' (by omega) (by omega) ho'
      rw [hget j (by omega)] at a4 a5
      rw [ins_ne _ _ e, ins_ne _ _ e, ins_ne _ _ e, ins_ne _ _ (by omega)]
      refine ⟨a1, a2, a3, fun x hx => a4 x (hd x hx), fun i hi hi2 => ?_⟩
      by_cases e2 : i = k
      · subst e2
        rw [ins_eq, ins_eq]
        rcases hk with ⟨rfl, rfl⟩ | hk
        · exact Apart.none'
        · exact a4 _ hk
      · rw [ins_ne _ _ e2, ins_ne _ _ e2]
        exact a5 i (by omega) hi2

theorem traces {rec : Nat → List Value → μ → Nat → OR μ} {nt : Nat} {ops : Array Oper} (hcall : CallSim P rec) (hloc : CallLoc rec) {Γe : Ctx} :
    ∀ (l : List AI) (os : List Oper) (k : Nat) (done : List (Nat × Nat × Nat)) (bs : List Nat) (Γ : Ctx) (e : List Value) (m : μ) (n r0 w0 : Nat) (X : AX) (e' : List Value) (m' : μ) (n' r wm : Nat), ops.toList.drop k = os → chkOps P nt ops os Γ l = some Γe →
      opsD P rec l bs k done e m n r0 w0 = .ok X e' m' n' r wm → X = .norm ∧ Traced P ops nt k os.length ⟨Γ, e, m, n⟩ ⟨Γe, e', m', n'⟩ done bs r0 w0 r wm
  | [], os, k, done, bs, Γ, e, m, n, r0, w0, X, e', m', n', r, wm, hos, hchk, h => by
    obtain ⟨rfl, rfl, rfl, rfl, rfl, rfl⟩ := doneA_ok h
    cases os with
    | cons o os => cases hchk
    | nil =>
      injection hchk with hchk; subst hchk
      exact ⟨rfl, Traced.nil _ _ _ _ _⟩
  | i :: l, os, k, done, bs, Γ, e, m, n, r0, w0, X, e', m', n', r, wm, hos, hchk, h => by
    cases os with
    | nil => cases hchk
    | cons o os =>
      simp only [chkOps] at hchk
      cases hai : chkAI P nt ops Γ o i with
      | none => rw [hai] at hchk; cases hchk
      | some Γ1 =>
        rw [hai] at hchk
        simp only at hchk
        have hok : ops[k]? = some o := by
          have := congrArg (fun l : List Oper => l[0]?) hos
          simpa using this
        have hos' : ops.toList.drop (k + 1) = os := by
          have := congrArg List.tail hos
          simpa using this
        have ih := traces (nt := nt) (ops := ops) (Γe := Γe) hcall hloc l os (k + 1)
        have quiet : ∀ {e2 : List Value}, opsD P rec l bs.tail (Nat.succ k) done e2 m n r0 w0 = .ok X e' m' n' r wm → SStep P ops nt o (⟨Γ, e, m, n⟩ : St μ) ⟨Γ1, e2, m, n⟩ 0 0 →
            X = .norm ∧ Traced P ops nt k (o :: os).length ⟨Γ, e, m, n⟩ ⟨Γe, e', m', n'⟩ done bs r0 w0 r wm := by
          intro e2 h hs
          obtain ⟨hX, ht⟩ := ih _ _ _ _ _ _ _ _ _ _ _ _ _ _ hos' hchk h
          exact ⟨hX, Traced.cons hok hs (fun x _ => Apart.none x) (fun x hx => hx) (.inl ⟨rfl, rfl⟩) (by rw [lor_zero', lor_zero']; exact ht)⟩
        have loud : ∀ {x : AOp} {e2 : Value → List Value}, (okD (bs.headD 0) k done (stepD P rec e m n x) fun v m n r' w' done => opsD P rec l bs.tail (Nat.succ k) done (e2 v) m n (Nat.lor r0 r') (Nat.lor w0 w')) = .ok X e' m' n' r wm →
            (∀ v m1 n1 r1 w1, stepA P rec e m n x = .ok v m1 n1 r1 w1 → SStep P ops nt o (⟨Γ, e, m, n⟩ : St μ) ⟨Γ1, e2 v, m1, n1⟩ r1 w1) →
            X = .norm ∧ Traced P ops nt k (o :: os).length ⟨Γ, e, m, n⟩ ⟨Γe, e', m', n'⟩ done bs r0 w0 r wm := by
          intro x e2 h hs
          obtain ⟨v, m1, n1, r1, w1, h1, h2⟩ := okD_ok h
          have hst := hs _ _ _ _ _ (stepD_ok h1).2
          rcases h2 with ⟨h0, h2⟩ | ⟨ha, h2⟩
          · obtain ⟨hX, ht⟩ := ih _ _ _ _ _ _ _ _ _ _ _ _ _ _ hos' hchk h2
            have hz : r1 = 0 ∧ w1 = 0 := by
              constructor <;> refine Nat.eq_of_testBit_eq fun b => ?_
              · cases hb : r1.testBit b
                · simp
                · have := Sub.left r1 w1 b hb; rw [h0] at this; simp at this
              · cases hb : w1.testBit b
                · simp
                · have := Sub.right r1 w1 b hb; rw [h0] at this; simp at this
            refine ⟨hX, Traced.cons hok hst (fun x _ => ?_) (fun x hx => hx) (.inl hz) ht⟩
            obtain ⟨rfl, rfl⟩ := hz
            exact Apart.none x
          · obtain ⟨hX, ht⟩ := ih _ _ _ _ _ _ _ _ _ _ _ _ _ _ hos' hchk h2
            exact ⟨hX, Traced.cons hok hst (apart_spec ha) (fun x hx => List.mem_cons_of_mem _ hx) (.inr (List.mem_cons_self ..)) ht⟩
        have noguard : o.guard = none → ∀ tmps, Region.wanted o (yielded ops tmps) = true := by
          intro hg tmps; unfold Region.wanted; rw [hg]
        rcases chkAI_none hai with ⟨j, d, t, rfl, hg, hd, hop, hn, hlt, rfl⟩ | ⟨x, d, rfl, hg, hd, hx, hlt, rfl⟩ | ⟨x, gi, gw, j, ww, d, g, rfl, hg, hd, hj, hx, hlt, hw, hn, rfl⟩ | ⟨x, rfl, hg, hd, hx, rfl⟩ | ⟨x, gi, gw, j, ww, g, rfl, hg, hd, hj, hx, hw, hn, rfl⟩
        · refine quiet (e2 := e) h (sstep_quiet m n (fun ρ s oy hne hs => hs.aliasKeep (fun e => hne (e ▸ hd))) fun ρ w a hs ht K Q hK => ?_)
          rw [if_pos (noguard hg _)]
          have hr : (execOp a.eval o).run P w = .ok (.value (a.eval (.tmp t))) w := by
            unfold execOp
            rcases hop with hop | hop <;> rw [hop] <;> rfl
          unfold Oper.wp
          rw [hr, Oper.upon_value]
          have hl : t ∈ looks ops o := mem_looks (by rcases hop with hop | hop <;> rw [hop] <;> exact List.mem_cons_self ..)
          obtain ⟨y, y', e1, e2, hv⟩ := ht t hl _ hn
          have he : a.eval (.tmp t) = y' := by show a.tmps.getD t undef = y'; rw [Array.getD_eq_getD_getElem?, e2]; rfl
          rw [he]
          refine hK y' fun d' hd' => ?_
          rw [hd] at hd'; injection hd' with hd'; subst hd'
          exact ⟨hlt, TRel.aliasTop e1 hv⟩
        · refine loud (e2 := fun v => v :: e) h fun v m1 n1 r1 w1 h1 => ?_
          refine sstep_loud hcall hloc hx h1 (fun ρ tmps _ => noguard hg tmps) (fun ρ s oy hne hs => hs.push (fun e => hne (e ▸ hd))) fun ρ v' d' hv hd' => ?_
          rw [hd] at hd'; injection hd' with hd'; subst hd'
          exact ⟨hlt, TRel.top hv⟩
        · replace h : cond (wantB gw (lget e gi)) (okD (bs.headD 0) k done (stepD P rec e m n x) fun v m n r' w' done => opsD P rec l bs.tail (Nat.succ k) done (v :: e) m n (Nat.lor r0 r') (Nat.lor w0 w')) (opsD P rec l bs.tail (Nat.succ k) done (undef :: e) m n r0 w0) = .ok X e' m' n' r wm := h
          have hwant : ∀ (ρ : Ren) (tmps : Array Value), (∀ t ∈ looks ops o, TRel ρ Γ e t tmps[t]?) → Region.wanted o (yielded ops tmps) = wantB gw (lget e gi) := fun ρ tmps ht =>
            wanted_iff (env_only ht) hg hj (named_only.2 ⟨hn, guard_looks hg hj⟩) hw
          cases hwt : wantB gw (lget e gi)
          · rw [hwt, cond_false] at h
            refine quiet (e2 := undef :: e) h (sstep_quiet m n (fun ρ s oy hne hs => hs.push (fun e => hne (e ▸ hd))) fun ρ w a hs ht K Q hK => ?_)
            rw [if_neg (by rw [hwant ρ a.tmps ht, hwt]; simp)]
            refine hK undef fun d' hd' => ?_
            rw [hd] at hd'; injection hd' with hd'; subst hd'
            exact ⟨hlt, TRel.top (.undef ρ)⟩
          · rw [hwt, cond_true] at h
            refine loud (e2 := fun v => v :: e) h fun v m1 n1 r1 w1 h1 => ?_
            refine sstep_loud hcall hloc hx h1 (fun ρ tmps ht => by rw [hwant ρ tmps ht, hwt]) (fun ρ s oy hne hs => hs.push (fun e => hne (e ▸ hd))) fun ρ v' d' hv hd' => ?_
            rw [hd] at hd'; injection hd' with hd'; subst hd'
            exact ⟨hlt, TRel.top hv⟩
        · refine loud (e2 := fun _ => e) h fun v m1 n1 r1 w1 h1 => ?_
          exact sstep_loud hcall hloc hx h1 (fun ρ tmps _ => noguard hg tmps) (fun ρ s oy hne hs => hs) fun ρ v' d' hv hd' => by rw [hd] at hd'; cases hd'
        · replace h : cond (wantB gw (lget e gi)) (okD (bs.headD 0) k done (stepD P rec e m n x) fun v m n r' w' done => opsD P rec l bs.tail (Nat.succ k) done e m n (Nat.lor r0 r') (Nat.lor w0 w')) (opsD P rec l bs.tail (Nat.succ k) done e m n r0 w0) = .ok X e' m' n' r wm := h
          have hwant : ∀ (ρ : Ren) (tmps : Array Value), (∀ t ∈ looks ops o, TRel ρ Γ1 e t tmps[t]?) → Region.wanted o (yielded ops tmps) = wantB gw (lget e gi) := fun ρ tmps ht =>
            wanted_iff (env_only ht) hg hj (named_only.2 ⟨hn, guard_looks hg hj⟩) hw
          cases hwt : wantB gw (lget e gi)
          · rw [hwt, cond_false] at h
            refine quiet (e2 := e) h (sstep_quiet m n (fun ρ s oy hne hs => hs) fun ρ w a hs ht K Q hK => ?_)
            rw [if_neg (by rw [hwant ρ a.tmps ht, hwt]; simp)]
            exact hK undef fun d' hd' => by rw [hd] at hd'; cases hd'
          · rw [hwt, cond_true] at h
            refine loud (e2 := fun _ => e) h fun v m1 n1 r1 w1 h1 => ?_
            exact sstep_loud hcall hloc hx h1 (fun ρ tmps ht => by rw [hwant ρ tmps ht, hwt]) (fun ρ s oy hne hs => hs) fun ρ v' d' hv hd' => by rw [hd] at hd'; cases hd'
end
end Go.Am
