/- A region whose operations go in any order that its edges allow: one operation by itself. -/
import Derived.Test.YtaohgpgbphlblaaAmRun
set_option linter.unusedVariables false
set_option linter.unusedSimpArgs false
set_option linter.unusedSectionVars false
namespace Go.Am
open Go Go.RowKit
section
variable {μ : Type} [AMem μ] {P : Program}

structure St (μ : Type) where
  Γ : Ctx
  e : List Value
  m : μ
  n : Nat

/-- what a temporary holds -/
def TRel (ρ : Ren) (Γ : Ctx) (e : List Value) (t : Nat) (oy : Option Value) : Prop := ∀ i, named Γ i t = true → ∃ x y, e[i]? = some x ∧ oy = some y ∧ VRel ρ x y
theorem TRel.mono {ρ ρ' : Ren} (hl : ρ.le ρ') {Γ : Ctx} {e : List Value} {t : Nat} {oy : Option Value} (h : TRel ρ Γ e t oy) : TRel ρ' Γ e t oy := fun i hn =>
  let ⟨x, y, a, b, c⟩ := h i hn; ⟨x, y, a, b, c.mono hl⟩

structure SStep (P : Program) (ops : Array Oper) (nt : Nat) (o : Oper) (s s' : St μ) (r wm : Nat) : Prop where
  loc : Loc s.m s.n s'.m s'.n wm
  keep : ∀ ρ t oy, o.dst ≠ some t → TRel ρ s.Γ s.e t oy → TRel ρ s'.Γ s'.e t oy
  sim : ∀ (ρ : Ren) (V : Nat → Option Blk) (w : World) (B F : Nat) (a : Act), a.tmps.size = nt → (∀ t ∈ looks ops o, TRel ρ s.Γ s.e t a.tmps[t]?) → Sub (Nat.lor r wm) F → Agree V s.m s.n F → MRel ρ V w B → Free ρ s.n →
    ∀ (K : Act → World → Prop) (Q : Exit → Act → World → Prop), (∀ v' ρ' w', (∀ d, o.dst = some d → d < nt ∧ TRel ρ' s'.Γ s'.e d (some v')) → Post ρ V w B s.n s'.m s'.n wm ρ' w' → K (a.put o.dst v') w') →
      if Region.wanted o (yielded ops a.tmps) then o.wp P a w K Q else K (a.put o.dst undef) w

/-- the names of the temporaries that are looked at -/
def onlyC (l : List Nat) (Γ : Ctx) : Ctx := Γ.map fun ts => ts.filter fun t => l.any (Nat.beq t)
theorem named_only {l : List Nat} {Γ : Ctx} {i t : Nat} : named (onlyC l Γ) i t = true ↔ named Γ i t = true ∧ t ∈ l := by
  rw [named_iff, named_iff]
  constructor
  · rintro ⟨x, h1, h2⟩
    simp only [onlyC, List.getElem?_map, Option.map_eq_some_iff] at h1
    obtain ⟨y, h1, rfl⟩ := h1
    rw [List.mem_filter, any_beq] at h2
    exact ⟨⟨y, h1, h2.1⟩, h2.2⟩
  · rintro ⟨⟨y, h1, h2⟩, h3⟩
    refine ⟨y.filter fun t => l.any (Nat.beq t), by simp [onlyC, h1], ?_⟩
    rw [List.mem_filter, any_beq]
    exact ⟨h2, h3⟩
theorem env_only {ρ : Ren} {l : List Nat} {Γ : Ctx} {e : List Value} {tmps : Array Value} (h : ∀ t ∈ l, TRel ρ Γ e t tmps[t]?) : EnvRel ρ (onlyC l Γ) e tmps := by
  intro i t hn
  obtain ⟨h1, h2⟩ := named_only.1 hn
  exact h t h2 i h1

/-! ### the check asks for the operands alone -/
section
variable {Γ Γ' : Ctx}
theorem opdOk_only {x : Operand} {y : Opd} (hs : ∀ t, x = .tmp t → ∀ i, named Γ i t = true → named Γ' i t = true) (h : opdOk Γ x y = true) : opdOk Γ' x y = true := by
  unfold opdOk at h ⊢
  split at h
  · exact hs _ rfl _ h
  · exact h
  · exact h
  · cases h
theorem opdsOk_only : ∀ {xs : List Operand} {ys : List Opd}, (∀ t, .tmp t ∈ xs → ∀ i, named Γ i t = true → named Γ' i t = true) → opdsOk Γ xs ys = true → opdsOk Γ' xs ys = true
  | [], [], _, _ => rfl
  | [], _ :: _, _, h => by cases h
  | _ :: _, [], _, h => by cases h
  | x :: xs, y :: ys, hs, h => by
    simp only [opdsOk, Bool.and_eq_true] at h ⊢
    exact ⟨opdOk_only (fun t e => hs t (e ▸ List.mem_cons_self ..)) h.1, opdsOk_only (fun t e => hs t (List.mem_cons_of_mem _ e)) h.2⟩
theorem optOk_only {x : Option Operand} {y : Option Opd} (hs : ∀ t, x = some (.tmp t) → ∀ i, named Γ i t = true → named Γ' i t = true) (h : optOk Γ x y = true) : optOk Γ' x y = true := by
  unfold optOk at h ⊢
  split at h
  · rfl
  · exact opdOk_only (fun t e => hs t (by rw [e])) h
  · cases h
theorem partsOk_only {place : Nat → Option (Nat × Nat)} : ∀ {xs : List (Nat × Operand)} {ys : List (Nat × Nat × Opd)}, (∀ t, .tmp t ∈ xs.map (·.2) → ∀ i, named Γ i t = true → named Γ' i t = true) → partsOk Γ place xs ys = true → partsOk Γ' place xs ys = true
  | [], [], _, _ => rfl
  | [], _ :: _, _, h => by cases h
  | _ :: _, [], _, h => by cases h
  | x :: xs, y :: ys, hs, h => by
    simp only [partsOk, Bool.and_eq_true] at h ⊢
    exact ⟨⟨h.1.1, opdOk_only (fun t e => hs t (by rw [List.map_cons, e]; exact List.mem_cons_self ..)) h.1.2⟩, partsOk_only (fun t e => hs t (by rw [List.map_cons]; exact List.mem_cons_of_mem _ e)) h.2⟩
theorem parts2Ok_only : ∀ {xs : List (Nat × Operand)} {ys : List (Nat × Opd)}, (∀ t, .tmp t ∈ xs.map (·.2) → ∀ i, named Γ i t = true → named Γ' i t = true) → parts2Ok Γ xs ys = true → parts2Ok Γ' xs ys = true
  | [], [], _, _ => rfl
  | [], _ :: _, _, h => by cases h
  | _ :: _, [], _, h => by cases h
  | x :: xs, y :: ys, hs, h => by
    simp only [parts2Ok, Bool.and_eq_true] at h ⊢
    exact ⟨⟨h.1.1, opdOk_only (fun t e => hs t (by rw [List.map_cons, e]; exact List.mem_cons_self ..)) h.1.2⟩, parts2Ok_only (fun t e => hs t (by rw [List.map_cons]; exact List.mem_cons_of_mem _ e)) h.2⟩

theorem chkOp_only {op : Op} {x : AOp} (hs : ∀ t, .tmp t ∈ op.operands.toList → ∀ i, named Γ i t = true → named Γ' i t = true) (h : chkOp P Γ op x = true) : chkOp P Γ' op x = true := by
  have one : ∀ {y : Operand} {z : Opd}, y ∈ op.operands.toList → opdOk Γ y z = true → opdOk Γ' y z = true := fun hy hz => opdOk_only (fun t e => hs t (e ▸ hy)) hz
  have many : ∀ {ys : List Operand} {zs : List Opd}, (∀ y ∈ ys, y ∈ op.operands.toList) → opdsOk Γ ys zs = true → opdsOk Γ' ys zs = true := fun hy hz => opdsOk_only (fun t e => hs t (hy _ e)) hz
  have opt : ∀ {y : Option Operand} {z : Option Opd}, (∀ y', y = some y' → y' ∈ op.operands.toList) → optOk Γ y z = true → optOk Γ' y z = true := fun hy hz => optOk_only (fun t e => hs t (hy _ e)) hz
  unfold chkOp at h ⊢
  split at h <;> simp only [Op.operands, Call.operands, Bool.and_eq_true] at *
  all_goals revert h
  all_goals repeat' (first | exact id | exact one (by simp) | exact many (fun y hy => by simp at hy; simp [hy]) | exact opt (fun y hy => by simp [hy]) | exact parts2Ok_only hs | refine And.imp ?_ ?_)
  · intro h
    split at h
    · rename_i hu
      simp only [hu, Bool.and_eq_true] at h ⊢
      exact ⟨h.1, partsOk_only hs h.2⟩
    · rename_i hu
      split at h
      · rename_i hi
        exact partsOk_only hs h
      · cases h
    · cases h
  · intro h
    split at h
    · rename_i hx ht
      simp only [hx, ht, Bool.and_eq_true] at h ⊢
      exact ⟨one (by simp [hx]) h.1, h.2⟩
    · cases h
  · intro h
    split at h
    · rename_i hx
      simp only [hx, Bool.and_eq_true] at h ⊢
      exact ⟨one (by simp [hx]) h.1, one (by simp [hx]) h.2⟩
    · cases h
  · intro h
    split at h
    · rename_i hx ht
      simp only [hx, ht, Bool.and_eq_true] at h ⊢
      exact ⟨⟨one (by simp [hx]) h.1.1, one (by simp [hx]) h.1.2⟩, h.2⟩
    · cases h
end

/-! ### the operations of a region, each by itself -/
theorem mem_looks {ops : Array Oper} {o : Oper} {t : Nat} (h : Operand.tmp t ∈ o.op.operands.toList) : t ∈ looks ops o :=
  List.mem_append_left _ (List.mem_filterMap.2 ⟨_, h, rfl⟩)
theorem guard_looks {ops : Array Oper} {o : Oper} {j g : Nat} {w : Bool} (h : o.guard = some (j, w)) (hj : (ops[j]?).bind (·.dst) = some g) : g ∈ looks ops o := by
  refine List.mem_append_right _ ?_
  rw [h]; simp [hj]
theorem TRel.push {ρ : Ren} {Γ : Ctx} {e : List Value} {d t : Nat} {v : Value} {oy : Option Value} (hne : t ≠ d) (h : TRel ρ Γ e t oy) : TRel ρ ([d] :: remN d Γ) (v :: e) t oy := by
  intro i hn
  cases i with
  | zero =>
    obtain ⟨l, h1, h2⟩ := named_iff.1 hn
    have h1 : some [d] = some l := h1
    injection h1 with h1; subst h1
    exact absurd (by simpa using h2) hne
  | succ i =>
    obtain ⟨h1, h2⟩ := named_rem (i := i) hn
    obtain ⟨x, y, a, b, c⟩ := h i h1
    exact ⟨x, y, by simpa using a, b, c⟩
theorem TRel.top {ρ : Ren} {Γ : Ctx} {e : List Value} {d : Nat} {v v' : Value} (hv : VRel ρ v v') : TRel ρ ([d] :: remN d Γ) (v :: e) d (some v') := by
  intro i hn
  cases i with
  | zero => exact ⟨v, v', rfl, rfl, hv⟩
  | succ i => exact absurd rfl (named_rem (i := i) hn).2
theorem TRel.aliasKeep {ρ : Ren} {Γ : Ctx} {e : List Value} {d t i : Nat} {oy : Option Value} (hne : t ≠ d) (h : TRel ρ Γ e t oy) : TRel ρ (addN d (remN d Γ) i) e t oy := by
  intro j hn
  rcases named_add hn with hn | ⟨_, h2⟩
  · exact h j (named_rem hn).1
  · exact absurd h2 hne
theorem TRel.aliasTop {ρ : Ren} {Γ : Ctx} {e : List Value} {d i : Nat} {x v' : Value} (hx : e[i]? = some x) (hv : VRel ρ x v') : TRel ρ (addN d (remN d Γ) i) e d (some v') := by
  intro j hn
  rcases named_add hn with hn | ⟨rfl, _⟩
  · exact absurd rfl (named_rem hn).2
  · exact ⟨x, v', hx, rfl, hv⟩

theorem sstep_loud {rec : Nat → List Value → μ → Nat → OR μ} {nt : Nat} {ops : Array Oper} (hcall : CallSim P rec) (hloc : CallLoc rec) {o : Oper} {x : AOp} {Γ Γ1 : Ctx} {e e1 : List Value} {m m1 : μ} {n n1 r1 w1 : Nat} {v : Value}
    (hx : chkOp P Γ o.op x = true) (h : stepA P rec e m n x = .ok v m1 n1 r1 w1) (hw : ∀ (ρ : Ren) (tmps : Array Value), (∀ t ∈ looks ops o, TRel ρ Γ e t tmps[t]?) → Region.wanted o (yielded ops tmps) = true)
    (hkeep : ∀ ρ t oy, o.dst ≠ some t → TRel ρ Γ e t oy → TRel ρ Γ1 e1 t oy) (hput : ∀ ρ v' d, VRel ρ v v' → o.dst = some d → d < nt ∧ TRel ρ Γ1 e1 d (some v')) :
    SStep P ops nt o ⟨Γ, e, m, n⟩ ⟨Γ1, e1, m1, n1⟩ r1 w1 := by
  refine ⟨step_loc (P := P) hloc h, hkeep, fun ρ V w B F a hs ht hF hag hm hfree K Q hK => ?_⟩
  rw [if_pos (hw ρ a.tmps ht)]
  refine oper_sound (Γ := onlyC (looks ops o) Γ) hcall (chkOp_only (fun t hm i hn => named_only.2 ⟨hn, mem_looks hm⟩) hx) (env_only ht) h hF hm hag hfree fun v' ρ' w' hv hp => ?_
  exact hK v' ρ' w' (fun d hd => hput ρ' v' d hv hd) hp

theorem sstep_quiet {nt : Nat} {ops : Array Oper} {o : Oper} {Γ Γ1 : Ctx} {e e1 : List Value} (m : μ) (n : Nat)
    (hkeep : ∀ ρ t oy, o.dst ≠ some t → TRel ρ Γ e t oy → TRel ρ Γ1 e1 t oy)
    (hsim : ∀ (ρ : Ren) (w : World) (a : Act), a.tmps.size = nt → (∀ t ∈ looks ops o, TRel ρ Γ e t a.tmps[t]?) → ∀ (K : Act → World → Prop) (Q : Exit → Act → World → Prop), (∀ v', (∀ d, o.dst = some d → d < nt ∧ TRel ρ Γ1 e1 d (some v')) → K (a.put o.dst v') w) →
      if Region.wanted o (yielded ops a.tmps) then o.wp P a w K Q else K (a.put o.dst undef) w) :
    SStep P ops nt o ⟨Γ, e, m, n⟩ ⟨Γ1, e1, m, n⟩ 0 0 :=
  ⟨Loc.refl _ _, hkeep, fun ρ V w B F a hs ht _ _ hm _ K Q hK => hsim ρ w a hs ht K Q fun v' hv => hK v' ρ w hv (Post.same hm n m)⟩
end
end Go.Am
