/- The abstract machine without fuel: equations that unfold codes and calls; whatever it gives some fuel gives. -/
import Derived.Test.YtaohgpgbphlblaaAmRuns
set_option linter.unusedVariables false
set_option linter.unusedSimpArgs false
set_option linter.unusedSectionVars false
namespace Go.Am
open Go
section
variable {μ : Type} [AMem μ] {P : Program} {E : Nat → Option AFn} {Y : Nat → List Value → μ → Nat → OR μ}
open Classical in
/-- what some fuel gives -/
noncomputable def execW (P : Program) (E : Nat → Option AFn) (Y : Nat → List Value → μ → Nat → OR μ) (c : AC) (e : List Value) (m : μ) (n : Nat) : CR μ :=
  if h : ∃ k X e' m' n' r w, exec P E Y k c e m n = .ok X e' m' n' r w then exec P E Y h.choose c e m n else .no
theorem execW_of {c : AC} {e : List Value} {m : μ} {n k : Nat} {X : AX} {e' : List Value} {m' : μ} {n' r w : Nat} (h : exec P E Y k c e m n = .ok X e' m' n' r w) : execW P E Y c e m n = .ok X e' m' n' r w := by
  have hx : ∃ k X e' m' n' r w, exec P E Y k c e m n = .ok X e' m' n' r w := ⟨k, X, e', m', n', r, w, h⟩
  unfold execW
  rw [dif_pos hx]
  obtain ⟨X2, e2, m2, n2, r2, w2, h2⟩ := hx.choose_spec
  have a := exec_mono (Nat.le_max_left k hx.choose) c e m n _ _ _ _ _ _ h
  have b := exec_mono (Nat.le_max_right k hx.choose) c e m n _ _ _ _ _ _ h2
  rw [a] at b
  rw [h2, b]
theorem execW_some {c : AC} {e : List Value} {m : μ} {n : Nat} {X : AX} {e' : List Value} {m' : μ} {n' r w : Nat} (h : execW P E Y c e m n = .ok X e' m' n' r w) : ∃ k, exec P E Y k c e m n = .ok X e' m' n' r w := by
  unfold execW at h
  split at h
  · exact ⟨_, h⟩
  · cases h
theorem exec_leW (k : Nat) : RcLe (exec P E Y k) (execW P E Y) := fun c e m n X e' m' n' r w h => execW_of h

/-! ### what the limit gives some fuel gives -/
/-- x, with rec at the limit, is reached at some fuel -/
def ORch (x : OR μ) (y : Nat → OR μ) : Prop := ∀ v m n r w, x = .ok v m n r w → ∃ k, ∀ k', k ≤ k' → y k' = .ok v m n r w
def CRch (x : CR μ) (y : Nat → CR μ) : Prop := ∀ X e m n r w, x = .ok X e m n r w → ∃ k, ∀ k', k ≤ k' → y k' = .ok X e m n r w
theorem ORch.const (x : OR μ) : ORch x (fun _ => x) := fun _ _ _ _ _ h => ⟨0, fun _ _ => h⟩
theorem CRch.const (x : CR μ) : CRch x (fun _ => x) := fun _ _ _ _ _ _ h => ⟨0, fun _ _ => h⟩
theorem execW_rch (c : AC) (e : List Value) (m : μ) (n : Nat) : CRch (execW P E Y c e m n) (fun k => exec P E Y k c e m n) := by
  intro X e' m' n' r w h
  obtain ⟨k, hk⟩ := execW_some h
  exact ⟨k, fun k' hk' => exec_mono hk' c e m n _ _ _ _ _ _ hk⟩
theorem orRec_rch {x : OR μ} {y : Nat → OR μ} {f : Value → μ → Nat → Nat → Nat → CR μ} {g : Nat → Value → μ → Nat → Nat → Nat → CR μ} (h : ORch x y) (hf : ∀ v m n r w, CRch (f v m n r w) (fun k => g k v m n r w)) : CRch (orRec x f) (fun k => orRec (y k) (g k)) := by
  intro X e m n r w he
  cases hx : x with
  | no => rw [hx] at he; cases he
  | ok v m1 n1 r1 w1 =>
    rw [hx] at he
    obtain ⟨k1, h1⟩ := h _ _ _ _ _ hx
    obtain ⟨k2, h2⟩ := hf v m1 n1 r1 w1 X e m n r w he
    refine ⟨max k1 k2, fun k' hk' => ?_⟩
    show orRec (y k') (g k') = _
    rw [h1 k' (by omega)]
    exact h2 k' (by omega)
theorem crRec_rch {x : CR μ} {y : Nat → CR μ} {f : AX → List Value → μ → Nat → Nat → Nat → CR μ} {g : Nat → AX → List Value → μ → Nat → Nat → Nat → CR μ} (h : CRch x y) (hf : ∀ v e m n r w, CRch (f v e m n r w) (fun k => g k v e m n r w)) : CRch (crRec x f) (fun k => crRec (y k) (g k)) := by
  intro X e m n r w he
  cases hx : x with
  | no => rw [hx] at he; cases he
  | ok v e1 m1 n1 r1 w1 =>
    rw [hx] at he
    obtain ⟨k1, h1⟩ := h _ _ _ _ _ _ hx
    obtain ⟨k2, h2⟩ := hf v e1 m1 n1 r1 w1 X e m n r w he
    refine ⟨max k1 k2, fun k' hk' => ?_⟩
    show crRec (y k') (g k') = _
    rw [h1 k' (by omega)]
    exact h2 k' (by omega)
theorem cond_rch (b : Bool) {x x' : CR μ} {y y' : Nat → CR μ} (h : CRch x y) (k : CRch x' y') : CRch (cond b x x') (fun k => cond b (y k) (y' k)) := by cases b <;> assumption
theorem call_rch (f : Nat) (args : List Value) (m : μ) (n : Nat) : ORch (callA E Y (execW P E Y) f args m n) (fun k => callA E Y (exec P E Y k) f args m n) := by
  intro v m' n' r w h
  show ∃ k, ∀ k', k ≤ k' → Option.rec (motive := fun _ => OR μ) (Y f args m n) (callF (exec P E Y k') args m n) (E f) = _
  replace h : Option.rec (motive := fun _ => OR μ) (Y f args m n) (callF (execW P E Y) args m n) (E f) = _ := h
  cases hE : E f with
  | none => rw [hE] at h; exact ⟨0, fun _ _ => h⟩
  | some fn =>
    rw [hE] at h
    replace h : cond (Nat.beq (llen args) fn.na) (CR.rec (motive := fun _ => OR μ) .no (fun x e m' n' r w => leaveX fn m n e m' n' r w x) (execW P E Y fn.code args m n)) .no = _ := h
    show ∃ k, ∀ k', k ≤ k' → cond (Nat.beq (llen args) fn.na) (CR.rec (motive := fun _ => OR μ) .no (fun x e m' n' r w => leaveX fn m n e m' n' r w x) (exec P E Y k' fn.code args m n)) .no = _
    cases hb : Nat.beq (llen args) fn.na
    · rw [hb] at h; cases h
    · rw [hb, cond_true] at h
      cases hx : execW P E Y fn.code args m n with
      | no => rw [hx] at h; cases h
      | ok X e2 m2 n2 r2 w2 =>
        rw [hx] at h
        obtain ⟨k, hk⟩ := execW_rch fn.code args m n _ _ _ _ _ _ hx
        exact ⟨k, fun k' hk' => by
          have hk2 : exec P E Y k' fn.code args m n = _ := hk k' hk'
          rw [hk2, cond_true]; exact h⟩
theorem step_rch (e : List Value) (m : μ) (n : Nat) (o : AOp) : ORch (stepA P (callA E Y (execW P E Y)) e m n o) (fun k => stepA P (callA E Y (exec P E Y k)) e m n o) := by
  cases o
  case call f args => exact call_rch f _ m n
  case callv x args =>
    show ORch (callV (callA E Y (execW P E Y)) (evs e args) m n (ev e x)) (fun k => callV (callA E Y (exec P E Y k)) (evs e args) m n (ev e x))
    generalize ev e x = v
    unfold callV
    split
    · exact call_rch _ _ m n
    · exact ORch.const _
  all_goals exact ORch.const _
theorem ops_rch : ∀ (l : List AI) (e : List Value) (m : μ) (n r w : Nat), CRch (opsA P (callA E Y (execW P E Y)) l e m n r w) (fun k => opsA P (callA E Y (exec P E Y k)) l e m n r w)
  | [], e, m, n, r, w => CRch.const _
  | i :: l, e, m, n, r, w => by
    have ih := ops_rch l
    cases i with
    | nop i => exact ih e m n r w
    | op o => exact orRec_rch (step_rch e m n o) fun v m n r' w' => ih _ m n _ _
    | eff o => exact orRec_rch (step_rch e m n o) fun v m n r' w' => ih _ m n _ _
    | opg o gi gw => exact cond_rch _ (orRec_rch (step_rch e m n o) fun v m n r' w' => ih _ m n _ _) (ih _ m n r w)
    | effg o gi gw => exact cond_rch _ (orRec_rch (step_rch e m n o) fun v m n r' w' => ih _ m n _ _) (ih _ m n r w)
theorem okD_rch {bef q : Nat} {done : List (Nat × Nat × Nat)} {x : OR μ} {y : Nat → OR μ} {f : Value → μ → Nat → Nat → Nat → List (Nat × Nat × Nat) → CR μ} {g : Nat → Value → μ → Nat → Nat → Nat → List (Nat × Nat × Nat) → CR μ} (h : ORch x y) (hf : ∀ v m n r w d, CRch (f v m n r w d) (fun k => g k v m n r w d)) :
    CRch (okD bef q done x f) (fun k => okD bef q done (y k) (g k)) := by
  refine orRec_rch (g := fun k v m n r w => forceN r fun r => forceN w fun w => cond (Nat.beq (Nat.lor r w) 0) (g k v m n r w done) (cond (apart bef r w done) (g k v m n r w ((q, r, w) :: done)) .no)) h fun v m n r w => ?_
  rw [forceN_eq, forceN_eq]
  simp only [forceN_eq]
  exact cond_rch _ (hf v m n r w _) (cond_rch _ (hf v m n r w _) (CRch.const _))
theorem stepD_rch (e : List Value) (m : μ) (n : Nat) (o : AOp) : ORch (stepD P (callA E Y (execW P E Y)) e m n o) (fun k => stepD P (callA E Y (exec P E Y k)) e m n o) := by
  unfold stepD
  cases belowOps n e o
  · exact ORch.const _
  · exact step_rch e m n o
theorem opsD_rch : ∀ (l : List AI) (bs : List Nat) (q : Nat) (done : List (Nat × Nat × Nat)) (e : List Value) (m : μ) (n r w : Nat), CRch (opsD P (callA E Y (execW P E Y)) l bs q done e m n r w) (fun k => opsD P (callA E Y (exec P E Y k)) l bs q done e m n r w)
  | [], bs, q, done, e, m, n, r, w => CRch.const _
  | i :: l, bs, q, done, e, m, n, r, w => by
    have ih := opsD_rch l
    have h1 : ∀ o, CRch (okD (bs.headD 0) q done (stepD P (callA E Y (execW P E Y)) e m n o) fun v m n r' w' done => opsD P (callA E Y (execW P E Y)) l bs.tail (Nat.succ q) done (v :: e) m n (Nat.lor r r') (Nat.lor w w'))
        (fun k => okD (bs.headD 0) q done (stepD P (callA E Y (exec P E Y k)) e m n o) fun v m n r' w' done => opsD P (callA E Y (exec P E Y k)) l bs.tail (Nat.succ q) done (v :: e) m n (Nat.lor r r') (Nat.lor w w')) := fun o =>
      okD_rch (stepD_rch e m n o) fun v m n r' w' d => ih _ _ _ _ m n _ _
    have h2 : ∀ o, CRch (okD (bs.headD 0) q done (stepD P (callA E Y (execW P E Y)) e m n o) fun _ m n r' w' done => opsD P (callA E Y (execW P E Y)) l bs.tail (Nat.succ q) done e m n (Nat.lor r r') (Nat.lor w w'))
        (fun k => okD (bs.headD 0) q done (stepD P (callA E Y (exec P E Y k)) e m n o) fun _ m n r' w' done => opsD P (callA E Y (exec P E Y k)) l bs.tail (Nat.succ q) done e m n (Nat.lor r r') (Nat.lor w w')) := fun o =>
      okD_rch (stepD_rch e m n o) fun v m n r' w' d => ih _ _ _ _ m n _ _
    cases i with
    | nop i => exact ih _ _ _ e m n r w
    | op o => exact h1 o
    | eff o => exact h2 o
    | opg o gi gw => exact cond_rch _ (h1 o) (ih _ _ _ _ m n r w)
    | effg o gi gw => exact cond_rch _ (h2 o) (ih _ _ _ _ m n r w)
theorem addRW_rch (r w : Nat) {x : CR μ} {y : Nat → CR μ} (h : CRch x y) : CRch (addRW r w x) (fun k => addRW r w (y k)) := by
  intro X e m n r' w' he
  cases hx : x with
  | no => rw [hx] at he; cases he
  | ok X1 e1 m1 n1 r1 w1 =>
    rw [hx] at he
    obtain ⟨k, hk⟩ := h _ _ _ _ _ _ hx
    exact ⟨k, fun k' hk' => by show addRW r w (y k') = _; rw [hk k' hk']; exact he⟩
theorem onNorm_rch {f : List Value → μ → Nat → CR μ} {g : Nat → List Value → μ → Nat → CR μ} (h : ∀ e m n, CRch (f e m n) (fun k => g k e m n)) (X : AX) (e : List Value) (m : μ) (n r w : Nat) : CRch (onNorm f X e m n r w) (fun k => onNorm (g k) X e m n r w) := by
  cases X with
  | norm => exact addRW_rch r w (h e m n)
  | exit i => exact CRch.const _
  | ret v => exact CRch.const _
/-- the equation of the limit -/
theorem execW_eq (c : AC) (e : List Value) (m : μ) (n : Nat) : execW P E Y c e m n = execC P (callA E Y (execW P E Y)) (execW P E Y) c e m n := by
  have key : CRch (execC P (callA E Y (execW P E Y)) (execW P E Y) c e m n) (fun k => execC P (callA E Y (exec P E Y k)) (exec P E Y k) c e m n) := by
    cases c with
    | skip => exact CRch.const _
    | reg l => exact ops_rch l e m n 0 0
    | regD l bs => exact opsD_rch l bs 0 [] e m n 0 0
    | seq x y => exact crRec_rch (g := fun k => onNorm (exec P E Y k y)) (execW_rch x e m n) fun X e m n r w => onNorm_rch (execW_rch y) X e m n r w
    | cond o x y =>
      show CRch (onCond (execW P E Y x e m n) (execW P E Y y e m n) (ev e o)) (fun k => onCond (exec P E Y k x e m n) (exec P E Y k y e m n) (ev e o))
      generalize ev e o = v
      unfold onCond
      split
      · exact cond_rch _ (execW_rch x e m n) (execW_rch y e m n)
      · exact CRch.const _
    | block id sh x => exact crRec_rch (g := fun _ => onBlock id) (execW_rch x e m n) fun X e m n r w => CRch.const _
    | loop sh x => exact crRec_rch (g := fun k => onNorm (exec P E Y k (.loop sh x))) (execW_rch x e m n) fun X e m n r w => onNorm_rch (execW_rch _) X e m n r w
    | pre sel d x => exact execW_rch x _ m n
    | post x sel d => exact crRec_rch (g := fun _ => onPost sel d) (execW_rch x e m n) fun X e m n r w => CRch.const _
    | exit id => exact CRch.const _
    | ret rs => exact CRch.const _
  have hle : CLe (execW P E Y c e m n) (execC P (callA E Y (execW P E Y)) (execW P E Y) c e m n) := by
    intro X e' m' n' r w h
    obtain ⟨k, hk⟩ := execW_some h
    have hs := exec_succ k c e m n _ _ _ _ _ _ hk
    exact execC_le (call_le (exec_leW k)) (exec_leW k) c e m n _ _ _ _ _ _ hs
  cases hx : execC P (callA E Y (execW P E Y)) (execW P E Y) c e m n with
  | no =>
    cases hw : execW P E Y c e m n with
    | no => rfl
    | ok X e' m' n' r w => have := hle _ _ _ _ _ _ hw; rw [hx] at this; cases this
  | ok X e' m' n' r w =>
    obtain ⟨k, hk⟩ := key _ _ _ _ _ _ hx
    exact execW_of (k := k + 1) (hk k (Nat.le_refl _))
end
/-! ### one equation for each kind of code -/
section
variable {μ : Type} [AMem μ] {P : Program} {E : Nat → Option AFn} {Y : Nat → List Value → μ → Nat → OR μ} {e : List Value} {m : μ} {n : Nat}
theorem w_skip : execW P E Y .skip e m n = .ok .norm e m n 0 0 := execW_eq ..
theorem w_reg (l : List AI) : execW P E Y (.reg l) e m n = opsA P (callA E Y (execW P E Y)) l e m n 0 0 := execW_eq ..
theorem w_regD (l : List AI) (bs : List Nat) : execW P E Y (.regD l bs) e m n = opsD P (callA E Y (execW P E Y)) l bs 0 [] e m n 0 0 := execW_eq ..
theorem w_seq (a b : AC) : execW P E Y (.seq a b) e m n = crRec (execW P E Y a e m n) (onNorm (execW P E Y b)) := execW_eq ..
theorem w_cond (x : Opd) (a b : AC) : execW P E Y (.cond x a b) e m n = onCond (execW P E Y a e m n) (execW P E Y b e m n) (ev e x) := execW_eq ..
theorem w_block (id : Nat) (sh : List (List Nat)) (b : AC) : execW P E Y (.block id sh b) e m n = crRec (execW P E Y b e m n) (onBlock id) := execW_eq ..
theorem w_loop (sh : List (List Nat)) (b : AC) : execW P E Y (.loop sh b) e m n = crRec (execW P E Y b e m n) (onNorm (execW P E Y (.loop sh b))) := execW_eq ..
theorem w_pre (sel : List Nat) (d : Nat) (c : AC) : execW P E Y (.pre sel d c) e m n = execW P E Y c (fixE sel d e) m n := execW_eq ..
theorem w_post (c : AC) (sel : List Nat) (d : Nat) : execW P E Y (.post c sel d) e m n = crRec (execW P E Y c e m n) (onPost sel d) := execW_eq ..
theorem w_exit (id : Nat) : execW P E Y (.exit id) e m n = .ok (.exit id) e m n 0 0 := execW_eq ..
theorem w_ret (rs : List ROp) : execW P E Y (.ret rs) e m n = onRet e m n (resA e m n rs) := execW_eq ..
end
end Go.Am
