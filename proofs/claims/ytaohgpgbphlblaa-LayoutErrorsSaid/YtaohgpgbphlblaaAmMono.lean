/- More fuel changes no answer of the abstract machine. -/
import Derived.Test.YtaohgpgbphlblaaAmTree
set_option linter.unusedVariables false
set_option linter.unusedSimpArgs false
set_option linter.unusedSectionVars false
namespace Go.Am
open Go
section
variable {μ : Type} [AMem μ] {P : Program}
/-- whatever x gives y gives -/
def OLe (x y : OR μ) : Prop := ∀ v m n r w, x = .ok v m n r w → y = .ok v m n r w
def CLe (x y : CR μ) : Prop := ∀ X e m n r w, x = .ok X e m n r w → y = .ok X e m n r w
theorem OLe.refl (x : OR μ) : OLe x x := fun _ _ _ _ _ h => h
theorem CLe.refl (x : CR μ) : CLe x x := fun _ _ _ _ _ _ h => h
theorem OLe.trans {x y z : OR μ} (h : OLe x y) (k : OLe y z) : OLe x z := fun v m n r w e => k v m n r w (h v m n r w e)
theorem CLe.trans {x y z : CR μ} (h : CLe x y) (k : CLe y z) : CLe x z := fun X v m n r w e => k X v m n r w (h X v m n r w e)
theorem OLe.no (y : OR μ) : OLe .no y := fun _ _ _ _ _ h => by cases h
theorem CLe.no (y : CR μ) : CLe .no y := fun _ _ _ _ _ _ h => by cases h
def CalLe (a b : Nat → List Value → μ → Nat → OR μ) : Prop := ∀ f args m n, OLe (a f args m n) (b f args m n)
def RcLe (a b : AC → List Value → μ → Nat → CR μ) : Prop := ∀ c e m n, CLe (a c e m n) (b c e m n)
theorem orRec_le {x y : OR μ} {f g : Value → μ → Nat → Nat → Nat → CR μ} (h : OLe x y) (hf : ∀ v m n r w, CLe (f v m n r w) (g v m n r w)) : CLe (orRec x f) (orRec y g) := by
  cases x with
  | no => exact CLe.no _
  | ok v m n r w => rw [h _ _ _ _ _ rfl]; exact hf v m n r w
theorem crRec_le {x y : CR μ} {f g : AX → List Value → μ → Nat → Nat → Nat → CR μ} (h : CLe x y) (hf : ∀ X e m n r w, CLe (f X e m n r w) (g X e m n r w)) : CLe (crRec x f) (crRec y g) := by
  cases x with
  | no => exact CLe.no _
  | ok X e m n r w => rw [h _ _ _ _ _ _ rfl]; exact hf X e m n r w
theorem cond_cle (b : Bool) {x x' y y' : CR μ} (h : CLe x x') (k : CLe y y') : CLe (cond b x y) (cond b x' y') := by cases b <;> assumption
theorem step_le {a b : Nat → List Value → μ → Nat → OR μ} (h : CalLe a b) (e : List Value) (m : μ) (n : Nat) (o : AOp) : OLe (stepA P a e m n o) (stepA P b e m n o) := by
  cases o
  case call f args => exact h f _ m n
  case callv x args =>
    show OLe (callV a (evs e args) m n (ev e x)) (callV b (evs e args) m n (ev e x))
    generalize ev e x = v
    unfold callV
    split
    · exact h _ _ m n
    · exact OLe.refl _
  all_goals exact OLe.refl _
theorem ops_le {a b : Nat → List Value → μ → Nat → OR μ} (h : CalLe a b) : ∀ (l : List AI) (e : List Value) (m : μ) (n r w : Nat), CLe (opsA P a l e m n r w) (opsA P b l e m n r w)
  | [], e, m, n, r, w => CLe.refl _
  | i :: l, e, m, n, r, w => by
    have ih := ops_le h l
    cases i with
    | nop i => exact ih e m n r w
    | op o => exact orRec_le (step_le h e m n o) fun v m n r' w' => ih _ m n _ _
    | eff o => exact orRec_le (step_le h e m n o) fun v m n r' w' => ih _ m n _ _
    | opg o gi gw => exact cond_cle _ (orRec_le (step_le h e m n o) fun v m n r' w' => ih _ m n _ _) (ih _ m n r w)
    | effg o gi gw => exact cond_cle _ (orRec_le (step_le h e m n o) fun v m n r' w' => ih _ m n _ _) (ih _ m n r w)
theorem okD_le {bef k : Nat} {done : List (Nat × Nat × Nat)} {x y : OR μ} {f g : Value → μ → Nat → Nat → Nat → List (Nat × Nat × Nat) → CR μ} (h : OLe x y) (hf : ∀ v m n r w d, CLe (f v m n r w d) (g v m n r w d)) : CLe (okD bef k done x f) (okD bef k done y g) := by
  refine orRec_le h fun v m n r w => ?_
  rw [forceN_eq, forceN_eq, forceN_eq, forceN_eq]
  exact cond_cle _ (hf v m n r w _) (cond_cle _ (hf v m n r w _) (CLe.refl _))
theorem stepD_le {a b : Nat → List Value → μ → Nat → OR μ} (h : CalLe a b) (e : List Value) (m : μ) (n : Nat) (o : AOp) : OLe (stepD P a e m n o) (stepD P b e m n o) := by
  unfold stepD
  cases belowOps n e o
  · exact OLe.refl _
  · exact step_le h e m n o
theorem opsD_le {a b : Nat → List Value → μ → Nat → OR μ} (h : CalLe a b) : ∀ (l : List AI) (bs : List Nat) (k : Nat) (done : List (Nat × Nat × Nat)) (e : List Value) (m : μ) (n r w : Nat), CLe (opsD P a l bs k done e m n r w) (opsD P b l bs k done e m n r w)
  | [], bs, k, done, e, m, n, r, w => CLe.refl _
  | i :: l, bs, k, done, e, m, n, r, w => by
    have ih := opsD_le h l
    have h1 : ∀ o, CLe (okD (bs.headD 0) k done (stepD P a e m n o) fun v m n r' w' done => opsD P a l bs.tail (Nat.succ k) done (v :: e) m n (Nat.lor r r') (Nat.lor w w'))
        (okD (bs.headD 0) k done (stepD P b e m n o) fun v m n r' w' done => opsD P b l bs.tail (Nat.succ k) done (v :: e) m n (Nat.lor r r') (Nat.lor w w')) := fun o =>
      okD_le (stepD_le h e m n o) fun v m n r' w' d => ih _ _ _ _ m n _ _
    have h2 : ∀ o, CLe (okD (bs.headD 0) k done (stepD P a e m n o) fun _ m n r' w' done => opsD P a l bs.tail (Nat.succ k) done e m n (Nat.lor r r') (Nat.lor w w'))
        (okD (bs.headD 0) k done (stepD P b e m n o) fun _ m n r' w' done => opsD P b l bs.tail (Nat.succ k) done e m n (Nat.lor r r') (Nat.lor w w')) := fun o =>
      okD_le (stepD_le h e m n o) fun v m n r' w' d => ih _ _ _ _ m n _ _
    cases i with
    | nop i => exact ih _ _ _ e m n r w
    | op o => exact h1 o
    | eff o => exact h2 o
    | opg o gi gw => exact cond_cle _ (h1 o) (ih _ _ _ _ m n r w)
    | effg o gi gw => exact cond_cle _ (h2 o) (ih _ _ _ _ m n r w)
theorem call_le {E : Nat → Option AFn} {Y : Nat → List Value → μ → Nat → OR μ} {a b : AC → List Value → μ → Nat → CR μ} (h : RcLe a b) : CalLe (callA E Y a) (callA E Y b) := by
  intro f args m n
  show OLe (Option.rec (motive := fun _ => OR μ) (Y f args m n) (callF a args m n) (E f)) (Option.rec (motive := fun _ => OR μ) (Y f args m n) (callF b args m n) (E f))
  cases E f with
  | none => exact OLe.refl _
  | some fn =>
    show OLe (cond (Nat.beq (llen args) fn.na) (CR.rec (motive := fun _ => OR μ) .no (fun x e m' n' r w => leaveX fn m n e m' n' r w x) (a fn.code args m n)) .no) (cond (Nat.beq (llen args) fn.na) (CR.rec (motive := fun _ => OR μ) .no (fun x e m' n' r w => leaveX fn m n e m' n' r w x) (b fn.code args m n)) .no)
    cases Nat.beq (llen args) fn.na
    · exact OLe.refl _
    · show OLe (CR.rec (motive := fun _ => OR μ) .no (fun x e m' n' r w => leaveX fn m n e m' n' r w x) (a fn.code args m n)) (CR.rec (motive := fun _ => OR μ) .no (fun x e m' n' r w => leaveX fn m n e m' n' r w x) (b fn.code args m n))
      have hc := h fn.code args m n
      cases ha : a fn.code args m n with
      | no => exact OLe.no _
      | ok X e m' n' r w => rw [hc _ _ _ _ _ _ ha]; exact OLe.refl _
theorem addRW_le (r w : Nat) {x y : CR μ} (h : CLe x y) : CLe (addRW r w x) (addRW r w y) := by
  cases x with
  | no => exact CLe.no _
  | ok X e m n r' w' => rw [h _ _ _ _ _ _ rfl]; exact CLe.refl _
theorem onNorm_le {f g : List Value → μ → Nat → CR μ} (h : ∀ e m n, CLe (f e m n) (g e m n)) (X : AX) (e : List Value) (m : μ) (n r w : Nat) : CLe (onNorm f X e m n r w) (onNorm g X e m n r w) := by
  cases X with
  | norm => exact addRW_le r w (h e m n)
  | exit i => exact CLe.refl _
  | ret v => exact CLe.refl _
/-- codes, where calls go to 'cal' and parts to 'rec' -/
noncomputable def execC (P : Program) (cal : Nat → List Value → μ → Nat → OR μ) (rec : AC → List Value → μ → Nat → CR μ) (c : AC) (e : List Value) (m : μ) (n : Nat) : CR μ :=
  AC.casesOn (motive := fun _ => CR μ) c
    (.ok .norm e m n 0 0)
    (fun l => opsA P cal l e m n 0 0)
    (fun l bs => opsD P cal l bs 0 [] e m n 0 0)
    (fun a b => crRec (rec a e m n) (onNorm (rec b)))
    (fun x a b => onCond (rec a e m n) (rec b e m n) (ev e x))
    (fun id _ b => crRec (rec b e m n) (onBlock id))
    (fun sh b => crRec (rec b e m n) (onNorm (rec (.loop sh b))))
    (fun sel d c => rec c (fixE sel d e) m n)
    (fun c sel d => crRec (rec c e m n) (onPost sel d))
    (fun id => .ok (.exit id) e m n 0 0)
    (fun rs => onRet e m n (resA e m n rs))
theorem execF_C (E : Nat → Option AFn) (Y : Nat → List Value → μ → Nat → OR μ) (rec : AC → List Value → μ → Nat → CR μ) (c : AC) (e : List Value) (m : μ) (n : Nat) : execF P E Y rec c e m n = execC P (callA E Y rec) rec c e m n := rfl
theorem execC_le {ca cb : Nat → List Value → μ → Nat → OR μ} {a b : AC → List Value → μ → Nat → CR μ} (hc : CalLe ca cb) (h : RcLe a b) (c : AC) (e : List Value) (m : μ) (n : Nat) : CLe (execC P ca a c e m n) (execC P cb b c e m n) := by
  cases c with
  | skip => exact CLe.refl _
  | reg l => exact ops_le hc l e m n 0 0
  | regD l bs => exact opsD_le hc l bs 0 [] e m n 0 0
  | seq x y => exact crRec_le (h x e m n) fun X e m n r w => onNorm_le (h y) X e m n r w
  | cond o x y =>
    show CLe (onCond (a x e m n) (a y e m n) (ev e o)) (onCond (b x e m n) (b y e m n) (ev e o))
    generalize ev e o = v
    unfold onCond
    split
    · exact cond_cle _ (h x e m n) (h y e m n)
    · exact CLe.refl _
  | block id sh x => exact crRec_le (h x e m n) fun X e m n r w => CLe.refl _
  | loop sh x => exact crRec_le (h x e m n) fun X e m n r w => onNorm_le (h _) X e m n r w
  | pre sel d x => exact h x _ m n
  | post x sel d => exact crRec_le (h x e m n) fun X e m n r w => CLe.refl _
  | exit id => exact CLe.refl _
  | ret rs => exact CLe.refl _
theorem exec_succ {E : Nat → Option AFn} {Y : Nat → List Value → μ → Nat → OR μ} : ∀ k, RcLe (exec P E Y k) (exec P E Y (k + 1))
  | 0 => fun _ _ _ _ => CLe.no _
  | k + 1 => fun c e m n => execC_le (call_le (exec_succ k)) (exec_succ k) c e m n
theorem exec_mono {E : Nat → Option AFn} {Y : Nat → List Value → μ → Nat → OR μ} {k k' : Nat} (h : k ≤ k') : RcLe (exec P E Y k) (exec P E Y k') := by
  induction h with
  | refl => exact fun _ _ _ _ => CLe.refl _
  | step _ ih => exact fun c e m n => (ih c e m n).trans (exec_succ _ c e m n)

/-- the machine with calls of bounded depth: d; each body with fuel K -/
noncomputable def execK (P : Program) (cal : Nat → List Value → μ → Nat → OR μ) (k : Nat) : AC → List Value → μ → Nat → CR μ := Nat.rec (motive := fun _ => AC → List Value → μ → Nat → CR μ) (fun _ _ _ _ => .no) (fun _ ih => execC P cal ih) k
noncomputable def calD (P : Program) (E : Nat → Option AFn) (Y : Nat → List Value → μ → Nat → OR μ) (K : Nat) (d : Nat) : Nat → List Value → μ → Nat → OR μ :=
  Nat.rec (motive := fun _ => Nat → List Value → μ → Nat → OR μ) Y (fun _ ih => callA E Y (execK P ih K)) d
theorem execK_le {E : Nat → Option AFn} {Y : Nat → List Value → μ → Nat → OR μ} {cal : Nat → List Value → μ → Nat → OR μ} {k0 : Nat} (h : CalLe cal (callA E Y (exec P E Y k0))) : ∀ k, RcLe (execK P cal k) (exec P E Y (k0 + k))
  | 0 => fun _ _ _ _ => CLe.no _
  | k + 1 => fun c e m n => execC_le (fun f args m n => (h f args m n).trans (call_le (exec_mono (Nat.le_add_right _ _)) f args m n)) (execK_le h k) c e m n
/-- functions outside the table -/
theorem calD_le {E : Nat → Option AFn} {Y : Nat → List Value → μ → Nat → OR μ} (hY : ∀ f fn, E f = some fn → ∀ args m n, Y f args m n = .no) (K : Nat) : ∀ d, CalLe (calD P E Y K d) (callA E Y (exec P E Y (d * K)))
  | 0 => fun f args m n => by
    show OLe (Y f args m n) (Option.rec (motive := fun _ => OR μ) (Y f args m n) (callF _ args m n) (E f))
    cases hf : E f with
    | none => exact OLe.refl _
    | some fn => rw [hY f fn hf]; exact OLe.no _
  | d + 1 => fun f args m n => by
    have h := execK_le (calD_le hY K d) K
    have e : d * K + K = (d + 1) * K := by rw [Nat.succ_mul]
    rw [e] at h
    exact call_le h f args m n
end
end Go.Am
