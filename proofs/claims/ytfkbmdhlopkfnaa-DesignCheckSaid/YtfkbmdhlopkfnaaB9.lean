/- The machine and its runs, part 9: AmMemo3 AmRuns AmOmega AmEq Am07l AmEqD. -/
import Derived.Test.YtfkbmdhlopkfnaaB8
set_option linter.unusedVariables false
set_option linter.unusedSimpArgs false
set_option linter.unusedSectionVars false
namespace Go.Am.V
open Go Go.Am Go.Am.Fast Go.RowKit

theorem memoA_ne {M : Memo} {f : Nat} (h : f ≠ M.f) (args : List Value) (m : FM) (n : Nat) : memoA M f args m n = .no := by
  unfold memoA
  cases hf : Nat.beq f M.f
  · rfl
  · exact absurd (Nat.eq_of_beq_eq_true hf) h
theorem apart_alt {tab : List (Nat × AFn)} {a b : Nat → List Value → FM → Nat → OR FM} (ha : Apart tab a) (hb : Apart tab b) : Apart tab (altA a b) := by
  intro f fn h args m n
  unfold altA
  rw [ha f fn h args m n]
  exact hb f fn h args m n
theorem apart_memo {tab : List (Nat × AFn)} {M : Memo} (h : look tab M.f = none) : Apart tab (memoA M) := by
  intro f fn hf args m n
  refine memoA_ne (fun e => ?_) args m n
  rw [e, h] at hf; cases hf
theorem apart_memos {tab : List (Nat × AFn)} {l : List Memo} {Y : Nat → List Value → FM → Nat → OR FM} (hY : Apart tab Y) (h : ∀ M ∈ l, look tab M.f = none) : Apart tab (memosA l Y) := by
  induction l with
  | nil => exact hY
  | cons M l ih => exact apart_alt (apart_memo (h M (List.mem_cons_self ..))) (ih fun M hM => h M (List.mem_cons_of_mem _ hM))
theorem sim_memos {P : Program} {l : List Memo} {Y : Nat → List Value → FM → Nat → OR FM} (hY : CallSim P Y) (h : ∀ M ∈ l, CallSim P (memoA M)) : CallSim P (memosA l Y) := by
  induction l with
  | nil => exact hY
  | cons M l ih => exact alt_sim (h M (List.mem_cons_self ..)) (ih fun M hM => h M (List.mem_cons_of_mem _ hM))
def FM0 : FM := fun _ => none
def isT : Value → Bool
  | .bool b => b
  | _ => false
noncomputable def gaveTA (x : OR FM) : Bool := OR.rec (motive := fun _ => Bool) false (fun v _ _ _ _ => isT v) x
theorem free_args {args : List Value} (h : args.all addrFree = true) : ∀ (ρ : Ren), ∀ a ∈ args, VRel ρ a a := fun ρ a ha => addrFree_rel ρ (List.all_eq_true.1 h a ha)
end Go.Am.V
namespace Go.Am.V
open Go Go.Am Go.Am.Fast Go.RowKit

def Runs (P : Program) (tab : List (Nat × AFn)) (Y : Nat → List Value → FM → Nat → OR FM) (c : AC) (e : List Value) (m : FM) (n : Nat) (X : AX) (e' : List Value) (m' : FM) (n' : Nat) : Prop :=
  ∃ k r w, exec P (look tab) Y k c e m n = .ok X e' m' n' r w
section
variable {P : Program} {tab : List (Nat × AFn)} {Y : Nat → List Value → FM → Nat → OR FM} {Yf : FCal}
theorem Runs.of {c : AC} {e : List Value} {m : FM} {n : Nat} {X : AX} {e' : List Value} {m' : FM} {n' k r w : Nat} (h : exec P (look tab) Y k c e m n = .ok X e' m' n' r w) : Runs P tab Y c e m n X e' m' n' := ⟨k, r, w, h⟩
theorem Runs.seq {a b : AC} {e e1 e2 : List Value} {m m1 m2 : FM} {n n1 n2 : Nat} {X : AX} (h : Runs P tab Y a e m n .norm e1 m1 n1) (k : Runs P tab Y b e1 m1 n1 X e2 m2 n2) : Runs P tab Y (.seq a b) e m n X e2 m2 n2 := by
  obtain ⟨k1, r1, w1, h1⟩ := h
  obtain ⟨k2, r2, w2, h2⟩ := k
  have h1' := exec_mono (Nat.le_max_left k1 k2) a e m n _ _ _ _ _ _ h1
  have h2' := exec_mono (Nat.le_max_right k1 k2) b e1 m1 n1 _ _ _ _ _ _ h2
  refine ⟨max k1 k2 + 1, Nat.lor r1 r2, Nat.lor w1 w2, ?_⟩
  show crRec (exec P (look tab) Y (max k1 k2) a e m n) (onNorm (exec P (look tab) Y (max k1 k2) b)) = _
  rw [h1', crRec_mk, onNorm_norm, h2', addRW_mk]
theorem Runs.call {f : Nat} {fn : AFn} {args : List Value} {m m' : FM} {n n' : Nat} {e' : List Value} (hf : look tab f = some fn) (ha : Nat.beq (llen args) fn.na = true) (h : Runs P tab Y fn.code args m n (.ret (.bool true)) e' m' n') :
    ∃ k m2 n2 r w, callA (look tab) Y (exec P (look tab) Y k) f args m n = .ok (.bool true) m2 n2 r w := by
  obtain ⟨k, r, w, h⟩ := h
  have : callA (look tab) Y (exec P (look tab) Y k) f args m n = leaveA m n (.bool true) m' n' r w := by
    show Option.rec (motive := fun _ => OR FM) (Y f args m n) (callF (exec P (look tab) Y k) args m n) (look tab f) = _
    rw [hf]
    show cond (Nat.beq (llen args) fn.na) (CR.rec (motive := fun _ => OR FM) .no (fun x e m' n' r w => leaveX fn m n e m' n' r w x) (exec P (look tab) Y k fn.code args m n)) .no = _
    rw [ha, h]; rfl
  refine ⟨k, ?_⟩
  rw [this]
  unfold leaveA
  cases (addrFree (.bool true) && Nat.beq (Nat.mod w (bit n)) 0)
  · exact ⟨_, _, _, _, rfl⟩
  · rw [cond_true, forceN_eq]; exact ⟨_, _, _, _, rfl⟩
noncomputable def retT (x : FC) : Bool := FC.rec (motive := fun _ => Bool) false (fun X _ _ _ _ _ => FAX.rec (motive := fun _ => Bool) false (fun _ => false) (fun v => onB v true false false) X) x
theorem Env.rest (h : Env P tab Y Yf) {K d : Nat} {c : AC} {fe : List FV} {fm : FTr} {n : Nat} (hrun : retT (fexecK P (fcalD P (lookT (treeOf tab)) Yf K d) K c fe fm n) = true) : ∃ e' m' n', Runs P tab Y c (fe.map toV) (absM fm n) n (.ret (.bool true)) e' m' n' := by
  have hs := fexecK_sim (P := P) (fcalD_sim (P := P) (E := look tab) h.fast K d) K c fe fm n
  rw [lookT_look h.small] at hrun
  cases hx : fexecK P (fcalD P (look tab) Yf K d) K c fe fm n with
  | no => rw [hx] at hrun; cases hrun
  | ok X e m n' r w =>
    rw [hx] at hs hrun
    cases X with
    | ret v =>
      have hv : toV v = .bool true := by
        replace hrun : onB v true false false = true := hrun
        cases v with
        | b t => cases t <;> first | rfl | cases hrun
        | _ => cases hrun
      replace hs : execK P (calD P (look tab) Y K d) K c (fe.map toV) (absM fm n) n = .ok (.ret (toV v)) (e.map toV) (absM m n') n' r w := hs
      rw [hv] at hs
      exact ⟨_, _, _, d * K + K, r, w, execK_le (calD_le h.apart K d) K c (fe.map toV) (absM fm n) n _ _ _ _ _ _ hs⟩
    | norm => cases hrun
    | exit i => cases hrun
noncomputable def allLt (n : Nat) (p : Nat → Bool) : Bool := Nat.rec (motive := fun _ => Bool) true (fun k ih => Bool.rec (motive := fun _ => Bool) false ih (p k)) n
end
end Go.Am.V
namespace Go.Am
open Go
section
variable {μ : Type} [AMem μ] {P : Program} {E : Nat → Option AFn} {Y : Nat → List Value → μ → Nat → OR μ}
open Classical in
noncomputable def execW (P : Program) (E : Nat → Option AFn) (Y : Nat → List Value → μ → Nat → OR μ) (c : AC) (e : List Value) (m : μ) (n : Nat) : CR μ :=
  if h : ∃ k X e' m' n' r w, exec P E Y k c e m n = .ok X e' m' n' r w then exec P E Y h.choose c e m n else .no
theorem execW_of {c : AC} {e : List Value} {m : μ} {n k : Nat} {X : AX} {e' : List Value} {m' : μ} {n' r w : Nat} (h : exec P E Y k c e m n = .ok X e' m' n' r w) : execW P E Y c e m n = .ok X e' m' n' r w := by
  have hx : ∃ k X e' m' n' r w, exec P E Y k c e m n = .ok X e' m' n' r w := ⟨k, X, e', m', n', r, w, h⟩
  unfold execW
  rw [dif_pos hx]
  obtain ⟨X2, e2, m2, n2, r2, w2, h2⟩ := hx.choose_spec
  have a := exec_mono (Nat.le_max_left k hx.choose) c e m n _ _ _ _ _ _ h
  have b := exec_mono (Nat.le_max_right k hx.choose) c e m n _ _ _ _ _ _ h2
  rw [a] at b
  rw [h2, b]
theorem execW_some {c : AC} {e : List Value} {m : μ} {n : Nat} {X : AX} {e' : List Value} {m' : μ} {n' r w : Nat} (h : execW P E Y c e m n = .ok X e' m' n' r w) : ∃ k, exec P E Y k c e m n = .ok X e' m' n' r w := by
  unfold execW at h
  split at h
  · exact ⟨_, h⟩
  · cases h
theorem exec_leW (k : Nat) : RcLe (exec P E Y k) (execW P E Y) := fun c e m n X e' m' n' r w h => execW_of h

def ORch (x : OR μ) (y : Nat → OR μ) : Prop := ∀ v m n r w, x = .ok v m n r w → ∃ k, ∀ k', k ≤ k' → y k' = .ok v m n r w
def CRch (x : CR μ) (y : Nat → CR μ) : Prop := ∀ X e m n r w, x = .ok X e m n r w → ∃ k, ∀ k', k ≤ k' → y k' = .ok X e m n r w
theorem ORch.const (x : OR μ) : ORch x (fun _ => x) := fun _ _ _ _ _ h => ⟨0, fun _ _ => h⟩
theorem CRch.const (x : CR μ) : CRch x (fun _ => x) := fun _ _ _ _ _ _ h => ⟨0, fun _ _ => h⟩
theorem execW_rch (c : AC) (e : List Value) (m : μ) (n : Nat) : CRch (execW P E Y c e m n) (fun k => exec P E Y k c e m n) := by
  intro X e' m' n' r w h
  obtain ⟨k, hk⟩ := execW_some h
  exact ⟨k, fun k' hk' => exec_mono hk' c e m n _ _ _ _ _ _ hk⟩
theorem orRec_rch {x : OR μ} {y : Nat → OR μ} {f : Value → μ → Nat → Nat → Nat → CR μ} {g : Nat → Value → μ → Nat → Nat → Nat → CR μ} (h : ORch x y) (hf : ∀ v m n r w, CRch (f v m n r w) (fun k => g k v m n r w)) : CRch (orRec x f) (fun k => orRec (y k) (g k)) := by
  intro X e m n r w he
  cases hx : x with
  | no => rw [hx] at he; cases he
  | ok v m1 n1 r1 w1 =>
    rw [hx] at he
    obtain ⟨k1, h1⟩ := h _ _ _ _ _ hx
    obtain ⟨k2, h2⟩ := hf v m1 n1 r1 w1 X e m n r w he
    refine ⟨max k1 k2, fun k' hk' => ?_⟩
    show orRec (y k') (g k') = _
    rw [h1 k' (by omega)]
    exact h2 k' (by omega)
theorem crRec_rch {x : CR μ} {y : Nat → CR μ} {f : AX → List Value → μ → Nat → Nat → Nat → CR μ} {g : Nat → AX → List Value → μ → Nat → Nat → Nat → CR μ} (h : CRch x y) (hf : ∀ v e m n r w, CRch (f v e m n r w) (fun k => g k v e m n r w)) : CRch (crRec x f) (fun k => crRec (y k) (g k)) := by
  intro X e m n r w he
  cases hx : x with
  | no => rw [hx] at he; cases he
  | ok v e1 m1 n1 r1 w1 =>
    rw [hx] at he
    obtain ⟨k1, h1⟩ := h _ _ _ _ _ _ hx
    obtain ⟨k2, h2⟩ := hf v e1 m1 n1 r1 w1 X e m n r w he
    refine ⟨max k1 k2, fun k' hk' => ?_⟩
    show crRec (y k') (g k') = _
    rw [h1 k' (by omega)]
    exact h2 k' (by omega)
theorem cond_rch (b : Bool) {x x' : CR μ} {y y' : Nat → CR μ} (h : CRch x y) (k : CRch x' y') : CRch (cond b x x') (fun k => cond b (y k) (y' k)) := by cases b <;> assumption
theorem call_rch (f : Nat) (args : List Value) (m : μ) (n : Nat) : ORch (callA E Y (execW P E Y) f args m n) (fun k => callA E Y (exec P E Y k) f args m n) := by
  intro v m' n' r w h
  show ∃ k, ∀ k', k ≤ k' → Option.rec (motive := fun _ => OR μ) (Y f args m n) (callF (exec P E Y k') args m n) (E f) = _
  replace h : Option.rec (motive := fun _ => OR μ) (Y f args m n) (callF (execW P E Y) args m n) (E f) = _ := h
  cases hE : E f with
  | none => rw [hE] at h; exact ⟨0, fun _ _ => h⟩
  | some fn =>
    rw [hE] at h
    replace h : cond (Nat.beq (llen args) fn.na) (CR.rec (motive := fun _ => OR μ) .no (fun x e m' n' r w => leaveX fn m n e m' n' r w x) (execW P E Y fn.code args m n)) .no = _ := h
    show ∃ k, ∀ k', k ≤ k' → cond (Nat.beq (llen args) fn.na) (CR.rec (motive := fun _ => OR μ) .no (fun x e m' n' r w => leaveX fn m n e m' n' r w x) (exec P E Y k' fn.code args m n)) .no = _
    cases hb : Nat.beq (llen args) fn.na
    · rw [hb] at h; cases h
    · rw [hb, cond_true] at h
      cases hx : execW P E Y fn.code args m n with
      | no => rw [hx] at h; cases h
      | ok X e2 m2 n2 r2 w2 =>
        rw [hx] at h
        obtain ⟨k, hk⟩ := execW_rch fn.code args m n _ _ _ _ _ _ hx
        exact ⟨k, fun k' hk' => by
          have hk2 : exec P E Y k' fn.code args m n = _ := hk k' hk'
          rw [hk2, cond_true]; exact h⟩
theorem step_rch (e : List Value) (m : μ) (n : Nat) (o : AOp) : ORch (stepA P (callA E Y (execW P E Y)) e m n o) (fun k => stepA P (callA E Y (exec P E Y k)) e m n o) := by
  cases o
  case call f args => exact call_rch f _ m n
  case callv x args =>
    show ORch (callV (callA E Y (execW P E Y)) (evs e args) m n (ev e x)) (fun k => callV (callA E Y (exec P E Y k)) (evs e args) m n (ev e x))
    generalize ev e x = v
    unfold callV
    split
    · exact call_rch _ _ m n
    · exact ORch.const _
  all_goals exact ORch.const _
theorem ops_rch : ∀ (l : List AI) (e : List Value) (m : μ) (n r w : Nat), CRch (opsA P (callA E Y (execW P E Y)) l e m n r w) (fun k => opsA P (callA E Y (exec P E Y k)) l e m n r w)
  | [], e, m, n, r, w => CRch.const _
  | i :: l, e, m, n, r, w => by
    have ih := ops_rch l
    cases i with
    | nop i => exact ih e m n r w
    | op o => exact orRec_rch (step_rch e m n o) fun v m n r' w' => ih _ m n _ _
    | eff o => exact orRec_rch (step_rch e m n o) fun v m n r' w' => ih _ m n _ _
    | opg o gi gw => exact cond_rch _ (orRec_rch (step_rch e m n o) fun v m n r' w' => ih _ m n _ _) (ih _ m n r w)
    | effg o gi gw => exact cond_rch _ (orRec_rch (step_rch e m n o) fun v m n r' w' => ih _ m n _ _) (ih _ m n r w)
theorem okD_rch {bef q : Nat} {done : List (Nat × Nat × Nat)} {x : OR μ} {y : Nat → OR μ} {f : Value → μ → Nat → Nat → Nat → List (Nat × Nat × Nat) → CR μ} {g : Nat → Value → μ → Nat → Nat → Nat → List (Nat × Nat × Nat) → CR μ} (h : ORch x y) (hf : ∀ v m n r w d, CRch (f v m n r w d) (fun k => g k v m n r w d)) :
    CRch (okD bef q done x f) (fun k => okD bef q done (y k) (g k)) := by
  refine orRec_rch (g := fun k v m n r w => forceN r fun r => forceN w fun w => cond (Nat.beq (Nat.lor r w) 0) (g k v m n r w done) (cond (apart bef r w done) (g k v m n r w ((q, r, w) :: done)) .no)) h fun v m n r w => ?_
  rw [forceN_eq, forceN_eq]
  simp only [forceN_eq]
  exact cond_rch _ (hf v m n r w _) (cond_rch _ (hf v m n r w _) (CRch.const _))
theorem stepD_rch (e : List Value) (m : μ) (n : Nat) (o : AOp) : ORch (stepD P (callA E Y (execW P E Y)) e m n o) (fun k => stepD P (callA E Y (exec P E Y k)) e m n o) := by
  unfold stepD
  cases belowOps n e o
  · exact ORch.const _
  · exact step_rch e m n o
theorem opsD_rch : ∀ (l : List AI) (bs : List Nat) (q : Nat) (done : List (Nat × Nat × Nat)) (e : List Value) (m : μ) (n r w : Nat), CRch (opsD P (callA E Y (execW P E Y)) l bs q done e m n r w) (fun k => opsD P (callA E Y (exec P E Y k)) l bs q done e m n r w)
  | [], bs, q, done, e, m, n, r, w => CRch.const _
  | i :: l, bs, q, done, e, m, n, r, w => by
    have ih := opsD_rch l
    have h1 : ∀ o, CRch (okD (bs.headD 0) q done (stepD P (callA E Y (execW P E Y)) e m n o) fun v m n r' w' done => opsD P (callA E Y (execW P E Y)) l bs.tail (Nat.succ q) done (v :: e) m n (Nat.lor r r') (Nat.lor w w'))
        (fun k => okD (bs.headD 0) q done (stepD P (callA E Y (exec P E Y k)) e m n o) fun v m n r' w' done => opsD P (callA E Y (exec P E Y k)) l bs.tail (Nat.succ q) done (v :: e) m n (Nat.lor r r') (Nat.lor w w')) := fun o =>
      okD_rch (stepD_rch e m n o) fun v m n r' w' d => ih _ _ _ _ m n _ _
    have h2 : ∀ o, CRch (okD (bs.headD 0) q done (stepD P (callA E Y (execW P E Y)) e m n o) fun _ m n r' w' done => opsD P (callA E Y (execW P E Y)) l bs.tail (Nat.succ q) done e m n (Nat.lor r r') (Nat.lor w w'))
        (fun k => okD (bs.headD 0) q done (stepD P (callA E Y (exec P E Y k)) e m n o) fun _ m n r' w' done => opsD P (callA E Y (exec P E Y k)) l bs.tail (Nat.succ q) done e m n (Nat.lor r r') (Nat.lor w w')) := fun o =>
      okD_rch (stepD_rch e m n o) fun v m n r' w' d => ih _ _ _ _ m n _ _
    cases i with
    | nop i => exact ih _ _ _ e m n r w
    | op o => exact h1 o
    | eff o => exact h2 o
    | opg o gi gw => exact cond_rch _ (h1 o) (ih _ _ _ _ m n r w)
    | effg o gi gw => exact cond_rch _ (h2 o) (ih _ _ _ _ m n r w)
theorem addRW_rch (r w : Nat) {x : CR μ} {y : Nat → CR μ} (h : CRch x y) : CRch (addRW r w x) (fun k => addRW r w (y k)) := by
  intro X e m n r' w' he
  cases hx : x with
  | no => rw [hx] at he; cases he
  | ok X1 e1 m1 n1 r1 w1 =>
    rw [hx] at he
    obtain ⟨k, hk⟩ := h _ _ _ _ _ _ hx
    exact ⟨k, fun k' hk' => by show addRW r w (y k') = _; rw [hk k' hk']; exact he⟩
theorem onNorm_rch {f : List Value → μ → Nat → CR μ} {g : Nat → List Value → μ → Nat → CR μ} (h : ∀ e m n, CRch (f e m n) (fun k => g k e m n)) (X : AX) (e : List Value) (m : μ) (n r w : Nat) : CRch (onNorm f X e m n r w) (fun k => onNorm (g k) X e m n r w) := by
  cases X with
  | norm => exact addRW_rch r w (h e m n)
  | exit i => exact CRch.const _
  | ret v => exact CRch.const _
theorem execW_eq (c : AC) (e : List Value) (m : μ) (n : Nat) : execW P E Y c e m n = execC P (callA E Y (execW P E Y)) (execW P E Y) c e m n := by
  have key : CRch (execC P (callA E Y (execW P E Y)) (execW P E Y) c e m n) (fun k => execC P (callA E Y (exec P E Y k)) (exec P E Y k) c e m n) := by
    cases c with
    | skip => exact CRch.const _
    | reg l => exact ops_rch l e m n 0 0
    | regD l bs => exact opsD_rch l bs 0 [] e m n 0 0
    | seq x y => exact crRec_rch (g := fun k => onNorm (exec P E Y k y)) (execW_rch x e m n) fun X e m n r w => onNorm_rch (execW_rch y) X e m n r w
    | cond o x y =>
      show CRch (onCond (execW P E Y x e m n) (execW P E Y y e m n) (ev e o)) (fun k => onCond (exec P E Y k x e m n) (exec P E Y k y e m n) (ev e o))
      generalize ev e o = v
      unfold onCond
      split
      · exact cond_rch _ (execW_rch x e m n) (execW_rch y e m n)
      · exact CRch.const _
    | block id sh x => exact crRec_rch (g := fun _ => onBlock id) (execW_rch x e m n) fun X e m n r w => CRch.const _
    | loop sh x => exact crRec_rch (g := fun k => onNorm (exec P E Y k (.loop sh x))) (execW_rch x e m n) fun X e m n r w => onNorm_rch (execW_rch _) X e m n r w
    | pre sel d x => exact execW_rch x _ m n
    | post x sel d => exact crRec_rch (g := fun _ => onPost sel d) (execW_rch x e m n) fun X e m n r w => CRch.const _
    | exit id => exact CRch.const _
    | ret rs => exact CRch.const _
  have hle : CLe (execW P E Y c e m n) (execC P (callA E Y (execW P E Y)) (execW P E Y) c e m n) := by
    intro X e' m' n' r w h
    obtain ⟨k, hk⟩ := execW_some h
    have hs := exec_succ k c e m n _ _ _ _ _ _ hk
    exact execC_le (call_le (exec_leW k)) (exec_leW k) c e m n _ _ _ _ _ _ hs
  cases hx : execC P (callA E Y (execW P E Y)) (execW P E Y) c e m n with
  | no =>
    cases hw : execW P E Y c e m n with
    | no => rfl
    | ok X e' m' n' r w => have := hle _ _ _ _ _ _ hw; rw [hx] at this; cases this
  | ok X e' m' n' r w =>
    obtain ⟨k, hk⟩ := key _ _ _ _ _ _ hx
    exact execW_of (k := k + 1) (hk k (Nat.le_refl _))
end
section
variable {μ : Type} [AMem μ] {P : Program} {E : Nat → Option AFn} {Y : Nat → List Value → μ → Nat → OR μ} {e : List Value} {m : μ} {n : Nat}
theorem w_skip : execW P E Y .skip e m n = .ok .norm e m n 0 0 := execW_eq ..
theorem w_reg (l : List AI) : execW P E Y (.reg l) e m n = opsA P (callA E Y (execW P E Y)) l e m n 0 0 := execW_eq ..
theorem w_regD (l : List AI) (bs : List Nat) : execW P E Y (.regD l bs) e m n = opsD P (callA E Y (execW P E Y)) l bs 0 [] e m n 0 0 := execW_eq ..
theorem w_seq (a b : AC) : execW P E Y (.seq a b) e m n = crRec (execW P E Y a e m n) (onNorm (execW P E Y b)) := execW_eq ..
theorem w_cond (x : Opd) (a b : AC) : execW P E Y (.cond x a b) e m n = onCond (execW P E Y a e m n) (execW P E Y b e m n) (ev e x) := execW_eq ..
theorem w_block (id : Nat) (sh : List (List Nat)) (b : AC) : execW P E Y (.block id sh b) e m n = crRec (execW P E Y b e m n) (onBlock id) := execW_eq ..
theorem w_loop (sh : List (List Nat)) (b : AC) : execW P E Y (.loop sh b) e m n = crRec (execW P E Y b e m n) (onNorm (execW P E Y (.loop sh b))) := execW_eq ..
theorem w_pre (sel : List Nat) (d : Nat) (c : AC) : execW P E Y (.pre sel d c) e m n = execW P E Y c (fixE sel d e) m n := execW_eq ..
theorem w_post (c : AC) (sel : List Nat) (d : Nat) : execW P E Y (.post c sel d) e m n = crRec (execW P E Y c e m n) (onPost sel d) := execW_eq ..
theorem w_exit (id : Nat) : execW P E Y (.exit id) e m n = .ok (.exit id) e m n 0 0 := execW_eq ..
theorem w_ret (rs : List ROp) : execW P E Y (.ret rs) e m n = onRet e m n (resA e m n rs) := execW_eq ..
end
end Go.Am
namespace Go.Am
open Go
section
variable {μ : Type} [AMem μ] {P : Program} {rec : Nat → List Value → μ → Nat → OR μ}
inductive OS (μ : Type) where
  | no
  | ok (e : List Value) (m : μ) (n r w : Nat)
noncomputable def keep (e : List Value) (r w : Nat) : OR μ → OS μ
  | .no => .no
  | .ok v m n r' w' => .ok (v :: e) m n (Nat.lor r r') (Nat.lor w w')
noncomputable def drop1 (e : List Value) (r w : Nat) : OR μ → OS μ
  | .no => .no
  | .ok _ m n r' w' => .ok e m n (Nat.lor r r') (Nat.lor w w')
noncomputable def stepS (P : Program) (rec : Nat → List Value → μ → Nat → OR μ) : OS μ → AI → OS μ
  | .no, _ => .no
  | .ok e m n r w, .nop _ => .ok e m n r w
  | .ok e m n r w, .op o => keep e r w (stepA P rec e m n o)
  | .ok e m n r w, .eff o => drop1 e r w (stepA P rec e m n o)
  | .ok e m n r w, .opg o gi gw => cond (wantB gw (lget e gi)) (keep e r w (stepA P rec e m n o)) (.ok (undef :: e) m n r w)
  | .ok e m n r w, .effg o gi gw => cond (wantB gw (lget e gi)) (drop1 e r w (stepA P rec e m n o)) (.ok e m n r w)
noncomputable def runS (P : Program) (rec : Nat → List Value → μ → Nat → OR μ) (l : List AI) (s : OS μ) : OS μ := l.foldl (stepS P rec) s
def outS : OS μ → CR μ
  | .no => .no
  | .ok e m n r w => .ok .norm e m n r w
theorem runS_no (l : List AI) : runS P rec l .no = .no := by
  induction l with
  | nil => rfl
  | cons i l ih => show runS P rec l (stepS P rec .no i) = _; cases i <;> exact ih
theorem ops_run : ∀ (l : List AI) (e : List Value) (m : μ) (n r w : Nat), opsA P rec l e m n r w = outS (runS P rec l (.ok e m n r w))
  | [], e, m, n, r, w => o_nil
  | i :: l, e, m, n, r, w => by
    have ih := ops_run l
    have hk : ∀ x : OR μ, orRec x (fun v m n r' w' => opsA P rec l (v :: e) m n (Nat.lor r r') (Nat.lor w w')) = outS (runS P rec l (keep e r w x)) := fun x => by
      cases x with
      | no => show CR.no = outS (runS P rec l .no); rw [runS_no]; rfl
      | ok v m1 n1 r1 w1 => exact ih _ m1 n1 _ _
    have hd : ∀ x : OR μ, orRec x (fun _ m n r' w' => opsA P rec l e m n (Nat.lor r r') (Nat.lor w w')) = outS (runS P rec l (drop1 e r w x)) := fun x => by
      cases x with
      | no => show CR.no = outS (runS P rec l .no); rw [runS_no]; rfl
      | ok v m1 n1 r1 w1 => exact ih _ m1 n1 _ _
    cases i with
    | nop i => exact ih e m n r w
    | op o => exact hk _
    | eff o => exact hd _
    | opg o gi gw =>
      show cond (wantB gw (lget e gi)) (orRec (stepA P rec e m n o) fun v m n r' w' => opsA P rec l (v :: e) m n (Nat.lor r r') (Nat.lor w w')) (opsA P rec l (undef :: e) m n r w) = outS (runS P rec l (cond (wantB gw (lget e gi)) (keep e r w (stepA P rec e m n o)) (.ok (undef :: e) m n r w)))
      cases wantB gw (lget e gi)
      · exact ih _ m n r w
      · exact hk _
    | effg o gi gw =>
      show cond (wantB gw (lget e gi)) (orRec (stepA P rec e m n o) fun _ m n r' w' => opsA P rec l e m n (Nat.lor r r') (Nat.lor w w')) (opsA P rec l e m n r w) = outS (runS P rec l (cond (wantB gw (lget e gi)) (drop1 e r w (stepA P rec e m n o)) (.ok e m n r w)))
      cases wantB gw (lget e gi)
      · exact ih e m n r w
      · exact hd _
theorem q_nil (s : OS μ) : runS P rec [] s = s := rfl
theorem q_cons (i : AI) (l : List AI) (s : OS μ) : runS P rec (i :: l) s = runS P rec l (stepS P rec s i) := rfl
theorem q_nop (e : List Value) (m : μ) (n r w i : Nat) : stepS P rec (.ok e m n r w) (.nop i) = .ok e m n r w := rfl
theorem q_op (e : List Value) (m : μ) (n r w : Nat) (o : AOp) : stepS P rec (.ok e m n r w) (.op o) = keep e r w (stepA P rec e m n o) := rfl
theorem q_eff (e : List Value) (m : μ) (n r w : Nat) (o : AOp) : stepS P rec (.ok e m n r w) (.eff o) = drop1 e r w (stepA P rec e m n o) := rfl
theorem q_opg (e : List Value) (m : μ) (n r w gi : Nat) (gw : Bool) (o : AOp) : stepS P rec (.ok e m n r w) (.opg o gi gw) = cond (wantB gw (lget e gi)) (keep e r w (stepA P rec e m n o)) (.ok (undef :: e) m n r w) := rfl
theorem q_effg (e : List Value) (m : μ) (n r w gi : Nat) (gw : Bool) (o : AOp) : stepS P rec (.ok e m n r w) (.effg o gi gw) = cond (wantB gw (lget e gi)) (drop1 e r w (stepA P rec e m n o)) (.ok e m n r w) := rfl
theorem keep_ok (e : List Value) (m : μ) (v : Value) (n r w r' w' : Nat) : keep e r w (.ok v m n r' w') = .ok (v :: e) m n (Nat.lor r r') (Nat.lor w w') := rfl
theorem drop1_ok (e : List Value) (m : μ) (v : Value) (n r w r' w' : Nat) : drop1 e r w (.ok v m n r' w') = .ok e m n (Nat.lor r r') (Nat.lor w w') := rfl
theorem out_ok (e : List Value) (m : μ) (n r w : Nat) : outS (.ok e m n r w) = .ok .norm e m n r w := rfl
end
section
variable {μ : Type} [AMem μ] {P : Program} {E : Nat → Option AFn} {Y : Nat → List Value → μ → Nat → OR μ} {e : List Value} {m : μ} {n : Nat}
noncomputable def callW (P : Program) (E : Nat → Option AFn) (Y : Nat → List Value → μ → Nat → OR μ) : Nat → List Value → μ → Nat → OR μ := callA E Y (execW P E Y)
theorem v_reg (l : List AI) : execW P E Y (.reg l) e m n = outS (runS P (callW P E Y) l (.ok e m n 0 0)) := by rw [w_reg, ops_run]; rfl
noncomputable def leaveC (fn : AFn) (m0 : μ) (n0 : Nat) : CR μ → OR μ
  | .no => .no
  | .ok X e m n r w => leaveX fn m0 n0 e m n r w X
theorem callW_fn {f : Nat} {fn : AFn} {args : List Value} (hE : E f = some fn) (ha : llen args = fn.na) : callW P E Y f args m n = leaveC fn m n (execW P E Y fn.code args m n) := by
  show Option.rec (motive := fun _ => OR μ) (Y f args m n) (callF (execW P E Y) args m n) (E f) = _
  rw [hE]
  show cond (Nat.beq (llen args) fn.na) (CR.rec (motive := fun _ => OR μ) .no (fun x e m' n' r w => leaveX fn m n e m' n' r w x) (execW P E Y fn.code args m n)) .no = _
  rw [ha, Nat.beq_refl]
  cases execW P E Y fn.code args m n <;> rfl
theorem callW_Y {f : Nat} {args : List Value} (hE : E f = none) : callW P E Y f args m n = Y f args m n := by
  show Option.rec (motive := fun _ => OR μ) (Y f args m n) (callF (execW P E Y) args m n) (E f) = _
  rw [hE]
theorem callW_some {f : Nat} {args : List Value} {v : Value} {m' : μ} {n' r w : Nat} (h : callW P E Y f args m n = .ok v m' n' r w) : ∃ k, callA E Y (exec P E Y k) f args m n = .ok v m' n' r w := by
  obtain ⟨k, hk⟩ := call_rch (P := P) f args m n v m' n' r w h
  exact ⟨k, hk k (Nat.le_refl _)⟩
theorem leave_ret {fn : AFn} {m0 : μ} {n0 : Nat} (e : List Value) (v : Value) (n r w : Nat) : leaveC fn m0 n0 (.ok (.ret v) e m n r w) = leaveA m0 n0 v m n r w := rfl
theorem leaveA_free {m0 : μ} {n0 : Nat} {v : Value} {n r w : Nat} (hv : addrFree v = true) (hw : Nat.mod w (bit n0) = 0) : leaveA m0 n0 v m n r w = .ok v m0 n0 (Nat.mod r (bit n0)) 0 := by
  unfold leaveA
  rw [hv, hw]
  show cond (true && Nat.beq 0 0) _ _ = _
  rw [forceN_eq]; rfl
theorem leaveA_keep {m0 : μ} {n0 : Nat} {v : Value} {n r w : Nat} (hv : addrFree v = false) : leaveA m0 n0 v m n r w = .ok v m n r w := by
  unfold leaveA
  rw [hv]; rfl
theorem mod_zero (n : Nat) : Nat.mod 0 (bit n) = 0 := Nat.zero_mod _
end
end Go.Am
namespace Go.Am
open Go
theorem wantB_undef (w : Bool) : wantB w undef = false := rfl
theorem natOf_zero (k : IntKind) : natOf (.int k 0) = some 0 := rfl
theorem natOf_one (k : IntKind) : natOf (.int k 1) = some 1 := rfl
theorem natOf_mk (k : IntKind) (i : Nat) : natOf (.int k (i : Int)) = some i := rfl
theorem obind_some (f : Nat → Option Value) (i : Nat) : obind f (some i) = f i := rfl
def Sl (m : FM) (n : Nat) (v : Value) (vs : List Value) : Prop :=
  (v = .slice none 0 0 ∧ vs = []) ∨ (∃ b o cap c opn wr, v = .slice (some ⟨b, o, none⟩) vs.length cap ∧ b < n ∧ m b = some (.cells c 1 opn wr) ∧ ∀ (i : Nat) x, vs[i]? = some x → c[o + i]? = some x) ∨
  (v = .slice (some ⟨0, 0, none⟩) 0 VAG ∧ vs = [] ∧ 0 < n)
theorem Sl.len {m : FM} {n : Nat} {v : Value} {vs : List Value} (h : Sl m n v vs) : lenV false v = some (.int .i64 (vs.length : Int)) := by
  rcases h with ⟨rfl, rfl⟩ | ⟨b, o, cap, c, opn, wr, rfl, _⟩ | ⟨rfl, rfl, _⟩ <;> rfl
theorem getb_lt {m : FM} {n b : Nat} (h : b < n) : getb m n b = m b := by
  show cond (Nat.blt b n) (m b) none = m b
  rw [show Nat.blt b n = true from Nat.ble_eq_true_of_le h]; rfl
theorem Sl.at {m : FM} {n : Nat} {v : Value} {vs : List Value} (h : Sl m n v vs) {i : Nat} {x : Value} (hx : vs[i]? = some x) : ∃ a b, idxV 1 i v = some (.pointer (some a)) ∧ ld1V m n (.pointer (some a)) = .ok x m n (bit b) 0 ∧ b < n := by
  rcases h with ⟨rfl, rfl⟩ | ⟨b, o, cap, c, opn, wr, rfl, hb, hm, hc⟩ | ⟨rfl, rfl, _⟩
  · simp at hx
  · have hi : i < vs.length := (List.getElem?_eq_some_iff.1 hx).1
    refine ⟨⟨b, o + i * 1, none⟩, b, ?_, ?_, hb⟩
    · show cond (Nat.blt i vs.length) _ none = _
      rw [show Nat.blt i vs.length = true from Nat.ble_eq_true_of_le hi]; rfl
    · show withCells (getb m n b) (fun c => valR m n b (cget c (o + i * 1))) = _
      rw [getb_lt hb, hm, Nat.mul_one]
      show valR m n b (cget c (o + i)) = _
      rw [cget_eq, hc i x hx]; rfl
  · simp at hx
def Ints (m : FM) (n : Nat) (v : Value) (xs : List Int) : Prop := Sl m n v (xs.map (Value.int .i64))
theorem Ints.len {m : FM} {n : Nat} {v : Value} {xs : List Int} (h : Ints m n v xs) : lenV false v = some (.int .i64 (xs.length : Int)) := by
  have := Sl.len h; rwa [List.length_map] at this
theorem Ints.at {m : FM} {n : Nat} {v : Value} {xs : List Int} (h : Ints m n v xs) {i : Nat} (hi : i < xs.length) : ∃ a b, idxV 1 i v = some (.pointer (some a)) ∧ ld1V m n (.pointer (some a)) = .ok (.int .i64 xs[i]) m n (bit b) 0 ∧ b < n :=
  Sl.at h (by rw [List.getElem?_map, List.getElem?_eq_getElem hi]; rfl)
theorem wrap_small {z : Int} (h : -9223372036854775808 ≤ z) (h' : z < 9223372036854775808) : IntKind.i64.wrap z = z := wrap_id_i64 h h'
end Go.Am
namespace Go.Am
open Go
def Gv (x : CR FM) (Q : AX → List Value → FM → Nat → Nat → Prop) : Prop :=
  match x with
  | .no => False
  | .ok X e m n _ w => Q X e m n w
theorem Gv.mono {x : CR FM} {Q Q' : AX → List Value → FM → Nat → Nat → Prop} (h : Gv x Q) (hq : ∀ X e m n w, Q X e m n w → Q' X e m n w) : Gv x Q' := by
  cases x with
  | no => exact h
  | ok X e m n r w => exact hq _ _ _ _ _ h
theorem Gv_add (r w : Nat) (x : CR FM) (Q : AX → List Value → FM → Nat → Nat → Prop) : Gv (addRW r w x) Q = Gv x (fun X e m n w' => Q X e m n (Nat.lor w w')) := by cases x <;> rfl
theorem Gv_some {x : CR FM} {Q : AX → List Value → FM → Nat → Nat → Prop} (h : Gv x Q) : ∃ X e m n r w, x = .ok X e m n r w ∧ Q X e m n w := by
  cases x with
  | no => exact h.elim
  | ok X e m n r w => exact ⟨X, e, m, n, r, w, rfl, h⟩
def Pure (x : OR FM) (m : FM) (n : Nat) (v : Value) : Prop := ∃ r, x = .ok v m n r 0
theorem pure_of {fn : AFn} {m0 : FM} {n0 : Nat} {x : CR FM} {v : Value} (hv : addrFree v = true) (h : Gv x fun X _ _ _ w => X = .ret v ∧ Nat.mod w (bit n0) = 0) : Pure (leaveC fn m0 n0 x) m0 n0 v := by
  obtain ⟨X, e, m, n, r, w, rfl, rfl, hw⟩ := Gv_some h
  rw [leave_ret]
  exact ⟨_, leaveA_free hv hw⟩
end Go.Am
namespace Go.Am.C07
open Go Go.Am
section
variable {P : Program} {E : Nat → Option AFn} {Y : Nat → List Value → FM → Nat → OR FM} {e : List Value} {m : FM} {n : Nat}
theorem ac16L0_w : execW P E Y ac16L0 e m n = crRec (execW P E Y ac16L0b e m n) (onNorm (execW P E Y ac16L0)) := w_loop _ _
theorem ac16L1_w : execW P E Y ac16L1 e m n = crRec (execW P E Y ac16L1b e m n) (onNorm (execW P E Y ac16L1)) := w_loop _ _
theorem ac16L2_w : execW P E Y ac16L2 e m n = crRec (execW P E Y ac16L2b e m n) (onNorm (execW P E Y ac16L2)) := w_loop _ _
theorem ac16L3_w : execW P E Y ac16L3 e m n = crRec (execW P E Y ac16L3b e m n) (onNorm (execW P E Y ac16L3)) := w_loop _ _
theorem ac16L4_w : execW P E Y ac16L4 e m n = crRec (execW P E Y ac16L4b e m n) (onNorm (execW P E Y ac16L4)) := w_loop _ _
theorem ac20L0_w : execW P E Y ac20L0 e m n = crRec (execW P E Y ac20L0b e m n) (onNorm (execW P E Y ac20L0)) := w_loop _ _
theorem ac26L0_w : execW P E Y ac26L0 e m n = crRec (execW P E Y ac26L0b e m n) (onNorm (execW P E Y ac26L0)) := w_loop _ _
theorem ac26L1_w : execW P E Y ac26L1 e m n = crRec (execW P E Y ac26L1b e m n) (onNorm (execW P E Y ac26L1)) := w_loop _ _
end
noncomputable abbrev PG : Program := Proofs.Try.prog
end Go.Am.C07
namespace Go.Am
open Go
section
variable {μ : Type} [AMem μ] {P : Program} {rec : Nat → List Value → μ → Nat → OR μ}
inductive OD (μ : Type) where
  | no
  | ok (k : Nat) (done : List (Nat × Nat × Nat)) (e : List Value) (m : μ) (n r w : Nat)
noncomputable def keepD (b : Nat) (keepV : Bool) (k : Nat) (done : List (Nat × Nat × Nat)) (e : List Value) (r w : Nat) : OR μ → OD μ
  | .no => .no
  | .ok v m n r' w' => cond (apart b r' w' done) (.ok (k + 1) ((k, r', w') :: done) (cond keepV (v :: e) e) m n (Nat.lor r r') (Nat.lor w w')) .no
noncomputable def stepX (P : Program) (rec : Nat → List Value → μ → Nat → OR μ) : OD μ → AI × Nat → OD μ
  | .no, _ => .no
  | .ok k done e m n r w, (.nop _, _) => .ok (k + 1) done e m n r w
  | .ok k done e m n r w, (.op o, b) => keepD b true k done e r w (stepD P rec e m n o)
  | .ok k done e m n r w, (.eff o, b) => keepD b false k done e r w (stepD P rec e m n o)
  | .ok k done e m n r w, (.opg o gi gw, b) => cond (wantB gw (lget e gi)) (keepD b true k done e r w (stepD P rec e m n o)) (.ok (k + 1) done (undef :: e) m n r w)
  | .ok k done e m n r w, (.effg o gi gw, b) => cond (wantB gw (lget e gi)) (keepD b false k done e r w (stepD P rec e m n o)) (.ok (k + 1) done e m n r w)
noncomputable def runX (P : Program) (rec : Nat → List Value → μ → Nat → OR μ) (l : List (AI × Nat)) (s : OD μ) : OD μ := l.foldl (stepX P rec) s
def outX : OD μ → CR μ
  | .no => .no
  | .ok _ _ e m n r w => .ok .norm e m n r w
def zipB : List AI → List Nat → List (AI × Nat)
  | [], _ => []
  | i :: l, bs => (i, bs.headD 0) :: zipB l bs.tail
theorem runX_no (l : List (AI × Nat)) : runX P rec l .no = .no := by
  induction l with
  | nil => rfl
  | cons i l ih => exact ih
theorem apart_sub {b r w : Nat} : ∀ {d d' : List (Nat × Nat × Nat)}, (∀ x ∈ d', x ∈ d) → apart b r w d = true → apart b r w d' = true := by
  intro d d' hs h
  have key : ∀ (l : List (Nat × Nat × Nat)), apart b r w l = l.all fun x => (Nat.testBit b x.1 || (Nat.beq (Nat.land w (Nat.lor x.2.1 x.2.2)) 0 && Nat.beq (Nat.land x.2.2 r) 0)) := by
    intro l
    induction l with
    | nil => rfl
    | cons x l ih => obtain ⟨i, r', w'⟩ := x; show (_ && apart b r w l) = _; rw [ih]; rfl
  rw [key, List.all_eq_true] at h
  rw [key, List.all_eq_true]
  exact fun x hx => h x (hs x hx)
theorem opsD_run : ∀ (l : List AI) (bs : List Nat) (k : Nat) (d d' : List (Nat × Nat × Nat)) (e : List Value) (m : μ) (n r w : Nat), (∀ x ∈ d', x ∈ d) → CLe (outX (runX P rec (zipB l bs) (.ok k d e m n r w))) (opsD P rec l bs k d' e m n r w)
  | [], bs, k, d, d', e, m, n, r, w, _ => by
    intro X e' m' n' r' w' h
    show doneA e m n r w = _
    rw [doneA, forceN_eq, forceN_eq]; exact h
  | i :: l, bs, k, d, d', e, m, n, r, w, hs => by
    have ih := opsD_run l bs.tail (k + 1)
    have hmem : ∀ (y : Nat × Nat × Nat), ∀ x ∈ (y :: d'), x ∈ (y :: d) := fun y x hx => by
      rcases List.mem_cons.1 hx with rfl | hx
      · exact List.mem_cons_self ..
      · exact List.mem_cons_of_mem _ (hs x hx)
    have hone : ∀ (o : AOp) (kv : Bool), CLe (outX (runX P rec (zipB l bs.tail) (keepD (bs.headD 0) kv k d e r w (stepD P rec e m n o))))
        (okD (bs.headD 0) k d' (stepD P rec e m n o) fun v m n r' w' done => opsD P rec l bs.tail (Nat.succ k) done (cond kv (v :: e) e) m n (Nat.lor r r') (Nat.lor w w')) := by
      intro o kv
      cases stepD P rec e m n o with
      | no => show CLe (outX (runX P rec (zipB l bs.tail) .no)) _; rw [runX_no]; exact CLe.no _
      | ok v m1 n1 r1 w1 =>
        show CLe (outX (runX P rec (zipB l bs.tail) (cond (apart (bs.headD 0) r1 w1 d) _ .no))) (forceN r1 fun r1 => forceN w1 fun w1 => cond (Nat.beq (Nat.lor r1 w1) 0) (opsD P rec l bs.tail (Nat.succ k) d' (cond kv (v :: e) e) m1 n1 (Nat.lor r r1) (Nat.lor w w1)) (cond (apart (bs.headD 0) r1 w1 d') (opsD P rec l bs.tail (Nat.succ k) ((k, r1, w1) :: d') (cond kv (v :: e) e) m1 n1 (Nat.lor r r1) (Nat.lor w w1)) .no))
        rw [forceN_eq, forceN_eq]
        cases ha : apart (bs.headD 0) r1 w1 d
        · rw [cond_false, runX_no]; exact CLe.no _
        · rw [apart_sub hs ha, cond_true, cond_true]
          cases Nat.beq (Nat.lor r1 w1) 0
          · exact ih _ _ _ _ _ _ _ (hmem _)
          · exact ih _ _ _ _ _ _ _ fun x hx => List.mem_cons_of_mem _ (hs x hx)
    cases i with
    | nop i => exact ih _ _ _ _ _ _ _ hs
    | op o => exact hone o true
    | eff o => exact hone o false
    | opg o gi gw =>
      show CLe (outX (runX P rec (zipB l bs.tail) (cond (wantB gw (lget e gi)) (keepD (bs.headD 0) true k d e r w (stepD P rec e m n o)) (.ok (k + 1) d (undef :: e) m n r w)))) (cond (wantB gw (lget e gi)) (okD (bs.headD 0) k d' (stepD P rec e m n o) fun v m n r' w' done => opsD P rec l bs.tail (Nat.succ k) done (v :: e) m n (Nat.lor r r') (Nat.lor w w')) (opsD P rec l bs.tail (Nat.succ k) d' (undef :: e) m n r w))
      cases wantB gw (lget e gi)
      · exact ih _ _ _ _ _ _ _ hs
      · exact hone o true
    | effg o gi gw =>
      show CLe (outX (runX P rec (zipB l bs.tail) (cond (wantB gw (lget e gi)) (keepD (bs.headD 0) false k d e r w (stepD P rec e m n o)) (.ok (k + 1) d e m n r w)))) (cond (wantB gw (lget e gi)) (okD (bs.headD 0) k d' (stepD P rec e m n o) fun _ m n r' w' done => opsD P rec l bs.tail (Nat.succ k) done e m n (Nat.lor r r') (Nat.lor w w')) (opsD P rec l bs.tail (Nat.succ k) d' e m n r w))
      cases wantB gw (lget e gi)
      · exact ih _ _ _ _ _ _ _ hs
      · exact hone o false
theorem z_nil (bs : List Nat) : zipB [] bs = [] := rfl
theorem z_cons (i : AI) (l : List AI) (b : Nat) (bs : List Nat) : zipB (i :: l) (b :: bs) = (i, b) :: zipB l bs := rfl
theorem y_nil (s : OD μ) : runX P rec [] s = s := rfl
theorem y_cons (i : AI × Nat) (l : List (AI × Nat)) (s : OD μ) : runX P rec (i :: l) s = runX P rec l (stepX P rec s i) := rfl
variable (k : Nat) (done : List (Nat × Nat × Nat)) (e : List Value) (m : μ) (n r w b : Nat)
theorem y_nop (i : Nat) : stepX P rec (.ok k done e m n r w) (.nop i, b) = .ok (k + 1) done e m n r w := rfl
theorem y_op (o : AOp) : stepX P rec (.ok k done e m n r w) (.op o, b) = keepD b true k done e r w (stepD P rec e m n o) := rfl
theorem y_eff (o : AOp) : stepX P rec (.ok k done e m n r w) (.eff o, b) = keepD b false k done e r w (stepD P rec e m n o) := rfl
theorem y_opg (o : AOp) (gi : Nat) (gw : Bool) : stepX P rec (.ok k done e m n r w) (.opg o gi gw, b) = cond (wantB gw (lget e gi)) (keepD b true k done e r w (stepD P rec e m n o)) (.ok (k + 1) done (undef :: e) m n r w) := rfl
theorem y_effg (o : AOp) (gi : Nat) (gw : Bool) : stepX P rec (.ok k done e m n r w) (.effg o gi gw, b) = cond (wantB gw (lget e gi)) (keepD b false k done e r w (stepD P rec e m n o)) (.ok (k + 1) done e m n r w) := rfl
theorem keepD_ok (kv : Bool) (v : Value) (r' w' : Nat) (h : apart b r' w' done = true) : keepD b kv k done e r w (.ok v m n r' w') = .ok (k + 1) ((k, r', w') :: done) (cond kv (v :: e) e) m n (Nat.lor r r') (Nat.lor w w') := by
  show cond (apart b r' w' done) (OD.ok (k + 1) ((k, r', w') :: done) (cond kv (v :: e) e) m n (Nat.lor r r') (Nat.lor w w')) OD.no = _
  rw [h]; rfl
theorem outX_ok : outX (.ok k done e m n r w) = .ok .norm e m n r w := rfl
theorem apart_nil (r w : Nat) : apart b r w [] = true := rfl
theorem apart_cons (r w i r' w' : Nat) (l : List (Nat × Nat × Nat)) : apart b r w ((i, r', w') :: l) = ((Nat.testBit b i || (Nat.beq (Nat.land w (Nat.lor r' w')) 0 && Nat.beq (Nat.land w' r) 0)) && apart b r w l) := rfl
theorem zero_land' (a : Nat) : Nat.land 0 a = 0 := Nat.zero_and a
theorem land_zero' (a : Nat) : Nat.land a 0 = 0 := Nat.and_zero a
theorem stepD_ok' {o : AOp} (h : belowOps n e o = true) : stepD P rec e m n o = stepA P rec e m n o := by unfold stepD; rw [h]; rfl
end
section
variable {P : Program} {E : Nat → Option AFn} {Y : Nat → List Value → FM → Nat → OR FM} {e : List Value} {m : FM} {n : Nat}
theorem v_regD {l : List AI} {bs : List Nat} {X : AX} {e' : List Value} {m' : FM} {n' r w : Nat} (h : outX (runX P (callW P E Y) (zipB l bs) (.ok 0 [] e m n 0 0)) = .ok X e' m' n' r w) : execW P E Y (.regD l bs) e m n = .ok X e' m' n' r w := by
  rw [w_regD]
  exact opsD_run l bs 0 [] [] e m n 0 0 (fun x hx => hx) _ _ _ _ _ _ h
end
theorem newb_fm (m : FM) (n : Nat) (B : Blk) (v : Nat → Value) : newb m n B v = .ok (v n) (AMem.put m n (some B)) (n + 1) 0 (bit n) := rfl
theorem ptrP_mk (n : Nat) : ptrP n = .pointer (some ⟨n, 0, none⟩) := rfl
theorem slcP_mk (o l c n : Nat) : slcP o l c n = .slice (some ⟨n, o, none⟩) l c := rfl
theorem cells_agg (l : List Value) : (Value.agg l.toArray).cells.toList = l := rfl
theorem fput_put (m : FM) (b : Nat) (x y : Option Blk) : AMem.put (AMem.put m b x) b y = AMem.put m b y := by
  funext j
  show (if j = b then y else if j = b then x else m j) = if j = b then y else m j
  by_cases h : j = b <;> simp [h]
theorem fput_same (m : FM) (b : Nat) (x : Option Blk) : (AMem.put m b x : FM) b = x := by show (if b = b then x else m b) = x; simp
theorem fput_ne (m : FM) (b j : Nat) (x : Option Blk) (h : j ≠ b) : (AMem.put m b x : FM) j = m j := by show (if j = b then x else m j) = m j; simp [h]
theorem Sl.frame {m m' : FM} {n n' : Nat} {v : Value} {vs : List Value} (h : Sl m n v vs) (hn : n ≤ n') (hf : ∀ b, b < n → m' b = m b) : Sl m' n' v vs := by
  rcases h with h | ⟨b, o, cap, c, opn, wr, h1, h2, h3, h4⟩ | ⟨h1, h2, h3⟩
  · exact .inl h
  · exact .inr <| .inl ⟨b, o, cap, c, opn, wr, h1, Nat.lt_of_lt_of_le h2 hn, by rw [hf b h2]; exact h3, h4⟩
  · exact .inr <| .inr ⟨h1, h2, by omega⟩
theorem Ints.frame {m m' : FM} {n n' : Nat} {v : Value} {xs : List Int} (h : Ints m n v xs) (hn : n ≤ n') (hf : ∀ b, b < n → m' b = m b) : Ints m' n' v xs := Sl.frame h hn hf
def Rows (m : FM) (n : Nat) (v : Value) (gs : List (List Int)) : Prop :=
  ∃ vs, Sl m n v vs ∧ vs.length = gs.length ∧ ∀ (i : Nat) x g, vs[i]? = some x → gs[i]? = some g → Ints m n x g
theorem Rows.frame {m m' : FM} {n n' : Nat} {v : Value} {gs : List (List Int)} (h : Rows m n v gs) (hn : n ≤ n') (hf : ∀ b, b < n → m' b = m b) : Rows m' n' v gs := by
  obtain ⟨vs, h1, h2, h3⟩ := h
  exact ⟨vs, h1.frame hn hf, h2, fun i x g hx hg => (h3 i x g hx hg).frame hn hf⟩
theorem Rows.len {m : FM} {n : Nat} {v : Value} {gs : List (List Int)} (h : Rows m n v gs) : lenV false v = some (.int .i64 (gs.length : Int)) := by
  obtain ⟨vs, h1, h2, _⟩ := h
  rw [h1.len, h2]
theorem Rows.at {m : FM} {n : Nat} {v : Value} {gs : List (List Int)} (h : Rows m n v gs) {i : Nat} (hi : i < gs.length) : ∃ a b x, idxV 1 i v = some (.pointer (some a)) ∧ ld1V m n (.pointer (some a)) = .ok x m n (bit b) 0 ∧ b < n ∧ Ints m n x gs[i] := by
  obtain ⟨vs, h1, h2, h3⟩ := h
  have hv : vs[i]? = some vs[i] := List.getElem?_eq_getElem (by omega)
  obtain ⟨a, b, k1, k2, k3⟩ := h1.at hv
  exact ⟨a, b, _, k1, k2, k3, h3 i _ _ hv (List.getElem?_eq_getElem hi)⟩
theorem ld1_at {m : FM} {n b o : Nat} {c : List Value} {sz : Nat} {opn wr : Bool} {x : Value} (hb : b < n) (hm : m b = some (.cells c sz opn wr)) (hx : c[o]? = some x) : ld1V m n (.pointer (some ⟨b, o, none⟩)) = .ok x m n (bit b) 0 := by
  show withCells (getb m n b) (fun c => valR m n b (cget c o)) = _
  rw [getb_lt hb, hm]
  show valR m n b (cget c o) = _
  rw [cget_eq, hx]; rfl
theorem ldn_at {m : FM} {n b o k : Nat} {c l : List Value} {sz : Nat} {opn wr : Bool} (hb : b < n) (hm : m b = some (.cells c sz opn wr)) (hx : cellsAt c o k = some l) : ldnV k m n (.pointer (some ⟨b, o, none⟩)) = .ok (.agg l.toArray) m n (bit b) 0 := by
  show withCells (getb m n b) (fun c => valR m n b (aggO (cellsAt c o k))) = _
  rw [getb_lt hb, hm]
  show valR m n b (aggO (cellsAt c o k)) = _
  rw [hx]; rfl
theorem st1_at {m : FM} {n b o : Nat} {c : List Value} {sz : Nat} {opn : Bool} {x : Value} (hb : b < n) (hm : m b = some (.cells c sz opn true)) (ho : o < c.length) (h1 : one x = true) : stV 1 [x] m n (.pointer (some ⟨b, o, none⟩)) = .ok undef (AMem.put m b (some (.cells (c.set o x) sz opn true))) n (bit b) (bit b) := by
  show cond (Nat.beq (llen [x]) 1 && [x].all one) (stC m n b o [x] (getb m n b)) .no = _
  have h2 : (Nat.beq (llen [x]) 1 && [x].all one) = true := by simp [llen_eq, h1]
  rw [h2, getb_lt hb, hm]
  show putC m n b sz opn undef (bit b) (setCells c o [x]) = _
  rw [setCells_eq, if_pos (by simp; omega)]
  show OR.ok undef _ n (bit b) (bit b) = _
  congr 1
  congr 2
  rw [List.set_eq_take_append_cons_drop, if_pos ho]
  simp
theorem mod_bit_ge {n k : Nat} (h : n ≤ k) : Nat.mod (bit k) (bit n) = 0 := by
  rw [bit_pow, bit_pow]
  exact Nat.mod_eq_zero_of_dvd (Nat.pow_dvd_pow 2 h)
theorem mod_lor' {a b n : Nat} (ha : Nat.mod a (bit n) = 0) (hb : Nat.mod b (bit n) = 0) : Nat.mod (Nat.lor a b) (bit n) = 0 := by
  apply Nat.eq_of_testBit_eq
  intro i
  rw [mod_test, lor_test, Nat.zero_testBit]
  by_cases hi : i < n
  · rw [mod_bit ha i hi, mod_bit hb i hi]; simp
  · simp [hi]
end Go.Am
namespace Go.Am
open Go
def rOf : CR FM → Nat
  | .no => 0
  | .ok _ _ _ _ r _ => r
def eOf : CR FM → List Value
  | .no => []
  | .ok _ e _ _ _ _ => e
theorem gv_norm {x : CR FM} {X : AX} {e : List Value} {m : FM} {n w : Nat} (h : Gv x fun X' e' m' n' w' => X' = X ∧ e' = e ∧ m' = m ∧ n' = n ∧ w' = w) : x = .ok X e m n (rOf x) w := by
  obtain ⟨X', e', m', n', r, w', rfl, rfl, rfl, rfl, rfl, rfl⟩ := Gv_some h
  rfl
theorem gv_ret {x : CR FM} {X : AX} {m : FM} {n w : Nat} (h : Gv x fun X' _ m' n' w' => X' = X ∧ m' = m ∧ n' = n ∧ w' = w) : x = .ok X (eOf x) m n (rOf x) w := by
  obtain ⟨X', e', m', n', r, w', rfl, rfl, rfl, rfl, rfl⟩ := Gv_some h
  rfl
theorem named_r (f : List Value → CR FM) : ∃ (rf : List Value → Nat) (ef : List Value → List Value), ∀ l, rf l = rOf (f l) ∧ ef l = eOf (f l) := ⟨fun l => rOf (f l), fun l => eOf (f l), fun _ => ⟨rfl, rfl⟩⟩
end Go.Am
namespace Go.Am
open Go
def isOkC : CR FM → Bool
  | .no => false
  | .ok .. => true
theorem isOkC_ok (X : AX) (e : List Value) (m : FM) (n r w : Nat) : isOkC (.ok X e m n r w) = true := rfl
section
variable {P : Program} {E : Nat → Option AFn} {Y : Nat → List Value → FM → Nat → OR FM} {e : List Value} {m : FM} {n : Nat}
theorem u_regD {l : List AI} {bs : List Nat} (h : isOkC (outX (runX P (callW P E Y) (zipB l bs) (.ok 0 [] e m n 0 0))) = true) : execW P E Y (.regD l bs) e m n = outX (runX P (callW P E Y) (zipB l bs) (.ok 0 [] e m n 0 0)) := by
  cases hx : outX (runX P (callW P E Y) (zipB l bs) (.ok 0 [] e m n 0 0)) with
  | no => rw [hx] at h; cases h
  | ok X e' m' n' r w => exact v_regD hx
end
theorem below_all (n : Nat) (e : List Value) (o : AOp) : belowOps n e o = (opds o).all fun x => belowV n (ev e x) := rfl
theorem belowV_int (n : Nat) (k : IntKind) (z : Int) : belowV n (.int k z) = true := rfl
theorem belowV_bool (n : Nat) (b : Bool) : belowV n (.bool b) = true := rfl
theorem belowV_ptr (n b o : Nat) : belowV n (.pointer (some ⟨b, o, none⟩)) = Nat.blt b n := rfl
theorem belowV_nils (n : Nat) : belowV n (.slice none 0 0) = true := rfl
theorem blt_true {a b : Nat} (h : a < b) : Nat.blt a b = true := Nat.ble_eq_true_of_le h
theorem Sl.below {m : FM} {n : Nat} {v : Value} {vs : List Value} (h : Sl m n v vs) : belowV n v = true := by
  rcases h with ⟨rfl, _⟩ | ⟨b, o, cap, c, opn, wr, rfl, hb, _⟩ | ⟨rfl, _, hb⟩
  · rfl
  · exact blt_true hb
  · exact blt_true hb
theorem ida_ok {k sz i b o : Nat} (h : i < k) : idaV k sz i (.pointer (some ⟨b, o, none⟩)) = some (.pointer (some ⟨b, o + i * sz, none⟩)) := by
  show cond (Nat.blt i k) _ none = _
  rw [blt_true h]; rfl
theorem cells_int (k : IntKind) (z : Int) : (Value.int k z).cells.toList = [.int k z] := rfl
end Go.Am
namespace Go.Am
open Go
theorem ld1_frame {m m' : FM} {n n' : Nat} {a : Addr} {x : Value} {b : Nat} (h : ld1V m n (.pointer (some a)) = .ok x m n (bit b) 0) (hb : b < n) (hn : n ≤ n') (hf : ∀ b, b < n → m' b = m b) : ld1V m' n' (.pointer (some a)) = .ok x m' n' (bit b) 0 := by
  obtain ⟨bl, o, sp⟩ := a
  cases sp with
  | some s => cases h
  | none =>
    replace h : withCells (getb m n bl) (fun c => valR m n bl (cget c o)) = _ := h
    by_cases hbl : bl < n
    · rw [getb_lt hbl] at h
      show withCells (getb m' n' bl) (fun c => valR m' n' bl (cget c o)) = _
      rw [getb_lt (Nat.lt_of_lt_of_le hbl hn), hf bl hbl]
      cases hm : m bl with
      | none => rw [hm] at h; cases h
      | some B =>
        rcases B with ⟨c, sz, opn, wr⟩ | es
        rotate_left
        · rw [hm] at h; cases h
        rw [hm] at h
        replace h : valR m n bl (cget c o) = _ := h
        show valR m' n' bl (cget c o) = _
        cases hc : cget c o with
        | none => rw [hc] at h; cases h
        | some y =>
          rw [hc] at h
          injection h with h1 h2 h3 h4 h5
          show OR.ok y m' n' (bit bl) 0 = _
          rw [h1, h4]
    · have : getb m n bl = none := by
        show cond (Nat.blt bl n) (m bl) none = none
        cases hc : Nat.blt bl n
        · rfl
        · exact absurd (Nat.le_of_ble_eq_true hc) hbl
      rw [this] at h; cases h
theorem Rows.at2 {m : FM} {n : Nat} {v : Value} {gs : List (List Int)} (h : Rows m n v gs) {i : Nat} (hi : i < gs.length) {m' : FM} {n' : Nat} (hn : n ≤ n') (hf : ∀ b, b < n → m' b = m b) : ∃ a b x, idxV 1 i v = some (.pointer (some a)) ∧ ld1V m' n' (.pointer (some a)) = .ok x m' n' (bit b) 0 ∧ Ints m n x gs[i] := by
  obtain ⟨a, b, x, h1, h2, h3, h4⟩ := h.at hi
  exact ⟨a, b, x, h1, ld1_frame h2 h3 hn hf, h4⟩
end Go.Am
namespace Go.Am
open Go
theorem belowV_undef (n : Nat) : belowV n undef = true := rfl
theorem belowV_addr (n : Nat) (a : Addr) : belowV n (.pointer (some a)) = Nat.blt a.block n := rfl
theorem ld1_below {m : FM} {n : Nat} {v : Value} {gs : List (List Int)} (h : Rows m n v gs) : belowV n v = true := by
  obtain ⟨vs, h1, _⟩ := h
  exact h1.below
end Go.Am
