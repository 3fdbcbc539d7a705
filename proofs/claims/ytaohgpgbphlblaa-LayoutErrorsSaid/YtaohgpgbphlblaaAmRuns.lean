/- Runs of codes, part by part. -/
import Derived.Test.YtaohgpgbphlblaaAmMemo3
set_option linter.unusedVariables false
set_option linter.unusedSimpArgs false
set_option linter.unusedSectionVars false
namespace Go.Am.V
open Go Go.Am Go.Am.Fast Go.RowKit

def Runs (P : Program) (tab : List (Nat × AFn)) (Y : Nat → List Value → FM → Nat → OR FM) (c : AC) (e : List Value) (m : FM) (n : Nat) (X : AX) (e' : List Value) (m' : FM) (n' : Nat) : Prop :=
  ∃ k r w, exec P (look tab) Y k c e m n = .ok X e' m' n' r w
section
variable {P : Program} {tab : List (Nat × AFn)} {Y : Nat → List Value → FM → Nat → OR FM} {Yf : FCal}
theorem Runs.of {c : AC} {e : List Value} {m : FM} {n : Nat} {X : AX} {e' : List Value} {m' : FM} {n' k r w : Nat} (h : exec P (look tab) Y k c e m n = .ok X e' m' n' r w) : Runs P tab Y c e m n X e' m' n' := ⟨k, r, w, h⟩
theorem Runs.seq {a b : AC} {e e1 e2 : List Value} {m m1 m2 : FM} {n n1 n2 : Nat} {X : AX} (h : Runs P tab Y a e m n .norm e1 m1 n1) (k : Runs P tab Y b e1 m1 n1 X e2 m2 n2) : Runs P tab Y (.seq a b) e m n X e2 m2 n2 := by
  obtain ⟨k1, r1, w1, h1⟩ := h
  obtain ⟨k2, r2, w2, h2⟩ := k
  have h1' := exec_mono (Nat.le_max_left k1 k2) a e m n _ _ _ _ _ _ h1
  have h2' := exec_mono (Nat.le_max_right k1 k2) b e1 m1 n1 _ _ _ _ _ _ h2
  refine ⟨max k1 k2 + 1, Nat.lor r1 r2, Nat.lor w1 w2, ?_⟩
  show crRec (exec P (look tab) Y (max k1 k2) a e m n) (onNorm (exec P (look tab) Y (max k1 k2) b)) = _
  rw [h1', crRec_mk, onNorm_norm, h2', addRW_mk]
/-- a function whose code returns true -/
theorem Runs.call {f : Nat} {fn : AFn} {args : List Value} {m m' : FM} {n n' : Nat} {e' : List Value} (hf : look tab f = some fn) (ha : Nat.beq (llen args) fn.na = true) (h : Runs P tab Y fn.code args m n (.ret (.bool true)) e' m' n') :
    ∃ k m2 n2 r w, callA (look tab) Y (exec P (look tab) Y k) f args m n = .ok (.bool true) m2 n2 r w := by
  obtain ⟨k, r, w, h⟩ := h
  have : callA (look tab) Y (exec P (look tab) Y k) f args m n = leaveA m n (.bool true) m' n' r w := by
    show Option.rec (motive := fun _ => OR FM) (Y f args m n) (callF (exec P (look tab) Y k) args m n) (look tab f) = _
    rw [hf]
    show cond (Nat.beq (llen args) fn.na) (CR.rec (motive := fun _ => OR FM) .no (fun x e m' n' r w => leaveX fn m n e m' n' r w x) (exec P (look tab) Y k fn.code args m n)) .no = _
    rw [ha, h]; rfl
  refine ⟨k, ?_⟩
  rw [this]
  unfold leaveA
  cases (addrFree (.bool true) && Nat.beq (Nat.mod w (bit n)) 0)
  · exact ⟨_, _, _, _, rfl⟩
  · rw [cond_true, forceN_eq]; exact ⟨_, _, _, _, rfl⟩
noncomputable def retT (x : FC) : Bool := FC.rec (motive := fun _ => Bool) false (fun X _ _ _ _ _ => FAX.rec (motive := fun _ => Bool) false (fun _ => false) (fun v => onB v true false false) X) x
theorem Env.rest (h : Env P tab Y Yf) {K d : Nat} {c : AC} {fe : List FV} {fm : FTr} {n : Nat} (hrun : retT (fexecK P (fcalD P (lookT (treeOf tab)) Yf K d) K c fe fm n) = true) : ∃ e' m' n', Runs P tab Y c (fe.map toV) (absM fm n) n (.ret (.bool true)) e' m' n' := by
  have hs := fexecK_sim (P := P) (fcalD_sim (P := P) (E := look tab) h.fast K d) K c fe fm n
  rw [lookT_look h.small] at hrun
  cases hx : fexecK P (fcalD P (look tab) Yf K d) K c fe fm n with
  | no => rw [hx] at hrun; cases hrun
  | ok X e m n' r w =>
    rw [hx] at hs hrun
    cases X with
    | ret v =>
      have hv : toV v = .bool true := by
        replace hrun : onB v true false false = true := hrun
        cases v with
        | b t => cases t <;> first | rfl | cases hrun
        | _ => cases hrun
      replace hs : execK P (calD P (look tab) Y K d) K c (fe.map toV) (absM fm n) n = .ok (.ret (toV v)) (e.map toV) (absM m n') n' r w := hs
      rw [hv] at hs
      exact ⟨_, _, _, d * K + K, r, w, execK_le (calD_le h.apart K d) K c (fe.map toV) (absM fm n) n _ _ _ _ _ _ hs⟩
    | norm => cases hrun
    | exit i => cases hrun
/-- p holds of the numbers below n -/
noncomputable def allLt (n : Nat) (p : Nat → Bool) : Bool := Nat.rec (motive := fun _ => Bool) true (fun k ih => Bool.rec (motive := fun _ => Bool) false ih (p k)) n
theorem allLt_get {n : Nat} {p : Nat → Bool} (h : allLt n p = true) : ∀ k, k < n → p k = true := by
  induction n with
  | zero => intro k hk; omega
  | succ n ih =>
    replace h : Bool.rec (motive := fun _ => Bool) false (allLt n p) (p n) = true := h
    cases hp : p n
    · rw [hp] at h; cases h
    · rw [hp] at h
      intro k hk
      by_cases e : k = n
      · rw [e, hp]
      · exact ih h k (by omega)
/-- contracts that the fast machine does not use -/
theorem calSim_alt {a b : Nat → List Value → FM → Nat → OR FM} {Yf : FCal} (h : CalSim Yf a) : CalSim Yf (altA a b) := by
  intro f args m n
  have h1 := h f args m n
  cases hc : Yf f args m n with
  | no => trivial
  | pv v => rw [hc] at h1; replace h1 : a f _ _ _ = _ := h1; show altA a b f _ _ _ = _; unfold altA; rw [h1]
  | rd v q => rw [hc] at h1; replace h1 : a f _ _ _ = _ := h1; show altA a b f _ _ _ = _; unfold altA; rw [h1]
  | ok v m' n' r w => rw [hc] at h1; replace h1 : a f _ _ _ = _ := h1; show altA a b f _ _ _ = _; unfold altA; rw [h1]
end
end Go.Am.V
