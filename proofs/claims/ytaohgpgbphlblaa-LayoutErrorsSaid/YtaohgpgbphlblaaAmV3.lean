/- The fast form of the abstract machine: regions, codes, calls. -/
import Derived.Test.YtaohgpgbphlblaaAmV2
set_option linter.unusedVariables false
set_option linter.unusedSimpArgs false
set_option linter.unusedSectionVars false
namespace Go.Am.V
open Go Go.Am Go.Am.Fast

inductive FAX where
  | norm
  | exit (id : Nat)
  | ret (v : FV)
inductive FC where
  | no
  | ok (x : FAX) (e : List FV) (m : FTr) (n r w : Nat)
noncomputable def toX (x : FAX) : AX := FAX.rec (motive := fun _ => AX) .norm (fun i => .exit i) (fun v => .ret (toV v)) x
def CSim (x : FC) (y : CR FM) : Prop :=
  match x with
  | .no => True
  | .ok X e m n r w => y = .ok (toX X) (e.map toV) (absM m n) n r w
theorem csim_no {y : CR FM} : CSim .no y := trivial

/-! ### regions -/
abbrev FT0 := FCal → List FV → FTr → Nat → Nat → Nat → FC
inductive FT where
  | mk (f : FT0)
noncomputable def FT.run (s : FT) : FT0 := FT.rec (motive := fun _ => FT0) (fun f => f) s
noncomputable def orn (r : Nat) (b : Nat) (k : Nat → FC) : FC := fN k (Nat.lor r b)
noncomputable def kOk (ih : FT) (cal : FCal) (e : List FV) (r w : Nat) (m : FTr) (n r' w' : Nat) : FC := fN (fun r => fN (fun w => fN (fun n => ih.run cal e m n r w) n) (Nat.lor w w')) (Nat.lor r r')
noncomputable def stepK (keep : Bool) (ih : FT) (cal : FCal) (e : List FV) (m : FTr) (n r w : Nat) (x : FR) : FC :=
  FR.rec (motive := fun _ => FC) .no
    (fun v => ih.run cal (Bool.rec (motive := fun _ => List FV) e (v :: e) keep) m n r w)
    (fun v b => fN (fun r => fF (fun v => ih.run cal (Bool.rec (motive := fun _ => List FV) e (v :: e) keep) m n r w) v) (Nat.lor r (bit b)))
    (fun v m' n' r' w' => kOk ih cal (Bool.rec (motive := fun _ => List FV) e (v :: e) keep) r w m' n' r' w') x
/-- the same, a value kept · none kept -/
noncomputable def stepT (ih : FT) (cal : FCal) (e : List FV) (m : FTr) (n r w : Nat) (x : FR) : FC :=
  FR.rec (motive := fun _ => FC) .no (fun v => ih.run cal (v :: e) m n r w) (fun v b => fN (fun r => fF (fun v => ih.run cal (v :: e) m n r w) v) (Nat.lor r (bit b))) (fun v m' n' r' w' => kOk ih cal (v :: e) r w m' n' r' w') x
noncomputable def stepE (ih : FT) (cal : FCal) (e : List FV) (m : FTr) (n r w : Nat) (x : FR) : FC :=
  FR.rec (motive := fun _ => FC) .no (fun _ => ih.run cal e m n r w) (fun _ b => fN (fun r => ih.run cal e m n r w) (Nat.lor r (bit b))) (fun _ m' n' r' w' => kOk ih cal e r w m' n' r' w') x
section
variable (P : Program)
noncomputable def want (gw : Bool) (v : FV) (a b : FC) : FC :=
  FV.rec (motive := fun _ => Bool → FC → FC → FC) (fun _ _ _ b => b) (fun t gw a b => Bool.rec (motive := fun _ => FC) (Bool.rec (motive := fun _ => FC) a b gw) (Bool.rec (motive := fun _ => FC) b a gw) t) (fun _ _ _ _ b => b) (fun _ _ _ _ _ _ b => b) (fun v _ _ b => onBool v .no .no b) v gw a b
noncomputable def tOp (o : AOp) (ih : FT) : FT := .mk fun cal e m n r w => stepT ih cal e m n r w ((cOp P o).run cal e m n)
noncomputable def tEff (o : AOp) (ih : FT) : FT := .mk fun cal e m n r w => stepE ih cal e m n r w ((cOp P o).run cal e m n)
noncomputable def tOpg (o : AOp) (gi : Nat) (gw : Bool) (ih : FT) : FT := .mk fun cal e m n r w => want gw (gl e gi) (stepT ih cal e m n r w ((cOp P o).run cal e m n)) (ih.run cal (.o undef :: e) m n r w)
noncomputable def tEffg (o : AOp) (gi : Nat) (gw : Bool) (ih : FT) : FT := .mk fun cal e m n r w => want gw (gl e gi) (stepE ih cal e m n r w ((cOp P o).run cal e m n)) (ih.run cal e m n r w)
noncomputable def cOps (l : List AI) : FT :=
  List.rec (motive := fun _ => FT) (.mk fun _ e m n r w => .ok .norm e m n r w)
    (fun i _ ih => AI.rec (motive := fun _ => Program → FT → FT) (fun _ _ ih => ih) (fun o P ih => tOp P o ih) (fun o gi gw P ih => tOpg P o gi gw ih) (fun o P ih => tEff P o ih) (fun o gi gw P ih => tEffg P o gi gw ih) i P ih) l
end
section
variable {P : Program} {cal : FCal} {calA : Nat → List Value → FM → Nat → OR FM}
theorem stepT_sim {ih : FT} {l : List AI} (hih : ∀ e m n r w, CSim (ih.run cal e m n r w) (opsA P calA l (e.map toV) (absM m n) n r w)) {e : List FV} {m : FTr} {n r w : Nat} {x : FR} {y : OR FM} (h : FSim m n x y) :
    CSim (stepT ih cal e m n r w x) (orRec y fun v m n r' w' => opsA P calA l (v :: e.map toV) m n (Nat.lor r r') (Nat.lor w w')) := by
  cases x with
  | no => trivial
  | pv v =>
    replace h : y = _ := h
    subst h
    show CSim (ih.run cal (v :: e) m n r w) (opsA P calA l (toV v :: e.map toV) (absM m n) n (Nat.lor r 0) (Nat.lor w 0))
    rw [lor_zero', lor_zero']
    exact hih (v :: e) m n r w
  | rd v b =>
    replace h : y = _ := h
    subst h
    show CSim (fN (fun r => fF (fun v => ih.run cal (v :: e) m n r w) v) (Nat.lor r (bit b))) (opsA P calA l (toV v :: e.map toV) (absM m n) n (Nat.lor r (bit b)) (Nat.lor w 0))
    rw [fN_eq, fF_eq, lor_zero']
    exact hih (v :: e) m n _ w
  | ok v m' n' r' w' =>
    replace h : y = _ := h
    subst h
    show CSim (fN (fun r => fN (fun w => fN (fun n => ih.run cal (v :: e) m' n r w) n') (Nat.lor w w')) (Nat.lor r r')) (opsA P calA l (toV v :: e.map toV) (absM m' n') n' (Nat.lor r r') (Nat.lor w w'))
    rw [fN_eq, fN_eq, fN_eq]
    exact hih (v :: e) m' n' _ _
theorem stepE_sim {ih : FT} {l : List AI} (hih : ∀ e m n r w, CSim (ih.run cal e m n r w) (opsA P calA l (e.map toV) (absM m n) n r w)) {e : List FV} {m : FTr} {n r w : Nat} {x : FR} {y : OR FM} (h : FSim m n x y) :
    CSim (stepE ih cal e m n r w x) (orRec y fun _ m n r' w' => opsA P calA l (e.map toV) m n (Nat.lor r r') (Nat.lor w w')) := by
  cases x with
  | no => trivial
  | pv v =>
    replace h : y = _ := h
    subst h
    show CSim (ih.run cal e m n r w) (opsA P calA l (e.map toV) (absM m n) n (Nat.lor r 0) (Nat.lor w 0))
    rw [lor_zero', lor_zero']
    exact hih e m n r w
  | rd v b =>
    replace h : y = _ := h
    subst h
    show CSim (fN (fun r => ih.run cal e m n r w) (Nat.lor r (bit b))) (opsA P calA l (e.map toV) (absM m n) n (Nat.lor r (bit b)) (Nat.lor w 0))
    rw [fN_eq, lor_zero']
    exact hih e m n _ w
  | ok v m' n' r' w' =>
    replace h : y = _ := h
    subst h
    show CSim (fN (fun r => fN (fun w => fN (fun n => ih.run cal e m' n r w) n') (Nat.lor w w')) (Nat.lor r r')) (opsA P calA l (e.map toV) (absM m' n') n' (Nat.lor r r') (Nat.lor w w'))
    rw [fN_eq, fN_eq, fN_eq]
    exact hih e m' n' _ _
theorem want_sim {gw : Bool} {v : FV} {v' : Value} (hv : toV v = v') {a b : FC} {a' b' : CR FM} (ha : CSim a a') (hb : CSim b b') : CSim (want gw v a b) (cond (wantB gw v') a' b') := by
  subst hv
  cases v with
  | b t => cases gw <;> cases t <;> first | exact ha | exact hb
  | i z => exact hb
  | p z o => exact hb
  | s b o l c => exact hb
  | o v =>
    cases v
    case bool t => cases t <;> trivial
    all_goals exact hb
theorem cOps_sim (hcal : CalSim cal calA) : ∀ (l : List AI) (e : List FV) (m : FTr) (n r w : Nat), CSim ((cOps P l).run cal e m n r w) (opsA P calA l (e.map toV) (absM m n) n r w)
  | [], e, m, n, r, w => by show doneA (e.map toV) (absM m n) n r w = _; rw [doneA, forceN_eq, forceN_eq]; rfl
  | i :: l, e, m, n, r, w => by
    have ih := cOps_sim hcal l
    cases i with
    | nop i => exact ih e m n r w
    | op o => exact stepT_sim ih (cOp_sim hcal e m n o)
    | eff o => exact stepE_sim ih (cOp_sim hcal e m n o)
    | opg o gi gw =>
      have h2 : CSim ((cOps P l).run cal (.o undef :: e) m n r w) (opsA P calA l (undef :: e.map toV) (absM m n) n r w) := ih (.o undef :: e) m n r w
      exact want_sim (gl_eq e gi) (stepT_sim ih (cOp_sim hcal e m n o)) h2
    | effg o gi gw => exact want_sim (gl_eq e gi) (stepE_sim ih (cOp_sim hcal e m n o)) (ih e m n r w)
end

/-! ### drawn regions -/
section
variable (P : Program)
noncomputable def belowFV (n : Nat) (v : FV) : Bool := FV.rec (motive := fun _ => Bool) (fun _ => true) (fun _ => true) (fun b _ => Nat.blt b n) (fun b _ _ _ => Nat.blt b n) (fun v => belowV n v) v
theorem belowFV_eq (n : Nat) (v : FV) : belowFV n v = belowV n (toV v) := by cases v <;> rfl
noncomputable def belowOpsF (n : Nat) (e : List FV) (o : AOp) : Bool := (opds o).all fun x => belowFV n (gv e x)
theorem belowOpsF_eq (n : Nat) (e : List FV) (o : AOp) : belowOpsF n e o = belowOps n (e.map toV) o := by
  unfold belowOpsF belowOps
  congr 1
  funext x
  rw [belowFV_eq, gv_eq]
noncomputable def stepDF (cal : FCal) (e : List FV) (m : FTr) (n : Nat) (o : AOp) : FR := Bool.rec (motive := fun _ => FR) .no ((cOp P o).run cal e m n) (belowOpsF n e o)
noncomputable def okF (bef k : Nat) (done : List (Nat × Nat × Nat)) (m : FTr) (n : Nat) (x : FR) (f : FV → FTr → Nat → Nat → Nat → List (Nat × Nat × Nat) → FC) : FC :=
  FR.rec (motive := fun _ => FC) .no (fun v => f v m n 0 0 done)
    (fun v b => fN (fun r => Bool.rec (motive := fun _ => FC) (Bool.rec (motive := fun _ => FC) .no (fF (fun v => f v m n r 0 ((k, r, 0) :: done)) v) (apart bef r 0 done)) (f v m n r 0 done) (Nat.beq (Nat.lor r 0) 0)) (bit b))
    (fun v m n r w => fN (fun r => fN (fun w => fN (fun n => Bool.rec (motive := fun _ => FC) (Bool.rec (motive := fun _ => FC) .no (f v m n r w ((k, r, w) :: done)) (apart bef r w done)) (f v m n r w done) (Nat.beq (Nat.lor r w) 0)) n) w) r) x
noncomputable def opsDF (l : List AI) (cal : FCal) : List Nat → Nat → List (Nat × Nat × Nat) → List FV → FTr → Nat → Nat → Nat → FC :=
  List.rec (motive := fun _ => List Nat → Nat → List (Nat × Nat × Nat) → List FV → FTr → Nat → Nat → Nat → FC) (fun _ _ _ e m n r w => .ok .norm e m n r w)
    (fun i _ ih bs k done e m n r w => AI.rec (motive := fun _ => FC)
      (fun _ => ih bs.tail (Nat.succ k) done e m n r w)
      (fun o => okF (bs.headD 0) k done m n (stepDF P cal e m n o) fun v m n r' w' done => fN (fun r => fN (fun w => ih bs.tail (Nat.succ k) done (v :: e) m n r w) (Nat.lor w w')) (Nat.lor r r'))
      (fun o gi gw => want gw (gl e gi) (okF (bs.headD 0) k done m n (stepDF P cal e m n o) fun v m n r' w' done => fN (fun r => fN (fun w => ih bs.tail (Nat.succ k) done (v :: e) m n r w) (Nat.lor w w')) (Nat.lor r r')) (ih bs.tail (Nat.succ k) done (.o undef :: e) m n r w))
      (fun o => okF (bs.headD 0) k done m n (stepDF P cal e m n o) fun _ m n r' w' done => fN (fun r => fN (fun w => ih bs.tail (Nat.succ k) done e m n r w) (Nat.lor w w')) (Nat.lor r r'))
      (fun o gi gw => want gw (gl e gi) (okF (bs.headD 0) k done m n (stepDF P cal e m n o) fun _ m n r' w' done => fN (fun r => fN (fun w => ih bs.tail (Nat.succ k) done e m n r w) (Nat.lor w w')) (Nat.lor r r')) (ih bs.tail (Nat.succ k) done e m n r w))
      i) l
end
section
variable {P : Program} {cal : FCal} {calA : Nat → List Value → FM → Nat → OR FM}
theorem okF_sim {bef k : Nat} {done : List (Nat × Nat × Nat)} {m : FTr} {n : Nat} {x : FR} {y : OR FM} (h : FSim m n x y) {f : FV → FTr → Nat → Nat → Nat → List (Nat × Nat × Nat) → FC} {g : Value → FM → Nat → Nat → Nat → List (Nat × Nat × Nat) → CR FM}
    (hf : ∀ v m n r w d, CSim (f v m n r w d) (g (toV v) (absM m n) n r w d)) : CSim (okF bef k done m n x f) (okD bef k done y g) := by
  have key : ∀ v m n r w, CSim (Bool.rec (motive := fun _ => FC) (Bool.rec (motive := fun _ => FC) .no (f v m n r w ((k, r, w) :: done)) (apart bef r w done)) (f v m n r w done) (Nat.beq (Nat.lor r w) 0)) (okD bef k done (.ok (toV v) (absM m n) n r w) g) := by
    intro v m n r w
    show CSim _ (forceN r fun r => forceN w fun w => cond (Nat.beq (Nat.lor r w) 0) (g (toV v) (absM m n) n r w done) (cond (apart bef r w done) (g (toV v) (absM m n) n r w ((k, r, w) :: done)) .no))
    rw [forceN_eq, forceN_eq]
    cases Nat.beq (Nat.lor r w) 0
    · cases apart bef r w done
      · trivial
      · exact hf v m n r w _
    · exact hf v m n r w _
  cases x with
  | no => trivial
  | pv v =>
    replace h : y = _ := h
    subst h
    exact key v m n 0 0
  | rd v b =>
    replace h : y = _ := h
    subst h
    have := key v m n (bit b) 0
    show CSim (fN (fun r => Bool.rec (motive := fun _ => FC) (Bool.rec (motive := fun _ => FC) .no (fF (fun v => f v m n r 0 ((k, r, 0) :: done)) v) (apart bef r 0 done)) (f v m n r 0 done) (Nat.beq (Nat.lor r 0) 0)) (bit b)) _
    rw [fN_eq, fF_eq]
    exact this
  | ok v m' n' r w =>
    replace h : y = _ := h
    subst h
    show CSim (fN (fun r => fN (fun w => fN (fun n => Bool.rec (motive := fun _ => FC) (Bool.rec (motive := fun _ => FC) .no (f v m' n r w ((k, r, w) :: done)) (apart bef r w done)) (f v m' n r w done) (Nat.beq (Nat.lor r w) 0)) n') w) r) _
    rw [fN_eq, fN_eq, fN_eq]
    exact key v m' n' r w
theorem stepDF_sim (hcal : CalSim cal calA) (e : List FV) (m : FTr) (n : Nat) (o : AOp) : FSim m n (stepDF P cal e m n o) (stepD P calA (e.map toV) (absM m n) n o) := by
  show FSim m n (Bool.rec (motive := fun _ => FR) .no _ (belowOpsF n e o)) (cond (belowOps n (e.map toV) o) (stepA P calA (e.map toV) (absM m n) n o) .no)
  rw [belowOpsF_eq]
  cases belowOps n (e.map toV) o
  · trivial
  · exact cOp_sim hcal e m n o
theorem opsDF_sim (hcal : CalSim cal calA) : ∀ (l : List AI) (bs : List Nat) (k : Nat) (done : List (Nat × Nat × Nat)) (e : List FV) (m : FTr) (n r w : Nat), CSim (opsDF P l cal bs k done e m n r w) (opsD P calA l bs k done (e.map toV) (absM m n) n r w)
  | [], bs, k, done, e, m, n, r, w => by show doneA (e.map toV) (absM m n) n r w = _; rw [doneA, forceN_eq, forceN_eq]; rfl
  | i :: l, bs, k, done, e, m, n, r, w => by
    have ih := opsDF_sim hcal l
    have h1 : ∀ o, CSim (okF (bs.headD 0) k done m n (stepDF P cal e m n o) fun v m n r' w' done => fN (fun r => fN (fun w => opsDF P l cal bs.tail (Nat.succ k) done (v :: e) m n r w) (Nat.lor w w')) (Nat.lor r r'))
        (okD (bs.headD 0) k done (stepD P calA (e.map toV) (absM m n) n o) fun v m n r' w' done => opsD P calA l bs.tail (Nat.succ k) done (v :: e.map toV) m n (Nat.lor r r') (Nat.lor w w')) := fun o =>
      okF_sim (stepDF_sim hcal e m n o) fun v m n r' w' d => by rw [fN_eq, fN_eq]; exact ih bs.tail (Nat.succ k) d (v :: e) m n _ _
    have h2 : ∀ o, CSim (okF (bs.headD 0) k done m n (stepDF P cal e m n o) fun _ m n r' w' done => fN (fun r => fN (fun w => opsDF P l cal bs.tail (Nat.succ k) done e m n r w) (Nat.lor w w')) (Nat.lor r r'))
        (okD (bs.headD 0) k done (stepD P calA (e.map toV) (absM m n) n o) fun _ m n r' w' done => opsD P calA l bs.tail (Nat.succ k) done (e.map toV) m n (Nat.lor r r') (Nat.lor w w')) := fun o =>
      okF_sim (stepDF_sim hcal e m n o) fun v m n r' w' d => by rw [fN_eq, fN_eq]; exact ih bs.tail (Nat.succ k) d e m n _ _
    cases i with
    | nop i => exact ih bs.tail (Nat.succ k) done e m n r w
    | op o => exact h1 o
    | eff o => exact h2 o
    | opg o gi gw =>
      have h3 : CSim (opsDF P l cal bs.tail (Nat.succ k) done (.o undef :: e) m n r w) (opsD P calA l bs.tail (Nat.succ k) done (undef :: e.map toV) (absM m n) n r w) := ih bs.tail (Nat.succ k) done (.o undef :: e) m n r w
      exact want_sim (gl_eq e gi) (h1 o) h3
    | effg o gi gw => exact want_sim (gl_eq e gi) (h2 o) (ih bs.tail (Nat.succ k) done e m n r w)
end
end Go.Am.V
