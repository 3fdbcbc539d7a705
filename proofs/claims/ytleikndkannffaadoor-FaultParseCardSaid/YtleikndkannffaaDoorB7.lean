/- The machine and its runs, part 7: AnV3 AnMono AnV4 AnShow AnMemo AnMemo2 AnMemo3 AnRuns AnOmega AnEq An13l An13p AnEqD AnArgs AnWorld AnTrod AnTrod2. -/
import Derived.Deep.Matrix
import Derived.OpenShut
import Derived.Test.YtleikndkannffaaDoorB6
set_option linter.unusedVariables false
set_option linter.unusedSimpArgs false
set_option linter.unusedSectionVars false
namespace Go.Am.V
open Go Go.Am Go.Am.Fast

inductive FAX where
  | norm
  | exit (id : Nat)
  | ret (v : FV)
inductive FC where
  | no
  | ok (x : FAX) (e : List FV) (m : FTr) (n r w : Nat)
noncomputable def toX (x : FAX) : AX := FAX.rec (motive := fun _ => AX) .norm (fun i => .exit i) (fun v => .ret (toV v)) x
def CSim (x : FC) (y : CR FM) : Prop :=
  match x with
  | .no => True
  | .ok X e m n r w => y = .ok (toX X) (e.map toV) (absM m n) n r w
theorem csim_no {y : CR FM} : CSim .no y := trivial

abbrev FT0 := FCal → List FV → FTr → Nat → Nat → Nat → FC
inductive FT where
  | mk (f : FT0)
noncomputable def FT.run (s : FT) : FT0 := FT.rec (motive := fun _ => FT0) (fun f => f) s
noncomputable def orn (r : Nat) (b : Nat) (k : Nat → FC) : FC := fN k (Nat.lor r b)
noncomputable def kOk (ih : FT) (cal : FCal) (e : List FV) (r w : Nat) (m : FTr) (n r' w' : Nat) : FC := fN (fun r => fN (fun w => fN (fun n => ih.run cal e m n r w) n) (Nat.lor w w')) (Nat.lor r r')
noncomputable def stepK (keep : Bool) (ih : FT) (cal : FCal) (e : List FV) (m : FTr) (n r w : Nat) (x : FR) : FC :=
  FR.rec (motive := fun _ => FC) .no
    (fun v => ih.run cal (Bool.rec (motive := fun _ => List FV) e (v :: e) keep) m n r w)
    (fun v b => fN (fun r => fF (fun v => ih.run cal (Bool.rec (motive := fun _ => List FV) e (v :: e) keep) m n r w) v) (Nat.lor r (bit b)))
    (fun v m' n' r' w' => kOk ih cal (Bool.rec (motive := fun _ => List FV) e (v :: e) keep) r w m' n' r' w') x
noncomputable def stepT (ih : FT) (cal : FCal) (e : List FV) (m : FTr) (n r w : Nat) (x : FR) : FC :=
  FR.rec (motive := fun _ => FC) .no (fun v => ih.run cal (v :: e) m n r w) (fun v b => fN (fun r => fF (fun v => ih.run cal (v :: e) m n r w) v) (Nat.lor r (bit b))) (fun v m' n' r' w' => kOk ih cal (v :: e) r w m' n' r' w') x
noncomputable def stepE (ih : FT) (cal : FCal) (e : List FV) (m : FTr) (n r w : Nat) (x : FR) : FC :=
  FR.rec (motive := fun _ => FC) .no (fun _ => ih.run cal e m n r w) (fun _ b => fN (fun r => ih.run cal e m n r w) (Nat.lor r (bit b))) (fun _ m' n' r' w' => kOk ih cal e r w m' n' r' w') x
section
variable (P : Program)
noncomputable def want (gw : Bool) (v : FV) (a b : FC) : FC :=
  FV.rec (motive := fun _ => Bool → FC → FC → FC) (fun _ _ _ b => b) (fun t gw a b => Bool.rec (motive := fun _ => FC) (Bool.rec (motive := fun _ => FC) a b gw) (Bool.rec (motive := fun _ => FC) b a gw) t) (fun _ _ _ _ b => b) (fun _ _ _ _ _ _ b => b) (fun v _ _ b => onBool v .no .no b) v gw a b
noncomputable def tOp (o : AOp) (ih : FT) : FT := .mk fun cal e m n r w => stepT ih cal e m n r w ((cOp P o).run cal e m n)
noncomputable def tEff (o : AOp) (ih : FT) : FT := .mk fun cal e m n r w => stepE ih cal e m n r w ((cOp P o).run cal e m n)
noncomputable def tOpg (o : AOp) (gi : Nat) (gw : Bool) (ih : FT) : FT := .mk fun cal e m n r w => want gw (gl e gi) (stepT ih cal e m n r w ((cOp P o).run cal e m n)) (ih.run cal (.o undef :: e) m n r w)
noncomputable def tEffg (o : AOp) (gi : Nat) (gw : Bool) (ih : FT) : FT := .mk fun cal e m n r w => want gw (gl e gi) (stepE ih cal e m n r w ((cOp P o).run cal e m n)) (ih.run cal e m n r w)
noncomputable def cOps (l : List AI) : FT :=
  List.rec (motive := fun _ => FT) (.mk fun _ e m n r w => .ok .norm e m n r w)
    (fun i _ ih => AI.rec (motive := fun _ => Program → FT → FT) (fun _ _ ih => ih) (fun o P ih => tOp P o ih) (fun o gi gw P ih => tOpg P o gi gw ih) (fun o P ih => tEff P o ih) (fun o gi gw P ih => tEffg P o gi gw ih) i P ih) l
end
section
variable {P : Program} {cal : FCal} {calA : Nat → List Value → FM → Nat → OR FM}
theorem stepT_sim {ih : FT} {l : List AI} (hih : ∀ e m n r w, CSim (ih.run cal e m n r w) (opsA P calA l (e.map toV) (absM m n) n r w)) {e : List FV} {m : FTr} {n r w : Nat} {x : FR} {y : OR FM} (h : FSim m n x y) :
    CSim (stepT ih cal e m n r w x) (orRec y fun v m n r' w' => opsA P calA l (v :: e.map toV) m n (Nat.lor r r') (Nat.lor w w')) := by
  cases x with
  | no => trivial
  | pv v =>
    replace h : y = _ := h
    subst h
    show CSim (ih.run cal (v :: e) m n r w) (opsA P calA l (toV v :: e.map toV) (absM m n) n (Nat.lor r 0) (Nat.lor w 0))
    rw [lor_zero', lor_zero']
    exact hih (v :: e) m n r w
  | rd v b =>
    replace h : y = _ := h
    subst h
    show CSim (fN (fun r => fF (fun v => ih.run cal (v :: e) m n r w) v) (Nat.lor r (bit b))) (opsA P calA l (toV v :: e.map toV) (absM m n) n (Nat.lor r (bit b)) (Nat.lor w 0))
    rw [fN_eq, fF_eq, lor_zero']
    exact hih (v :: e) m n _ w
  | ok v m' n' r' w' =>
    replace h : y = _ := h
    subst h
    show CSim (fN (fun r => fN (fun w => fN (fun n => ih.run cal (v :: e) m' n r w) n') (Nat.lor w w')) (Nat.lor r r')) (opsA P calA l (toV v :: e.map toV) (absM m' n') n' (Nat.lor r r') (Nat.lor w w'))
    rw [fN_eq, fN_eq, fN_eq]
    exact hih (v :: e) m' n' _ _
theorem stepE_sim {ih : FT} {l : List AI} (hih : ∀ e m n r w, CSim (ih.run cal e m n r w) (opsA P calA l (e.map toV) (absM m n) n r w)) {e : List FV} {m : FTr} {n r w : Nat} {x : FR} {y : OR FM} (h : FSim m n x y) :
    CSim (stepE ih cal e m n r w x) (orRec y fun _ m n r' w' => opsA P calA l (e.map toV) m n (Nat.lor r r') (Nat.lor w w')) := by
  cases x with
  | no => trivial
  | pv v =>
    replace h : y = _ := h
    subst h
    show CSim (ih.run cal e m n r w) (opsA P calA l (e.map toV) (absM m n) n (Nat.lor r 0) (Nat.lor w 0))
    rw [lor_zero', lor_zero']
    exact hih e m n r w
  | rd v b =>
    replace h : y = _ := h
    subst h
    show CSim (fN (fun r => ih.run cal e m n r w) (Nat.lor r (bit b))) (opsA P calA l (e.map toV) (absM m n) n (Nat.lor r (bit b)) (Nat.lor w 0))
    rw [fN_eq, lor_zero']
    exact hih e m n _ w
  | ok v m' n' r' w' =>
    replace h : y = _ := h
    subst h
    show CSim (fN (fun r => fN (fun w => fN (fun n => ih.run cal e m' n r w) n') (Nat.lor w w')) (Nat.lor r r')) (opsA P calA l (e.map toV) (absM m' n') n' (Nat.lor r r') (Nat.lor w w'))
    rw [fN_eq, fN_eq, fN_eq]
    exact hih e m' n' _ _
theorem want_sim {gw : Bool} {v : FV} {v' : Value} (hv : toV v = v') {a b : FC} {a' b' : CR FM} (ha : CSim a a') (hb : CSim b b') : CSim (want gw v a b) (cond (wantB gw v') a' b') := by
  subst hv
  cases v with
  | b t => cases gw <;> cases t <;> first | exact ha | exact hb
  | i z => exact hb
  | p z o => exact hb
  | s b o l c => exact hb
  | o v =>
    cases v
    case bool t => cases t <;> trivial
    all_goals exact hb
theorem cOps_sim (hcal : CalSim cal calA) : ∀ (l : List AI) (e : List FV) (m : FTr) (n r w : Nat), CSim ((cOps P l).run cal e m n r w) (opsA P calA l (e.map toV) (absM m n) n r w)
  | [], e, m, n, r, w => by show doneA (e.map toV) (absM m n) n r w = _; rw [doneA, forceN_eq, forceN_eq]; rfl
  | i :: l, e, m, n, r, w => by
    have ih := cOps_sim hcal l
    cases i with
    | nop i => exact ih e m n r w
    | op o => exact stepT_sim ih (cOp_sim hcal e m n o)
    | eff o => exact stepE_sim ih (cOp_sim hcal e m n o)
    | opg o gi gw =>
      have h2 : CSim ((cOps P l).run cal (.o undef :: e) m n r w) (opsA P calA l (undef :: e.map toV) (absM m n) n r w) := ih (.o undef :: e) m n r w
      exact want_sim (gl_eq e gi) (stepT_sim ih (cOp_sim hcal e m n o)) h2
    | effg o gi gw => exact want_sim (gl_eq e gi) (stepE_sim ih (cOp_sim hcal e m n o)) (ih e m n r w)
end

section
variable (P : Program)
noncomputable def belowFV (n : Nat) (v : FV) : Bool := FV.rec (motive := fun _ => Bool) (fun _ => true) (fun _ => true) (fun b _ => Nat.blt b n) (fun b _ _ _ => Nat.blt b n) (fun v => belowV n v) v
theorem belowFV_eq (n : Nat) (v : FV) : belowFV n v = belowV n (toV v) := by cases v <;> rfl
noncomputable def belowOpsF (n : Nat) (e : List FV) (o : AOp) : Bool := (opds o).all fun x => belowFV n (gv e x)
theorem belowOpsF_eq (n : Nat) (e : List FV) (o : AOp) : belowOpsF n e o = belowOps n (e.map toV) o := by
  unfold belowOpsF belowOps
  congr 1
  funext x
  rw [belowFV_eq, gv_eq]
noncomputable def stepDF (cal : FCal) (e : List FV) (m : FTr) (n : Nat) (o : AOp) : FR := Bool.rec (motive := fun _ => FR) .no ((cOp P o).run cal e m n) (belowOpsF n e o)
noncomputable def okF (bef k : Nat) (done : List (Nat × Nat × Nat)) (m : FTr) (n : Nat) (x : FR) (f : FV → FTr → Nat → Nat → Nat → List (Nat × Nat × Nat) → FC) : FC :=
  FR.rec (motive := fun _ => FC) .no (fun v => f v m n 0 0 done)
    (fun v b => fN (fun r => Bool.rec (motive := fun _ => FC) (Bool.rec (motive := fun _ => FC) .no (fF (fun v => f v m n r 0 ((k, r, 0) :: done)) v) (apart bef r 0 done)) (f v m n r 0 done) (Nat.beq (Nat.lor r 0) 0)) (bit b))
    (fun v m n r w => fN (fun r => fN (fun w => fN (fun n => Bool.rec (motive := fun _ => FC) (Bool.rec (motive := fun _ => FC) .no (f v m n r w ((k, r, w) :: done)) (apart bef r w done)) (f v m n r w done) (Nat.beq (Nat.lor r w) 0)) n) w) r) x
noncomputable def opsDF (l : List AI) (cal : FCal) : List Nat → Nat → List (Nat × Nat × Nat) → List FV → FTr → Nat → Nat → Nat → FC :=
  List.rec (motive := fun _ => List Nat → Nat → List (Nat × Nat × Nat) → List FV → FTr → Nat → Nat → Nat → FC) (fun _ _ _ e m n r w => .ok .norm e m n r w)
    (fun i _ ih bs k done e m n r w => AI.rec (motive := fun _ => FC)
      (fun _ => ih bs.tail (Nat.succ k) done e m n r w)
      (fun o => okF (bs.headD 0) k done m n (stepDF P cal e m n o) fun v m n r' w' done => fN (fun r => fN (fun w => ih bs.tail (Nat.succ k) done (v :: e) m n r w) (Nat.lor w w')) (Nat.lor r r'))
      (fun o gi gw => want gw (gl e gi) (okF (bs.headD 0) k done m n (stepDF P cal e m n o) fun v m n r' w' done => fN (fun r => fN (fun w => ih bs.tail (Nat.succ k) done (v :: e) m n r w) (Nat.lor w w')) (Nat.lor r r')) (ih bs.tail (Nat.succ k) done (.o undef :: e) m n r w))
      (fun o => okF (bs.headD 0) k done m n (stepDF P cal e m n o) fun _ m n r' w' done => fN (fun r => fN (fun w => ih bs.tail (Nat.succ k) done e m n r w) (Nat.lor w w')) (Nat.lor r r'))
      (fun o gi gw => want gw (gl e gi) (okF (bs.headD 0) k done m n (stepDF P cal e m n o) fun _ m n r' w' done => fN (fun r => fN (fun w => ih bs.tail (Nat.succ k) done e m n r w) (Nat.lor w w')) (Nat.lor r r')) (ih bs.tail (Nat.succ k) done e m n r w))
      i) l
end
section
variable {P : Program} {cal : FCal} {calA : Nat → List Value → FM → Nat → OR FM}
theorem okF_sim {bef k : Nat} {done : List (Nat × Nat × Nat)} {m : FTr} {n : Nat} {x : FR} {y : OR FM} (h : FSim m n x y) {f : FV → FTr → Nat → Nat → Nat → List (Nat × Nat × Nat) → FC} {g : Value → FM → Nat → Nat → Nat → List (Nat × Nat × Nat) → CR FM}
    (hf : ∀ v m n r w d, CSim (f v m n r w d) (g (toV v) (absM m n) n r w d)) : CSim (okF bef k done m n x f) (okD bef k done y g) := by
  have key : ∀ v m n r w, CSim (Bool.rec (motive := fun _ => FC) (Bool.rec (motive := fun _ => FC) .no (f v m n r w ((k, r, w) :: done)) (apart bef r w done)) (f v m n r w done) (Nat.beq (Nat.lor r w) 0)) (okD bef k done (.ok (toV v) (absM m n) n r w) g) := by
    intro v m n r w
    show CSim _ (forceN r fun r => forceN w fun w => cond (Nat.beq (Nat.lor r w) 0) (g (toV v) (absM m n) n r w done) (cond (apart bef r w done) (g (toV v) (absM m n) n r w ((k, r, w) :: done)) .no))
    rw [forceN_eq, forceN_eq]
    cases Nat.beq (Nat.lor r w) 0
    · cases apart bef r w done
      · trivial
      · exact hf v m n r w _
    · exact hf v m n r w _
  cases x with
  | no => trivial
  | pv v =>
    replace h : y = _ := h
    subst h
    exact key v m n 0 0
  | rd v b =>
    replace h : y = _ := h
    subst h
    have := key v m n (bit b) 0
    show CSim (fN (fun r => Bool.rec (motive := fun _ => FC) (Bool.rec (motive := fun _ => FC) .no (fF (fun v => f v m n r 0 ((k, r, 0) :: done)) v) (apart bef r 0 done)) (f v m n r 0 done) (Nat.beq (Nat.lor r 0) 0)) (bit b)) _
    rw [fN_eq, fF_eq]
    exact this
  | ok v m' n' r w =>
    replace h : y = _ := h
    subst h
    show CSim (fN (fun r => fN (fun w => fN (fun n => Bool.rec (motive := fun _ => FC) (Bool.rec (motive := fun _ => FC) .no (f v m' n r w ((k, r, w) :: done)) (apart bef r w done)) (f v m' n r w done) (Nat.beq (Nat.lor r w) 0)) n') w) r) _
    rw [fN_eq, fN_eq, fN_eq]
    exact key v m' n' r w
theorem stepDF_sim (hcal : CalSim cal calA) (e : List FV) (m : FTr) (n : Nat) (o : AOp) : FSim m n (stepDF P cal e m n o) (stepD P calA (e.map toV) (absM m n) n o) := by
  show FSim m n (Bool.rec (motive := fun _ => FR) .no _ (belowOpsF n e o)) (cond (belowOps n (e.map toV) o) (stepA P calA (e.map toV) (absM m n) n o) .no)
  rw [belowOpsF_eq]
  cases belowOps n (e.map toV) o
  · trivial
  · exact cOp_sim hcal e m n o
theorem opsDF_sim (hcal : CalSim cal calA) : ∀ (l : List AI) (bs : List Nat) (k : Nat) (done : List (Nat × Nat × Nat)) (e : List FV) (m : FTr) (n r w : Nat), CSim (opsDF P l cal bs k done e m n r w) (opsD P calA l bs k done (e.map toV) (absM m n) n r w)
  | [], bs, k, done, e, m, n, r, w => by show doneA (e.map toV) (absM m n) n r w = _; rw [doneA, forceN_eq, forceN_eq]; rfl
  | i :: l, bs, k, done, e, m, n, r, w => by
    have ih := opsDF_sim hcal l
    have h1 : ∀ o, CSim (okF (bs.headD 0) k done m n (stepDF P cal e m n o) fun v m n r' w' done => fN (fun r => fN (fun w => opsDF P l cal bs.tail (Nat.succ k) done (v :: e) m n r w) (Nat.lor w w')) (Nat.lor r r'))
        (okD (bs.headD 0) k done (stepD P calA (e.map toV) (absM m n) n o) fun v m n r' w' done => opsD P calA l bs.tail (Nat.succ k) done (v :: e.map toV) m n (Nat.lor r r') (Nat.lor w w')) := fun o =>
      okF_sim (stepDF_sim hcal e m n o) fun v m n r' w' d => by rw [fN_eq, fN_eq]; exact ih bs.tail (Nat.succ k) d (v :: e) m n _ _
    have h2 : ∀ o, CSim (okF (bs.headD 0) k done m n (stepDF P cal e m n o) fun _ m n r' w' done => fN (fun r => fN (fun w => opsDF P l cal bs.tail (Nat.succ k) done e m n r w) (Nat.lor w w')) (Nat.lor r r'))
        (okD (bs.headD 0) k done (stepD P calA (e.map toV) (absM m n) n o) fun _ m n r' w' done => opsD P calA l bs.tail (Nat.succ k) done (e.map toV) m n (Nat.lor r r') (Nat.lor w w')) := fun o =>
      okF_sim (stepDF_sim hcal e m n o) fun v m n r' w' d => by rw [fN_eq, fN_eq]; exact ih bs.tail (Nat.succ k) d e m n _ _
    cases i with
    | nop i => exact ih bs.tail (Nat.succ k) done e m n r w
    | op o => exact h1 o
    | eff o => exact h2 o
    | opg o gi gw =>
      have h3 : CSim (opsDF P l cal bs.tail (Nat.succ k) done (.o undef :: e) m n r w) (opsD P calA l bs.tail (Nat.succ k) done (undef :: e.map toV) (absM m n) n r w) := ih bs.tail (Nat.succ k) done (.o undef :: e) m n r w
      exact want_sim (gl_eq e gi) (h1 o) h3
    | effg o gi gw => exact want_sim (gl_eq e gi) (h2 o) (ih bs.tail (Nat.succ k) done e m n r w)
end
end Go.Am.V
namespace Go.Am
open Go
section
variable {μ : Type} [AMem μ] {P : Program}
def OLe (x y : OR μ) : Prop := ∀ v m n r w, x = .ok v m n r w → y = .ok v m n r w
def CLe (x y : CR μ) : Prop := ∀ X e m n r w, x = .ok X e m n r w → y = .ok X e m n r w
theorem OLe.refl (x : OR μ) : OLe x x := fun _ _ _ _ _ h => h
theorem CLe.refl (x : CR μ) : CLe x x := fun _ _ _ _ _ _ h => h
theorem OLe.trans {x y z : OR μ} (h : OLe x y) (k : OLe y z) : OLe x z := fun v m n r w e => k v m n r w (h v m n r w e)
theorem CLe.trans {x y z : CR μ} (h : CLe x y) (k : CLe y z) : CLe x z := fun X v m n r w e => k X v m n r w (h X v m n r w e)
theorem OLe.no (y : OR μ) : OLe .no y := fun _ _ _ _ _ h => by cases h
theorem CLe.no (y : CR μ) : CLe .no y := fun _ _ _ _ _ _ h => by cases h
def CalLe (a b : Nat → List Value → μ → Nat → OR μ) : Prop := ∀ f args m n, OLe (a f args m n) (b f args m n)
def RcLe (a b : AC → List Value → μ → Nat → CR μ) : Prop := ∀ c e m n, CLe (a c e m n) (b c e m n)
theorem orRec_le {x y : OR μ} {f g : Value → μ → Nat → Nat → Nat → CR μ} (h : OLe x y) (hf : ∀ v m n r w, CLe (f v m n r w) (g v m n r w)) : CLe (orRec x f) (orRec y g) := by
  cases x with
  | no => exact CLe.no _
  | ok v m n r w => rw [h _ _ _ _ _ rfl]; exact hf v m n r w
theorem crRec_le {x y : CR μ} {f g : AX → List Value → μ → Nat → Nat → Nat → CR μ} (h : CLe x y) (hf : ∀ X e m n r w, CLe (f X e m n r w) (g X e m n r w)) : CLe (crRec x f) (crRec y g) := by
  cases x with
  | no => exact CLe.no _
  | ok X e m n r w => rw [h _ _ _ _ _ _ rfl]; exact hf X e m n r w
theorem cond_cle (b : Bool) {x x' y y' : CR μ} (h : CLe x x') (k : CLe y y') : CLe (cond b x y) (cond b x' y') := by cases b <;> assumption
theorem step_le {a b : Nat → List Value → μ → Nat → OR μ} (h : CalLe a b) (e : List Value) (m : μ) (n : Nat) (o : AOp) : OLe (stepA P a e m n o) (stepA P b e m n o) := by
  cases o
  case call f args => exact h f _ m n
  case callv x args =>
    show OLe (callV a (evs e args) m n (ev e x)) (callV b (evs e args) m n (ev e x))
    generalize ev e x = v
    unfold callV
    split
    · exact h _ _ m n
    · exact OLe.refl _
  all_goals exact OLe.refl _
theorem ops_le {a b : Nat → List Value → μ → Nat → OR μ} (h : CalLe a b) : ∀ (l : List AI) (e : List Value) (m : μ) (n r w : Nat), CLe (opsA P a l e m n r w) (opsA P b l e m n r w)
  | [], e, m, n, r, w => CLe.refl _
  | i :: l, e, m, n, r, w => by
    have ih := ops_le h l
    cases i with
    | nop i => exact ih e m n r w
    | op o => exact orRec_le (step_le h e m n o) fun v m n r' w' => ih _ m n _ _
    | eff o => exact orRec_le (step_le h e m n o) fun v m n r' w' => ih _ m n _ _
    | opg o gi gw => exact cond_cle _ (orRec_le (step_le h e m n o) fun v m n r' w' => ih _ m n _ _) (ih _ m n r w)
    | effg o gi gw => exact cond_cle _ (orRec_le (step_le h e m n o) fun v m n r' w' => ih _ m n _ _) (ih _ m n r w)
theorem okD_le {bef k : Nat} {done : List (Nat × Nat × Nat)} {x y : OR μ} {f g : Value → μ → Nat → Nat → Nat → List (Nat × Nat × Nat) → CR μ} (h : OLe x y) (hf : ∀ v m n r w d, CLe (f v m n r w d) (g v m n r w d)) : CLe (okD bef k done x f) (okD bef k done y g) := by
  refine orRec_le h fun v m n r w => ?_
  rw [forceN_eq, forceN_eq, forceN_eq, forceN_eq]
  exact cond_cle _ (hf v m n r w _) (cond_cle _ (hf v m n r w _) (CLe.refl _))
theorem stepD_le {a b : Nat → List Value → μ → Nat → OR μ} (h : CalLe a b) (e : List Value) (m : μ) (n : Nat) (o : AOp) : OLe (stepD P a e m n o) (stepD P b e m n o) := by
  unfold stepD
  cases belowOps n e o
  · exact OLe.refl _
  · exact step_le h e m n o
theorem opsD_le {a b : Nat → List Value → μ → Nat → OR μ} (h : CalLe a b) : ∀ (l : List AI) (bs : List Nat) (k : Nat) (done : List (Nat × Nat × Nat)) (e : List Value) (m : μ) (n r w : Nat), CLe (opsD P a l bs k done e m n r w) (opsD P b l bs k done e m n r w)
  | [], bs, k, done, e, m, n, r, w => CLe.refl _
  | i :: l, bs, k, done, e, m, n, r, w => by
    have ih := opsD_le h l
    have h1 : ∀ o, CLe (okD (bs.headD 0) k done (stepD P a e m n o) fun v m n r' w' done => opsD P a l bs.tail (Nat.succ k) done (v :: e) m n (Nat.lor r r') (Nat.lor w w'))
        (okD (bs.headD 0) k done (stepD P b e m n o) fun v m n r' w' done => opsD P b l bs.tail (Nat.succ k) done (v :: e) m n (Nat.lor r r') (Nat.lor w w')) := fun o =>
      okD_le (stepD_le h e m n o) fun v m n r' w' d => ih _ _ _ _ m n _ _
    have h2 : ∀ o, CLe (okD (bs.headD 0) k done (stepD P a e m n o) fun _ m n r' w' done => opsD P a l bs.tail (Nat.succ k) done e m n (Nat.lor r r') (Nat.lor w w'))
        (okD (bs.headD 0) k done (stepD P b e m n o) fun _ m n r' w' done => opsD P b l bs.tail (Nat.succ k) done e m n (Nat.lor r r') (Nat.lor w w')) := fun o =>
      okD_le (stepD_le h e m n o) fun v m n r' w' d => ih _ _ _ _ m n _ _
    cases i with
    | nop i => exact ih _ _ _ e m n r w
    | op o => exact h1 o
    | eff o => exact h2 o
    | opg o gi gw => exact cond_cle _ (h1 o) (ih _ _ _ _ m n r w)
    | effg o gi gw => exact cond_cle _ (h2 o) (ih _ _ _ _ m n r w)
theorem call_le {E : Nat → Option AFn} {Y : Nat → List Value → μ → Nat → OR μ} {a b : AC → List Value → μ → Nat → CR μ} (h : RcLe a b) : CalLe (callA E Y a) (callA E Y b) := by
  intro f args m n
  show OLe (Option.rec (motive := fun _ => OR μ) (Y f args m n) (callF a args m n) (E f)) (Option.rec (motive := fun _ => OR μ) (Y f args m n) (callF b args m n) (E f))
  cases E f with
  | none => exact OLe.refl _
  | some fn =>
    show OLe (cond (Nat.beq (llen args) fn.na) (CR.rec (motive := fun _ => OR μ) .no (fun x e m' n' r w => leaveX fn m n e m' n' r w x) (a fn.code args m n)) .no) (cond (Nat.beq (llen args) fn.na) (CR.rec (motive := fun _ => OR μ) .no (fun x e m' n' r w => leaveX fn m n e m' n' r w x) (b fn.code args m n)) .no)
    cases Nat.beq (llen args) fn.na
    · exact OLe.refl _
    · show OLe (CR.rec (motive := fun _ => OR μ) .no (fun x e m' n' r w => leaveX fn m n e m' n' r w x) (a fn.code args m n)) (CR.rec (motive := fun _ => OR μ) .no (fun x e m' n' r w => leaveX fn m n e m' n' r w x) (b fn.code args m n))
      have hc := h fn.code args m n
      cases ha : a fn.code args m n with
      | no => exact OLe.no _
      | ok X e m' n' r w => rw [hc _ _ _ _ _ _ ha]; exact OLe.refl _
theorem addRW_le (r w : Nat) {x y : CR μ} (h : CLe x y) : CLe (addRW r w x) (addRW r w y) := by
  cases x with
  | no => exact CLe.no _
  | ok X e m n r' w' => rw [h _ _ _ _ _ _ rfl]; exact CLe.refl _
theorem onNorm_le {f g : List Value → μ → Nat → CR μ} (h : ∀ e m n, CLe (f e m n) (g e m n)) (X : AX) (e : List Value) (m : μ) (n r w : Nat) : CLe (onNorm f X e m n r w) (onNorm g X e m n r w) := by
  cases X with
  | norm => exact addRW_le r w (h e m n)
  | exit i => exact CLe.refl _
  | ret v => exact CLe.refl _
noncomputable def execC (P : Program) (cal : Nat → List Value → μ → Nat → OR μ) (rec : AC → List Value → μ → Nat → CR μ) (c : AC) (e : List Value) (m : μ) (n : Nat) : CR μ :=
  AC.casesOn (motive := fun _ => CR μ) c
    (.ok .norm e m n 0 0)
    (fun l => opsA P cal l e m n 0 0)
    (fun l bs => opsD P cal l bs 0 [] e m n 0 0)
    (fun a b => crRec (rec a e m n) (onNorm (rec b)))
    (fun x a b => onCond (rec a e m n) (rec b e m n) (ev e x))
    (fun id _ b => crRec (rec b e m n) (onBlock id))
    (fun sh b => crRec (rec b e m n) (onNorm (rec (.loop sh b))))
    (fun sel d c => rec c (fixE sel d e) m n)
    (fun c sel d => crRec (rec c e m n) (onPost sel d))
    (fun id => .ok (.exit id) e m n 0 0)
    (fun rs => onRet e m n (resA e m n rs))
theorem execC_le {ca cb : Nat → List Value → μ → Nat → OR μ} {a b : AC → List Value → μ → Nat → CR μ} (hc : CalLe ca cb) (h : RcLe a b) (c : AC) (e : List Value) (m : μ) (n : Nat) : CLe (execC P ca a c e m n) (execC P cb b c e m n) := by
  cases c with
  | skip => exact CLe.refl _
  | reg l => exact ops_le hc l e m n 0 0
  | regD l bs => exact opsD_le hc l bs 0 [] e m n 0 0
  | seq x y => exact crRec_le (h x e m n) fun X e m n r w => onNorm_le (h y) X e m n r w
  | cond o x y =>
    show CLe (onCond (a x e m n) (a y e m n) (ev e o)) (onCond (b x e m n) (b y e m n) (ev e o))
    generalize ev e o = v
    unfold onCond
    split
    · exact cond_cle _ (h x e m n) (h y e m n)
    · exact CLe.refl _
  | block id sh x => exact crRec_le (h x e m n) fun X e m n r w => CLe.refl _
  | loop sh x => exact crRec_le (h x e m n) fun X e m n r w => onNorm_le (h _) X e m n r w
  | pre sel d x => exact h x _ m n
  | post x sel d => exact crRec_le (h x e m n) fun X e m n r w => CLe.refl _
  | exit id => exact CLe.refl _
  | ret rs => exact CLe.refl _
theorem exec_succ {E : Nat → Option AFn} {Y : Nat → List Value → μ → Nat → OR μ} : ∀ k, RcLe (exec P E Y k) (exec P E Y (k + 1))
  | 0 => fun _ _ _ _ => CLe.no _
  | k + 1 => fun c e m n => execC_le (call_le (exec_succ k)) (exec_succ k) c e m n
theorem exec_mono {E : Nat → Option AFn} {Y : Nat → List Value → μ → Nat → OR μ} {k k' : Nat} (h : k ≤ k') : RcLe (exec P E Y k) (exec P E Y k') := by
  induction h with
  | refl => exact fun _ _ _ _ => CLe.refl _
  | step _ ih => exact fun c e m n => (ih c e m n).trans (exec_succ _ c e m n)

noncomputable def execK (P : Program) (cal : Nat → List Value → μ → Nat → OR μ) (k : Nat) : AC → List Value → μ → Nat → CR μ := Nat.rec (motive := fun _ => AC → List Value → μ → Nat → CR μ) (fun _ _ _ _ => .no) (fun _ ih => execC P cal ih) k
noncomputable def calD (P : Program) (E : Nat → Option AFn) (Y : Nat → List Value → μ → Nat → OR μ) (K : Nat) (d : Nat) : Nat → List Value → μ → Nat → OR μ :=
  Nat.rec (motive := fun _ => Nat → List Value → μ → Nat → OR μ) Y (fun _ ih => callA E Y (execK P ih K)) d
theorem execK_le {E : Nat → Option AFn} {Y : Nat → List Value → μ → Nat → OR μ} {cal : Nat → List Value → μ → Nat → OR μ} {k0 : Nat} (h : CalLe cal (callA E Y (exec P E Y k0))) : ∀ k, RcLe (execK P cal k) (exec P E Y (k0 + k))
  | 0 => fun _ _ _ _ => CLe.no _
  | k + 1 => fun c e m n => execC_le (fun f args m n => (h f args m n).trans (call_le (exec_mono (Nat.le_add_right _ _)) f args m n)) (execK_le h k) c e m n
theorem calD_le {E : Nat → Option AFn} {Y : Nat → List Value → μ → Nat → OR μ} (hY : ∀ f fn, E f = some fn → ∀ args m n, Y f args m n = .no) (K : Nat) : ∀ d, CalLe (calD P E Y K d) (callA E Y (exec P E Y (d * K)))
  | 0 => fun f args m n => by
    show OLe (Y f args m n) (Option.rec (motive := fun _ => OR μ) (Y f args m n) (callF _ args m n) (E f))
    cases hf : E f with
    | none => exact OLe.refl _
    | some fn => rw [hY f fn hf]; exact OLe.no _
  | d + 1 => fun f args m n => by
    have h := execK_le (calD_le hY K d) K
    have e : d * K + K = (d + 1) * K := by rw [Nat.succ_mul]
    rw [e] at h
    exact call_le h f args m n
end
end Go.Am
namespace Go.Am.V
open Go Go.Am Go.Am.Fast

abbrev FRc := AC → List FV → FTr → Nat → FC
noncomputable def fmap1 (e : List FV) (sel : List Nat) (t : List FV) : List FV := List.rec (motive := fun _ => List FV) t (fun i _ r => gl e i :: r) sel
noncomputable def fixF (sel : List Nat) (d : Nat) (e : List FV) : List FV := fmap1 e sel (pdrop e d)
theorem fixF_eq (sel : List Nat) (d : Nat) (e : List FV) : (fixF sel d e).map toV = fixE sel d (e.map toV) := by
  show (fmap1 e sel (pdrop e d)).map toV = lmap (e.map toV) sel (pdrop (e.map toV) d)
  rw [pdrop_map]
  generalize pdrop e d = t
  induction sel with
  | nil => rfl
  | cons i sel ih => show toV (gl e i) :: (fmap1 e sel t).map toV = lget (e.map toV) i :: lmap (e.map toV) sel (t.map toV); rw [ih, gl_eq]
noncomputable def resPF (m : FTr) (n : Nat) (vs : List FV) (r : Nat) (f : Nat → List FV → Option FV) (v : FV) : Option (List FV × Nat) :=
  onP v (fun b o => fcells (gb m n b) (fun c => Option.rec (motive := fun _ => Option (List FV × Nat)) none (fun v => some (v :: vs, Nat.lor r (bit b))) (f o c)) none) none
noncomputable def resOF (e : List FV) (m : FTr) (n : Nat) (vs : List FV) (r : Nat) (x : ROp) : Option (List FV × Nat) :=
  ROp.rec (motive := fun _ => Option (List FV × Nat)) (fun i => some (gl e i :: vs, r)) (fun i => resPF m n vs r (fun o c => pget c o) (gl e i)) (fun i k => resPF m n vs r (fun o c => aggF (pat c o k)) (gl e i)) x
noncomputable def resF (e : List FV) (m : FTr) (n : Nat) (l : List ROp) : Option (List FV × Nat) :=
  List.rec (motive := fun _ => Option (List FV × Nat)) (some ([], 0)) (fun x _ ih => Option.rec (motive := fun _ => Option (List FV × Nat)) none (fun p => resOF e m n p.1 p.2 x) ih) l
def ROk (x : Option (List FV × Nat)) (y : Option (List Value × Nat)) : Prop := ∀ p, x = some p → y = some (p.1.map toV, p.2)
theorem resPF_ok {m : FTr} {n : Nat} {vs : List FV} {r : Nat} {f : Nat → List FV → Option FV} {g : Nat → List Value → Option Value} (hfg : ∀ o c, g o (c.map toV) = (f o c).map toV) {v : FV} {v' : Value} (hv : toV v = v') : ROk (resPF m n vs r f v) (resP (absM m n) n (vs.map toV) r g v') := by
  subst hv
  intro p h
  cases v with
  | p b o =>
    replace h : fcells (gb m n b) (fun c => Option.rec (motive := fun _ => Option (List FV × Nat)) none (fun v => some (v :: vs, Nat.lor r (bit b))) (f o c)) none = some p := h
    show resC (vs.map toV) r b (g o) (getb (absM m n) n b) = _
    rw [gb_eq]
    cases hg : gb m n b with
    | none => rw [hg] at h; cases h
    | some x =>
      obtain ⟨c, sz, opn, wr⟩ := x
      rw [hg] at h
      replace h : Option.rec (motive := fun _ => Option (List FV × Nat)) none (fun v => some (v :: vs, Nat.lor r (bit b))) (f o c) = some p := h
      show Option.rec (motive := fun _ => Option (List Value × Nat)) none (fun v => some (v :: vs.map toV, Nat.lor r (bit b))) (g o (c.map toV)) = _
      rw [hfg]
      cases hc : f o c with
      | none => rw [hc] at h; cases h
      | some v => rw [hc] at h; injection h with h; subst h; rfl
  | _ => cases h
theorem resOF_ok {e : List FV} {m : FTr} {n : Nat} {vs : List FV} {r : Nat} {x : ROp} : ROk (resOF e m n vs r x) (resO (e.map toV) (absM m n) n (vs.map toV) r x) := by
  cases x with
  | v i =>
    intro p h
    injection h with h; subst h
    show some (lget (e.map toV) i :: vs.map toV, r) = _
    rw [← gl_eq]; rfl
  | cell i => exact resPF_ok (fun o c => pget_map toV c o) (gl_eq e i)
  | cells i k => exact resPF_ok (fun o c => by show aggO (pat (c.map toV) o k) = _; rw [pat_map]; cases pat c o k <;> rfl) (gl_eq e i)
theorem resF_ok {e : List FV} {m : FTr} {n : Nat} : ∀ (l : List ROp), ROk (resF e m n l) (resA (e.map toV) (absM m n) n l)
  | [] => fun p h => by injection h with h; subst h; rfl
  | x :: l => by
    intro p h
    replace h : Option.rec (motive := fun _ => Option (List FV × Nat)) none (fun p => resOF e m n p.1 p.2 x) (resF e m n l) = some p := h
    show Option.rec (motive := fun _ => Option (List Value × Nat)) none (fun p => resO (e.map toV) (absM m n) n p.1 p.2 x) (resA (e.map toV) (absM m n) n l) = _
    cases hr : resF e m n l with
    | none => rw [hr] at h; cases h
    | some q =>
      rw [hr] at h
      rw [resF_ok l q hr]
      exact resOF_ok p h
noncomputable def retF (l : List FV) : FV :=
  List.rec (motive := fun _ => FV) (.o (.tuple #[])) (fun x t _ => List.rec (motive := fun _ => FV) x (fun y t _ => .o (.tuple ((x :: y :: t).map toV).toArray)) t) l
theorem retF_eq (l : List FV) : toV (retF l) = retV (l.map toV) := by
  rcases l with _ | ⟨x, _ | ⟨y, t⟩⟩ <;> rfl

noncomputable def freeF (v : FV) : Bool := FV.rec (motive := fun _ => Bool) (fun _ => true) (fun _ => true) (fun _ _ => false) (fun _ _ _ _ => false) addrFree v
theorem freeF_eq (v : FV) : freeF v = addrFree (toV v) := by cases v <;> rfl
noncomputable def leaveAF (m0 : FTr) (n0 : Nat) (v : FV) (m : FTr) (n r w : Nat) : FR :=
  Bool.rec (motive := fun _ => FR) (.ok v m n r w) (fN (fun r => .ok v m0 n0 r 0) (Nat.mod r (bit n0))) (freeF v && Nat.beq (Nat.mod w (bit n0)) 0)
theorem leaveAF_sim {m m0 m1 : FTr} {n n0 n1 : Nat} {v : FV} {r w : Nat} : FSim m1 n1 (leaveAF m0 n0 v m n r w) (leaveA (absM m0 n0) n0 (toV v) (absM m n) n r w) := by
  show FSim m1 n1 (Bool.rec (motive := fun _ => FR) (.ok v m n r w) (fN (fun r => .ok v m0 n0 r 0) (Nat.mod r (bit n0))) (freeF v && Nat.beq (Nat.mod w (bit n0)) 0)) (cond (addrFree (toV v) && Nat.beq (Nat.mod w (bit n0)) 0) (forceN (Nat.mod r (bit n0)) fun r => .ok (toV v) (absM m0 n0) n0 r 0) (.ok (toV v) (absM m n) n r w))
  rw [freeF_eq, fN_eq, forceN_eq]
  cases (addrFree (toV v) && Nat.beq (Nat.mod w (bit n0)) 0) <;> rfl
noncomputable def leaveXF (fn : AFn) (m0 : FTr) (n0 : Nat) (x : FC) : FR :=
  FC.rec (motive := fun _ => FR) .no (fun X e m n r w => FAX.rec (motive := fun _ => FR) (Option.rec (motive := fun _ => FR) .no (fun p => leaveAF m0 n0 (retF p.1) m n (Nat.lor r p.2) w) (resF e m n (AFn.rec (motive := fun _ => List ROp) (fun _ rs _ => rs) fn))) (fun _ => .no) (fun v => leaveAF m0 n0 v m n r w) X) x
noncomputable def callFF (rec : FRc) (args : List FV) (m : FTr) (n : Nat) (fn : AFn) : FR :=
  AFn.rec (motive := fun _ => FR) (fun na rs code => Bool.rec (motive := fun _ => FR) .no (leaveXF ⟨na, rs, code⟩ m n (rec code args m n)) (Nat.beq (plen args) na)) fn
noncomputable def calFF (E : Nat → Option AFn) (Yf : FCal) (rec : FRc) : FCal := fun f args m n => Option.rec (motive := fun _ => FR) (Yf f args m n) (callFF rec args m n) (E f)
def RcSim (rec : FRc) (recA : AC → List Value → FM → Nat → CR FM) : Prop := ∀ c e m n, CSim (rec c e m n) (recA c (e.map toV) (absM m n) n)
theorem calFF_sim {E : Nat → Option AFn} {Yf : FCal} {Y : Nat → List Value → FM → Nat → OR FM} {rec : FRc} {recA : AC → List Value → FM → Nat → CR FM} (hY : CalSim Yf Y) (hrec : RcSim rec recA) : CalSim (calFF E Yf rec) (callA E Y recA) := by
  intro f args m n
  show FSim m n (Option.rec (motive := fun _ => FR) (Yf f args m n) (callFF rec args m n) (E f)) (Option.rec (motive := fun _ => OR FM) (Y f (args.map toV) (absM m n) n) (callF recA (args.map toV) (absM m n) n) (E f))
  cases E f with
  | none => exact hY f args m n
  | some fn =>
    obtain ⟨na, rs, code⟩ := fn
    show FSim m n (Bool.rec (motive := fun _ => FR) .no (leaveXF ⟨na, rs, code⟩ m n (rec code args m n)) (Nat.beq (plen args) na)) (cond (Nat.beq (plen (args.map toV)) na) (CR.rec (motive := fun _ => OR FM) .no (fun x e m' n' r w => leaveX ⟨na, rs, code⟩ (absM m n) n e m' n' r w x) (recA code (args.map toV) (absM m n) n)) .no)
    rw [plen_map]
    cases Nat.beq (plen args) na
    · trivial
    · have h := hrec code args m n
      cases hx : rec code args m n with
      | no => exact fsim_no
      | ok X e m' n' r w =>
        rw [hx] at h
        replace h : recA code (args.map toV) (absM m n) n = .ok (toX X) (e.map toV) (absM m' n') n' r w := h
        rw [h]
        cases X with
        | norm =>
          show FSim m n (Option.rec (motive := fun _ => FR) .no (fun p => leaveAF m n (retF p.1) m' n' (Nat.lor r p.2) w) (resF e m' n' rs)) (leaveO (absM m n) n (absM m' n') n' r w (resA (e.map toV) (absM m' n') n' rs))
          cases hr : resF e m' n' rs with
          | none => exact fsim_no
          | some p =>
            rw [resF_ok rs p hr]
            show FSim m n (leaveAF m n (retF p.1) m' n' (Nat.lor r p.2) w) (leaveA (absM m n) n (retV (p.1.map toV)) (absM m' n') n' (Nat.lor r p.2) w)
            rw [← retF_eq]
            exact leaveAF_sim
        | exit i => exact fsim_no
        | ret v => exact leaveAF_sim

abbrev FX0 := FCal → FRc → List FV → FTr → Nat → FC
inductive FX where
  | mk (f : FX0)
noncomputable def FX.run (x : FX) : FX0 := FX.rec (motive := fun _ => FX0) (fun f => f) x
noncomputable def faddRW (r w : Nat) (x : FC) : FC := FC.rec (motive := fun _ => FC) .no (fun X e m n r' w' => fN (fun r => fN (fun w => .ok X e m n r w) (Nat.lor w w')) (Nat.lor r r')) x
noncomputable def fseqK (rec : FRc) (b : AC) (x : FC) : FC :=
  FC.rec (motive := fun _ => FC) .no (fun X e m n r w => FAX.rec (motive := fun _ => FC) (faddRW r w (rec b e m n)) (fun i => .ok (.exit i) e m n r w) (fun v => .ok (.ret v) e m n r w) X) x
noncomputable def fblockK (id : Nat) (x : FC) : FC :=
  FC.rec (motive := fun _ => FC) .no (fun X e m n r w => FAX.rec (motive := fun _ => FC) (.ok .norm e m n r w) (fun i => Bool.rec (motive := fun _ => FC) (.ok (.exit i) e m n r w) (.ok .norm e m n r w) (Nat.beq i id)) (fun v => .ok (.ret v) e m n r w) X) x
noncomputable def fpostK (sel : List Nat) (d : Nat) (x : FC) : FC :=
  FC.rec (motive := fun _ => FC) .no (fun X e m n r w => FAX.rec (motive := fun _ => FC) (.ok .norm (fixF sel d e) m n r w) (fun i => .ok (.exit i) e m n r w) (fun v => .ok (.ret v) e m n r w) X) x
noncomputable def fretK (e : List FV) (m : FTr) (n : Nat) (x : Option (List FV × Nat)) : FC := Option.rec (motive := fun _ => FC) .no (fun p => fF (fun v => .ok (.ret v) e m n p.2 0) (retF p.1)) x
noncomputable def cAC (P : Program) (c : AC) : FX :=
  AC.casesOn (motive := fun _ => Program → FX) c
    (fun _ => .mk fun _ _ e m n => .ok .norm e m n 0 0)
    (fun l P => .mk fun cal _ e m n => (cOps P l).run cal e m n 0 0)
    (fun l bs P => .mk fun cal _ e m n => opsDF P l cal bs 0 [] e m n 0 0)
    (fun a b _ => .mk fun _ rec e m n => fseqK rec b (rec a e m n))
    (fun x a b _ => .mk fun _ rec e m n => onB (gv e x) (rec a e m n) (rec b e m n) .no)
    (fun id _ b _ => .mk fun _ rec e m n => fblockK id (rec b e m n))
    (fun sh b _ => .mk fun _ rec e m n => fseqK rec (.loop sh b) (rec b e m n))
    (fun sel d c _ => .mk fun _ rec e m n => rec c (fixF sel d e) m n)
    (fun c sel d _ => .mk fun _ rec e m n => fpostK sel d (rec c e m n))
    (fun id _ => .mk fun _ _ e m n => .ok (.exit id) e m n 0 0)
    (fun rs _ => .mk fun _ _ e m n => fretK e m n (resF e m n rs))
    P
noncomputable def fexecK (P : Program) (cal : FCal) (k : Nat) : FRc :=
  Nat.rec (motive := fun _ => FRc) (fun _ _ _ _ => .no) (fun _ ih c => (cAC P c).run cal ih) k
theorem faddRW_sim {r w : Nat} {x : FC} {y : CR FM} (h : CSim x y) : CSim (faddRW r w x) (addRW r w y) := by
  cases x with
  | no => trivial
  | ok X e m n r' w' =>
    replace h : y = _ := h
    subst h
    show CSim (fN (fun r => fN (fun w => .ok X e m n r w) (Nat.lor w w')) (Nat.lor r r')) _
    rw [fN_eq, fN_eq]; rfl
theorem fseqK_sim {rec : FRc} {recA : AC → List Value → FM → Nat → CR FM} (hrec : RcSim rec recA) {b : AC} {x : FC} {y : CR FM} (h : CSim x y) : CSim (fseqK rec b x) (crRec y (onNorm (recA b))) := by
  cases x with
  | no => trivial
  | ok X e m n r w =>
    replace h : y = _ := h
    subst h
    cases X with
    | norm => exact faddRW_sim (hrec b e m n)
    | exit i => rfl
    | ret v => rfl
theorem fexecK_sim {P : Program} {cal : FCal} {calA : Nat → List Value → FM → Nat → OR FM} (hcal : CalSim cal calA) : ∀ k, RcSim (fexecK P cal k) (execK P calA k)
  | 0 => fun _ _ _ _ => csim_no
  | k + 1 => by
    have ih := fexecK_sim (P := P) hcal k
    intro c e m n
    cases c with
    | skip => rfl
    | reg l => exact cOps_sim hcal l e m n 0 0
    | regD l bs => exact opsDF_sim hcal l bs 0 [] e m n 0 0
    | seq a b => exact fseqK_sim ih (ih a e m n)
    | cond x a b =>
      show CSim (onB (gv e x) (fexecK P cal k a e m n) (fexecK P cal k b e m n) .no) (onCond (execK P calA k a (e.map toV) (absM m n) n) (execK P calA k b (e.map toV) (absM m n) n) (ev (e.map toV) x))
      rw [← gv_eq]
      cases gv e x with
      | b t =>
        cases t
        · exact ih b e m n
        · exact ih a e m n
      | _ => exact csim_no
    | block id sh b =>
      have h := ih b e m n
      show CSim (fblockK id (fexecK P cal k b e m n)) (crRec (execK P calA k b (e.map toV) (absM m n) n) (onBlock id))
      cases hx : fexecK P cal k b e m n with
      | no => exact csim_no
      | ok X e m n r w =>
        rw [hx] at h
        replace h : execK P calA k b _ _ _ = _ := h
        rw [h]
        cases X with
        | norm => rfl
        | exit i =>
          show CSim (Bool.rec (motive := fun _ => FC) _ _ (Nat.beq i id)) (cond (Nat.beq i id) _ _)
          cases Nat.beq i id <;> rfl
        | ret v => rfl
    | loop sh b => exact fseqK_sim ih (ih b e m n)
    | pre sel d c =>
      show CSim (fexecK P cal k c (fixF sel d e) m n) (execK P calA k c (fixE sel d (e.map toV)) (absM m n) n)
      rw [← fixF_eq]
      exact ih c _ m n
    | post c sel d =>
      have h := ih c e m n
      show CSim (fpostK sel d (fexecK P cal k c e m n)) (crRec (execK P calA k c (e.map toV) (absM m n) n) (onPost sel d))
      cases hx : fexecK P cal k c e m n with
      | no => exact csim_no
      | ok X e m n r w =>
        rw [hx] at h
        replace h : execK P calA k c _ _ _ = _ := h
        rw [h]
        cases X with
        | norm => show CR.ok _ (fixE sel d (e.map toV)) _ _ _ _ = _; rw [← fixF_eq]; rfl
        | exit i => rfl
        | ret v => rfl
    | exit id => rfl
    | ret rs =>
      show CSim (fretK e m n (resF e m n rs)) (onRet (e.map toV) (absM m n) n (resA (e.map toV) (absM m n) n rs))
      cases hr : resF e m n rs with
      | none => exact csim_no
      | some p =>
        rw [resF_ok rs p hr]
        show CSim (fF (fun v => .ok (.ret v) e m n p.2 0) (retF p.1)) _
        rw [fF_eq]
        show onRet _ _ _ _ = CR.ok (.ret (toV (retF p.1))) _ _ _ _ _
        rw [retF_eq]; rfl

noncomputable def fcalD (P : Program) (E : Nat → Option AFn) (Yf : FCal) (K : Nat) (d : Nat) : FCal :=
  Nat.rec (motive := fun _ => FCal) Yf (fun _ ih => calFF E Yf (fexecK P ih K)) d
theorem fcalD_sim {P : Program} {E : Nat → Option AFn} {Yf : FCal} {Y : Nat → List Value → FM → Nat → OR FM} (hY : CalSim Yf Y) (K : Nat) : ∀ d, CalSim (fcalD P E Yf K d) (calD P E Y K d)
  | 0 => hY
  | d + 1 => calFF_sim hY (fexecK_sim (fcalD_sim hY K d) K)
noncomputable def fcall (P : Program) (t : Tr AFn) (Yf : FCal) (K d f : Nat) (args : List FV) (m : FTr) (n : Nat) : FR := fcalD P (lookT t) Yf K d f args m n
def Apart (l : List (Nat × AFn)) (Y : Nat → List Value → FM → Nat → OR FM) : Prop := ∀ f fn, look l f = some fn → ∀ args m n, Y f args m n = .no
end Go.Am.V
namespace Go.Am
open Go Go.RowKit
section
variable {μ : Type} [AMem μ] {ρ : Ren} {V : Nat → Option Blk} {w w' : World} {B : Nat}

theorem Post.of_below {n : Nat} {m : μ} (hm : MRel ρ V w B) (hb : Below w.heap.size w w') : Post ρ V w B n m n 0 ρ w' :=
  ⟨Ren.le_refl ρ, fun _ _ h => .inl h, by
    rw [upd_zero]
    exact ⟨fun b p O hp hO => (hm.blk b p O hp hO).mono (Ren.le_refl ρ) (hb.block _ (hm.fresh b p hp)), hm.excl, fun b p hp => Nat.lt_of_lt_of_le (hm.fresh b p hp) hb.size, Nat.le_trans hm.le hb.size, hm.gl.mono (hb.mono hm.le)⟩,
    hb.mono hm.le, Nat.le_refl _, fun k hk _ => hb.block k hk, fun _ _ h => .inl h, fun b h => by simp at h⟩

end
end Go.Am
namespace Go.Am.V
open Go Go.Am Go.Am.Fast

noncomputable def rn (f : Nat → Nat) (v : FV) : FV := FV.rec (motive := fun _ => FV) (fun z => .i z) (fun t => .b t) (fun b o => .p (f b) o) (fun b o l c => .s (f b) o l c) (fun v => .o v) v
noncomputable def leaf (k : Nat) (v : FV) : Bool := FV.rec (motive := fun _ => Bool) (fun _ => true) (fun _ => true) (fun b _ => Nat.blt b k) (fun b _ _ _ => Nat.blt b k) addrFree v
noncomputable def rnB (f : Nat → Nat) (x : FBlk) : FBlk := FBlk.rec (motive := fun _ => FBlk) (fun c sz opn wr => ⟨pmap (rn f) c, sz, opn, wr⟩) x
noncomputable def layF (f : Nat → Nat) (bs : List FBlk) : FTr → FTr := List.rec (motive := fun _ => FTr → FTr) (fun m => m) (fun b _ ih m => ih (some (rnB f b) :: m)) bs
noncomputable def layA (f : Nat → Nat) (bs : List FBlk) : Nat → FM → FM := List.rec (motive := fun _ => Nat → FM → FM) (fun _ m => m) (fun b _ ih n m => ih (n + 1) (AMem.put m n (some (toB (rnB f b))))) bs
structure Memo where
  f : Nat
  args : List Value
  rs : List FV
  bs : List FBlk
  pi : List Nat
  ag : Bool := false
def mres (M : Memo) (l : List Value) : Value := cond M.ag (.agg l.toArray) (retV l)
noncomputable def newW (n len : Nat) : Nat := Nat.shiftLeft (Nat.sub (Nat.pow 2 len) 1) n
noncomputable def memoA (M : Memo) (f : Nat) (args : List Value) (m : FM) (n : Nat) : OR FM :=
  cond (Nat.beq f M.f && veqL args M.args) (.ok (mres M ((M.rs.map (rn (fun b => n + b))).map toV)) (layA (fun b => n + b) M.bs n m) (n + M.bs.length) 0 (newW n M.bs.length)) .no
noncomputable def pif (l : List Nat) (b : Nat) : Nat := Option.rec (motive := fun _ => Nat) 0 (fun x => x) (pget l b)
structure Fits (M : Memo) (v : Value) (m : FM) (w : Nat) : Prop where
  res : v = mres M ((M.rs.map (rn (pif M.pi))).map toV)
  leafs : M.rs.all (leaf M.bs.length) = true
  len : M.pi.length = M.bs.length
  nodup : M.pi.Nodup
  blk : ∀ i b, M.bs[i]? = some b → m (pif M.pi i) = some (toB (rnB (pif M.pi) b)) ∧ b.c.all (leaf M.bs.length) = true ∧ w.testBit (pif M.pi i) = true
section
variable {P : Program}
end
end Go.Am.V
namespace Go.Am.V
open Go Go.Am Go.Am.Fast Go.RowKit

noncomputable def eqF (a b : FV) : Bool :=
  FV.rec (motive := fun _ => FV → Bool) (fun x b => FV.rec (motive := fun _ => Bool) (fun y => eqB x y) (fun _ => false) (fun _ _ => false) (fun _ _ _ _ => false) (fun _ => false) b)
    (fun x b => FV.rec (motive := fun _ => Bool) (fun _ => false) (fun y => Bool.rec (motive := fun _ => Bool) (Bool.not y) y x) (fun _ _ => false) (fun _ _ _ _ => false) (fun _ => false) b)
    (fun x o b => FV.rec (motive := fun _ => Bool) (fun _ => false) (fun _ => false) (fun y o' => Nat.beq x y && Nat.beq o o') (fun _ _ _ _ => false) (fun _ => false) b)
    (fun x o l c b => FV.rec (motive := fun _ => Bool) (fun _ => false) (fun _ => false) (fun _ _ => false) (fun y o' l' c' => Nat.beq x y && Nat.beq o o' && Nat.beq l l' && Nat.beq c c') (fun _ => false) b)
    (fun x b => FV.rec (motive := fun _ => Bool) (fun _ => false) (fun _ => false) (fun _ _ => false) (fun _ _ _ _ => false) (fun y => veq x y) b) a b
noncomputable def eqFs (a : List FV) : List FV → Bool :=
  List.rec (motive := fun _ => List FV → Bool) (fun b => List.rec (motive := fun _ => Bool) true (fun _ _ _ => false) b) (fun x _ ih b => List.rec (motive := fun _ => Bool) false (fun y t _ => Bool.rec (motive := fun _ => Bool) false (ih t) (eqF x y)) b) a
noncomputable def partsR (v : FV) : List FV := match toV v with | .tuple vs => pmap ofV vs.toList | _ => [v]
noncomputable def resB (v : FV) (rs : List FV) : Bool := List.rec (motive := fun _ => Bool) false (fun x t _ => List.rec (motive := fun _ => Bool) (eqF v x) (fun _ _ _ => match toV v with | .tuple vs => eqFs (pmap ofV vs.toList) rs | _ => false) t) rs
noncomputable def resG (M : Memo) (v : FV) (rs : List FV) : Bool := Bool.rec (motive := fun _ => Bool) (resB v rs) (match toV v with | .agg vs => eqFs (pmap ofV vs.toList) rs | _ => false) M.ag
noncomputable def mresF (M : Memo) (l : List FV) : FV := Bool.rec (motive := fun _ => FV) (retF l) (.o (.agg (pmap toV l).toArray)) M.ag
noncomputable def allB {α : Type} (p : α → Bool) (l : List α) : Bool := List.rec (motive := fun _ => Bool) true (fun x _ ih => Bool.rec (motive := fun _ => Bool) false ih (p x)) l
noncomputable def nodupB (l : List Nat) : Bool := List.rec (motive := fun _ => Bool) true (fun x t ih => Bool.rec (motive := fun _ => Bool) false ih (allB (fun y => Bool.not (Nat.beq x y)) t)) l
noncomputable def boolEq (a b : Bool) : Bool := Bool.rec (motive := fun _ => Bool) (Bool.not b) b a
noncomputable def blkB (f : Nat → Nat) (k : Nat) (x : Option FBlk) (b : FBlk) : Bool :=
  Option.rec (motive := fun _ => Bool) false (fun x => eqFs x.c (pmap (rn f) b.c) && Nat.beq x.sz b.sz && boolEq x.opn b.opn && boolEq x.wr b.wr && allB (leaf k) b.c) x
noncomputable def blksB (M : Memo) (m : FTr) (n w : Nat) (bs : List FBlk) : Nat → Bool :=
  List.rec (motive := fun _ => Nat → Bool) (fun _ => true) (fun b _ ih i => Bool.rec (motive := fun _ => Bool) false (ih (Nat.succ i)) (blkB (pif M.pi) (plen M.bs) (gb m n (pif M.pi i)) b && Nat.testBit w (pif M.pi i))) bs
noncomputable def fitsB (M : Memo) (x : FR) : Bool :=
  FR.rec (motive := fun _ => Bool) false (fun _ => false) (fun _ _ => false) (fun v m n _ w => resG M v (pmap (rn (pif M.pi)) M.rs) && allB (leaf (plen M.bs)) M.rs && Nat.beq (plen M.pi) (plen M.bs) && nodupB M.pi && blksB M m n w M.bs 0) x
noncomputable def memoF (M : Memo) : FCal := fun f args m n =>
  Bool.rec (motive := fun _ => FR) .no (Bool.rec (motive := fun _ => FR) .no (.ok (mresF M (pmap (rn (fun b => Nat.add n b)) M.rs)) (layF (fun b => Nat.add n b) M.bs m) (Nat.add n (plen M.bs)) 0 (newW n (plen M.bs))) (veqL (pmap toV args) M.args)) (Nat.beq f M.f)
def altA (a b : Nat → List Value → FM → Nat → OR FM) : Nat → List Value → FM → Nat → OR FM := fun f args m n =>
  match a f args m n with
  | .no => b f args m n
  | .ok v m n r w => .ok v m n r w
noncomputable def altF (a b : FCal) : FCal := fun f args m n => FR.rec (motive := fun _ => FR) (b f args m n) (fun v => .pv v) (fun v b => .rd v b) (fun v m n r w => .ok v m n r w) (a f args m n)
theorem alt_loc {a b : Nat → List Value → FM → Nat → OR FM} (ha : CallLoc a) (hb : CallLoc b) : CallLoc (altA a b) := by
  intro f args m n v m' n' r wm h
  unfold altA at h
  split at h
  · exact hb _ _ _ _ _ _ _ _ _ h
  · rename_i he
    rw [h] at he
    exact ha _ _ _ _ _ _ _ _ _ he
theorem alt_sim {P : Program} {a b : Nat → List Value → FM → Nat → OR FM} (ha : CallSim P a) (hb : CallSim P b) : CallSim P (altA a b) := by
  intro f args m n v m' n' r wm h
  unfold altA at h
  split at h
  · exact hb _ _ _ _ _ _ _ _ _ h
  · rename_i he
    rw [h] at he
    exact ha _ _ _ _ _ _ _ _ _ he
noncomputable def memosA (l : List Memo) (Y : Nat → List Value → FM → Nat → OR FM) : Nat → List Value → FM → Nat → OR FM := l.foldr (fun M r => altA (memoA M) r) Y
noncomputable def memosF (l : List Memo) (Y : FCal) : FCal := List.rec (motive := fun _ => FCal) Y (fun M _ r => altF (memoF M) r) l
structure Env (P : Program) (tab : List (Nat × AFn)) (Y : Nat → List Value → FM → Nat → OR FM) (Yf : FCal) : Prop where
  mix : P.follows .mixedOrders = true
  good : Good P tab
  small : (tab.all fun p => Nat.blt p.1 256) = true
  loc : CallLoc Y
  sim : CallSim P Y
  fast : CalSim Yf Y
  apart : Apart tab Y
theorem Env.calls {P : Program} {tab : List (Nat × AFn)} {Y : Nat → List Value → FM → Nat → OR FM} {Yf : FCal} (h : Env P tab Y Yf) (k : Nat) : CallSim P (callA (look tab) Y (exec P (look tab) Y k)) :=
  call_sim h.loc h.sim h.good.look (code_sim h.mix draw_sim h.loc h.sim h.good.look k).1
noncomputable def gaveT (x : FR) : Bool := FR.rec (motive := fun _ => Bool) false (fun v => onB v true false false) (fun v _ => onB v true false false) (fun v _ _ _ _ => onB v true false false) x
theorem Env.top {P : Program} {tab : List (Nat × AFn)} {Y : Nat → List Value → FM → Nat → OR FM} {Yf : FCal} (h : Env P tab Y Yf) {K d f : Nat} {fargs : List FV} (hrun : gaveT (fcall P (treeOf tab) Yf K (Nat.succ d) f fargs [] 0) = true) :
    ∃ k m n r w, callA (look tab) Y (exec P (look tab) Y k) f (fargs.map toV) (absM [] 0) 0 = .ok (.bool true) m n r w := by
  have hs := fcalD_sim (P := P) (E := look tab) h.fast K (Nat.succ d) f fargs [] 0
  unfold fcall at hrun
  rw [lookT_look h.small] at hrun
  have hb : ∀ v : FV, onB v true false false = true → toV v = .bool true := fun v hv => by
    cases v with
    | b t => cases t <;> first | rfl | cases hv
    | _ => cases hv
  cases hx : fcalD P (look tab) Yf K (Nat.succ d) f fargs [] 0 with
  | no => rw [hx] at hrun; cases hrun
  | pv v =>
    rw [hx] at hs hrun
    exact ⟨Nat.succ d * K, _, _, _, _, by rw [← hb v hrun]; exact calD_le h.apart K (Nat.succ d) f _ _ 0 _ _ _ _ _ hs⟩
  | rd v b =>
    rw [hx] at hs hrun
    exact ⟨Nat.succ d * K, _, _, _, _, by rw [← hb v hrun]; exact calD_le h.apart K (Nat.succ d) f _ _ 0 _ _ _ _ _ hs⟩
  | ok v m n r w =>
    rw [hx] at hs hrun
    exact ⟨Nat.succ d * K, _, _, _, _, by rw [← hb v hrun]; exact calD_le h.apart K (Nat.succ d) f _ _ 0 _ _ _ _ _ hs⟩
end Go.Am.V
namespace Go.Am.V
open Go Go.Am Go.Am.Fast Go.RowKit

theorem apart_alt {tab : List (Nat × AFn)} {a b : Nat → List Value → FM → Nat → OR FM} (ha : Apart tab a) (hb : Apart tab b) : Apart tab (altA a b) := by
  intro f fn h args m n
  unfold altA
  rw [ha f fn h args m n]
  exact hb f fn h args m n
def FM0 : FM := fun _ => none
def isT : Value → Bool
  | .bool b => b
  | _ => false
noncomputable def gaveTA (x : OR FM) : Bool := OR.rec (motive := fun _ => Bool) false (fun v _ _ _ _ => isT v) x
end Go.Am.V
namespace Go.Am.V
open Go Go.Am Go.Am.Fast Go.RowKit

def Runs (P : Program) (tab : List (Nat × AFn)) (Y : Nat → List Value → FM → Nat → OR FM) (c : AC) (e : List Value) (m : FM) (n : Nat) (X : AX) (e' : List Value) (m' : FM) (n' : Nat) : Prop :=
  ∃ k r w, exec P (look tab) Y k c e m n = .ok X e' m' n' r w
section
variable {P : Program} {tab : List (Nat × AFn)} {Y : Nat → List Value → FM → Nat → OR FM} {Yf : FCal}
theorem Runs.of {c : AC} {e : List Value} {m : FM} {n : Nat} {X : AX} {e' : List Value} {m' : FM} {n' k r w : Nat} (h : exec P (look tab) Y k c e m n = .ok X e' m' n' r w) : Runs P tab Y c e m n X e' m' n' := ⟨k, r, w, h⟩
theorem Runs.seq {a b : AC} {e e1 e2 : List Value} {m m1 m2 : FM} {n n1 n2 : Nat} {X : AX} (h : Runs P tab Y a e m n .norm e1 m1 n1) (k : Runs P tab Y b e1 m1 n1 X e2 m2 n2) : Runs P tab Y (.seq a b) e m n X e2 m2 n2 := by
  obtain ⟨k1, r1, w1, h1⟩ := h
  obtain ⟨k2, r2, w2, h2⟩ := k
  have h1' := exec_mono (Nat.le_max_left k1 k2) a e m n _ _ _ _ _ _ h1
  have h2' := exec_mono (Nat.le_max_right k1 k2) b e1 m1 n1 _ _ _ _ _ _ h2
  refine ⟨max k1 k2 + 1, Nat.lor r1 r2, Nat.lor w1 w2, ?_⟩
  show crRec (exec P (look tab) Y (max k1 k2) a e m n) (onNorm (exec P (look tab) Y (max k1 k2) b)) = _
  rw [h1', crRec_mk, onNorm_norm, h2', addRW_mk]
theorem Runs.call {f : Nat} {fn : AFn} {args : List Value} {m m' : FM} {n n' : Nat} {e' : List Value} (hf : look tab f = some fn) (ha : Nat.beq (llen args) fn.na = true) (h : Runs P tab Y fn.code args m n (.ret (.bool true)) e' m' n') :
    ∃ k m2 n2 r w, callA (look tab) Y (exec P (look tab) Y k) f args m n = .ok (.bool true) m2 n2 r w := by
  obtain ⟨k, r, w, h⟩ := h
  have : callA (look tab) Y (exec P (look tab) Y k) f args m n = leaveA m n (.bool true) m' n' r w := by
    show Option.rec (motive := fun _ => OR FM) (Y f args m n) (callF (exec P (look tab) Y k) args m n) (look tab f) = _
    rw [hf]
    show cond (Nat.beq (llen args) fn.na) (CR.rec (motive := fun _ => OR FM) .no (fun x e m' n' r w => leaveX fn m n e m' n' r w x) (exec P (look tab) Y k fn.code args m n)) .no = _
    rw [ha, h]; rfl
  refine ⟨k, ?_⟩
  rw [this]
  unfold leaveA
  cases (addrFree (.bool true) && Nat.beq (Nat.mod w (bit n)) 0)
  · exact ⟨_, _, _, _, rfl⟩
  · rw [cond_true, forceN_eq]; exact ⟨_, _, _, _, rfl⟩
noncomputable def retT (x : FC) : Bool := FC.rec (motive := fun _ => Bool) false (fun X _ _ _ _ _ => FAX.rec (motive := fun _ => Bool) false (fun _ => false) (fun v => onB v true false false) X) x
theorem Env.rest (h : Env P tab Y Yf) {K d : Nat} {c : AC} {fe : List FV} {fm : FTr} {n : Nat} (hrun : retT (fexecK P (fcalD P (lookT (treeOf tab)) Yf K d) K c fe fm n) = true) : ∃ e' m' n', Runs P tab Y c (fe.map toV) (absM fm n) n (.ret (.bool true)) e' m' n' := by
  have hs := fexecK_sim (P := P) (fcalD_sim (P := P) (E := look tab) h.fast K d) K c fe fm n
  rw [lookT_look h.small] at hrun
  cases hx : fexecK P (fcalD P (look tab) Yf K d) K c fe fm n with
  | no => rw [hx] at hrun; cases hrun
  | ok X e m n' r w =>
    rw [hx] at hs hrun
    cases X with
    | ret v =>
      have hv : toV v = .bool true := by
        replace hrun : onB v true false false = true := hrun
        cases v with
        | b t => cases t <;> first | rfl | cases hrun
        | _ => cases hrun
      replace hs : execK P (calD P (look tab) Y K d) K c (fe.map toV) (absM fm n) n = .ok (.ret (toV v)) (e.map toV) (absM m n') n' r w := hs
      rw [hv] at hs
      exact ⟨_, _, _, d * K + K, r, w, execK_le (calD_le h.apart K d) K c (fe.map toV) (absM fm n) n _ _ _ _ _ _ hs⟩
    | norm => cases hrun
    | exit i => cases hrun
noncomputable def allLt (n : Nat) (p : Nat → Bool) : Bool := Nat.rec (motive := fun _ => Bool) true (fun k ih => Bool.rec (motive := fun _ => Bool) false ih (p k)) n
end
end Go.Am.V
namespace Go.Am
open Go
section
variable {μ : Type} [AMem μ] {P : Program} {E : Nat → Option AFn} {Y : Nat → List Value → μ → Nat → OR μ}
open Classical in
noncomputable def execW (P : Program) (E : Nat → Option AFn) (Y : Nat → List Value → μ → Nat → OR μ) (c : AC) (e : List Value) (m : μ) (n : Nat) : CR μ :=
  if h : ∃ k X e' m' n' r w, exec P E Y k c e m n = .ok X e' m' n' r w then exec P E Y h.choose c e m n else .no
theorem execW_of {c : AC} {e : List Value} {m : μ} {n k : Nat} {X : AX} {e' : List Value} {m' : μ} {n' r w : Nat} (h : exec P E Y k c e m n = .ok X e' m' n' r w) : execW P E Y c e m n = .ok X e' m' n' r w := by
  have hx : ∃ k X e' m' n' r w, exec P E Y k c e m n = .ok X e' m' n' r w := ⟨k, X, e', m', n', r, w, h⟩
  unfold execW
  rw [dif_pos hx]
  obtain ⟨X2, e2, m2, n2, r2, w2, h2⟩ := hx.choose_spec
  have a := exec_mono (Nat.le_max_left k hx.choose) c e m n _ _ _ _ _ _ h
  have b := exec_mono (Nat.le_max_right k hx.choose) c e m n _ _ _ _ _ _ h2
  rw [a] at b
  rw [h2, b]
theorem execW_some {c : AC} {e : List Value} {m : μ} {n : Nat} {X : AX} {e' : List Value} {m' : μ} {n' r w : Nat} (h : execW P E Y c e m n = .ok X e' m' n' r w) : ∃ k, exec P E Y k c e m n = .ok X e' m' n' r w := by
  unfold execW at h
  split at h
  · exact ⟨_, h⟩
  · cases h
theorem exec_leW (k : Nat) : RcLe (exec P E Y k) (execW P E Y) := fun c e m n X e' m' n' r w h => execW_of h

def ORch (x : OR μ) (y : Nat → OR μ) : Prop := ∀ v m n r w, x = .ok v m n r w → ∃ k, ∀ k', k ≤ k' → y k' = .ok v m n r w
def CRch (x : CR μ) (y : Nat → CR μ) : Prop := ∀ X e m n r w, x = .ok X e m n r w → ∃ k, ∀ k', k ≤ k' → y k' = .ok X e m n r w
theorem ORch.const (x : OR μ) : ORch x (fun _ => x) := fun _ _ _ _ _ h => ⟨0, fun _ _ => h⟩
theorem CRch.const (x : CR μ) : CRch x (fun _ => x) := fun _ _ _ _ _ _ h => ⟨0, fun _ _ => h⟩
theorem execW_rch (c : AC) (e : List Value) (m : μ) (n : Nat) : CRch (execW P E Y c e m n) (fun k => exec P E Y k c e m n) := by
  intro X e' m' n' r w h
  obtain ⟨k, hk⟩ := execW_some h
  exact ⟨k, fun k' hk' => exec_mono hk' c e m n _ _ _ _ _ _ hk⟩
theorem orRec_rch {x : OR μ} {y : Nat → OR μ} {f : Value → μ → Nat → Nat → Nat → CR μ} {g : Nat → Value → μ → Nat → Nat → Nat → CR μ} (h : ORch x y) (hf : ∀ v m n r w, CRch (f v m n r w) (fun k => g k v m n r w)) : CRch (orRec x f) (fun k => orRec (y k) (g k)) := by
  intro X e m n r w he
  cases hx : x with
  | no => rw [hx] at he; cases he
  | ok v m1 n1 r1 w1 =>
    rw [hx] at he
    obtain ⟨k1, h1⟩ := h _ _ _ _ _ hx
    obtain ⟨k2, h2⟩ := hf v m1 n1 r1 w1 X e m n r w he
    refine ⟨max k1 k2, fun k' hk' => ?_⟩
    show orRec (y k') (g k') = _
    rw [h1 k' (by omega)]
    exact h2 k' (by omega)
theorem crRec_rch {x : CR μ} {y : Nat → CR μ} {f : AX → List Value → μ → Nat → Nat → Nat → CR μ} {g : Nat → AX → List Value → μ → Nat → Nat → Nat → CR μ} (h : CRch x y) (hf : ∀ v e m n r w, CRch (f v e m n r w) (fun k => g k v e m n r w)) : CRch (crRec x f) (fun k => crRec (y k) (g k)) := by
  intro X e m n r w he
  cases hx : x with
  | no => rw [hx] at he; cases he
  | ok v e1 m1 n1 r1 w1 =>
    rw [hx] at he
    obtain ⟨k1, h1⟩ := h _ _ _ _ _ _ hx
    obtain ⟨k2, h2⟩ := hf v e1 m1 n1 r1 w1 X e m n r w he
    refine ⟨max k1 k2, fun k' hk' => ?_⟩
    show crRec (y k') (g k') = _
    rw [h1 k' (by omega)]
    exact h2 k' (by omega)
theorem cond_rch (b : Bool) {x x' : CR μ} {y y' : Nat → CR μ} (h : CRch x y) (k : CRch x' y') : CRch (cond b x x') (fun k => cond b (y k) (y' k)) := by cases b <;> assumption
theorem call_rch (f : Nat) (args : List Value) (m : μ) (n : Nat) : ORch (callA E Y (execW P E Y) f args m n) (fun k => callA E Y (exec P E Y k) f args m n) := by
  intro v m' n' r w h
  show ∃ k, ∀ k', k ≤ k' → Option.rec (motive := fun _ => OR μ) (Y f args m n) (callF (exec P E Y k') args m n) (E f) = _
  replace h : Option.rec (motive := fun _ => OR μ) (Y f args m n) (callF (execW P E Y) args m n) (E f) = _ := h
  cases hE : E f with
  | none => rw [hE] at h; exact ⟨0, fun _ _ => h⟩
  | some fn =>
    rw [hE] at h
    replace h : cond (Nat.beq (llen args) fn.na) (CR.rec (motive := fun _ => OR μ) .no (fun x e m' n' r w => leaveX fn m n e m' n' r w x) (execW P E Y fn.code args m n)) .no = _ := h
    show ∃ k, ∀ k', k ≤ k' → cond (Nat.beq (llen args) fn.na) (CR.rec (motive := fun _ => OR μ) .no (fun x e m' n' r w => leaveX fn m n e m' n' r w x) (exec P E Y k' fn.code args m n)) .no = _
    cases hb : Nat.beq (llen args) fn.na
    · rw [hb] at h; cases h
    · rw [hb, cond_true] at h
      cases hx : execW P E Y fn.code args m n with
      | no => rw [hx] at h; cases h
      | ok X e2 m2 n2 r2 w2 =>
        rw [hx] at h
        obtain ⟨k, hk⟩ := execW_rch fn.code args m n _ _ _ _ _ _ hx
        exact ⟨k, fun k' hk' => by
          have hk2 : exec P E Y k' fn.code args m n = _ := hk k' hk'
          rw [hk2, cond_true]; exact h⟩
theorem step_rch (e : List Value) (m : μ) (n : Nat) (o : AOp) : ORch (stepA P (callA E Y (execW P E Y)) e m n o) (fun k => stepA P (callA E Y (exec P E Y k)) e m n o) := by
  cases o
  case call f args => exact call_rch f _ m n
  case callv x args =>
    show ORch (callV (callA E Y (execW P E Y)) (evs e args) m n (ev e x)) (fun k => callV (callA E Y (exec P E Y k)) (evs e args) m n (ev e x))
    generalize ev e x = v
    unfold callV
    split
    · exact call_rch _ _ m n
    · exact ORch.const _
  all_goals exact ORch.const _
theorem ops_rch : ∀ (l : List AI) (e : List Value) (m : μ) (n r w : Nat), CRch (opsA P (callA E Y (execW P E Y)) l e m n r w) (fun k => opsA P (callA E Y (exec P E Y k)) l e m n r w)
  | [], e, m, n, r, w => CRch.const _
  | i :: l, e, m, n, r, w => by
    have ih := ops_rch l
    cases i with
    | nop i => exact ih e m n r w
    | op o => exact orRec_rch (step_rch e m n o) fun v m n r' w' => ih _ m n _ _
    | eff o => exact orRec_rch (step_rch e m n o) fun v m n r' w' => ih _ m n _ _
    | opg o gi gw => exact cond_rch _ (orRec_rch (step_rch e m n o) fun v m n r' w' => ih _ m n _ _) (ih _ m n r w)
    | effg o gi gw => exact cond_rch _ (orRec_rch (step_rch e m n o) fun v m n r' w' => ih _ m n _ _) (ih _ m n r w)
theorem okD_rch {bef q : Nat} {done : List (Nat × Nat × Nat)} {x : OR μ} {y : Nat → OR μ} {f : Value → μ → Nat → Nat → Nat → List (Nat × Nat × Nat) → CR μ} {g : Nat → Value → μ → Nat → Nat → Nat → List (Nat × Nat × Nat) → CR μ} (h : ORch x y) (hf : ∀ v m n r w d, CRch (f v m n r w d) (fun k => g k v m n r w d)) :
    CRch (okD bef q done x f) (fun k => okD bef q done (y k) (g k)) := by
  refine orRec_rch (g := fun k v m n r w => forceN r fun r => forceN w fun w => cond (Nat.beq (Nat.lor r w) 0) (g k v m n r w done) (cond (apart bef r w done) (g k v m n r w ((q, r, w) :: done)) .no)) h fun v m n r w => ?_
  rw [forceN_eq, forceN_eq]
  simp only [forceN_eq]
  exact cond_rch _ (hf v m n r w _) (cond_rch _ (hf v m n r w _) (CRch.const _))
theorem stepD_rch (e : List Value) (m : μ) (n : Nat) (o : AOp) : ORch (stepD P (callA E Y (execW P E Y)) e m n o) (fun k => stepD P (callA E Y (exec P E Y k)) e m n o) := by
  unfold stepD
  cases belowOps n e o
  · exact ORch.const _
  · exact step_rch e m n o
theorem opsD_rch : ∀ (l : List AI) (bs : List Nat) (q : Nat) (done : List (Nat × Nat × Nat)) (e : List Value) (m : μ) (n r w : Nat), CRch (opsD P (callA E Y (execW P E Y)) l bs q done e m n r w) (fun k => opsD P (callA E Y (exec P E Y k)) l bs q done e m n r w)
  | [], bs, q, done, e, m, n, r, w => CRch.const _
  | i :: l, bs, q, done, e, m, n, r, w => by
    have ih := opsD_rch l
    have h1 : ∀ o, CRch (okD (bs.headD 0) q done (stepD P (callA E Y (execW P E Y)) e m n o) fun v m n r' w' done => opsD P (callA E Y (execW P E Y)) l bs.tail (Nat.succ q) done (v :: e) m n (Nat.lor r r') (Nat.lor w w'))
        (fun k => okD (bs.headD 0) q done (stepD P (callA E Y (exec P E Y k)) e m n o) fun v m n r' w' done => opsD P (callA E Y (exec P E Y k)) l bs.tail (Nat.succ q) done (v :: e) m n (Nat.lor r r') (Nat.lor w w')) := fun o =>
      okD_rch (stepD_rch e m n o) fun v m n r' w' d => ih _ _ _ _ m n _ _
    have h2 : ∀ o, CRch (okD (bs.headD 0) q done (stepD P (callA E Y (execW P E Y)) e m n o) fun _ m n r' w' done => opsD P (callA E Y (execW P E Y)) l bs.tail (Nat.succ q) done e m n (Nat.lor r r') (Nat.lor w w'))
        (fun k => okD (bs.headD 0) q done (stepD P (callA E Y (exec P E Y k)) e m n o) fun _ m n r' w' done => opsD P (callA E Y (exec P E Y k)) l bs.tail (Nat.succ q) done e m n (Nat.lor r r') (Nat.lor w w')) := fun o =>
      okD_rch (stepD_rch e m n o) fun v m n r' w' d => ih _ _ _ _ m n _ _
    cases i with
    | nop i => exact ih _ _ _ e m n r w
    | op o => exact h1 o
    | eff o => exact h2 o
    | opg o gi gw => exact cond_rch _ (h1 o) (ih _ _ _ _ m n r w)
    | effg o gi gw => exact cond_rch _ (h2 o) (ih _ _ _ _ m n r w)
theorem addRW_rch (r w : Nat) {x : CR μ} {y : Nat → CR μ} (h : CRch x y) : CRch (addRW r w x) (fun k => addRW r w (y k)) := by
  intro X e m n r' w' he
  cases hx : x with
  | no => rw [hx] at he; cases he
  | ok X1 e1 m1 n1 r1 w1 =>
    rw [hx] at he
    obtain ⟨k, hk⟩ := h _ _ _ _ _ _ hx
    exact ⟨k, fun k' hk' => by show addRW r w (y k') = _; rw [hk k' hk']; exact he⟩
theorem onNorm_rch {f : List Value → μ → Nat → CR μ} {g : Nat → List Value → μ → Nat → CR μ} (h : ∀ e m n, CRch (f e m n) (fun k => g k e m n)) (X : AX) (e : List Value) (m : μ) (n r w : Nat) : CRch (onNorm f X e m n r w) (fun k => onNorm (g k) X e m n r w) := by
  cases X with
  | norm => exact addRW_rch r w (h e m n)
  | exit i => exact CRch.const _
  | ret v => exact CRch.const _
theorem execW_eq (c : AC) (e : List Value) (m : μ) (n : Nat) : execW P E Y c e m n = execC P (callA E Y (execW P E Y)) (execW P E Y) c e m n := by
  have key : CRch (execC P (callA E Y (execW P E Y)) (execW P E Y) c e m n) (fun k => execC P (callA E Y (exec P E Y k)) (exec P E Y k) c e m n) := by
    cases c with
    | skip => exact CRch.const _
    | reg l => exact ops_rch l e m n 0 0
    | regD l bs => exact opsD_rch l bs 0 [] e m n 0 0
    | seq x y => exact crRec_rch (g := fun k => onNorm (exec P E Y k y)) (execW_rch x e m n) fun X e m n r w => onNorm_rch (execW_rch y) X e m n r w
    | cond o x y =>
      show CRch (onCond (execW P E Y x e m n) (execW P E Y y e m n) (ev e o)) (fun k => onCond (exec P E Y k x e m n) (exec P E Y k y e m n) (ev e o))
      generalize ev e o = v
      unfold onCond
      split
      · exact cond_rch _ (execW_rch x e m n) (execW_rch y e m n)
      · exact CRch.const _
    | block id sh x => exact crRec_rch (g := fun _ => onBlock id) (execW_rch x e m n) fun X e m n r w => CRch.const _
    | loop sh x => exact crRec_rch (g := fun k => onNorm (exec P E Y k (.loop sh x))) (execW_rch x e m n) fun X e m n r w => onNorm_rch (execW_rch _) X e m n r w
    | pre sel d x => exact execW_rch x _ m n
    | post x sel d => exact crRec_rch (g := fun _ => onPost sel d) (execW_rch x e m n) fun X e m n r w => CRch.const _
    | exit id => exact CRch.const _
    | ret rs => exact CRch.const _
  have hle : CLe (execW P E Y c e m n) (execC P (callA E Y (execW P E Y)) (execW P E Y) c e m n) := by
    intro X e' m' n' r w h
    obtain ⟨k, hk⟩ := execW_some h
    have hs := exec_succ k c e m n _ _ _ _ _ _ hk
    exact execC_le (call_le (exec_leW k)) (exec_leW k) c e m n _ _ _ _ _ _ hs
  cases hx : execC P (callA E Y (execW P E Y)) (execW P E Y) c e m n with
  | no =>
    cases hw : execW P E Y c e m n with
    | no => rfl
    | ok X e' m' n' r w => have := hle _ _ _ _ _ _ hw; rw [hx] at this; cases this
  | ok X e' m' n' r w =>
    obtain ⟨k, hk⟩ := key _ _ _ _ _ _ hx
    exact execW_of (k := k + 1) (hk k (Nat.le_refl _))
end
section
variable {μ : Type} [AMem μ] {P : Program} {E : Nat → Option AFn} {Y : Nat → List Value → μ → Nat → OR μ} {e : List Value} {m : μ} {n : Nat}
theorem w_skip : execW P E Y .skip e m n = .ok .norm e m n 0 0 := execW_eq ..
theorem w_reg (l : List AI) : execW P E Y (.reg l) e m n = opsA P (callA E Y (execW P E Y)) l e m n 0 0 := execW_eq ..
theorem w_regD (l : List AI) (bs : List Nat) : execW P E Y (.regD l bs) e m n = opsD P (callA E Y (execW P E Y)) l bs 0 [] e m n 0 0 := execW_eq ..
theorem w_seq (a b : AC) : execW P E Y (.seq a b) e m n = crRec (execW P E Y a e m n) (onNorm (execW P E Y b)) := execW_eq ..
theorem w_cond (x : Opd) (a b : AC) : execW P E Y (.cond x a b) e m n = onCond (execW P E Y a e m n) (execW P E Y b e m n) (ev e x) := execW_eq ..
theorem w_block (id : Nat) (sh : List (List Nat)) (b : AC) : execW P E Y (.block id sh b) e m n = crRec (execW P E Y b e m n) (onBlock id) := execW_eq ..
theorem w_loop (sh : List (List Nat)) (b : AC) : execW P E Y (.loop sh b) e m n = crRec (execW P E Y b e m n) (onNorm (execW P E Y (.loop sh b))) := execW_eq ..
theorem w_pre (sel : List Nat) (d : Nat) (c : AC) : execW P E Y (.pre sel d c) e m n = execW P E Y c (fixE sel d e) m n := execW_eq ..
theorem w_post (c : AC) (sel : List Nat) (d : Nat) : execW P E Y (.post c sel d) e m n = crRec (execW P E Y c e m n) (onPost sel d) := execW_eq ..
theorem w_exit (id : Nat) : execW P E Y (.exit id) e m n = .ok (.exit id) e m n 0 0 := execW_eq ..
theorem w_ret (rs : List ROp) : execW P E Y (.ret rs) e m n = onRet e m n (resA e m n rs) := execW_eq ..
end
end Go.Am
namespace Go.Am
open Go
section
variable {μ : Type} [AMem μ] {P : Program} {rec : Nat → List Value → μ → Nat → OR μ}
inductive OS (μ : Type) where
  | no
  | ok (e : List Value) (m : μ) (n r w : Nat)
noncomputable def keep (e : List Value) (r w : Nat) : OR μ → OS μ
  | .no => .no
  | .ok v m n r' w' => .ok (v :: e) m n (Nat.lor r r') (Nat.lor w w')
noncomputable def drop1 (e : List Value) (r w : Nat) : OR μ → OS μ
  | .no => .no
  | .ok _ m n r' w' => .ok e m n (Nat.lor r r') (Nat.lor w w')
noncomputable def stepS (P : Program) (rec : Nat → List Value → μ → Nat → OR μ) : OS μ → AI → OS μ
  | .no, _ => .no
  | .ok e m n r w, .nop _ => .ok e m n r w
  | .ok e m n r w, .op o => keep e r w (stepA P rec e m n o)
  | .ok e m n r w, .eff o => drop1 e r w (stepA P rec e m n o)
  | .ok e m n r w, .opg o gi gw => cond (wantB gw (lget e gi)) (keep e r w (stepA P rec e m n o)) (.ok (undef :: e) m n r w)
  | .ok e m n r w, .effg o gi gw => cond (wantB gw (lget e gi)) (drop1 e r w (stepA P rec e m n o)) (.ok e m n r w)
noncomputable def runS (P : Program) (rec : Nat → List Value → μ → Nat → OR μ) (l : List AI) (s : OS μ) : OS μ := l.foldl (stepS P rec) s
def outS : OS μ → CR μ
  | .no => .no
  | .ok e m n r w => .ok .norm e m n r w
theorem runS_no (l : List AI) : runS P rec l .no = .no := by
  induction l with
  | nil => rfl
  | cons i l ih => show runS P rec l (stepS P rec .no i) = _; cases i <;> exact ih
theorem ops_run : ∀ (l : List AI) (e : List Value) (m : μ) (n r w : Nat), opsA P rec l e m n r w = outS (runS P rec l (.ok e m n r w))
  | [], e, m, n, r, w => o_nil
  | i :: l, e, m, n, r, w => by
    have ih := ops_run l
    have hk : ∀ x : OR μ, orRec x (fun v m n r' w' => opsA P rec l (v :: e) m n (Nat.lor r r') (Nat.lor w w')) = outS (runS P rec l (keep e r w x)) := fun x => by
      cases x with
      | no => show CR.no = outS (runS P rec l .no); rw [runS_no]; rfl
      | ok v m1 n1 r1 w1 => exact ih _ m1 n1 _ _
    have hd : ∀ x : OR μ, orRec x (fun _ m n r' w' => opsA P rec l e m n (Nat.lor r r') (Nat.lor w w')) = outS (runS P rec l (drop1 e r w x)) := fun x => by
      cases x with
      | no => show CR.no = outS (runS P rec l .no); rw [runS_no]; rfl
      | ok v m1 n1 r1 w1 => exact ih _ m1 n1 _ _
    cases i with
    | nop i => exact ih e m n r w
    | op o => exact hk _
    | eff o => exact hd _
    | opg o gi gw =>
      show cond (wantB gw (lget e gi)) (orRec (stepA P rec e m n o) fun v m n r' w' => opsA P rec l (v :: e) m n (Nat.lor r r') (Nat.lor w w')) (opsA P rec l (undef :: e) m n r w) = outS (runS P rec l (cond (wantB gw (lget e gi)) (keep e r w (stepA P rec e m n o)) (.ok (undef :: e) m n r w)))
      cases wantB gw (lget e gi)
      · exact ih _ m n r w
      · exact hk _
    | effg o gi gw =>
      show cond (wantB gw (lget e gi)) (orRec (stepA P rec e m n o) fun _ m n r' w' => opsA P rec l e m n (Nat.lor r r') (Nat.lor w w')) (opsA P rec l e m n r w) = outS (runS P rec l (cond (wantB gw (lget e gi)) (drop1 e r w (stepA P rec e m n o)) (.ok e m n r w)))
      cases wantB gw (lget e gi)
      · exact ih e m n r w
      · exact hd _
theorem q_nop (e : List Value) (m : μ) (n r w i : Nat) : stepS P rec (.ok e m n r w) (.nop i) = .ok e m n r w := rfl
theorem q_op (e : List Value) (m : μ) (n r w : Nat) (o : AOp) : stepS P rec (.ok e m n r w) (.op o) = keep e r w (stepA P rec e m n o) := rfl
theorem q_eff (e : List Value) (m : μ) (n r w : Nat) (o : AOp) : stepS P rec (.ok e m n r w) (.eff o) = drop1 e r w (stepA P rec e m n o) := rfl
theorem q_opg (e : List Value) (m : μ) (n r w gi : Nat) (gw : Bool) (o : AOp) : stepS P rec (.ok e m n r w) (.opg o gi gw) = cond (wantB gw (lget e gi)) (keep e r w (stepA P rec e m n o)) (.ok (undef :: e) m n r w) := rfl
theorem q_effg (e : List Value) (m : μ) (n r w gi : Nat) (gw : Bool) (o : AOp) : stepS P rec (.ok e m n r w) (.effg o gi gw) = cond (wantB gw (lget e gi)) (drop1 e r w (stepA P rec e m n o)) (.ok e m n r w) := rfl
theorem keep_ok (e : List Value) (m : μ) (v : Value) (n r w r' w' : Nat) : keep e r w (.ok v m n r' w') = .ok (v :: e) m n (Nat.lor r r') (Nat.lor w w') := rfl
theorem drop1_ok (e : List Value) (m : μ) (v : Value) (n r w r' w' : Nat) : drop1 e r w (.ok v m n r' w') = .ok e m n (Nat.lor r r') (Nat.lor w w') := rfl
theorem out_ok (e : List Value) (m : μ) (n r w : Nat) : outS (.ok e m n r w) = .ok .norm e m n r w := rfl
end
section
variable {μ : Type} [AMem μ] {P : Program} {E : Nat → Option AFn} {Y : Nat → List Value → μ → Nat → OR μ} {e : List Value} {m : μ} {n : Nat}
noncomputable def callW (P : Program) (E : Nat → Option AFn) (Y : Nat → List Value → μ → Nat → OR μ) : Nat → List Value → μ → Nat → OR μ := callA E Y (execW P E Y)
theorem v_reg (l : List AI) : execW P E Y (.reg l) e m n = outS (runS P (callW P E Y) l (.ok e m n 0 0)) := by rw [w_reg, ops_run]; rfl
noncomputable def leaveC (fn : AFn) (m0 : μ) (n0 : Nat) : CR μ → OR μ
  | .no => .no
  | .ok X e m n r w => leaveX fn m0 n0 e m n r w X
theorem callW_fn {f : Nat} {fn : AFn} {args : List Value} (hE : E f = some fn) (ha : llen args = fn.na) : callW P E Y f args m n = leaveC fn m n (execW P E Y fn.code args m n) := by
  show Option.rec (motive := fun _ => OR μ) (Y f args m n) (callF (execW P E Y) args m n) (E f) = _
  rw [hE]
  show cond (Nat.beq (llen args) fn.na) (CR.rec (motive := fun _ => OR μ) .no (fun x e m' n' r w => leaveX fn m n e m' n' r w x) (execW P E Y fn.code args m n)) .no = _
  rw [ha, Nat.beq_refl]
  cases execW P E Y fn.code args m n <;> rfl
theorem callW_Y {f : Nat} {args : List Value} (hE : E f = none) : callW P E Y f args m n = Y f args m n := by
  show Option.rec (motive := fun _ => OR μ) (Y f args m n) (callF (execW P E Y) args m n) (E f) = _
  rw [hE]
theorem leave_ret {fn : AFn} {m0 : μ} {n0 : Nat} (e : List Value) (v : Value) (n r w : Nat) : leaveC fn m0 n0 (.ok (.ret v) e m n r w) = leaveA m0 n0 v m n r w := rfl
theorem leaveA_free {m0 : μ} {n0 : Nat} {v : Value} {n r w : Nat} (hv : addrFree v = true) (hw : Nat.mod w (bit n0) = 0) : leaveA m0 n0 v m n r w = .ok v m0 n0 (Nat.mod r (bit n0)) 0 := by
  unfold leaveA
  rw [hv, hw]
  show cond (true && Nat.beq 0 0) _ _ = _
  rw [forceN_eq]; rfl
theorem leaveA_keep {m0 : μ} {n0 : Nat} {v : Value} {n r w : Nat} (hv : addrFree v = false) : leaveA m0 n0 v m n r w = .ok v m n r w := by
  unfold leaveA
  rw [hv]; rfl
end
end Go.Am
namespace Go.Am
open Go
theorem wantB_undef (w : Bool) : wantB w undef = false := rfl
theorem natOf_zero (k : IntKind) : natOf (.int k 0) = some 0 := rfl
theorem natOf_one (k : IntKind) : natOf (.int k 1) = some 1 := rfl
theorem natOf_mk (k : IntKind) (i : Nat) : natOf (.int k (i : Int)) = some i := rfl
theorem obind_some (f : Nat → Option Value) (i : Nat) : obind f (some i) = f i := rfl
def Sl (m : FM) (n : Nat) (v : Value) (vs : List Value) : Prop :=
  (v = .slice none 0 0 ∧ vs = []) ∨ (∃ b o cap c opn wr, v = .slice (some ⟨b, o, none⟩) vs.length cap ∧ b < n ∧ m b = some (.cells c 1 opn wr) ∧ ∀ (i : Nat) x, vs[i]? = some x → c[o + i]? = some x) ∨
  (v = .slice (some ⟨0, 0, none⟩) 0 VAG ∧ vs = [] ∧ 0 < n)
theorem Sl.len {m : FM} {n : Nat} {v : Value} {vs : List Value} (h : Sl m n v vs) : lenV false v = some (.int .i64 (vs.length : Int)) := by
  rcases h with ⟨rfl, rfl⟩ | ⟨b, o, cap, c, opn, wr, rfl, _⟩ | ⟨rfl, rfl, _⟩ <;> rfl
theorem getb_lt {m : FM} {n b : Nat} (h : b < n) : getb m n b = m b := by
  show cond (Nat.blt b n) (m b) none = m b
  rw [show Nat.blt b n = true from Nat.ble_eq_true_of_le h]; rfl
theorem Sl.at {m : FM} {n : Nat} {v : Value} {vs : List Value} (h : Sl m n v vs) {i : Nat} {x : Value} (hx : vs[i]? = some x) : ∃ a b, idxV 1 i v = some (.pointer (some a)) ∧ ld1V m n (.pointer (some a)) = .ok x m n (bit b) 0 ∧ b < n := by
  rcases h with ⟨rfl, rfl⟩ | ⟨b, o, cap, c, opn, wr, rfl, hb, hm, hc⟩ | ⟨rfl, rfl, _⟩
  · simp at hx
  · have hi : i < vs.length := (List.getElem?_eq_some_iff.1 hx).1
    refine ⟨⟨b, o + i * 1, none⟩, b, ?_, ?_, hb⟩
    · show cond (Nat.blt i vs.length) _ none = _
      rw [show Nat.blt i vs.length = true from Nat.ble_eq_true_of_le hi]; rfl
    · show withCells (getb m n b) (fun c => valR m n b (cget c (o + i * 1))) = _
      rw [getb_lt hb, hm, Nat.mul_one]
      show valR m n b (cget c (o + i)) = _
      rw [cget_eq, hc i x hx]; rfl
  · simp at hx
def Ints (m : FM) (n : Nat) (v : Value) (xs : List Int) : Prop := Sl m n v (xs.map (Value.int .i64))
theorem Ints.len {m : FM} {n : Nat} {v : Value} {xs : List Int} (h : Ints m n v xs) : lenV false v = some (.int .i64 (xs.length : Int)) := by
  have := Sl.len h; rwa [List.length_map] at this
theorem Ints.at {m : FM} {n : Nat} {v : Value} {xs : List Int} (h : Ints m n v xs) {i : Nat} (hi : i < xs.length) : ∃ a b, idxV 1 i v = some (.pointer (some a)) ∧ ld1V m n (.pointer (some a)) = .ok (.int .i64 xs[i]) m n (bit b) 0 ∧ b < n :=
  Sl.at h (by rw [List.getElem?_map, List.getElem?_eq_getElem hi]; rfl)
end Go.Am
namespace Go.Am
open Go
def Gv (x : CR FM) (Q : AX → List Value → FM → Nat → Nat → Prop) : Prop :=
  match x with
  | .no => False
  | .ok X e m n _ w => Q X e m n w
theorem Gv.mono {x : CR FM} {Q Q' : AX → List Value → FM → Nat → Nat → Prop} (h : Gv x Q) (hq : ∀ X e m n w, Q X e m n w → Q' X e m n w) : Gv x Q' := by
  cases x with
  | no => exact h
  | ok X e m n r w => exact hq _ _ _ _ _ h
theorem Gv_add (r w : Nat) (x : CR FM) (Q : AX → List Value → FM → Nat → Nat → Prop) : Gv (addRW r w x) Q = Gv x (fun X e m n w' => Q X e m n (Nat.lor w w')) := by cases x <;> rfl
theorem Gv_some {x : CR FM} {Q : AX → List Value → FM → Nat → Nat → Prop} (h : Gv x Q) : ∃ X e m n r w, x = .ok X e m n r w ∧ Q X e m n w := by
  cases x with
  | no => exact h.elim
  | ok X e m n r w => exact ⟨X, e, m, n, r, w, rfl, h⟩
def Pure (x : OR FM) (m : FM) (n : Nat) (v : Value) : Prop := ∃ r, x = .ok v m n r 0
theorem pure_of {fn : AFn} {m0 : FM} {n0 : Nat} {x : CR FM} {v : Value} (hv : addrFree v = true) (h : Gv x fun X _ _ _ w => X = .ret v ∧ Nat.mod w (bit n0) = 0) : Pure (leaveC fn m0 n0 x) m0 n0 v := by
  obtain ⟨X, e, m, n, r, w, rfl, rfl, hw⟩ := Gv_some h
  rw [leave_ret]
  exact ⟨_, leaveA_free hv hw⟩
end Go.Am
namespace Go.Am.C13
open Go Go.Am
section
variable {P : Program} {E : Nat → Option AFn} {Y : Nat → List Value → FM → Nat → OR FM} {e : List Value} {m : FM} {n : Nat}
end
noncomputable abbrev PG : Program := Proofs.Tryd.prog
end Go.Am.C13
namespace Go.Am.C13
open Go
structure Flt where
  at_ : Int
  kind : Int
  to : Int
def okF (p : Int) (f : Flt) : Bool := decide (p < f.at_) && (decide (1 ≤ f.kind) && (decide (f.kind ≤ 7) && (decide (0 ≤ f.to) && (decide (f.to = 0) || (decide (f.kind = 3) || decide (f.kind = 5))))))
def okFs : Int → List Flt → Bool
  | _, [] => true
  | p, f :: l => okF p f && okFs f.at_ l
def validB (l : List Flt) : Bool := okFs (-1) l
def findB (l : List Flt) (op : Int) : Option Flt := l.find? fun f => decide (f.at_ = op)
def within (l : List Flt) (a b : Int) : List Flt := l.filter fun f => decide (a ≤ f.at_) && decide (f.at_ < b)
theorem okF_lt {p : Int} {f : Flt} (h : okF p f = true) : p < f.at_ := by
  simp only [okF, Bool.and_eq_true, decide_eq_true_iff] at h
  exact h.1
theorem okFs_lt : ∀ {l : List Flt} {p : Int}, okFs p l = true → ∀ f ∈ l, p < f.at_
  | [], p, h, f, hf => by cases hf
  | x :: l, p, h, f, hf => by
    simp only [okFs, Bool.and_eq_true] at h
    have h1 := okF_lt h.1
    rcases List.mem_cons.1 hf with rfl | hf
    · exact h1
    · have := okFs_lt h.2 f hf; omega
end Go.Am.C13
namespace Go.Am
open Go
section
variable {μ : Type} [AMem μ] {P : Program} {rec : Nat → List Value → μ → Nat → OR μ}
inductive OD (μ : Type) where
  | no
  | ok (k : Nat) (done : List (Nat × Nat × Nat)) (e : List Value) (m : μ) (n r w : Nat)
noncomputable def keepD (b : Nat) (keepV : Bool) (k : Nat) (done : List (Nat × Nat × Nat)) (e : List Value) (r w : Nat) : OR μ → OD μ
  | .no => .no
  | .ok v m n r' w' => cond (apart b r' w' done) (.ok (k + 1) ((k, r', w') :: done) (cond keepV (v :: e) e) m n (Nat.lor r r') (Nat.lor w w')) .no
noncomputable def stepX (P : Program) (rec : Nat → List Value → μ → Nat → OR μ) : OD μ → AI × Nat → OD μ
  | .no, _ => .no
  | .ok k done e m n r w, (.nop _, _) => .ok (k + 1) done e m n r w
  | .ok k done e m n r w, (.op o, b) => keepD b true k done e r w (stepD P rec e m n o)
  | .ok k done e m n r w, (.eff o, b) => keepD b false k done e r w (stepD P rec e m n o)
  | .ok k done e m n r w, (.opg o gi gw, b) => cond (wantB gw (lget e gi)) (keepD b true k done e r w (stepD P rec e m n o)) (.ok (k + 1) done (undef :: e) m n r w)
  | .ok k done e m n r w, (.effg o gi gw, b) => cond (wantB gw (lget e gi)) (keepD b false k done e r w (stepD P rec e m n o)) (.ok (k + 1) done e m n r w)
noncomputable def runX (P : Program) (rec : Nat → List Value → μ → Nat → OR μ) (l : List (AI × Nat)) (s : OD μ) : OD μ := l.foldl (stepX P rec) s
def outX : OD μ → CR μ
  | .no => .no
  | .ok _ _ e m n r w => .ok .norm e m n r w
def zipB : List AI → List Nat → List (AI × Nat)
  | [], _ => []
  | i :: l, bs => (i, bs.headD 0) :: zipB l bs.tail
theorem runX_no (l : List (AI × Nat)) : runX P rec l .no = .no := by
  induction l with
  | nil => rfl
  | cons i l ih => exact ih
theorem z_nil (bs : List Nat) : zipB [] bs = [] := rfl
theorem z_cons (i : AI) (l : List AI) (b : Nat) (bs : List Nat) : zipB (i :: l) (b :: bs) = (i, b) :: zipB l bs := rfl
variable (k : Nat) (done : List (Nat × Nat × Nat)) (e : List Value) (m : μ) (n r w b : Nat)
theorem y_nop (i : Nat) : stepX P rec (.ok k done e m n r w) (.nop i, b) = .ok (k + 1) done e m n r w := rfl
theorem y_op (o : AOp) : stepX P rec (.ok k done e m n r w) (.op o, b) = keepD b true k done e r w (stepD P rec e m n o) := rfl
theorem y_eff (o : AOp) : stepX P rec (.ok k done e m n r w) (.eff o, b) = keepD b false k done e r w (stepD P rec e m n o) := rfl
theorem y_opg (o : AOp) (gi : Nat) (gw : Bool) : stepX P rec (.ok k done e m n r w) (.opg o gi gw, b) = cond (wantB gw (lget e gi)) (keepD b true k done e r w (stepD P rec e m n o)) (.ok (k + 1) done (undef :: e) m n r w) := rfl
theorem y_effg (o : AOp) (gi : Nat) (gw : Bool) : stepX P rec (.ok k done e m n r w) (.effg o gi gw, b) = cond (wantB gw (lget e gi)) (keepD b false k done e r w (stepD P rec e m n o)) (.ok (k + 1) done e m n r w) := rfl
theorem outX_ok : outX (.ok k done e m n r w) = .ok .norm e m n r w := rfl
theorem apart_nil (r w : Nat) : apart b r w [] = true := rfl
theorem apart_cons (r w i r' w' : Nat) (l : List (Nat × Nat × Nat)) : apart b r w ((i, r', w') :: l) = ((Nat.testBit b i || (Nat.beq (Nat.land w (Nat.lor r' w')) 0 && Nat.beq (Nat.land w' r) 0)) && apart b r w l) := rfl
theorem zero_land' (a : Nat) : Nat.land 0 a = 0 := Nat.zero_and a
theorem land_zero' (a : Nat) : Nat.land a 0 = 0 := Nat.and_zero a
end
section
variable {P : Program} {E : Nat → Option AFn} {Y : Nat → List Value → FM → Nat → OR FM} {e : List Value} {m : FM} {n : Nat}
end
theorem newb_fm (m : FM) (n : Nat) (B : Blk) (v : Nat → Value) : newb m n B v = .ok (v n) (AMem.put m n (some B)) (n + 1) 0 (bit n) := rfl
theorem ptrP_mk (n : Nat) : ptrP n = .pointer (some ⟨n, 0, none⟩) := rfl
theorem slcP_mk (o l c n : Nat) : slcP o l c n = .slice (some ⟨n, o, none⟩) l c := rfl
theorem cells_agg (l : List Value) : (Value.agg l.toArray).cells.toList = l := rfl
theorem fput_put (m : FM) (b : Nat) (x y : Option Blk) : AMem.put (AMem.put m b x) b y = AMem.put m b y := by
  funext j
  show (if j = b then y else if j = b then x else m j) = if j = b then y else m j
  by_cases h : j = b <;> simp [h]
theorem fput_same (m : FM) (b : Nat) (x : Option Blk) : (AMem.put m b x : FM) b = x := by show (if b = b then x else m b) = x; simp
theorem fput_ne (m : FM) (b j : Nat) (x : Option Blk) (h : j ≠ b) : (AMem.put m b x : FM) j = m j := by show (if j = b then x else m j) = m j; simp [h]
theorem Sl.frame {m m' : FM} {n n' : Nat} {v : Value} {vs : List Value} (h : Sl m n v vs) (hn : n ≤ n') (hf : ∀ b, b < n → m' b = m b) : Sl m' n' v vs := by
  rcases h with h | ⟨b, o, cap, c, opn, wr, h1, h2, h3, h4⟩ | ⟨h1, h2, h3⟩
  · exact .inl h
  · exact .inr <| .inl ⟨b, o, cap, c, opn, wr, h1, Nat.lt_of_lt_of_le h2 hn, by rw [hf b h2]; exact h3, h4⟩
  · exact .inr <| .inr ⟨h1, h2, by omega⟩
theorem Ints.frame {m m' : FM} {n n' : Nat} {v : Value} {xs : List Int} (h : Ints m n v xs) (hn : n ≤ n') (hf : ∀ b, b < n → m' b = m b) : Ints m' n' v xs := Sl.frame h hn hf
def Rows (m : FM) (n : Nat) (v : Value) (gs : List (List Int)) : Prop :=
  ∃ vs, Sl m n v vs ∧ vs.length = gs.length ∧ ∀ (i : Nat) x g, vs[i]? = some x → gs[i]? = some g → Ints m n x g
theorem Rows.frame {m m' : FM} {n n' : Nat} {v : Value} {gs : List (List Int)} (h : Rows m n v gs) (hn : n ≤ n') (hf : ∀ b, b < n → m' b = m b) : Rows m' n' v gs := by
  obtain ⟨vs, h1, h2, h3⟩ := h
  exact ⟨vs, h1.frame hn hf, h2, fun i x g hx hg => (h3 i x g hx hg).frame hn hf⟩
theorem Rows.len {m : FM} {n : Nat} {v : Value} {gs : List (List Int)} (h : Rows m n v gs) : lenV false v = some (.int .i64 (gs.length : Int)) := by
  obtain ⟨vs, h1, h2, _⟩ := h
  rw [h1.len, h2]
theorem Rows.at {m : FM} {n : Nat} {v : Value} {gs : List (List Int)} (h : Rows m n v gs) {i : Nat} (hi : i < gs.length) : ∃ a b x, idxV 1 i v = some (.pointer (some a)) ∧ ld1V m n (.pointer (some a)) = .ok x m n (bit b) 0 ∧ b < n ∧ Ints m n x gs[i] := by
  obtain ⟨vs, h1, h2, h3⟩ := h
  have hv : vs[i]? = some vs[i] := List.getElem?_eq_getElem (by omega)
  obtain ⟨a, b, k1, k2, k3⟩ := h1.at hv
  exact ⟨a, b, _, k1, k2, k3, h3 i _ _ hv (List.getElem?_eq_getElem hi)⟩
theorem mod_bit_ge {n k : Nat} (h : n ≤ k) : Nat.mod (bit k) (bit n) = 0 := by
  rw [bit_pow, bit_pow]
  exact Nat.mod_eq_zero_of_dvd (Nat.pow_dvd_pow 2 h)
end Go.Am
namespace Go.Am
open Go
def rOf : CR FM → Nat
  | .no => 0
  | .ok _ _ _ _ r _ => r
def eOf : CR FM → List Value
  | .no => []
  | .ok _ e _ _ _ _ => e
end Go.Am
namespace Go.Am
open Go
def isOkC : CR FM → Bool
  | .no => false
  | .ok .. => true
section
variable {P : Program} {E : Nat → Option AFn} {Y : Nat → List Value → FM → Nat → OR FM} {e : List Value} {m : FM} {n : Nat}
end
theorem below_all (n : Nat) (e : List Value) (o : AOp) : belowOps n e o = (opds o).all fun x => belowV n (ev e x) := rfl
theorem belowV_int (n : Nat) (k : IntKind) (z : Int) : belowV n (.int k z) = true := rfl
theorem belowV_bool (n : Nat) (b : Bool) : belowV n (.bool b) = true := rfl
theorem belowV_ptr (n b o : Nat) : belowV n (.pointer (some ⟨b, o, none⟩)) = Nat.blt b n := rfl
theorem belowV_nils (n : Nat) : belowV n (.slice none 0 0) = true := rfl
theorem blt_true {a b : Nat} (h : a < b) : Nat.blt a b = true := Nat.ble_eq_true_of_le h
theorem Sl.below {m : FM} {n : Nat} {v : Value} {vs : List Value} (h : Sl m n v vs) : belowV n v = true := by
  rcases h with ⟨rfl, _⟩ | ⟨b, o, cap, c, opn, wr, rfl, hb, _⟩ | ⟨rfl, _, hb⟩
  · rfl
  · exact blt_true hb
  · exact blt_true hb
theorem ida_ok {k sz i b o : Nat} (h : i < k) : idaV k sz i (.pointer (some ⟨b, o, none⟩)) = some (.pointer (some ⟨b, o + i * sz, none⟩)) := by
  show cond (Nat.blt i k) _ none = _
  rw [blt_true h]; rfl
theorem cells_int (k : IntKind) (z : Int) : (Value.int k z).cells.toList = [.int k z] := rfl
end Go.Am
namespace Go.Am
open Go
end Go.Am
namespace Go.Am
open Go
theorem belowV_undef (n : Nat) : belowV n undef = true := rfl
theorem belowV_addr (n : Nat) (a : Addr) : belowV n (.pointer (some a)) = Nat.blt a.block n := rfl
end Go.Am
namespace Go.Am
open Go Go.Am.V Go.RowKit
theorem Env.topW {P : Program} {tab : List (Nat × AFn)} {Y : Nat → List Value → FM → Nat → OR FM} {Yf : FCal} (h : Env P tab Y Yf) {f : Nat} {args : List Value} {m0 m : FM} {n0 n r wm : Nat} (hrun : callW P (look tab) Y f args m0 n0 = .ok (.bool true) m n r wm)
    {ρ : Ren} {w : World} {args' : Array Value} (ha : LRel ρ args args'.toList) (hm : MRel ρ m0 w w.heap.size) (hf : Free ρ n0) :
    Calls P f args' w fun e w' => e = .returned (.bool true) ∧ Below w.heap.size w w' := by
  obtain ⟨k, hk⟩ := call_rch f args m0 n0 _ _ _ _ _ hrun
  obtain ⟨_, hc⟩ := h.calls k f args m0 n0 (.bool true) m n r wm (hk k (Nat.le_refl _)) ρ m0 w w.heap.size (Nat.lor r wm) args' ha (Sub.refl _) (fun b hb _ => rfl) hm hf
  refine hc.mono fun e w' hh => ?_
  obtain ⟨ρ', v', rfl, hv, hp⟩ := hh
  rw [hv.flat_eq rfl]
  exact ⟨rfl, hp.below⟩
def IntsW (w : World) (v : Value) (xs : List Int) : Prop :=
  (v = .slice none 0 0 ∧ xs = []) ∨ (∃ a' c', v = .slice (some a') 0 c' ∧ xs = []) ∨ ∃ (blk off cap : Nat) (cc : Array Value) (e : TypeId) (fz : Nat × Nat), v = .slice (some ⟨blk, off, none⟩) xs.length cap ∧ 0 < xs.length ∧ w.heap[blk]? = some (.cells cc e fz) ∧ xs.length ≤ cap ∧ off + xs.length ≤ cc.size ∧ ∀ (i : Nat) x, xs[i]? = some x → cc[off + i]? = some (.int .i64 x)
def RowsW (w : World) (v : Value) (gs : List (List Int)) : Prop :=
  (v = .slice none 0 0 ∧ gs = []) ∨ (∃ a' c', v = .slice (some a') 0 c' ∧ gs = []) ∨ ∃ (blk off cap : Nat) (cc : Array Value) (e : TypeId) (fz : Nat × Nat) (vs : List Value), v = .slice (some ⟨blk, off, none⟩) vs.length cap ∧ w.heap[blk]? = some (.cells cc e fz) ∧ vs.length ≤ cap ∧ off + vs.length ≤ cc.size ∧ vs.length = gs.length ∧ (∀ (i : Nat) x, vs[i]? = some x → cc[off + i]? = some x) ∧ ∀ (i : Nat) x g, vs[i]? = some x → gs[i]? = some g → IntsW w x g
def plOf : Value → Option Place
  | .slice (some ⟨b, o, none⟩) (_ + 1) c => some ⟨b, o, c, 1⟩
  | _ => none
def fvOf (i : Nat) : Value → Value
  | .slice (some ⟨_, _, none⟩) (l + 1) _ => .slice (some ⟨i + 1, 0, none⟩) (l + 1) UNK
  | .slice (some _) 0 _ => .slice (some ⟨0, 0, none⟩) 0 VAG
  | v => v
def rowsRen (p : Place) (vs : List Value) : Ren
  | 0 => some p
  | i + 1 => (vs[i]?).bind plOf
def rowsMem (vs : List Value) (gs : List (List Int)) : FM
  | 0 => some (.cells (vs.mapIdx fvOf) 1 false false)
  | i + 1 => (gs[i]?).map fun g => .cells (g.map (Value.int .i64)) 1 false false
end Go.Am
namespace Go.Am
open Go Go.RowKit Go.Deep Go.ChangeShapes
theorem cells_row {w : World} {a : Addr} {n : Nat} {f : Nat → Value} (h0 : 0 < n) (h : ∀ i, i < n → w.cell? (a.add i) = some (f i)) :
    ∃ (blk off : Nat) (cc : Array Value) (e : TypeId) (fz : Nat × Nat), a = ⟨blk, off, none⟩ ∧ w.heap[blk]? = some (.cells cc e fz) ∧ off + n ≤ cc.size ∧ ∀ i, i < n → cc[off + i]? = some (f i) := by
  obtain ⟨blk, off, spot⟩ := a
  have ha : ∀ i, (Addr.add ⟨blk, off, spot⟩ i).block = blk ∧ (Addr.add ⟨blk, off, spot⟩ i).off = off + i := fun i => by
    unfold Addr.add
    by_cases hi : i = 0
    · rw [if_pos hi, hi]; exact ⟨rfl, rfl⟩
    · rw [if_neg hi]; exact ⟨rfl, rfl⟩
  have hc := h 0 h0
  have hadd : Addr.add ⟨blk, off, spot⟩ 0 = ⟨blk, off, spot⟩ := by unfold Addr.add; rw [if_pos rfl]
  rw [hadd] at hc
  unfold World.cell? at hc
  split at hc
  · rename_i cc e fz hh
    replace hh : w.heap[blk]? = some (.cells cc e fz) := hh
    cases spot with
    | some s => simp at hc
    | none =>
      have hall : ∀ i, i < n → cc[off + i]? = some (f i) := fun i hi => by
        have hci := h i hi
        unfold World.cell? at hci
        rw [(ha i).1, hh, (ha i).2] at hci
        replace hci : (if (Addr.add ⟨blk, off, none⟩ i).spot.isSome then none else cc[off + i]?) = some (f i) := hci
        split at hci
        · cases hci
        · exact hci
      refine ⟨blk, off, cc, e, fz, rfl, hh, ?_, hall⟩
      have := (Array.getElem?_eq_some_iff.1 (hall (n - 1) (by omega))).1
      omega
  · cases hc
end Go.Am
namespace Go.Am
open Go Go.RowKit
structure Ent where
  p : Place
  cs : List Value
def entRen (L : List (Option Ent)) : Ren := fun b => (L[b]?).bind fun o => o.map (·.p)
def entMem (L : List (Option Ent)) : FM := fun b => (L[b]?).bind fun o => o.map fun e => .cells e.cs e.p.sz false false
structure EntOk (w : World) (ρ : Ren) (e : Ent) : Prop where
  ok : ∃ (cc : Array Value) (ty : TypeId) (fz : Nat × Nat), w.heap[e.p.blk]? = some (.cells cc ty fz) ∧ e.p.base + e.cs.length ≤ cc.size ∧ ∀ (j : Nat) x, e.cs[j]? = some x → ∃ y, cc[e.p.base + j]? = some y ∧ VRel ρ x y
theorem ent_world {w : World} {L : List (Option Ent)} (hgl : Glob w.heap.size w) (h : ∀ (i : Nat) e, L[i]? = some (some e) → EntOk w (entRen L) e) : MRel (entRen L) (entMem L) w w.heap.size ∧ Free (entRen L) L.length := by
  have hlt : ∀ {b : Nat} {x}, w.heap[b]? = some x → b < w.heap.size := fun hb => (Array.getElem?_eq_some_iff.1 hb).1
  refine ⟨⟨?_, ?_, ?_, Nat.le_refl _, hgl⟩, ?_⟩
  · intro b p O hp hO
    replace hp : ((L[b]?).bind fun o => o.map (·.p)) = some p := hp
    replace hO : ((L[b]?).bind fun o => o.map fun e => Blk.cells e.cs e.p.sz false false) = some O := hO
    cases hy : L[b]? with
    | none => rw [hy] at hp; cases hp
    | some o =>
      rw [hy] at hp hO
      cases o with
      | none => cases hp
      | some e =>
      injection hp with hp; subst hp
      injection hO with hO; subst hO
      obtain ⟨cc, ty, fz, h1, h2, h3⟩ := (h b e hy).ok
      exact ⟨rfl, cc, ty, fz, h1, h3, fun h => absurd h (by decide), fun h => absurd h (by decide), h2⟩
  · intro b1 b2 p1 p2 O1 O2 _ _ hO1 _ _ hw
    replace hO1 : ((L[b1]?).bind fun o => o.map fun e => Blk.cells e.cs e.p.sz false false) = some O1 := hO1
    cases hy : L[b1]? with
    | none => rw [hy] at hO1; cases hO1
    | some o =>
      rw [hy] at hO1
      cases o with
      | none => cases hO1
      | some e => injection hO1 with hO1; subst hO1; cases hw
  · intro b p hp
    replace hp : ((L[b]?).bind fun o => o.map (·.p)) = some p := hp
    cases hy : L[b]? with
    | none => rw [hy] at hp; cases hp
    | some o =>
      rw [hy] at hp
      cases o with
      | none => cases hp
      | some e =>
      injection hp with hp; subst hp
      obtain ⟨cc, ty, fz, h1, h2, h3⟩ := (h b e hy).ok
      exact hlt h1
  · intro b hb
    show (L[b]?).bind _ = none
    rw [List.getElem?_eq_none (by omega)]; rfl
end Go.Am
namespace Go.Am
open Go Go.RowKit Go.ChangeShapes
theorem cells_at {w : World} {base k : Nat} {a : Addr} {l : List Value} (h : w.cells? base a k = some l) (hk : 0 < k) : ∃ (blk off : Nat) (cc : Array Value) (ty : TypeId) (fz : Nat × Nat), a = ⟨blk, off, none⟩ ∧ w.heap[blk]? = some (.cells cc ty fz) ∧ off + k ≤ cc.size ∧ l.length = k ∧ ∀ j, j < k → cc[off + j]? = l[j]? := by
  obtain ⟨_, hl, hc⟩ := World.cells?_some h
  have hget : ∀ i, i < k → w.cell? (a.add i) = some (l.getD i undef) := fun i hi => by
    have h1 : l[i]? = some (l.getD i undef) := by rw [List.getD_eq_getElem?_getD, List.getElem?_eq_getElem (by omega)]; rfl
    have := hc i hi
    rw [h1] at this
    exact this
  obtain ⟨blk, off, cc, ty, fz, rfl, hh, hs, hcell⟩ := cells_row hk hget
  refine ⟨blk, off, cc, ty, fz, rfl, hh, hs, hl, fun j hj => ?_⟩
  rw [hcell j hj, List.getD_eq_getElem?_getD, List.getElem?_eq_getElem (by omega)]; rfl
theorem add_mk (blk off i : Nat) : Addr.add ⟨blk, off, none⟩ i = ⟨blk, off + i, none⟩ := by
  unfold Addr.add
  by_cases h : i = 0
  · rw [if_pos h, h]; rfl
  · rw [if_neg h]
def SliceW (w : World) (k : Nat) (R : List Value → Prop) (v : Value) (len : Nat) : Prop :=
  (v = .slice none 0 0 ∧ len = 0) ∨ (∃ a c, v = .slice (some a) 0 c ∧ len = 0) ∨
    ∃ (blk off cap : Nat) (cc : Array Value) (ty : TypeId) (fz : Nat × Nat), v = .slice (some ⟨blk, off, none⟩) len cap ∧ 0 < len ∧ len ≤ cap ∧ w.heap[blk]? = some (.cells cc ty fz) ∧ off + len * k ≤ cc.size ∧
      ∀ i, i < len → ∃ l : List Value, l.length = k ∧ (∀ j, j < k → cc[off + i * k + j]? = l[j]?) ∧ R l
theorem slice_of_trod {H : Type} {enc : TypeId × Value → H} {P : Program} {w : World} {held : Bool} {sp : Nat → Bool} {t e k : Nat} {fuel : Nat} {cs : List Value} {x : DataW H × List MemPlace} (ht : P.underlying t = some (.slice e)) (ck : P.cellsOf e = k) (hk : 0 < k)
    (h : DataW.trod enc P w 0 sp held fuel t cs = some x) : ∃ v len, cs = [v] ∧ len ≤ maxLen ∧ SliceW w k (fun l => ∃ n y, DataW.trod enc P w 0 sp held n e l = some y) v len := by
  rcases DataW.trod_slice ht h with ⟨rfl, _⟩ | ⟨a, len, cap, elems, rest, n, _, rfl, _, _, hlc, hcm, hel, hi, _⟩
  · exact ⟨_, 0, rfl, Nat.zero_le _, .inl ⟨rfl, rfl⟩⟩
  · rcases Nat.eq_zero_or_pos len with h0 | h0
    · subst h0
      exact ⟨_, 0, rfl, Nat.zero_le _, .inr (.inl ⟨a, cap, rfl, rfl⟩)⟩
    · have key : ∀ i, i < len → ∃ l y, w.cells? 0 (a.add (i * k)) k = some l ∧ DataW.trod enc P w 0 sp held n e l = some y := fun i hil => by
        have h1 := hi i hil
        rw [ck, List.getElem?_eq_getElem (by omega)] at h1
        cases hc : w.cells? 0 (a.add (i * k)) k with
        | none => rw [hc] at h1; cases h1
        | some l => rw [hc] at h1; exact ⟨l, _, rfl, h1⟩
      obtain ⟨l0, y0, c0, _⟩ := key 0 h0
      have ha : a.add (0 * k) = a := by rw [Nat.zero_mul]; rfl
      rw [ha] at c0
      obtain ⟨blk, off, cc, ty, fz, rfl, hh, _, _, _⟩ := cells_at c0 hk
      have all : ∀ i, i < len → ∃ l : List Value, l.length = k ∧ off + i * k + k ≤ cc.size ∧ (∀ j, j < k → cc[off + i * k + j]? = l[j]?) ∧ ∃ n y, DataW.trod enc P w 0 sp held n e l = some y := fun i hil => by
        obtain ⟨l, y, c, hy⟩ := key i hil
        rw [add_mk] at c
        obtain ⟨blk', off', cc', ty', fz', he, hh', hs, hl, hj⟩ := cells_at c hk
        injection he with e1 e2 _
        subst e1; subst e2
        rw [hh] at hh'
        injection hh' with hh'; injection hh' with q1 q2 q3
        subst q1
        exact ⟨l, hl, hs, hj, n, y, hy⟩
      refine ⟨_, len, rfl, by omega, .inr (.inr ⟨blk, off, cap, cc, ty, fz, rfl, h0, hlc, hh, ?_, fun i hil => ?_⟩)⟩
      · obtain ⟨_, _, hs, _⟩ := all (len - 1) (by omega)
        have : len * k = (len - 1) * k + k := by
          obtain ⟨q, rfl⟩ : ∃ q, len = q + 1 := ⟨len - 1, by omega⟩
          rw [Nat.add_sub_cancel, Nat.succ_mul]
        omega
      · obtain ⟨l, hl, _, hj, hy⟩ := all i hil
        exact ⟨l, hl, hj, hy⟩
end Go.Am
namespace Go.Am
open Go Go.RowKit Go.ChangeShapes
def intOf : Value → Int
  | .int _ n => n
  | _ => 0
def DatW (w : World) (v : Value) (ds : List (List Int)) : Prop :=
  (v = .slice none 0 0 ∧ ds = []) ∨ (∃ a c, v = .slice (some a) 0 c ∧ ds = []) ∨
    ∃ (blk off cap : Nat) (cc : Array Value) (ty : TypeId) (fz : Nat × Nat), v = .slice (some ⟨blk, off, none⟩) ds.length cap ∧ 0 < ds.length ∧ ds.length ≤ cap ∧ w.heap[blk]? = some (.cells cc ty fz) ∧ off + ds.length * 8 ≤ cc.size ∧
      ∀ i (h : i < ds.length), ds[i].length = 8 ∧ ∀ j, j < 8 → cc[off + i * 8 + j]? = (ds[i].map (Value.int .u8))[j]?
end Go.Am
