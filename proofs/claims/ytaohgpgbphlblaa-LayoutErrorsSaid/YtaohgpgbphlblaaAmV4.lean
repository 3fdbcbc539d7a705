/- The fast form of the abstract machine: codes and calls. -/
import Derived.Test.YtaohgpgbphlblaaAmV3
import Derived.Test.YtaohgpgbphlblaaAmMono
set_option linter.unusedVariables false
set_option linter.unusedSimpArgs false
set_option linter.unusedSectionVars false
namespace Go.Am.V
open Go Go.Am Go.Am.Fast

abbrev FRc := AC → List FV → FTr → Nat → FC
/-! ### results -/
noncomputable def fmap1 (e : List FV) (sel : List Nat) (t : List FV) : List FV := List.rec (motive := fun _ => List FV) t (fun i _ r => gl e i :: r) sel
noncomputable def fixF (sel : List Nat) (d : Nat) (e : List FV) : List FV := fmap1 e sel (pdrop e d)
theorem fixF_eq (sel : List Nat) (d : Nat) (e : List FV) : (fixF sel d e).map toV = fixE sel d (e.map toV) := by
  show (fmap1 e sel (pdrop e d)).map toV = lmap (e.map toV) sel (pdrop (e.map toV) d)
  rw [pdrop_map]
  generalize pdrop e d = t
  induction sel with
  | nil => rfl
  | cons i sel ih => show toV (gl e i) :: (fmap1 e sel t).map toV = lget (e.map toV) i :: lmap (e.map toV) sel (t.map toV); rw [ih, gl_eq]
noncomputable def resPF (m : FTr) (n : Nat) (vs : List FV) (r : Nat) (f : Nat → List FV → Option FV) (v : FV) : Option (List FV × Nat) :=
  onP v (fun b o => fcells (gb m n b) (fun c => Option.rec (motive := fun _ => Option (List FV × Nat)) none (fun v => some (v :: vs, Nat.lor r (bit b))) (f o c)) none) none
noncomputable def resOF (e : List FV) (m : FTr) (n : Nat) (vs : List FV) (r : Nat) (x : ROp) : Option (List FV × Nat) :=
  ROp.rec (motive := fun _ => Option (List FV × Nat)) (fun i => some (gl e i :: vs, r)) (fun i => resPF m n vs r (fun o c => pget c o) (gl e i)) (fun i k => resPF m n vs r (fun o c => aggF (pat c o k)) (gl e i)) x
noncomputable def resF (e : List FV) (m : FTr) (n : Nat) (l : List ROp) : Option (List FV × Nat) :=
  List.rec (motive := fun _ => Option (List FV × Nat)) (some ([], 0)) (fun x _ ih => Option.rec (motive := fun _ => Option (List FV × Nat)) none (fun p => resOF e m n p.1 p.2 x) ih) l
def ROk (x : Option (List FV × Nat)) (y : Option (List Value × Nat)) : Prop := ∀ p, x = some p → y = some (p.1.map toV, p.2)
theorem resPF_ok {m : FTr} {n : Nat} {vs : List FV} {r : Nat} {f : Nat → List FV → Option FV} {g : Nat → List Value → Option Value} (hfg : ∀ o c, g o (c.map toV) = (f o c).map toV) {v : FV} {v' : Value} (hv : toV v = v') : ROk (resPF m n vs r f v) (resP (absM m n) n (vs.map toV) r g v') := by
  subst hv
  intro p h
  cases v with
  | p b o =>
    replace h : fcells (gb m n b) (fun c => Option.rec (motive := fun _ => Option (List FV × Nat)) none (fun v => some (v :: vs, Nat.lor r (bit b))) (f o c)) none = some p := h
    show resC (vs.map toV) r b (g o) (getb (absM m n) n b) = _
    rw [gb_eq]
    cases hg : gb m n b with
    | none => rw [hg] at h; cases h
    | some x =>
      obtain ⟨c, sz, opn, wr⟩ := x
      rw [hg] at h
      replace h : Option.rec (motive := fun _ => Option (List FV × Nat)) none (fun v => some (v :: vs, Nat.lor r (bit b))) (f o c) = some p := h
      show Option.rec (motive := fun _ => Option (List Value × Nat)) none (fun v => some (v :: vs.map toV, Nat.lor r (bit b))) (g o (c.map toV)) = _
      rw [hfg]
      cases hc : f o c with
      | none => rw [hc] at h; cases h
      | some v => rw [hc] at h; injection h with h; subst h; rfl
  | _ => cases h
theorem resOF_ok {e : List FV} {m : FTr} {n : Nat} {vs : List FV} {r : Nat} {x : ROp} : ROk (resOF e m n vs r x) (resO (e.map toV) (absM m n) n (vs.map toV) r x) := by
  cases x with
  | v i =>
    intro p h
    injection h with h; subst h
    show some (lget (e.map toV) i :: vs.map toV, r) = _
    rw [← gl_eq]; rfl
  | cell i => exact resPF_ok (fun o c => pget_map toV c o) (gl_eq e i)
  | cells i k => exact resPF_ok (fun o c => by show aggO (pat (c.map toV) o k) = _; rw [pat_map]; cases pat c o k <;> rfl) (gl_eq e i)
theorem resF_ok {e : List FV} {m : FTr} {n : Nat} : ∀ (l : List ROp), ROk (resF e m n l) (resA (e.map toV) (absM m n) n l)
  | [] => fun p h => by injection h with h; subst h; rfl
  | x :: l => by
    intro p h
    replace h : Option.rec (motive := fun _ => Option (List FV × Nat)) none (fun p => resOF e m n p.1 p.2 x) (resF e m n l) = some p := h
    show Option.rec (motive := fun _ => Option (List Value × Nat)) none (fun p => resO (e.map toV) (absM m n) n p.1 p.2 x) (resA (e.map toV) (absM m n) n l) = _
    cases hr : resF e m n l with
    | none => rw [hr] at h; cases h
    | some q =>
      rw [hr] at h
      rw [resF_ok l q hr]
      exact resOF_ok p h
noncomputable def retF (l : List FV) : FV :=
  List.rec (motive := fun _ => FV) (.o (.tuple #[])) (fun x t _ => List.rec (motive := fun _ => FV) x (fun y t _ => .o (.tuple ((x :: y :: t).map toV).toArray)) t) l
theorem retF_eq (l : List FV) : toV (retF l) = retV (l.map toV) := by
  rcases l with _ | ⟨x, _ | ⟨y, t⟩⟩ <;> rfl

/-! ### calls -/
noncomputable def freeF (v : FV) : Bool := FV.rec (motive := fun _ => Bool) (fun _ => true) (fun _ => true) (fun _ _ => false) (fun _ _ _ _ => false) addrFree v
theorem freeF_eq (v : FV) : freeF v = addrFree (toV v) := by cases v <;> rfl
noncomputable def leaveAF (m0 : FTr) (n0 : Nat) (v : FV) (m : FTr) (n r w : Nat) : FR :=
  Bool.rec (motive := fun _ => FR) (.ok v m n r w) (fN (fun r => .ok v m0 n0 r 0) (Nat.mod r (bit n0))) (freeF v && Nat.beq (Nat.mod w (bit n0)) 0)
theorem leaveAF_sim {m m0 m1 : FTr} {n n0 n1 : Nat} {v : FV} {r w : Nat} : FSim m1 n1 (leaveAF m0 n0 v m n r w) (leaveA (absM m0 n0) n0 (toV v) (absM m n) n r w) := by
  show FSim m1 n1 (Bool.rec (motive := fun _ => FR) (.ok v m n r w) (fN (fun r => .ok v m0 n0 r 0) (Nat.mod r (bit n0))) (freeF v && Nat.beq (Nat.mod w (bit n0)) 0)) (cond (addrFree (toV v) && Nat.beq (Nat.mod w (bit n0)) 0) (forceN (Nat.mod r (bit n0)) fun r => .ok (toV v) (absM m0 n0) n0 r 0) (.ok (toV v) (absM m n) n r w))
  rw [freeF_eq, fN_eq, forceN_eq]
  cases (addrFree (toV v) && Nat.beq (Nat.mod w (bit n0)) 0) <;> rfl
noncomputable def leaveXF (fn : AFn) (m0 : FTr) (n0 : Nat) (x : FC) : FR :=
  FC.rec (motive := fun _ => FR) .no (fun X e m n r w => FAX.rec (motive := fun _ => FR) (Option.rec (motive := fun _ => FR) .no (fun p => leaveAF m0 n0 (retF p.1) m n (Nat.lor r p.2) w) (resF e m n (AFn.rec (motive := fun _ => List ROp) (fun _ rs _ => rs) fn))) (fun _ => .no) (fun v => leaveAF m0 n0 v m n r w) X) x
noncomputable def callFF (rec : FRc) (args : List FV) (m : FTr) (n : Nat) (fn : AFn) : FR :=
  AFn.rec (motive := fun _ => FR) (fun na rs code => Bool.rec (motive := fun _ => FR) .no (leaveXF ⟨na, rs, code⟩ m n (rec code args m n)) (Nat.beq (plen args) na)) fn
noncomputable def calFF (E : Nat → Option AFn) (Yf : FCal) (rec : FRc) : FCal := fun f args m n => Option.rec (motive := fun _ => FR) (Yf f args m n) (callFF rec args m n) (E f)
def RcSim (rec : FRc) (recA : AC → List Value → FM → Nat → CR FM) : Prop := ∀ c e m n, CSim (rec c e m n) (recA c (e.map toV) (absM m n) n)
theorem calFF_sim {E : Nat → Option AFn} {Yf : FCal} {Y : Nat → List Value → FM → Nat → OR FM} {rec : FRc} {recA : AC → List Value → FM → Nat → CR FM} (hY : CalSim Yf Y) (hrec : RcSim rec recA) : CalSim (calFF E Yf rec) (callA E Y recA) := by
  intro f args m n
  show FSim m n (Option.rec (motive := fun _ => FR) (Yf f args m n) (callFF rec args m n) (E f)) (Option.rec (motive := fun _ => OR FM) (Y f (args.map toV) (absM m n) n) (callF recA (args.map toV) (absM m n) n) (E f))
  cases E f with
  | none => exact hY f args m n
  | some fn =>
    obtain ⟨na, rs, code⟩ := fn
    show FSim m n (Bool.rec (motive := fun _ => FR) .no (leaveXF ⟨na, rs, code⟩ m n (rec code args m n)) (Nat.beq (plen args) na)) (cond (Nat.beq (plen (args.map toV)) na) (CR.rec (motive := fun _ => OR FM) .no (fun x e m' n' r w => leaveX ⟨na, rs, code⟩ (absM m n) n e m' n' r w x) (recA code (args.map toV) (absM m n) n)) .no)
    rw [plen_map]
    cases Nat.beq (plen args) na
    · trivial
    · have h := hrec code args m n
      cases hx : rec code args m n with
      | no => exact fsim_no
      | ok X e m' n' r w =>
        rw [hx] at h
        replace h : recA code (args.map toV) (absM m n) n = .ok (toX X) (e.map toV) (absM m' n') n' r w := h
        rw [h]
        cases X with
        | norm =>
          show FSim m n (Option.rec (motive := fun _ => FR) .no (fun p => leaveAF m n (retF p.1) m' n' (Nat.lor r p.2) w) (resF e m' n' rs)) (leaveO (absM m n) n (absM m' n') n' r w (resA (e.map toV) (absM m' n') n' rs))
          cases hr : resF e m' n' rs with
          | none => exact fsim_no
          | some p =>
            rw [resF_ok rs p hr]
            show FSim m n (leaveAF m n (retF p.1) m' n' (Nat.lor r p.2) w) (leaveA (absM m n) n (retV (p.1.map toV)) (absM m' n') n' (Nat.lor r p.2) w)
            rw [← retF_eq]
            exact leaveAF_sim
        | exit i => exact fsim_no
        | ret v => exact leaveAF_sim

/-! ### codes -/
abbrev FX0 := FCal → FRc → List FV → FTr → Nat → FC
inductive FX where
  | mk (f : FX0)
noncomputable def FX.run (x : FX) : FX0 := FX.rec (motive := fun _ => FX0) (fun f => f) x
noncomputable def faddRW (r w : Nat) (x : FC) : FC := FC.rec (motive := fun _ => FC) .no (fun X e m n r' w' => fN (fun r => fN (fun w => .ok X e m n r w) (Nat.lor w w')) (Nat.lor r r')) x
noncomputable def fseqK (rec : FRc) (b : AC) (x : FC) : FC :=
  FC.rec (motive := fun _ => FC) .no (fun X e m n r w => FAX.rec (motive := fun _ => FC) (faddRW r w (rec b e m n)) (fun i => .ok (.exit i) e m n r w) (fun v => .ok (.ret v) e m n r w) X) x
noncomputable def fblockK (id : Nat) (x : FC) : FC :=
  FC.rec (motive := fun _ => FC) .no (fun X e m n r w => FAX.rec (motive := fun _ => FC) (.ok .norm e m n r w) (fun i => Bool.rec (motive := fun _ => FC) (.ok (.exit i) e m n r w) (.ok .norm e m n r w) (Nat.beq i id)) (fun v => .ok (.ret v) e m n r w) X) x
noncomputable def fpostK (sel : List Nat) (d : Nat) (x : FC) : FC :=
  FC.rec (motive := fun _ => FC) .no (fun X e m n r w => FAX.rec (motive := fun _ => FC) (.ok .norm (fixF sel d e) m n r w) (fun i => .ok (.exit i) e m n r w) (fun v => .ok (.ret v) e m n r w) X) x
noncomputable def fretK (e : List FV) (m : FTr) (n : Nat) (x : Option (List FV × Nat)) : FC := Option.rec (motive := fun _ => FC) .no (fun p => fF (fun v => .ok (.ret v) e m n p.2 0) (retF p.1)) x
noncomputable def cAC (P : Program) (c : AC) : FX :=
  AC.casesOn (motive := fun _ => Program → FX) c
    (fun _ => .mk fun _ _ e m n => .ok .norm e m n 0 0)
    (fun l P => .mk fun cal _ e m n => (cOps P l).run cal e m n 0 0)
    (fun l bs P => .mk fun cal _ e m n => opsDF P l cal bs 0 [] e m n 0 0)
    (fun a b _ => .mk fun _ rec e m n => fseqK rec b (rec a e m n))
    (fun x a b _ => .mk fun _ rec e m n => onB (gv e x) (rec a e m n) (rec b e m n) .no)
    (fun id _ b _ => .mk fun _ rec e m n => fblockK id (rec b e m n))
    (fun sh b _ => .mk fun _ rec e m n => fseqK rec (.loop sh b) (rec b e m n))
    (fun sel d c _ => .mk fun _ rec e m n => rec c (fixF sel d e) m n)
    (fun c sel d _ => .mk fun _ rec e m n => fpostK sel d (rec c e m n))
    (fun id _ => .mk fun _ _ e m n => .ok (.exit id) e m n 0 0)
    (fun rs _ => .mk fun _ _ e m n => fretK e m n (resF e m n rs))
    P
noncomputable def fexecK (P : Program) (cal : FCal) (k : Nat) : FRc :=
  Nat.rec (motive := fun _ => FRc) (fun _ _ _ _ => .no) (fun _ ih c => (cAC P c).run cal ih) k
theorem faddRW_sim {r w : Nat} {x : FC} {y : CR FM} (h : CSim x y) : CSim (faddRW r w x) (addRW r w y) := by
  cases x with
  | no => trivial
  | ok X e m n r' w' =>
    replace h : y = _ := h
    subst h
    show CSim (fN (fun r => fN (fun w => .ok X e m n r w) (Nat.lor w w')) (Nat.lor r r')) _
    rw [fN_eq, fN_eq]; rfl
theorem fseqK_sim {rec : FRc} {recA : AC → List Value → FM → Nat → CR FM} (hrec : RcSim rec recA) {b : AC} {x : FC} {y : CR FM} (h : CSim x y) : CSim (fseqK rec b x) (crRec y (onNorm (recA b))) := by
  cases x with
  | no => trivial
  | ok X e m n r w =>
    replace h : y = _ := h
    subst h
    cases X with
    | norm => exact faddRW_sim (hrec b e m n)
    | exit i => rfl
    | ret v => rfl
theorem fexecK_sim {P : Program} {cal : FCal} {calA : Nat → List Value → FM → Nat → OR FM} (hcal : CalSim cal calA) : ∀ k, RcSim (fexecK P cal k) (execK P calA k)
  | 0 => fun _ _ _ _ => csim_no
  | k + 1 => by
    have ih := fexecK_sim (P := P) hcal k
    intro c e m n
    cases c with
    | skip => rfl
    | reg l => exact cOps_sim hcal l e m n 0 0
    | regD l bs => exact opsDF_sim hcal l bs 0 [] e m n 0 0
    | seq a b => exact fseqK_sim ih (ih a e m n)
    | cond x a b =>
      show CSim (onB (gv e x) (fexecK P cal k a e m n) (fexecK P cal k b e m n) .no) (onCond (execK P calA k a (e.map toV) (absM m n) n) (execK P calA k b (e.map toV) (absM m n) n) (ev (e.map toV) x))
      rw [← gv_eq]
      cases gv e x with
      | b t =>
        cases t
        · exact ih b e m n
        · exact ih a e m n
      | _ => exact csim_no
    | block id sh b =>
      have h := ih b e m n
      show CSim (fblockK id (fexecK P cal k b e m n)) (crRec (execK P calA k b (e.map toV) (absM m n) n) (onBlock id))
      cases hx : fexecK P cal k b e m n with
      | no => exact csim_no
      | ok X e m n r w =>
        rw [hx] at h
        replace h : execK P calA k b _ _ _ = _ := h
        rw [h]
        cases X with
        | norm => rfl
        | exit i =>
          show CSim (Bool.rec (motive := fun _ => FC) _ _ (Nat.beq i id)) (cond (Nat.beq i id) _ _)
          cases Nat.beq i id <;> rfl
        | ret v => rfl
    | loop sh b => exact fseqK_sim ih (ih b e m n)
    | pre sel d c =>
      show CSim (fexecK P cal k c (fixF sel d e) m n) (execK P calA k c (fixE sel d (e.map toV)) (absM m n) n)
      rw [← fixF_eq]
      exact ih c _ m n
    | post c sel d =>
      have h := ih c e m n
      show CSim (fpostK sel d (fexecK P cal k c e m n)) (crRec (execK P calA k c (e.map toV) (absM m n) n) (onPost sel d))
      cases hx : fexecK P cal k c e m n with
      | no => exact csim_no
      | ok X e m n r w =>
        rw [hx] at h
        replace h : execK P calA k c _ _ _ = _ := h
        rw [h]
        cases X with
        | norm => show CR.ok _ (fixE sel d (e.map toV)) _ _ _ _ = _; rw [← fixF_eq]; rfl
        | exit i => rfl
        | ret v => rfl
    | exit id => rfl
    | ret rs =>
      show CSim (fretK e m n (resF e m n rs)) (onRet (e.map toV) (absM m n) n (resA (e.map toV) (absM m n) n rs))
      cases hr : resF e m n rs with
      | none => exact csim_no
      | some p =>
        rw [resF_ok rs p hr]
        show CSim (fF (fun v => .ok (.ret v) e m n p.2 0) (retF p.1)) _
        rw [fF_eq]
        show onRet _ _ _ _ = CR.ok (.ret (toV (retF p.1))) _ _ _ _ _
        rw [retF_eq]; rfl

/-- calls of bounded depth -/
noncomputable def fcalD (P : Program) (E : Nat → Option AFn) (Yf : FCal) (K : Nat) (d : Nat) : FCal :=
  Nat.rec (motive := fun _ => FCal) Yf (fun _ ih => calFF E Yf (fexecK P ih K)) d
theorem fcalD_sim {P : Program} {E : Nat → Option AFn} {Yf : FCal} {Y : Nat → List Value → FM → Nat → OR FM} (hY : CalSim Yf Y) (K : Nat) : ∀ d, CalSim (fcalD P E Yf K d) (calD P E Y K d)
  | 0 => hY
  | d + 1 => calFF_sim hY (fexecK_sim (fcalD_sim hY K d) K)
/-- the call of a function by the fast machine -/
noncomputable def fcall (P : Program) (t : Tr AFn) (Yf : FCal) (K d f : Nat) (args : List FV) (m : FTr) (n : Nat) : FR := fcalD P (lookT t) Yf K d f args m n
/-- functions of the table have no contract -/
def Apart (l : List (Nat × AFn)) (Y : Nat → List Value → FM → Nat → OR FM) : Prop := ∀ f fn, look l f = some fn → ∀ args m n, Y f args m n = .no
theorem fcall_sim {P : Program} {l : List (Nat × AFn)} (hl : (l.all fun p => Nat.blt p.1 256) = true) {Yf : FCal} {Y : Nat → List Value → FM → Nat → OR FM} (hY : CalSim Yf Y) (hA : Apart l Y) (K d f : Nat) (args : List FV) (m : FTr) (n : Nat) :
    ∃ k, ∀ v m' n' r w, fcall P (treeOf l) Yf K d f args m n = .ok v m' n' r w → callA (look l) Y (exec P (look l) Y k) f (args.map toV) (absM m n) n = .ok (toV v) (absM m' n') n' r w := by
  refine ⟨d * K, fun v m' n' r w h => ?_⟩
  have hs := fcalD_sim (P := P) (E := look l) hY K d f args m n
  unfold fcall at h
  rw [lookT_look hl] at h
  rw [h] at hs
  exact calD_le hA K d f (args.map toV) (absM m n) n _ _ _ _ _ hs
end Go.Am.V
