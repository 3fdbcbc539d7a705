/- The machine and its runs, part 7: AxSym AxMono AxShow AxMm AxOmega AxEq AxSl AxEqD. -/
import Derived.Test.YtkdbakhcpciacaaGreatDoorB6
set_option linter.unusedVariables false
set_option linter.unusedSimpArgs false
set_option linter.unusedSectionVars false
namespace Go.Am
open Go
def FM := Nat → Option Blk
instance : AMem FM where
  get m b := m b
  put m b x := fun j => if j = b then x else m j
  lim _ _ := true
  get_put m i j x _ := rfl
  get_lim _ _ _ _ := rfl
  lim_put _ _ _ _ := rfl
section
variable {μ : Type} [AMem μ] {P : Program} {E : Nat → Option AFn} {Y : Nat → List Value → μ → Nat → OR μ} {k : Nat} {e : List Value} {m : μ} {n r w : Nat}
theorem onRet_mk (vs : List Value) (r : Nat) : onRet e m n (some (vs, r)) = .ok (.ret (retV vs)) e m n r 0 := rfl
variable {rec : Nat → List Value → μ → Nat → OR μ}
theorem o_nil : opsA P rec [] e m n r w = .ok .norm e m n r w := by show doneA e m n r w = _; rw [doneA, forceN_eq, forceN_eq]
theorem s_mov (x : Opd) : stepA P rec e m n (.mov x) = .ok (ev e x) m n 0 0 := rfl
theorem s_pick (c a b : Opd) : stepA P rec e m n (.pick c a b) = valO m n (pickV (ev e a) (ev e b) (ev e c)) := rfl
theorem s_bin (op : BinOp) (t : Nat) (x y : Opd) : stepA P rec e m n (.bin op t x y) = valO m n (binV P op t (ev e x) (ev e y)) := rfl
theorem s_una (op : UnOp) (x : Opd) : stepA P rec e m n (.una op x) = valO m n (unaV op (ev e x)) := rfl
theorem s_conv (q : IntKind) (x : Opd) : stepA P rec e m n (.conv q x) = valO m n (convV q (ev e x)) := rfl
theorem s_fld (off : Nat) (x : Opd) : stepA P rec e m n (.fld off x) = valO m n (fldV off (ev e x)) := rfl
theorem s_idx (sz : Nat) (x i : Opd) : stepA P rec e m n (.idx sz x i) = valO m n (obind (fun i => idxV sz i (ev e x)) (natOf (ev e i))) := rfl
theorem s_ida (c sz : Nat) (x i : Opd) : stepA P rec e m n (.ida c sz x i) = valO m n (obind (fun i => idaV c sz i (ev e x)) (natOf (ev e i))) := rfl
theorem s_build (z : List Value) (ps : List (Nat × Nat × Opd)) : stepA P rec e m n (.build z ps) = valO m n (aggO (fillA (parts3 e ps) z)) := rfl
theorem s_extr (i : Nat) (x : Opd) : stepA P rec e m n (.extr i x) = valO m n (extrV i (ev e x)) := rfl
theorem s_nilck (x : Opd) : stepA P rec e m n (.nilck x) = valO m n (nilckV (ev e x)) := rfl
theorem s_func (f : Nat) (a c : List Opd) : stepA P rec e m n (.func f a c) = .ok (.func (.func f) (evs e a).toArray (evs e c).toArray) m n 0 0 := rfl
theorem s_len (s : Bool) (x : Opd) : stepA P rec e m n (.len s x) = valO m n (lenV s (ev e x)) := rfl
theorem s_mx (x y : Opd) : stepA P rec e m n (.mx x y) = valO m n (mxV (ev e x) (ev e y)) := rfl
theorem s_slc (sz : Nat) (x : Opd) (lo hi : Option Opd) : stepA P rec e m n (.slc sz x lo hi) = slcM m n sz (slcV sz (oev e lo) (oev e hi) (ev e x)) (ev e x) := rfl
theorem s_new (c : List Value) : stepA P rec e m n (.new c) = newb m n (.cells c 0 false true) ptrP := rfl
theorem s_box (x : Opd) : stepA P rec e m n (.box x) = newb m n (.cells (ev e x).cells.toList 0 false true) ptrP := rfl
theorem s_mkl (sz len : Nat) (z : List Value) (ps : List (Nat × Opd)) : stepA P rec e m n (.mkl sz len z ps) = mklC m n sz len (fillA (parts2 sz e ps) (reps z len)) := rfl
theorem s_make (sz bytes : Nat) (z : List Value) (l c : Opd) : stepA P rec e m n (.make sz bytes z l c) = makeV sz bytes z m n (natOf (ev e l)) (natOf (ev e c)) := rfl
theorem s_ld1 (x : Opd) : stepA P rec e m n (.ld1 x) = ld1V m n (ev e x) := rfl
theorem s_ldn (c : Nat) (x : Opd) : stepA P rec e m n (.ldn c x) = ldnV c m n (ev e x) := rfl
theorem s_st (c : Nat) (x y : Opd) : stepA P rec e m n (.st c x y) = stV c (ev e y).cells.toList m n (ev e x) := rfl
theorem s_app (sz bytes : Nat) (x y : Opd) : stepA P rec e m n (.app sz bytes x y) = appO sz bytes m n (ev e x) (ev e y) (shown m n sz (ev e x)) (shown m n sz (ev e y)) := rfl
theorem s_call (f : Nat) (args : List Opd) : stepA P rec e m n (.call f args) = rec f (evs e args) m n := rfl
theorem s_callv (x : Opd) (args : List Opd) : stepA P rec e m n (.callv x args) = callV rec (evs e args) m n (ev e x) := rfl
theorem ev_v (i : Nat) : ev e (.v i) = lget e i := rfl
theorem ev_c (x : Value) : ev e (.c x) = x := rfl
theorem lget_z (a : Value) (l : List Value) : lget (a :: l) 0 = a := rfl
theorem lget_s (a : Value) (l : List Value) (i : Nat) : lget (a :: l) (i + 1) = lget l i := rfl
theorem evs_nil : evs e [] = [] := rfl
theorem evs_cons (x : Opd) (l : List Opd) : evs e (x :: l) = ev e x :: evs e l := rfl
theorem lmap_nil (t : List Value) : lmap e [] t = t := rfl
theorem lmap_cons (i : Nat) (s : List Nat) (t : List Value) : lmap e (i :: s) t = lget e i :: lmap e s t := rfl
theorem ldrop_z (l : List Value) : ldrop l 0 = l := by cases l <;> rfl
theorem ldrop_s (a : Value) (l : List Value) (i : Nat) : ldrop (a :: l) (i + 1) = ldrop l i := rfl
theorem fixE_mk (sel : List Nat) (d : Nat) : fixE sel d e = lmap e sel (ldrop e d) := rfl
theorem valO_some (v : Value) : valO m n (some v) = .ok v m n 0 0 := rfl
theorem bin_int (op : BinOp) (t : Nat) (q : IntKind) (a b : Int) : binV P op t (.int q a) (.int q b) = intBin op q a b := by
  show cond (decide (q = q)) (intBin op q a b) none = _; simp
theorem i_add (q : IntKind) (a b : Int) : intBin .add q a b = some (.int q (q.wrap (a + b))) := by show some (Value.int q (wrapF q (Int.add a b))) = _; rw [wrapF_eq]; rfl
theorem i_sub (q : IntKind) (a b : Int) : intBin .sub q a b = some (.int q (q.wrap (a - b))) := by show some (Value.int q (wrapF q (Int.sub a b))) = _; rw [wrapF_eq]; rfl
theorem i_mul (q : IntKind) (a b : Int) : intBin .mul q a b = some (.int q (q.wrap (a * b))) := by show some (Value.int q (wrapF q (Int.mul a b))) = _; rw [wrapF_eq]; rfl
theorem i_quo (q : IntKind) (a b : Int) : intBin .quo q a b = if b = 0 then none else some (.int q (q.wrap (a.tdiv b))) := by show cond (eqB b 0) none (some (Value.int q (wrapF q (a.tdiv b)))) = _; rw [wrapF_eq, eqB_eq]; by_cases h : b = 0 <;> simp [h]
theorem i_rem (q : IntKind) (a b : Int) : intBin .rem q a b = if b = 0 then none else some (.int q (a.tmod b)) := by show cond (eqB b 0) none (some (Value.int q (a.tmod b))) = _; rw [eqB_eq]; by_cases h : b = 0 <;> simp [h]
theorem i_eql (q : IntKind) (a b : Int) : intBin .eql q a b = some (.bool (decide (a = b))) := by show some (Value.bool (eqB a b)) = _; rw [eqB_eq]
theorem i_neq (q : IntKind) (a b : Int) : intBin .neq q a b = some (.bool (!decide (a = b))) := by show some (Value.bool (!eqB a b)) = _; rw [eqB_eq]
theorem i_lss (q : IntKind) (a b : Int) : intBin .lss q a b = some (.bool (decide (a < b))) := by show some (Value.bool (ltB a b)) = _; rw [ltB_eq]
theorem i_gtr (q : IntKind) (a b : Int) : intBin .gtr q a b = some (.bool (decide (b < a))) := by show some (Value.bool (ltB b a)) = _; rw [ltB_eq]
theorem i_leq (q : IntKind) (a b : Int) : intBin .leq q a b = some (.bool (decide (a ≤ b))) := by show some (Value.bool (!ltB b a)) = _; rw [ltB_eq, dec_le]
theorem i_geq (q : IntKind) (a b : Int) : intBin .geq q a b = some (.bool (decide (b ≤ a))) := by show some (Value.bool (!ltB a b)) = _; rw [ltB_eq, dec_le]
theorem pick_mk (a b : Value) (t : Bool) : pickV a b (.bool t) = some (cond t a b) := rfl
theorem wantB_mk (w t : Bool) : wantB w (.bool t) = cond w t (!t) := rfl
theorem fld_mk (off b o : Nat) : fldV off (.pointer (some ⟨b, o, none⟩)) = some (.pointer (some ⟨b, o + off, none⟩)) := rfl
theorem nilck_mk (a : Addr) : nilckV (.pointer (some a)) = some (.pointer (some a)) := rfl
theorem una_not (t : Bool) : unaV .not (.bool t) = some (.bool (!t)) := rfl
theorem res_nil : resA e m n [] = some ([], 0) := rfl
theorem res_cons (x : ROp) (l : List ROp) : resA e m n (x :: l) = Option.rec (motive := fun _ => Option (List Value × Nat)) none (fun p => resO e m n p.1 p.2 x) (resA e m n l) := rfl
theorem resO_v (vs : List Value) (r i : Nat) : resO e m n vs r (.v i) = some (lget e i :: vs, r) := rfl
theorem retV_one (v : Value) : retV [v] = v := rfl
end
end Go.Am
namespace Go.Am
open Go
section
variable {μ : Type} [AMem μ] {P : Program}
def OLe (x y : OR μ) : Prop := ∀ v m n r w, x = .ok v m n r w → y = .ok v m n r w
def CLe (x y : CR μ) : Prop := ∀ X e m n r w, x = .ok X e m n r w → y = .ok X e m n r w
theorem OLe.refl (x : OR μ) : OLe x x := fun _ _ _ _ _ h => h
theorem CLe.refl (x : CR μ) : CLe x x := fun _ _ _ _ _ _ h => h
theorem OLe.trans {x y z : OR μ} (h : OLe x y) (k : OLe y z) : OLe x z := fun v m n r w e => k v m n r w (h v m n r w e)
theorem CLe.trans {x y z : CR μ} (h : CLe x y) (k : CLe y z) : CLe x z := fun X v m n r w e => k X v m n r w (h X v m n r w e)
theorem OLe.no (y : OR μ) : OLe .no y := fun _ _ _ _ _ h => by cases h
theorem CLe.no (y : CR μ) : CLe .no y := fun _ _ _ _ _ _ h => by cases h
def CalLe (a b : Nat → List Value → μ → Nat → OR μ) : Prop := ∀ f args m n, OLe (a f args m n) (b f args m n)
def RcLe (a b : AC → List Value → μ → Nat → CR μ) : Prop := ∀ c e m n, CLe (a c e m n) (b c e m n)
theorem orRec_le {x y : OR μ} {f g : Value → μ → Nat → Nat → Nat → CR μ} (h : OLe x y) (hf : ∀ v m n r w, CLe (f v m n r w) (g v m n r w)) : CLe (orRec x f) (orRec y g) := by
  cases x with
  | no => exact CLe.no _
  | ok v m n r w => rw [h _ _ _ _ _ rfl]; exact hf v m n r w
theorem crRec_le {x y : CR μ} {f g : AX → List Value → μ → Nat → Nat → Nat → CR μ} (h : CLe x y) (hf : ∀ X e m n r w, CLe (f X e m n r w) (g X e m n r w)) : CLe (crRec x f) (crRec y g) := by
  cases x with
  | no => exact CLe.no _
  | ok X e m n r w => rw [h _ _ _ _ _ _ rfl]; exact hf X e m n r w
theorem cond_cle (b : Bool) {x x' y y' : CR μ} (h : CLe x x') (k : CLe y y') : CLe (cond b x y) (cond b x' y') := by cases b <;> assumption
theorem step_le {a b : Nat → List Value → μ → Nat → OR μ} (h : CalLe a b) (e : List Value) (m : μ) (n : Nat) (o : AOp) : OLe (stepA P a e m n o) (stepA P b e m n o) := by
  cases o
  case call f args => exact h f _ m n
  case callv x args =>
    show OLe (callV a (evs e args) m n (ev e x)) (callV b (evs e args) m n (ev e x))
    generalize ev e x = v
    unfold callV
    split
    · exact h _ _ m n
    · exact OLe.refl _
  all_goals exact OLe.refl _
theorem ops_le {a b : Nat → List Value → μ → Nat → OR μ} (h : CalLe a b) : ∀ (l : List AI) (e : List Value) (m : μ) (n r w : Nat), CLe (opsA P a l e m n r w) (opsA P b l e m n r w)
  | [], e, m, n, r, w => CLe.refl _
  | i :: l, e, m, n, r, w => by
    have ih := ops_le h l
    cases i with
    | nop i => exact ih e m n r w
    | op o => exact orRec_le (step_le h e m n o) fun v m n r' w' => ih _ m n _ _
    | eff o => exact orRec_le (step_le h e m n o) fun v m n r' w' => ih _ m n _ _
    | opg o gi gw => exact cond_cle _ (orRec_le (step_le h e m n o) fun v m n r' w' => ih _ m n _ _) (ih _ m n r w)
    | effg o gi gw => exact cond_cle _ (orRec_le (step_le h e m n o) fun v m n r' w' => ih _ m n _ _) (ih _ m n r w)
theorem okD_le {bef k : Nat} {done : List (Nat × Nat × Nat)} {x y : OR μ} {f g : Value → μ → Nat → Nat → Nat → List (Nat × Nat × Nat) → CR μ} (h : OLe x y) (hf : ∀ v m n r w d, CLe (f v m n r w d) (g v m n r w d)) : CLe (okD bef k done x f) (okD bef k done y g) := by
  refine orRec_le h fun v m n r w => ?_
  rw [forceN_eq, forceN_eq, forceN_eq, forceN_eq]
  exact cond_cle _ (hf v m n r w _) (cond_cle _ (hf v m n r w _) (CLe.refl _))
theorem stepD_le {a b : Nat → List Value → μ → Nat → OR μ} (h : CalLe a b) (e : List Value) (m : μ) (n : Nat) (o : AOp) : OLe (stepD P a e m n o) (stepD P b e m n o) := by
  unfold stepD
  cases belowOps n e o
  · exact OLe.refl _
  · exact step_le h e m n o
theorem opsD_le {a b : Nat → List Value → μ → Nat → OR μ} (h : CalLe a b) : ∀ (l : List AI) (bs : List Nat) (k : Nat) (done : List (Nat × Nat × Nat)) (e : List Value) (m : μ) (n r w : Nat), CLe (opsD P a l bs k done e m n r w) (opsD P b l bs k done e m n r w)
  | [], bs, k, done, e, m, n, r, w => CLe.refl _
  | i :: l, bs, k, done, e, m, n, r, w => by
    have ih := opsD_le h l
    have h1 : ∀ o, CLe (okD (bs.headD 0) k done (stepD P a e m n o) fun v m n r' w' done => opsD P a l bs.tail (Nat.succ k) done (v :: e) m n (Nat.lor r r') (Nat.lor w w'))
        (okD (bs.headD 0) k done (stepD P b e m n o) fun v m n r' w' done => opsD P b l bs.tail (Nat.succ k) done (v :: e) m n (Nat.lor r r') (Nat.lor w w')) := fun o =>
      okD_le (stepD_le h e m n o) fun v m n r' w' d => ih _ _ _ _ m n _ _
    have h2 : ∀ o, CLe (okD (bs.headD 0) k done (stepD P a e m n o) fun _ m n r' w' done => opsD P a l bs.tail (Nat.succ k) done e m n (Nat.lor r r') (Nat.lor w w'))
        (okD (bs.headD 0) k done (stepD P b e m n o) fun _ m n r' w' done => opsD P b l bs.tail (Nat.succ k) done e m n (Nat.lor r r') (Nat.lor w w')) := fun o =>
      okD_le (stepD_le h e m n o) fun v m n r' w' d => ih _ _ _ _ m n _ _
    cases i with
    | nop i => exact ih _ _ _ e m n r w
    | op o => exact h1 o
    | eff o => exact h2 o
    | opg o gi gw => exact cond_cle _ (h1 o) (ih _ _ _ _ m n r w)
    | effg o gi gw => exact cond_cle _ (h2 o) (ih _ _ _ _ m n r w)
theorem call_le {E : Nat → Option AFn} {Y : Nat → List Value → μ → Nat → OR μ} {a b : AC → List Value → μ → Nat → CR μ} (h : RcLe a b) : CalLe (callA E Y a) (callA E Y b) := by
  intro f args m n
  show OLe (Option.rec (motive := fun _ => OR μ) (Y f args m n) (callF a args m n) (E f)) (Option.rec (motive := fun _ => OR μ) (Y f args m n) (callF b args m n) (E f))
  cases E f with
  | none => exact OLe.refl _
  | some fn =>
    show OLe (cond (Nat.beq (llen args) fn.na) (CR.rec (motive := fun _ => OR μ) .no (fun x e m' n' r w => leaveX fn m n e m' n' r w x) (a fn.code args m n)) .no) (cond (Nat.beq (llen args) fn.na) (CR.rec (motive := fun _ => OR μ) .no (fun x e m' n' r w => leaveX fn m n e m' n' r w x) (b fn.code args m n)) .no)
    cases Nat.beq (llen args) fn.na
    · exact OLe.refl _
    · show OLe (CR.rec (motive := fun _ => OR μ) .no (fun x e m' n' r w => leaveX fn m n e m' n' r w x) (a fn.code args m n)) (CR.rec (motive := fun _ => OR μ) .no (fun x e m' n' r w => leaveX fn m n e m' n' r w x) (b fn.code args m n))
      have hc := h fn.code args m n
      cases ha : a fn.code args m n with
      | no => exact OLe.no _
      | ok X e m' n' r w => rw [hc _ _ _ _ _ _ ha]; exact OLe.refl _
theorem addRW_le (r w : Nat) {x y : CR μ} (h : CLe x y) : CLe (addRW r w x) (addRW r w y) := by
  cases x with
  | no => exact CLe.no _
  | ok X e m n r' w' => rw [h _ _ _ _ _ _ rfl]; exact CLe.refl _
theorem onNorm_le {f g : List Value → μ → Nat → CR μ} (h : ∀ e m n, CLe (f e m n) (g e m n)) (X : AX) (e : List Value) (m : μ) (n r w : Nat) : CLe (onNorm f X e m n r w) (onNorm g X e m n r w) := by
  cases X with
  | norm => exact addRW_le r w (h e m n)
  | exit i => exact CLe.refl _
  | ret v => exact CLe.refl _
noncomputable def execC (P : Program) (cal : Nat → List Value → μ → Nat → OR μ) (rec : AC → List Value → μ → Nat → CR μ) (c : AC) (e : List Value) (m : μ) (n : Nat) : CR μ :=
  AC.casesOn (motive := fun _ => CR μ) c
    (.ok .norm e m n 0 0)
    (fun l => opsA P cal l e m n 0 0)
    (fun l bs => opsD P cal l bs 0 [] e m n 0 0)
    (fun a b => crRec (rec a e m n) (onNorm (rec b)))
    (fun x a b => onCond (rec a e m n) (rec b e m n) (ev e x))
    (fun id _ b => crRec (rec b e m n) (onBlock id))
    (fun sh b => crRec (rec b e m n) (onNorm (rec (.loop sh b))))
    (fun sel d c => rec c (fixE sel d e) m n)
    (fun c sel d => crRec (rec c e m n) (onPost sel d))
    (fun id => .ok (.exit id) e m n 0 0)
    (fun rs => onRet e m n (resA e m n rs))
theorem execC_le {ca cb : Nat → List Value → μ → Nat → OR μ} {a b : AC → List Value → μ → Nat → CR μ} (hc : CalLe ca cb) (h : RcLe a b) (c : AC) (e : List Value) (m : μ) (n : Nat) : CLe (execC P ca a c e m n) (execC P cb b c e m n) := by
  cases c with
  | skip => exact CLe.refl _
  | reg l => exact ops_le hc l e m n 0 0
  | regD l bs => exact opsD_le hc l bs 0 [] e m n 0 0
  | seq x y => exact crRec_le (h x e m n) fun X e m n r w => onNorm_le (h y) X e m n r w
  | cond o x y =>
    show CLe (onCond (a x e m n) (a y e m n) (ev e o)) (onCond (b x e m n) (b y e m n) (ev e o))
    generalize ev e o = v
    unfold onCond
    split
    · exact cond_cle _ (h x e m n) (h y e m n)
    · exact CLe.refl _
  | block id sh x => exact crRec_le (h x e m n) fun X e m n r w => CLe.refl _
  | loop sh x => exact crRec_le (h x e m n) fun X e m n r w => onNorm_le (h _) X e m n r w
  | pre sel d x => exact h x _ m n
  | post x sel d => exact crRec_le (h x e m n) fun X e m n r w => CLe.refl _
  | exit id => exact CLe.refl _
  | ret rs => exact CLe.refl _
theorem exec_succ {E : Nat → Option AFn} {Y : Nat → List Value → μ → Nat → OR μ} : ∀ k, RcLe (exec P E Y k) (exec P E Y (k + 1))
  | 0 => fun _ _ _ _ => CLe.no _
  | k + 1 => fun c e m n => execC_le (call_le (exec_succ k)) (exec_succ k) c e m n
theorem exec_mono {E : Nat → Option AFn} {Y : Nat → List Value → μ → Nat → OR μ} {k k' : Nat} (h : k ≤ k') : RcLe (exec P E Y k) (exec P E Y k') := by
  induction h with
  | refl => exact fun _ _ _ _ => CLe.refl _
  | step _ ih => exact fun c e m n => (ih c e m n).trans (exec_succ _ c e m n)
end
end Go.Am
namespace Go.Am
open Go Go.RowKit
section
variable {μ : Type} [AMem μ] {ρ : Ren} {V : Nat → Option Blk} {w w' : World} {B : Nat}
theorem Post.of_below {n : Nat} {m : μ} (hm : MRel ρ V w B) (hb : Below w.heap.size w w') : Post ρ V w B n m n 0 ρ w' :=
  ⟨Ren.le_refl ρ, fun _ _ h => .inl h, by
    rw [upd_zero]
    exact ⟨fun b p O hp hO => (hm.blk b p O hp hO).mono (Ren.le_refl ρ) (hb.block _ (hm.fresh b p hp)), hm.excl, fun b p hp => Nat.lt_of_lt_of_le (hm.fresh b p hp) hb.size, Nat.le_trans hm.le hb.size, hm.gl.mono (hb.mono hm.le)⟩,
    hb.mono hm.le, Nat.le_refl _, fun k hk _ => hb.block k hk, fun _ _ h => .inl h, fun b h => by simp at h⟩
end
end Go.Am
namespace Go.Am.V
open Go Go.Am Go.RowKit
noncomputable def newW (n len : Nat) : Nat := Nat.shiftLeft (Nat.sub (Nat.pow 2 len) 1) n
theorem newW_test (n len b : Nat) : (newW n len).testBit b = (decide (n ≤ b) && decide (b < n + len)) := by
  show (((2 ^ len - 1) <<< n).testBit b) = _
  rw [Nat.testBit_shiftLeft, Nat.testBit_two_pow_sub_one, Bool.eq_iff_iff]
  simp
  omega
def altA (a b : Nat → List Value → FM → Nat → OR FM) : Nat → List Value → FM → Nat → OR FM := fun f args m n =>
  match a f args m n with
  | .no => b f args m n
  | .ok v m n r w => .ok v m n r w
theorem alt_loc {a b : Nat → List Value → FM → Nat → OR FM} (ha : CallLoc a) (hb : CallLoc b) : CallLoc (altA a b) := by
  intro f args m n v m' n' r wm h
  unfold altA at h
  split at h
  · exact hb _ _ _ _ _ _ _ _ _ h
  · rename_i he
    rw [h] at he
    exact ha _ _ _ _ _ _ _ _ _ he
theorem alt_sim {P : Program} {a b : Nat → List Value → FM → Nat → OR FM} (ha : CallSim P a) (hb : CallSim P b) : CallSim P (altA a b) := by
  intro f args m n v m' n' r wm h
  unfold altA at h
  split at h
  · exact hb _ _ _ _ _ _ _ _ _ h
  · rename_i he
    rw [h] at he
    exact ha _ _ _ _ _ _ _ _ _ he
structure Env (P : Program) (tab : List (Nat × AFn)) (Y : Nat → List Value → FM → Nat → OR FM) : Prop where
  mix : P.follows .mixedOrders = true
  good : Good P tab
  loc : CallLoc Y
  sim : CallSim P Y
theorem Env.calls {P : Program} {tab : List (Nat × AFn)} {Y : Nat → List Value → FM → Nat → OR FM} (h : Env P tab Y) (k : Nat) : CallSim P (callA (look tab) Y (exec P (look tab) Y k)) :=
  call_sim h.loc h.sim h.good.look (code_sim h.mix draw_sim h.loc h.sim h.good.look k).1
theorem Env.topA {P : Program} {tab : List (Nat × AFn)} {Y : Nat → List Value → FM → Nat → OR FM} (h : Env P tab Y) {k f : Nat} {args : List Value} {m0 m : FM} {n r wm : Nat} (ha : ∀ ρ, ∀ a ∈ args, VRel ρ a a) (hrun : callA (look tab) Y (exec P (look tab) Y k) f args m0 0 = .ok (.bool true) m n r wm) (w : World) (hgl : Glob w.heap.size w) :
    Calls P f args.toArray w fun e w' => e = .returned (.bool true) ∧ Below w.heap.size w w' := by
  obtain ⟨_, hc⟩ := h.calls k f args m0 0 (.bool true) m n r wm hrun (fun _ => none) (fun _ => none) w w.heap.size (Nat.lor r wm) args.toArray ⟨rfl, fun i x y hx hy => by
      have : x = y := by simp at hy; rw [hx] at hy; injection hy
      subst this
      exact ha _ x (List.mem_of_getElem? hx)⟩ (Sub.refl _) (fun b hb => by omega) (mrel_none w hgl) (fun _ _ => rfl)
  refine hc.mono fun e w' hh => ?_
  obtain ⟨ρ', v', rfl, hv, hp⟩ := hh
  rw [hv.flat_eq rfl]
  exact ⟨rfl, hp.below⟩
def FM0 : FM := fun _ => none
def isT : Value → Bool
  | .bool b => b
  | _ => false
theorem isT_eq {v : Value} (h : isT v = true) : v = .bool true := by
  unfold isT at h
  split at h
  · rw [h]
  · cases h
noncomputable def gaveTA (x : OR FM) : Bool := OR.rec (motive := fun _ => Bool) false (fun v _ _ _ _ => isT v) x
theorem gaveTA_eq {x : OR FM} (h : gaveTA x = true) : ∃ m n r w, x = .ok (.bool true) m n r w := by
  cases x with
  | no => cases h
  | ok v m n r w => exact ⟨_, _, _, _, by rw [isT_eq (v := v) h]⟩
theorem Env.lawA {P : Program} {tab : List (Nat × AFn)} {Y : Nat → List Value → FM → Nat → OR FM} (h : Env P tab Y) {k f : Nat} {args : List Value} (ha : ∀ ρ, ∀ a ∈ args, VRel ρ a a) (hrun : gaveTA (callA (look tab) Y (exec P (look tab) Y k) f args FM0 0) = true) (w : World) (hgl : Glob w.heap.size w) :
    Calls P f args.toArray w fun e w' => e = .returned (.bool true) ∧ Below w.heap.size w w' := by
  obtain ⟨m, n, r, wm, he⟩ := gaveTA_eq hrun
  exact h.topA ha he w hgl
theorem free_args {args : List Value} (h : args.all addrFree = true) : ∀ (ρ : Ren), ∀ a ∈ args, VRel ρ a a := fun ρ a ha => addrFree_rel ρ (List.all_eq_true.1 h a ha)
end Go.Am.V
namespace Go.Am
open Go
section
variable {μ : Type} [AMem μ] {P : Program} {E : Nat → Option AFn} {Y : Nat → List Value → μ → Nat → OR μ}
open Classical in
noncomputable def execW (P : Program) (E : Nat → Option AFn) (Y : Nat → List Value → μ → Nat → OR μ) (c : AC) (e : List Value) (m : μ) (n : Nat) : CR μ :=
  if h : ∃ k X e' m' n' r w, exec P E Y k c e m n = .ok X e' m' n' r w then exec P E Y h.choose c e m n else .no
theorem execW_of {c : AC} {e : List Value} {m : μ} {n k : Nat} {X : AX} {e' : List Value} {m' : μ} {n' r w : Nat} (h : exec P E Y k c e m n = .ok X e' m' n' r w) : execW P E Y c e m n = .ok X e' m' n' r w := by
  have hx : ∃ k X e' m' n' r w, exec P E Y k c e m n = .ok X e' m' n' r w := ⟨k, X, e', m', n', r, w, h⟩
  unfold execW
  rw [dif_pos hx]
  obtain ⟨X2, e2, m2, n2, r2, w2, h2⟩ := hx.choose_spec
  have a := exec_mono (Nat.le_max_left k hx.choose) c e m n _ _ _ _ _ _ h
  have b := exec_mono (Nat.le_max_right k hx.choose) c e m n _ _ _ _ _ _ h2
  rw [a] at b
  rw [h2, b]
theorem execW_some {c : AC} {e : List Value} {m : μ} {n : Nat} {X : AX} {e' : List Value} {m' : μ} {n' r w : Nat} (h : execW P E Y c e m n = .ok X e' m' n' r w) : ∃ k, exec P E Y k c e m n = .ok X e' m' n' r w := by
  unfold execW at h
  split at h
  · exact ⟨_, h⟩
  · cases h
theorem exec_leW (k : Nat) : RcLe (exec P E Y k) (execW P E Y) := fun c e m n X e' m' n' r w h => execW_of h
def ORch (x : OR μ) (y : Nat → OR μ) : Prop := ∀ v m n r w, x = .ok v m n r w → ∃ k, ∀ k', k ≤ k' → y k' = .ok v m n r w
def CRch (x : CR μ) (y : Nat → CR μ) : Prop := ∀ X e m n r w, x = .ok X e m n r w → ∃ k, ∀ k', k ≤ k' → y k' = .ok X e m n r w
theorem ORch.const (x : OR μ) : ORch x (fun _ => x) := fun _ _ _ _ _ h => ⟨0, fun _ _ => h⟩
theorem CRch.const (x : CR μ) : CRch x (fun _ => x) := fun _ _ _ _ _ _ h => ⟨0, fun _ _ => h⟩
theorem execW_rch (c : AC) (e : List Value) (m : μ) (n : Nat) : CRch (execW P E Y c e m n) (fun k => exec P E Y k c e m n) := by
  intro X e' m' n' r w h
  obtain ⟨k, hk⟩ := execW_some h
  exact ⟨k, fun k' hk' => exec_mono hk' c e m n _ _ _ _ _ _ hk⟩
theorem orRec_rch {x : OR μ} {y : Nat → OR μ} {f : Value → μ → Nat → Nat → Nat → CR μ} {g : Nat → Value → μ → Nat → Nat → Nat → CR μ} (h : ORch x y) (hf : ∀ v m n r w, CRch (f v m n r w) (fun k => g k v m n r w)) : CRch (orRec x f) (fun k => orRec (y k) (g k)) := by
  intro X e m n r w he
  cases hx : x with
  | no => rw [hx] at he; cases he
  | ok v m1 n1 r1 w1 =>
    rw [hx] at he
    obtain ⟨k1, h1⟩ := h _ _ _ _ _ hx
    obtain ⟨k2, h2⟩ := hf v m1 n1 r1 w1 X e m n r w he
    refine ⟨max k1 k2, fun k' hk' => ?_⟩
    show orRec (y k') (g k') = _
    rw [h1 k' (by omega)]
    exact h2 k' (by omega)
theorem crRec_rch {x : CR μ} {y : Nat → CR μ} {f : AX → List Value → μ → Nat → Nat → Nat → CR μ} {g : Nat → AX → List Value → μ → Nat → Nat → Nat → CR μ} (h : CRch x y) (hf : ∀ v e m n r w, CRch (f v e m n r w) (fun k => g k v e m n r w)) : CRch (crRec x f) (fun k => crRec (y k) (g k)) := by
  intro X e m n r w he
  cases hx : x with
  | no => rw [hx] at he; cases he
  | ok v e1 m1 n1 r1 w1 =>
    rw [hx] at he
    obtain ⟨k1, h1⟩ := h _ _ _ _ _ _ hx
    obtain ⟨k2, h2⟩ := hf v e1 m1 n1 r1 w1 X e m n r w he
    refine ⟨max k1 k2, fun k' hk' => ?_⟩
    show crRec (y k') (g k') = _
    rw [h1 k' (by omega)]
    exact h2 k' (by omega)
theorem cond_rch (b : Bool) {x x' : CR μ} {y y' : Nat → CR μ} (h : CRch x y) (k : CRch x' y') : CRch (cond b x x') (fun k => cond b (y k) (y' k)) := by cases b <;> assumption
theorem call_rch (f : Nat) (args : List Value) (m : μ) (n : Nat) : ORch (callA E Y (execW P E Y) f args m n) (fun k => callA E Y (exec P E Y k) f args m n) := by
  intro v m' n' r w h
  show ∃ k, ∀ k', k ≤ k' → Option.rec (motive := fun _ => OR μ) (Y f args m n) (callF (exec P E Y k') args m n) (E f) = _
  replace h : Option.rec (motive := fun _ => OR μ) (Y f args m n) (callF (execW P E Y) args m n) (E f) = _ := h
  cases hE : E f with
  | none => rw [hE] at h; exact ⟨0, fun _ _ => h⟩
  | some fn =>
    rw [hE] at h
    replace h : cond (Nat.beq (llen args) fn.na) (CR.rec (motive := fun _ => OR μ) .no (fun x e m' n' r w => leaveX fn m n e m' n' r w x) (execW P E Y fn.code args m n)) .no = _ := h
    show ∃ k, ∀ k', k ≤ k' → cond (Nat.beq (llen args) fn.na) (CR.rec (motive := fun _ => OR μ) .no (fun x e m' n' r w => leaveX fn m n e m' n' r w x) (exec P E Y k' fn.code args m n)) .no = _
    cases hb : Nat.beq (llen args) fn.na
    · rw [hb] at h; cases h
    · rw [hb, cond_true] at h
      cases hx : execW P E Y fn.code args m n with
      | no => rw [hx] at h; cases h
      | ok X e2 m2 n2 r2 w2 =>
        rw [hx] at h
        obtain ⟨k, hk⟩ := execW_rch fn.code args m n _ _ _ _ _ _ hx
        exact ⟨k, fun k' hk' => by
          have hk2 : exec P E Y k' fn.code args m n = _ := hk k' hk'
          rw [hk2, cond_true]; exact h⟩
theorem step_rch (e : List Value) (m : μ) (n : Nat) (o : AOp) : ORch (stepA P (callA E Y (execW P E Y)) e m n o) (fun k => stepA P (callA E Y (exec P E Y k)) e m n o) := by
  cases o
  case call f args => exact call_rch f _ m n
  case callv x args =>
    show ORch (callV (callA E Y (execW P E Y)) (evs e args) m n (ev e x)) (fun k => callV (callA E Y (exec P E Y k)) (evs e args) m n (ev e x))
    generalize ev e x = v
    unfold callV
    split
    · exact call_rch _ _ m n
    · exact ORch.const _
  all_goals exact ORch.const _
theorem ops_rch : ∀ (l : List AI) (e : List Value) (m : μ) (n r w : Nat), CRch (opsA P (callA E Y (execW P E Y)) l e m n r w) (fun k => opsA P (callA E Y (exec P E Y k)) l e m n r w)
  | [], e, m, n, r, w => CRch.const _
  | i :: l, e, m, n, r, w => by
    have ih := ops_rch l
    cases i with
    | nop i => exact ih e m n r w
    | op o => exact orRec_rch (step_rch e m n o) fun v m n r' w' => ih _ m n _ _
    | eff o => exact orRec_rch (step_rch e m n o) fun v m n r' w' => ih _ m n _ _
    | opg o gi gw => exact cond_rch _ (orRec_rch (step_rch e m n o) fun v m n r' w' => ih _ m n _ _) (ih _ m n r w)
    | effg o gi gw => exact cond_rch _ (orRec_rch (step_rch e m n o) fun v m n r' w' => ih _ m n _ _) (ih _ m n r w)
theorem okD_rch {bef q : Nat} {done : List (Nat × Nat × Nat)} {x : OR μ} {y : Nat → OR μ} {f : Value → μ → Nat → Nat → Nat → List (Nat × Nat × Nat) → CR μ} {g : Nat → Value → μ → Nat → Nat → Nat → List (Nat × Nat × Nat) → CR μ} (h : ORch x y) (hf : ∀ v m n r w d, CRch (f v m n r w d) (fun k => g k v m n r w d)) :
    CRch (okD bef q done x f) (fun k => okD bef q done (y k) (g k)) := by
  refine orRec_rch (g := fun k v m n r w => forceN r fun r => forceN w fun w => cond (Nat.beq (Nat.lor r w) 0) (g k v m n r w done) (cond (apart bef r w done) (g k v m n r w ((q, r, w) :: done)) .no)) h fun v m n r w => ?_
  rw [forceN_eq, forceN_eq]
  simp only [forceN_eq]
  exact cond_rch _ (hf v m n r w _) (cond_rch _ (hf v m n r w _) (CRch.const _))
theorem stepD_rch (e : List Value) (m : μ) (n : Nat) (o : AOp) : ORch (stepD P (callA E Y (execW P E Y)) e m n o) (fun k => stepD P (callA E Y (exec P E Y k)) e m n o) := by
  unfold stepD
  cases belowOps n e o
  · exact ORch.const _
  · exact step_rch e m n o
theorem opsD_rch : ∀ (l : List AI) (bs : List Nat) (q : Nat) (done : List (Nat × Nat × Nat)) (e : List Value) (m : μ) (n r w : Nat), CRch (opsD P (callA E Y (execW P E Y)) l bs q done e m n r w) (fun k => opsD P (callA E Y (exec P E Y k)) l bs q done e m n r w)
  | [], bs, q, done, e, m, n, r, w => CRch.const _
  | i :: l, bs, q, done, e, m, n, r, w => by
    have ih := opsD_rch l
    have h1 : ∀ o, CRch (okD (bs.headD 0) q done (stepD P (callA E Y (execW P E Y)) e m n o) fun v m n r' w' done => opsD P (callA E Y (execW P E Y)) l bs.tail (Nat.succ q) done (v :: e) m n (Nat.lor r r') (Nat.lor w w'))
        (fun k => okD (bs.headD 0) q done (stepD P (callA E Y (exec P E Y k)) e m n o) fun v m n r' w' done => opsD P (callA E Y (exec P E Y k)) l bs.tail (Nat.succ q) done (v :: e) m n (Nat.lor r r') (Nat.lor w w')) := fun o =>
      okD_rch (stepD_rch e m n o) fun v m n r' w' d => ih _ _ _ _ m n _ _
    have h2 : ∀ o, CRch (okD (bs.headD 0) q done (stepD P (callA E Y (execW P E Y)) e m n o) fun _ m n r' w' done => opsD P (callA E Y (execW P E Y)) l bs.tail (Nat.succ q) done e m n (Nat.lor r r') (Nat.lor w w'))
        (fun k => okD (bs.headD 0) q done (stepD P (callA E Y (exec P E Y k)) e m n o) fun _ m n r' w' done => opsD P (callA E Y (exec P E Y k)) l bs.tail (Nat.succ q) done e m n (Nat.lor r r') (Nat.lor w w')) := fun o =>
      okD_rch (stepD_rch e m n o) fun v m n r' w' d => ih _ _ _ _ m n _ _
    cases i with
    | nop i => exact ih _ _ _ e m n r w
    | op o => exact h1 o
    | eff o => exact h2 o
    | opg o gi gw => exact cond_rch _ (h1 o) (ih _ _ _ _ m n r w)
    | effg o gi gw => exact cond_rch _ (h2 o) (ih _ _ _ _ m n r w)
theorem addRW_rch (r w : Nat) {x : CR μ} {y : Nat → CR μ} (h : CRch x y) : CRch (addRW r w x) (fun k => addRW r w (y k)) := by
  intro X e m n r' w' he
  cases hx : x with
  | no => rw [hx] at he; cases he
  | ok X1 e1 m1 n1 r1 w1 =>
    rw [hx] at he
    obtain ⟨k, hk⟩ := h _ _ _ _ _ _ hx
    exact ⟨k, fun k' hk' => by show addRW r w (y k') = _; rw [hk k' hk']; exact he⟩
theorem onNorm_rch {f : List Value → μ → Nat → CR μ} {g : Nat → List Value → μ → Nat → CR μ} (h : ∀ e m n, CRch (f e m n) (fun k => g k e m n)) (X : AX) (e : List Value) (m : μ) (n r w : Nat) : CRch (onNorm f X e m n r w) (fun k => onNorm (g k) X e m n r w) := by
  cases X with
  | norm => exact addRW_rch r w (h e m n)
  | exit i => exact CRch.const _
  | ret v => exact CRch.const _
theorem execW_eq (c : AC) (e : List Value) (m : μ) (n : Nat) : execW P E Y c e m n = execC P (callA E Y (execW P E Y)) (execW P E Y) c e m n := by
  have key : CRch (execC P (callA E Y (execW P E Y)) (execW P E Y) c e m n) (fun k => execC P (callA E Y (exec P E Y k)) (exec P E Y k) c e m n) := by
    cases c with
    | skip => exact CRch.const _
    | reg l => exact ops_rch l e m n 0 0
    | regD l bs => exact opsD_rch l bs 0 [] e m n 0 0
    | seq x y => exact crRec_rch (g := fun k => onNorm (exec P E Y k y)) (execW_rch x e m n) fun X e m n r w => onNorm_rch (execW_rch y) X e m n r w
    | cond o x y =>
      show CRch (onCond (execW P E Y x e m n) (execW P E Y y e m n) (ev e o)) (fun k => onCond (exec P E Y k x e m n) (exec P E Y k y e m n) (ev e o))
      generalize ev e o = v
      unfold onCond
      split
      · exact cond_rch _ (execW_rch x e m n) (execW_rch y e m n)
      · exact CRch.const _
    | block id sh x => exact crRec_rch (g := fun _ => onBlock id) (execW_rch x e m n) fun X e m n r w => CRch.const _
    | loop sh x => exact crRec_rch (g := fun k => onNorm (exec P E Y k (.loop sh x))) (execW_rch x e m n) fun X e m n r w => onNorm_rch (execW_rch _) X e m n r w
    | pre sel d x => exact execW_rch x _ m n
    | post x sel d => exact crRec_rch (g := fun _ => onPost sel d) (execW_rch x e m n) fun X e m n r w => CRch.const _
    | exit id => exact CRch.const _
    | ret rs => exact CRch.const _
  have hle : CLe (execW P E Y c e m n) (execC P (callA E Y (execW P E Y)) (execW P E Y) c e m n) := by
    intro X e' m' n' r w h
    obtain ⟨k, hk⟩ := execW_some h
    have hs := exec_succ k c e m n _ _ _ _ _ _ hk
    exact execC_le (call_le (exec_leW k)) (exec_leW k) c e m n _ _ _ _ _ _ hs
  cases hx : execC P (callA E Y (execW P E Y)) (execW P E Y) c e m n with
  | no =>
    cases hw : execW P E Y c e m n with
    | no => rfl
    | ok X e' m' n' r w => have := hle _ _ _ _ _ _ hw; rw [hx] at this; cases this
  | ok X e' m' n' r w =>
    obtain ⟨k, hk⟩ := key _ _ _ _ _ _ hx
    exact execW_of (k := k + 1) (hk k (Nat.le_refl _))
end
section
variable {μ : Type} [AMem μ] {P : Program} {E : Nat → Option AFn} {Y : Nat → List Value → μ → Nat → OR μ} {e : List Value} {m : μ} {n : Nat}
theorem w_skip : execW P E Y .skip e m n = .ok .norm e m n 0 0 := execW_eq ..
theorem w_reg (l : List AI) : execW P E Y (.reg l) e m n = opsA P (callA E Y (execW P E Y)) l e m n 0 0 := execW_eq ..
theorem w_regD (l : List AI) (bs : List Nat) : execW P E Y (.regD l bs) e m n = opsD P (callA E Y (execW P E Y)) l bs 0 [] e m n 0 0 := execW_eq ..
theorem w_seq (a b : AC) : execW P E Y (.seq a b) e m n = crRec (execW P E Y a e m n) (onNorm (execW P E Y b)) := execW_eq ..
theorem w_cond (x : Opd) (a b : AC) : execW P E Y (.cond x a b) e m n = onCond (execW P E Y a e m n) (execW P E Y b e m n) (ev e x) := execW_eq ..
theorem w_block (id : Nat) (sh : List (List Nat)) (b : AC) : execW P E Y (.block id sh b) e m n = crRec (execW P E Y b e m n) (onBlock id) := execW_eq ..
theorem w_loop (sh : List (List Nat)) (b : AC) : execW P E Y (.loop sh b) e m n = crRec (execW P E Y b e m n) (onNorm (execW P E Y (.loop sh b))) := execW_eq ..
theorem w_pre (sel : List Nat) (d : Nat) (c : AC) : execW P E Y (.pre sel d c) e m n = execW P E Y c (fixE sel d e) m n := execW_eq ..
theorem w_post (c : AC) (sel : List Nat) (d : Nat) : execW P E Y (.post c sel d) e m n = crRec (execW P E Y c e m n) (onPost sel d) := execW_eq ..
theorem w_exit (id : Nat) : execW P E Y (.exit id) e m n = .ok (.exit id) e m n 0 0 := execW_eq ..
theorem w_ret (rs : List ROp) : execW P E Y (.ret rs) e m n = onRet e m n (resA e m n rs) := execW_eq ..
end
end Go.Am
namespace Go.Am
open Go
section
variable {μ : Type} [AMem μ] {P : Program} {rec : Nat → List Value → μ → Nat → OR μ}
inductive OS (μ : Type) where
  | no
  | ok (e : List Value) (m : μ) (n r w : Nat)
noncomputable def keep (e : List Value) (r w : Nat) : OR μ → OS μ
  | .no => .no
  | .ok v m n r' w' => .ok (v :: e) m n (Nat.lor r r') (Nat.lor w w')
noncomputable def drop1 (e : List Value) (r w : Nat) : OR μ → OS μ
  | .no => .no
  | .ok _ m n r' w' => .ok e m n (Nat.lor r r') (Nat.lor w w')
noncomputable def stepS (P : Program) (rec : Nat → List Value → μ → Nat → OR μ) : OS μ → AI → OS μ
  | .no, _ => .no
  | .ok e m n r w, .nop _ => .ok e m n r w
  | .ok e m n r w, .op o => keep e r w (stepA P rec e m n o)
  | .ok e m n r w, .eff o => drop1 e r w (stepA P rec e m n o)
  | .ok e m n r w, .opg o gi gw => cond (wantB gw (lget e gi)) (keep e r w (stepA P rec e m n o)) (.ok (undef :: e) m n r w)
  | .ok e m n r w, .effg o gi gw => cond (wantB gw (lget e gi)) (drop1 e r w (stepA P rec e m n o)) (.ok e m n r w)
noncomputable def runS (P : Program) (rec : Nat → List Value → μ → Nat → OR μ) (l : List AI) (s : OS μ) : OS μ := l.foldl (stepS P rec) s
def outS : OS μ → CR μ
  | .no => .no
  | .ok e m n r w => .ok .norm e m n r w
theorem runS_no (l : List AI) : runS P rec l .no = .no := by
  induction l with
  | nil => rfl
  | cons i l ih => show runS P rec l (stepS P rec .no i) = _; cases i <;> exact ih
theorem ops_run : ∀ (l : List AI) (e : List Value) (m : μ) (n r w : Nat), opsA P rec l e m n r w = outS (runS P rec l (.ok e m n r w))
  | [], e, m, n, r, w => o_nil
  | i :: l, e, m, n, r, w => by
    have ih := ops_run l
    have hk : ∀ x : OR μ, orRec x (fun v m n r' w' => opsA P rec l (v :: e) m n (Nat.lor r r') (Nat.lor w w')) = outS (runS P rec l (keep e r w x)) := fun x => by
      cases x with
      | no => show CR.no = outS (runS P rec l .no); rw [runS_no]; rfl
      | ok v m1 n1 r1 w1 => exact ih _ m1 n1 _ _
    have hd : ∀ x : OR μ, orRec x (fun _ m n r' w' => opsA P rec l e m n (Nat.lor r r') (Nat.lor w w')) = outS (runS P rec l (drop1 e r w x)) := fun x => by
      cases x with
      | no => show CR.no = outS (runS P rec l .no); rw [runS_no]; rfl
      | ok v m1 n1 r1 w1 => exact ih _ m1 n1 _ _
    cases i with
    | nop i => exact ih e m n r w
    | op o => exact hk _
    | eff o => exact hd _
    | opg o gi gw =>
      show cond (wantB gw (lget e gi)) (orRec (stepA P rec e m n o) fun v m n r' w' => opsA P rec l (v :: e) m n (Nat.lor r r') (Nat.lor w w')) (opsA P rec l (undef :: e) m n r w) = outS (runS P rec l (cond (wantB gw (lget e gi)) (keep e r w (stepA P rec e m n o)) (.ok (undef :: e) m n r w)))
      cases wantB gw (lget e gi)
      · exact ih _ m n r w
      · exact hk _
    | effg o gi gw =>
      show cond (wantB gw (lget e gi)) (orRec (stepA P rec e m n o) fun _ m n r' w' => opsA P rec l e m n (Nat.lor r r') (Nat.lor w w')) (opsA P rec l e m n r w) = outS (runS P rec l (cond (wantB gw (lget e gi)) (drop1 e r w (stepA P rec e m n o)) (.ok e m n r w)))
      cases wantB gw (lget e gi)
      · exact ih e m n r w
      · exact hd _
theorem q_nop (e : List Value) (m : μ) (n r w i : Nat) : stepS P rec (.ok e m n r w) (.nop i) = .ok e m n r w := rfl
theorem q_op (e : List Value) (m : μ) (n r w : Nat) (o : AOp) : stepS P rec (.ok e m n r w) (.op o) = keep e r w (stepA P rec e m n o) := rfl
theorem q_eff (e : List Value) (m : μ) (n r w : Nat) (o : AOp) : stepS P rec (.ok e m n r w) (.eff o) = drop1 e r w (stepA P rec e m n o) := rfl
theorem q_opg (e : List Value) (m : μ) (n r w gi : Nat) (gw : Bool) (o : AOp) : stepS P rec (.ok e m n r w) (.opg o gi gw) = cond (wantB gw (lget e gi)) (keep e r w (stepA P rec e m n o)) (.ok (undef :: e) m n r w) := rfl
theorem q_effg (e : List Value) (m : μ) (n r w gi : Nat) (gw : Bool) (o : AOp) : stepS P rec (.ok e m n r w) (.effg o gi gw) = cond (wantB gw (lget e gi)) (drop1 e r w (stepA P rec e m n o)) (.ok e m n r w) := rfl
theorem keep_ok (e : List Value) (m : μ) (v : Value) (n r w r' w' : Nat) : keep e r w (.ok v m n r' w') = .ok (v :: e) m n (Nat.lor r r') (Nat.lor w w') := rfl
theorem drop1_ok (e : List Value) (m : μ) (v : Value) (n r w r' w' : Nat) : drop1 e r w (.ok v m n r' w') = .ok e m n (Nat.lor r r') (Nat.lor w w') := rfl
theorem out_ok (e : List Value) (m : μ) (n r w : Nat) : outS (.ok e m n r w) = .ok .norm e m n r w := rfl
end
section
variable {μ : Type} [AMem μ] {P : Program} {E : Nat → Option AFn} {Y : Nat → List Value → μ → Nat → OR μ} {e : List Value} {m : μ} {n : Nat}
noncomputable def callW (P : Program) (E : Nat → Option AFn) (Y : Nat → List Value → μ → Nat → OR μ) : Nat → List Value → μ → Nat → OR μ := callA E Y (execW P E Y)
theorem v_reg (l : List AI) : execW P E Y (.reg l) e m n = outS (runS P (callW P E Y) l (.ok e m n 0 0)) := by rw [w_reg, ops_run]; rfl
noncomputable def leaveC (fn : AFn) (m0 : μ) (n0 : Nat) : CR μ → OR μ
  | .no => .no
  | .ok X e m n r w => leaveX fn m0 n0 e m n r w X
theorem callW_fn {f : Nat} {fn : AFn} {args : List Value} (hE : E f = some fn) (ha : llen args = fn.na) : callW P E Y f args m n = leaveC fn m n (execW P E Y fn.code args m n) := by
  show Option.rec (motive := fun _ => OR μ) (Y f args m n) (callF (execW P E Y) args m n) (E f) = _
  rw [hE]
  show cond (Nat.beq (llen args) fn.na) (CR.rec (motive := fun _ => OR μ) .no (fun x e m' n' r w => leaveX fn m n e m' n' r w x) (execW P E Y fn.code args m n)) .no = _
  rw [ha, Nat.beq_refl]
  cases execW P E Y fn.code args m n <;> rfl
theorem leave_ret {fn : AFn} {m0 : μ} {n0 : Nat} (e : List Value) (v : Value) (n r w : Nat) : leaveC fn m0 n0 (.ok (.ret v) e m n r w) = leaveA m0 n0 v m n r w := rfl
theorem leaveA_free {m0 : μ} {n0 : Nat} {v : Value} {n r w : Nat} (hv : addrFree v = true) (hw : Nat.mod w (bit n0) = 0) : leaveA m0 n0 v m n r w = .ok v m0 n0 (Nat.mod r (bit n0)) 0 := by
  unfold leaveA
  rw [hv, hw]
  show cond (true && Nat.beq 0 0) _ _ = _
  rw [forceN_eq]; rfl
theorem leaveA_keep {m0 : μ} {n0 : Nat} {v : Value} {n r w : Nat} (hv : addrFree v = false) : leaveA m0 n0 v m n r w = .ok v m n r w := by
  unfold leaveA
  rw [hv]; rfl
end
end Go.Am
namespace Go.Am
open Go
theorem wantB_undef (w : Bool) : wantB w undef = false := rfl
theorem natOf_zero (k : IntKind) : natOf (.int k 0) = some 0 := rfl
theorem natOf_one (k : IntKind) : natOf (.int k 1) = some 1 := rfl
theorem natOf_mk (k : IntKind) (i : Nat) : natOf (.int k (i : Int)) = some i := rfl
theorem obind_some (f : Nat → Option Value) (i : Nat) : obind f (some i) = f i := rfl
def Sl (m : FM) (n : Nat) (v : Value) (vs : List Value) : Prop :=
  (v = .slice none 0 0 ∧ vs = []) ∨ (∃ b o cap c opn wr, v = .slice (some ⟨b, o, none⟩) vs.length cap ∧ b < n ∧ m b = some (.cells c 1 opn wr) ∧ ∀ (i : Nat) x, vs[i]? = some x → c[o + i]? = some x) ∨
  (v = .slice (some ⟨0, 0, none⟩) 0 VAG ∧ vs = [] ∧ 0 < n)
theorem Sl.len {m : FM} {n : Nat} {v : Value} {vs : List Value} (h : Sl m n v vs) : lenV false v = some (.int .i64 (vs.length : Int)) := by
  rcases h with ⟨rfl, rfl⟩ | ⟨b, o, cap, c, opn, wr, rfl, _⟩ | ⟨rfl, rfl, _⟩ <;> rfl
theorem getb_lt {m : FM} {n b : Nat} (h : b < n) : getb m n b = m b := by
  show cond (Nat.blt b n) (m b) none = m b
  rw [show Nat.blt b n = true from Nat.ble_eq_true_of_le h]; rfl
theorem Sl.at {m : FM} {n : Nat} {v : Value} {vs : List Value} (h : Sl m n v vs) {i : Nat} {x : Value} (hx : vs[i]? = some x) : ∃ a b, idxV 1 i v = some (.pointer (some a)) ∧ ld1V m n (.pointer (some a)) = .ok x m n (bit b) 0 ∧ b < n := by
  rcases h with ⟨rfl, rfl⟩ | ⟨b, o, cap, c, opn, wr, rfl, hb, hm, hc⟩ | ⟨rfl, rfl, _⟩
  · simp at hx
  · have hi : i < vs.length := (List.getElem?_eq_some_iff.1 hx).1
    refine ⟨⟨b, o + i * 1, none⟩, b, ?_, ?_, hb⟩
    · show cond (Nat.blt i vs.length) _ none = _
      rw [show Nat.blt i vs.length = true from Nat.ble_eq_true_of_le hi]; rfl
    · show withCells (getb m n b) (fun c => valR m n b (cget c (o + i * 1))) = _
      rw [getb_lt hb, hm, Nat.mul_one]
      show valR m n b (cget c (o + i)) = _
      rw [cget_eq, hc i x hx]; rfl
  · simp at hx
def Ints (m : FM) (n : Nat) (v : Value) (xs : List Int) : Prop := Sl m n v (xs.map (Value.int .i64))
theorem Ints.len {m : FM} {n : Nat} {v : Value} {xs : List Int} (h : Ints m n v xs) : lenV false v = some (.int .i64 (xs.length : Int)) := by
  have := Sl.len h; rwa [List.length_map] at this
theorem Ints.at {m : FM} {n : Nat} {v : Value} {xs : List Int} (h : Ints m n v xs) {i : Nat} (hi : i < xs.length) : ∃ a b, idxV 1 i v = some (.pointer (some a)) ∧ ld1V m n (.pointer (some a)) = .ok (.int .i64 xs[i]) m n (bit b) 0 ∧ b < n :=
  Sl.at h (by rw [List.getElem?_map, List.getElem?_eq_getElem hi]; rfl)
theorem wrap_small {z : Int} (h : -9223372036854775808 ≤ z) (h' : z < 9223372036854775808) : IntKind.i64.wrap z = z := wrap_id_i64 h h'
end Go.Am
namespace Go.Am
open Go
def Gv (x : CR FM) (Q : AX → List Value → FM → Nat → Nat → Prop) : Prop :=
  match x with
  | .no => False
  | .ok X e m n _ w => Q X e m n w
theorem Gv.mono {x : CR FM} {Q Q' : AX → List Value → FM → Nat → Nat → Prop} (h : Gv x Q) (hq : ∀ X e m n w, Q X e m n w → Q' X e m n w) : Gv x Q' := by
  cases x with
  | no => exact h
  | ok X e m n r w => exact hq _ _ _ _ _ h
theorem Gv_add (r w : Nat) (x : CR FM) (Q : AX → List Value → FM → Nat → Nat → Prop) : Gv (addRW r w x) Q = Gv x (fun X e m n w' => Q X e m n (Nat.lor w w')) := by cases x <;> rfl
theorem Gv_some {x : CR FM} {Q : AX → List Value → FM → Nat → Nat → Prop} (h : Gv x Q) : ∃ X e m n r w, x = .ok X e m n r w ∧ Q X e m n w := by
  cases x with
  | no => exact h.elim
  | ok X e m n r w => exact ⟨X, e, m, n, r, w, rfl, h⟩
def Pure (x : OR FM) (m : FM) (n : Nat) (v : Value) : Prop := ∃ r, x = .ok v m n r 0
theorem pure_of {fn : AFn} {m0 : FM} {n0 : Nat} {x : CR FM} {v : Value} (hv : addrFree v = true) (h : Gv x fun X _ _ _ w => X = .ret v ∧ Nat.mod w (bit n0) = 0) : Pure (leaveC fn m0 n0 x) m0 n0 v := by
  obtain ⟨X, e, m, n, r, w, rfl, rfl, hw⟩ := Gv_some h
  rw [leave_ret]
  exact ⟨_, leaveA_free hv hw⟩
end Go.Am
namespace Go.Am.CS
open Go Go.Am
section
variable {P : Program} {E : Nat → Option AFn} {Y : Nat → List Value → FM → Nat → OR FM} {e : List Value} {m : FM} {n : Nat}
end
noncomputable abbrev PG : Program := Proofs.Tryz.prog
end Go.Am.CS
namespace Go.Am
open Go
section
variable {μ : Type} [AMem μ] {P : Program} {rec : Nat → List Value → μ → Nat → OR μ}
inductive OD (μ : Type) where
  | no
  | ok (k : Nat) (done : List (Nat × Nat × Nat)) (e : List Value) (m : μ) (n r w : Nat)
noncomputable def keepD (b : Nat) (keepV : Bool) (k : Nat) (done : List (Nat × Nat × Nat)) (e : List Value) (r w : Nat) : OR μ → OD μ
  | .no => .no
  | .ok v m n r' w' => cond (apart b r' w' done) (.ok (k + 1) ((k, r', w') :: done) (cond keepV (v :: e) e) m n (Nat.lor r r') (Nat.lor w w')) .no
noncomputable def stepX (P : Program) (rec : Nat → List Value → μ → Nat → OR μ) : OD μ → AI × Nat → OD μ
  | .no, _ => .no
  | .ok k done e m n r w, (.nop _, _) => .ok (k + 1) done e m n r w
  | .ok k done e m n r w, (.op o, b) => keepD b true k done e r w (stepD P rec e m n o)
  | .ok k done e m n r w, (.eff o, b) => keepD b false k done e r w (stepD P rec e m n o)
  | .ok k done e m n r w, (.opg o gi gw, b) => cond (wantB gw (lget e gi)) (keepD b true k done e r w (stepD P rec e m n o)) (.ok (k + 1) done (undef :: e) m n r w)
  | .ok k done e m n r w, (.effg o gi gw, b) => cond (wantB gw (lget e gi)) (keepD b false k done e r w (stepD P rec e m n o)) (.ok (k + 1) done e m n r w)
noncomputable def runX (P : Program) (rec : Nat → List Value → μ → Nat → OR μ) (l : List (AI × Nat)) (s : OD μ) : OD μ := l.foldl (stepX P rec) s
def outX : OD μ → CR μ
  | .no => .no
  | .ok _ _ e m n r w => .ok .norm e m n r w
def zipB : List AI → List Nat → List (AI × Nat)
  | [], _ => []
  | i :: l, bs => (i, bs.headD 0) :: zipB l bs.tail
theorem runX_no (l : List (AI × Nat)) : runX P rec l .no = .no := by
  induction l with
  | nil => rfl
  | cons i l ih => exact ih
theorem z_nil (bs : List Nat) : zipB [] bs = [] := rfl
theorem z_cons (i : AI) (l : List AI) (b : Nat) (bs : List Nat) : zipB (i :: l) (b :: bs) = (i, b) :: zipB l bs := rfl
variable (k : Nat) (done : List (Nat × Nat × Nat)) (e : List Value) (m : μ) (n r w b : Nat)
theorem y_nop (i : Nat) : stepX P rec (.ok k done e m n r w) (.nop i, b) = .ok (k + 1) done e m n r w := rfl
theorem y_op (o : AOp) : stepX P rec (.ok k done e m n r w) (.op o, b) = keepD b true k done e r w (stepD P rec e m n o) := rfl
theorem y_eff (o : AOp) : stepX P rec (.ok k done e m n r w) (.eff o, b) = keepD b false k done e r w (stepD P rec e m n o) := rfl
theorem y_opg (o : AOp) (gi : Nat) (gw : Bool) : stepX P rec (.ok k done e m n r w) (.opg o gi gw, b) = cond (wantB gw (lget e gi)) (keepD b true k done e r w (stepD P rec e m n o)) (.ok (k + 1) done (undef :: e) m n r w) := rfl
theorem y_effg (o : AOp) (gi : Nat) (gw : Bool) : stepX P rec (.ok k done e m n r w) (.effg o gi gw, b) = cond (wantB gw (lget e gi)) (keepD b false k done e r w (stepD P rec e m n o)) (.ok (k + 1) done e m n r w) := rfl
theorem outX_ok : outX (.ok k done e m n r w) = .ok .norm e m n r w := rfl
theorem apart_nil (r w : Nat) : apart b r w [] = true := rfl
theorem apart_cons (r w i r' w' : Nat) (l : List (Nat × Nat × Nat)) : apart b r w ((i, r', w') :: l) = ((Nat.testBit b i || (Nat.beq (Nat.land w (Nat.lor r' w')) 0 && Nat.beq (Nat.land w' r) 0)) && apart b r w l) := rfl
theorem zero_land' (a : Nat) : Nat.land 0 a = 0 := Nat.zero_and a
theorem land_zero' (a : Nat) : Nat.land a 0 = 0 := Nat.and_zero a
end
section
variable {P : Program} {E : Nat → Option AFn} {Y : Nat → List Value → FM → Nat → OR FM} {e : List Value} {m : FM} {n : Nat}
end
theorem newb_fm (m : FM) (n : Nat) (B : Blk) (v : Nat → Value) : newb m n B v = .ok (v n) (AMem.put m n (some B)) (n + 1) 0 (bit n) := rfl
theorem ptrP_mk (n : Nat) : ptrP n = .pointer (some ⟨n, 0, none⟩) := rfl
theorem slcP_mk (o l c n : Nat) : slcP o l c n = .slice (some ⟨n, o, none⟩) l c := rfl
theorem cells_agg (l : List Value) : (Value.agg l.toArray).cells.toList = l := rfl
theorem fput_put (m : FM) (b : Nat) (x y : Option Blk) : AMem.put (AMem.put m b x) b y = AMem.put m b y := by
  funext j
  show (if j = b then y else if j = b then x else m j) = if j = b then y else m j
  by_cases h : j = b <;> simp [h]
theorem fput_same (m : FM) (b : Nat) (x : Option Blk) : (AMem.put m b x : FM) b = x := by show (if b = b then x else m b) = x; simp
theorem fput_ne (m : FM) (b j : Nat) (x : Option Blk) (h : j ≠ b) : (AMem.put m b x : FM) j = m j := by show (if j = b then x else m j) = m j; simp [h]
theorem Sl.frame {m m' : FM} {n n' : Nat} {v : Value} {vs : List Value} (h : Sl m n v vs) (hn : n ≤ n') (hf : ∀ b, b < n → m' b = m b) : Sl m' n' v vs := by
  rcases h with h | ⟨b, o, cap, c, opn, wr, h1, h2, h3, h4⟩ | ⟨h1, h2, h3⟩
  · exact .inl h
  · exact .inr <| .inl ⟨b, o, cap, c, opn, wr, h1, Nat.lt_of_lt_of_le h2 hn, by rw [hf b h2]; exact h3, h4⟩
  · exact .inr <| .inr ⟨h1, h2, by omega⟩
theorem Ints.frame {m m' : FM} {n n' : Nat} {v : Value} {xs : List Int} (h : Ints m n v xs) (hn : n ≤ n') (hf : ∀ b, b < n → m' b = m b) : Ints m' n' v xs := Sl.frame h hn hf
def Rows (m : FM) (n : Nat) (v : Value) (gs : List (List Int)) : Prop :=
  ∃ vs, Sl m n v vs ∧ vs.length = gs.length ∧ ∀ (i : Nat) x g, vs[i]? = some x → gs[i]? = some g → Ints m n x g
theorem Rows.frame {m m' : FM} {n n' : Nat} {v : Value} {gs : List (List Int)} (h : Rows m n v gs) (hn : n ≤ n') (hf : ∀ b, b < n → m' b = m b) : Rows m' n' v gs := by
  obtain ⟨vs, h1, h2, h3⟩ := h
  exact ⟨vs, h1.frame hn hf, h2, fun i x g hx hg => (h3 i x g hx hg).frame hn hf⟩
theorem Rows.len {m : FM} {n : Nat} {v : Value} {gs : List (List Int)} (h : Rows m n v gs) : lenV false v = some (.int .i64 (gs.length : Int)) := by
  obtain ⟨vs, h1, h2, _⟩ := h
  rw [h1.len, h2]
theorem Rows.at {m : FM} {n : Nat} {v : Value} {gs : List (List Int)} (h : Rows m n v gs) {i : Nat} (hi : i < gs.length) : ∃ a b x, idxV 1 i v = some (.pointer (some a)) ∧ ld1V m n (.pointer (some a)) = .ok x m n (bit b) 0 ∧ b < n ∧ Ints m n x gs[i] := by
  obtain ⟨vs, h1, h2, h3⟩ := h
  have hv : vs[i]? = some vs[i] := List.getElem?_eq_getElem (by omega)
  obtain ⟨a, b, k1, k2, k3⟩ := h1.at hv
  exact ⟨a, b, _, k1, k2, k3, h3 i _ _ hv (List.getElem?_eq_getElem hi)⟩
theorem mod_bit_ge {n k : Nat} (h : n ≤ k) : Nat.mod (bit k) (bit n) = 0 := by
  rw [bit_pow, bit_pow]
  exact Nat.mod_eq_zero_of_dvd (Nat.pow_dvd_pow 2 h)
end Go.Am
namespace Go.Am
open Go
end Go.Am
namespace Go.Am
open Go
section
variable {P : Program} {E : Nat → Option AFn} {Y : Nat → List Value → FM → Nat → OR FM} {e : List Value} {m : FM} {n : Nat}
end
theorem below_all (n : Nat) (e : List Value) (o : AOp) : belowOps n e o = (opds o).all fun x => belowV n (ev e x) := rfl
theorem belowV_int (n : Nat) (k : IntKind) (z : Int) : belowV n (.int k z) = true := rfl
theorem belowV_bool (n : Nat) (b : Bool) : belowV n (.bool b) = true := rfl
theorem belowV_ptr (n b o : Nat) : belowV n (.pointer (some ⟨b, o, none⟩)) = Nat.blt b n := rfl
theorem belowV_nils (n : Nat) : belowV n (.slice none 0 0) = true := rfl
theorem blt_true {a b : Nat} (h : a < b) : Nat.blt a b = true := Nat.ble_eq_true_of_le h
theorem Sl.below {m : FM} {n : Nat} {v : Value} {vs : List Value} (h : Sl m n v vs) : belowV n v = true := by
  rcases h with ⟨rfl, _⟩ | ⟨b, o, cap, c, opn, wr, rfl, hb, _⟩ | ⟨rfl, _, hb⟩
  · rfl
  · exact blt_true hb
  · exact blt_true hb
theorem ida_ok {k sz i b o : Nat} (h : i < k) : idaV k sz i (.pointer (some ⟨b, o, none⟩)) = some (.pointer (some ⟨b, o + i * sz, none⟩)) := by
  show cond (Nat.blt i k) _ none = _
  rw [blt_true h]; rfl
theorem cells_int (k : IntKind) (z : Int) : (Value.int k z).cells.toList = [.int k z] := rfl
end Go.Am
namespace Go.Am
open Go
end Go.Am
namespace Go.Am
open Go
theorem belowV_undef (n : Nat) : belowV n undef = true := rfl
theorem belowV_addr (n : Nat) (a : Addr) : belowV n (.pointer (some a)) = Nat.blt a.block n := rfl
end Go.Am
