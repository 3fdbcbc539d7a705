/- The fast form of the abstract machine: its operations. -/
import Derived.Test.YtaohgpgbphlblaaAmV
set_option linter.unusedVariables false
set_option linter.unusedSimpArgs false
set_option linter.unusedSectionVars false
namespace Go.Am.V
open Go Go.Am Go.Am.Fast

inductive FS where
  | mk (f : FCal → List FV → FTr → Nat → FR)
noncomputable def FS.run (s : FS) : FCal → List FV → FTr → Nat → FR := FS.rec (motive := fun _ => FCal → List FV → FTr → Nat → FR) (fun f => f) s
theorem FS.run_mk (f : FCal → List FV → FTr → Nat → FR) : (FS.mk f).run = f := rfl

section
variable (P : Program)
/-! ### operations without memory -/
noncomputable def uMov (x : Opd) : FS := .mk fun _ e _ _ => fF FR.pv (gv e x)
noncomputable def uPick (c a b : Opd) : FS := .mk fun _ e _ _ => onB (gv e c) (fF FR.pv (gv e a)) (fF FR.pv (gv e b)) .no
noncomputable def slow (op : BinOp) (t : Nat) (x y : FV) : FR := rO (binV P op t (toV x) (toV y))
noncomputable def binRun (f : Int → Int → FR) (op : BinOp) (t : Nat) (x y : Opd) : FS := .mk fun _ e _ _ =>
  onI (gv e x) (fun a => onI (gv e y) (fun b => f a b) (slow P op t (gv e x) (gv e y))) (slow P op t (gv e x) (gv e y))
noncomputable def uBin (op : BinOp) (t : Nat) (x y : Opd) : FS :=
  BinOp.rec (motive := fun _ => Program → Nat → Opd → Opd → FS) (fun P => binRun P jAdd .add) (fun P => binRun P jSub .sub) (fun P => binRun P jMul .mul) (fun P => binRun P jQuo .quo) (fun P => binRun P jRem .rem)
    (fun P => binRun P jNo .and) (fun P => binRun P jNo .or) (fun P => binRun P jNo .xor) (fun P => binRun P jNo .shl) (fun P => binRun P jNo .shr) (fun P => binRun P jNo .andNot)
    (fun P => binRun P jEql .eql) (fun P => binRun P jNeq .neq) (fun P => binRun P jLss .lss) (fun P => binRun P jLeq .leq) (fun P => binRun P jGtr .gtr) (fun P => binRun P jGeq .geq) op P t x y
theorem uBin_eq (op : BinOp) (t : Nat) (x y : Opd) : uBin P op t x y = binRun P (jOp op) op t x y := by cases op <;> rfl
noncomputable def uUna (op : UnOp) (x : Opd) : FS := .mk fun _ e _ _ => rO (unaV op (toV (gv e x)))
noncomputable def uNot (x : Opd) : FS := .mk fun _ e _ _ => onB (gv e x) (.pv (.b false)) (.pv (.b true)) .no
noncomputable def uUn (op : UnOp) (x : Opd) : FS := UnOp.rec (motive := fun _ => Opd → FS) (uUna .neg) (uUna .xor) uNot (uUna .plus) op x
noncomputable def uConv (k : IntKind) (x : Opd) : FS := .mk fun _ e _ _ => rO (convV k (toV (gv e x)))
noncomputable def uFld (off : Nat) (x : Opd) : FS := .mk fun _ e _ _ => onP (gv e x) (fun b o => fN (fun o => .pv (.p b o)) (Nat.add o off)) .no
noncomputable def fnn {α : Type} (z : Int) (k : Nat → α) (d : α) : α := Int.rec (motive := fun _ => (Nat → α) → α → α) (fun a k _ => k a) (fun _ _ d => d) z k d
noncomputable def idxF (sz i : Nat) (v : FV) : FR := onS v (fun b o l _ => Bool.rec (motive := fun _ => FR) .no (fN (fun o => .pv (.p b o)) (Nat.add o (Nat.mul i sz))) (Nat.ble (Nat.succ i) l)) .no
noncomputable def uIdx (sz : Nat) (x i : Opd) : FS := .mk fun _ e _ _ => onI (gv e i) (fun z => fnn z (fun i => idxF sz i (gv e x)) .no) .no
noncomputable def idaF (k sz i : Nat) (v : FV) : FR := onP v (fun b o => Bool.rec (motive := fun _ => FR) .no (fN (fun o => .pv (.p b o)) (Nat.add o (Nat.mul i sz))) (Nat.ble (Nat.succ i) k)) .no
noncomputable def uIda (k sz : Nat) (x i : Opd) : FS := .mk fun _ e _ _ => onI (gv e i) (fun z => fnn z (fun i => idaF k sz i (gv e x)) .no) .no
noncomputable def uBuild (z : List Value) (ps : List (Nat × Nat × Opd)) : FS := .mk fun _ e _ _ => rO (aggO (fillA (parts3 (e.map toV) ps) z))
noncomputable def uExtr (i : Nat) (x : Opd) : FS := .mk fun _ e _ _ => rO (extrV i (toV (gv e x)))
noncomputable def uNilck (x : Opd) : FS := .mk fun _ e _ _ => onP (gv e x) (fun b o => .pv (.p b o)) .no
noncomputable def uFunc (f : Nat) (a c : List Opd) : FS := .mk fun _ e _ _ => .pv (.o (.func (.func f) ((gvs e a).map toV).toArray ((gvs e c).map toV).toArray))
noncomputable def uLen (s : Bool) (x : Opd) : FS := Bool.rec (motive := fun _ => Opd → FS) (fun x => .mk fun _ e _ _ => onS (gv e x) (fun _ _ l _ => .pv (.i (.ofNat l))) (rO (lenV false (toV (gv e x))))) (fun x => .mk fun _ e _ _ => rO (lenV true (toV (gv e x)))) s x
noncomputable def uMx (x y : Opd) : FS := .mk fun _ e _ _ => onI (gv e x) (fun a => onI (gv e y) (fun b => Bool.rec (motive := fun _ => FR) (.pv (.i a)) (.pv (.i b)) (iLt a b)) .no) .no
noncomputable def goev (e : List FV) (x : Option Opd) : Option Value := Option.rec (motive := fun _ => Option Value) none (fun x => some (toV (gv e x))) x
noncomputable def fszOk (sz : Nat) (x : Option FBlk) : Bool := Option.rec (motive := fun _ => Bool) false (fun x => FBlk.rec (motive := fun _ => Bool) (fun _ s _ _ => Nat.beq s sz) x) x
noncomputable def slcF (m : FTr) (n sz : Nat) (v : Option Value) (x : FV) : FR :=
  FV.rec (motive := fun _ => FR) (fun _ => rO v) (fun _ => rO v) (fun _ _ => rO v)
    (fun b _ _ c => Bool.rec (motive := fun _ => FR) (rO v) (Bool.rec (motive := fun _ => FR) .no (Option.rec (motive := fun _ => FR) .no (fun v => FR.rd (ofV v) b) v) (fszOk sz (gb m n b))) (Nat.beq c UNK))
    (fun y => onSlice y (fun a _ _ => Option.rec (motive := fun _ => FR) (rO v) (fun _ => .no) a) (rO v)) x
noncomputable def uSlc (sz : Nat) (x : Opd) (lo hi : Option Opd) : FS := .mk fun _ e m n => slcF m n sz (slcV sz (goev e lo) (goev e hi) (toV (gv e x))) (gv e x)

/-! ### memory -/
noncomputable def fnew (m : FTr) (n : Nat) (B : FBlk) (v : Nat → FV) : FR := .ok (v n) (some B :: m) (Nat.succ n) Nat.zero (bit n)
noncomputable def cellsF (v : FV) : List FV := FV.rec (motive := fun _ => List FV) (fun z => [.i z]) (fun t => [.b t]) (fun b o => [.p b o]) (fun b o l c => [.s b o l c]) (fun v => pmap ofV v.cells.toList) v
noncomputable def uNew (c : List Value) : FS := .mk fun _ _ m n => fnew m n ⟨pmap ofV c, 0, false, true⟩ fun n => .p n 0
noncomputable def uBox (x : Opd) : FS := .mk fun _ e m n => fnew m n ⟨cellsF (gv e x), 0, false, true⟩ fun n => .p n 0
noncomputable def mklF (m : FTr) (n sz len : Nat) (c : Option (List Value)) : FR := Option.rec (motive := fun _ => FR) .no (fun c => fnew m n ⟨pmap ofV c, sz, false, true⟩ fun n => .s n 0 len len) c
noncomputable def uMkl (sz len : Nat) (z : List Value) (ps : List (Nat × Opd)) : FS := .mk fun _ e m n => mklF m n sz len (fillA (parts2 sz (e.map toV) ps) (reps z len))
noncomputable def makeF (m : FTr) (n sz bytes : Nat) (z : List Value) (l c : Nat) : FR :=
  Bool.rec (motive := fun _ => FR) .no (fnew m n ⟨preps (pmap ofV z) c, sz, false, true⟩ fun n => .s n 0 l c) (Nat.ble l c && Nat.ble (Nat.mul c bytes) 281474976710656 && Nat.ble c 1099511627776)
noncomputable def uMake (sz bytes : Nat) (z : List Value) (l c : Opd) : FS := .mk fun _ e m n => onI (gv e l) (fun l => onI (gv e c) (fun c => fnn l (fun l => fnn c (fun c => makeF m n sz bytes z l c) .no) .no) .no) .no
noncomputable def fcells {α : Type} (x : Option FBlk) (k : List FV → α) (d : α) : α := Option.rec (motive := fun _ => α) d (fun x => FBlk.rec (motive := fun _ => α) (fun c _ _ _ => k c) x) x
noncomputable def rdO (b : Nat) (x : Option FV) : FR := Option.rec (motive := fun _ => FR) .no (fun v => .rd v b) x
noncomputable def uLd1 (x : Opd) : FS := .mk fun _ e m n => onP (gv e x) (fun b o => fcells (gb m n b) (fun c => rdO b (pget c o)) .no) .no
noncomputable def aggF (x : Option (List FV)) : Option FV := Option.rec (motive := fun _ => Option FV) none (fun c => some (.o (.agg (c.map toV).toArray))) x
noncomputable def uLdn (k : Nat) (x : Opd) : FS := .mk fun _ e m n => onP (gv e x) (fun b o => fcells (gb m n b) (fun c => rdO b (aggF (pat c o k))) .no) .no
noncomputable def oneF (v : FV) : Bool := FV.rec (motive := fun _ => Bool) (fun _ => true) (fun _ => true) (fun _ _ => true) (fun _ _ _ _ => true) one v
noncomputable def allOne (l : List FV) : Bool := List.rec (motive := fun _ => Bool) true (fun v _ r => Bool.rec (motive := fun _ => Bool) false r (oneF v)) l
noncomputable def putF (m : FTr) (b sz : Nat) (opn : Bool) (n : Nat) (v : FV) (r : Nat) (c : Option (List FV)) : FR := Option.rec (motive := fun _ => FR) .no (fun c => Option.rec (motive := fun _ => FR) .no (fun m => .ok v m n r (bit b)) (tset m n b (some ⟨c, sz, opn, true⟩))) c
noncomputable def stF (m : FTr) (n b o : Nat) (vs : List FV) (x : Option FBlk) : FR :=
  Option.rec (motive := fun _ => FR) .no (fun x => FBlk.rec (motive := fun _ => FR) (fun c sz opn wr => Bool.rec (motive := fun _ => FR) .no (putF m b sz opn n (.o undef) (bit b) (pset c o vs)) wr) x) x
noncomputable def uSt (k : Nat) (x y : Opd) : FS := .mk fun _ e m n => onP (gv e x) (fun b o => Bool.rec (motive := fun _ => FR) .no (stF m n b o (cellsF (gv e y)) (gb m n b)) (Nat.beq (plen (cellsF (gv e y))) k && allOne (cellsF (gv e y)))) .no
/-- what a slice shows: cells, mask -/
noncomputable def shownF (m : FTr) (n sz : Nat) (v : FV) : Option (List FV × Nat) :=
  FV.rec (motive := fun _ => Option (List FV × Nat)) (fun _ => none) (fun _ => none) (fun _ _ => none)
    (fun b o l _ => Bool.rec (motive := fun _ => Option (List FV × Nat)) (Option.rec (motive := fun _ => Option (List FV × Nat)) none (fun x => FBlk.rec (motive := fun _ => Option (List FV × Nat)) (fun c s _ _ => Bool.rec (motive := fun _ => Option (List FV × Nat)) none (Option.rec (motive := fun _ => Option (List FV × Nat)) none (fun x => some (x, bit b)) (pat c o (Nat.mul l sz))) (Nat.beq s sz)) x) (gb m n b)) (some ([], 0)) (Nat.beq l 0))
    (fun v => onSlice v (fun a l c => Option.rec (motive := fun _ => Option (List FV × Nat)) (Bool.rec (motive := fun _ => Option (List FV × Nat)) none (some ([], 0)) (Nat.beq l 0 && Nat.beq c 0)) (fun _ => none) a) none) v
noncomputable def fappN (m : FTr) (n sz len : Nat) (c : List FV) (r : Nat) : FR := .ok (.s n 0 len UNK) (some ⟨c, sz, true, true⟩ :: m) (Nat.succ n) r (bit n)
noncomputable def fappU (m : FTr) (n sz len : Nat) (c : List FV) (r bx : Nat) (x : Option FBlk) : FR :=
  Option.rec (motive := fun _ => FR) .no (fun x => FBlk.rec (motive := fun _ => FR) (fun _ s opn wr => Bool.rec (motive := fun _ => FR) .no (Option.rec (motive := fun _ => FR) .no (fun m => .ok (.s n 0 len UNK) (some ⟨c, sz, true, true⟩ :: m) (Nat.succ n) r (Nat.lor (bit bx) (bit n))) (tset m n bx none)) (Nat.beq s sz && opn && wr)) x) x
noncomputable def fappR (m : FTr) (n sz lx len cx : Nat) (b : List FV) (r bx ox : Nat) (x : Option FBlk) : FR :=
  Option.rec (motive := fun _ => FR) .no (fun x => FBlk.rec (motive := fun _ => FR) (fun c s opn wr => Bool.rec (motive := fun _ => FR) .no (putF m bx s opn n (.s bx ox len cx) r (pset c (Nat.add ox (Nat.mul lx sz)) b)) wr) x) x
noncomputable def appS (m : FTr) (n sz lx ly cx : Nat) (a b : List FV) (r bx ox : Nat) : FR :=
  Bool.rec (motive := fun _ => FR) (Bool.rec (motive := fun _ => FR) (Bool.rec (motive := fun _ => FR) (fappN m n sz (Nat.add lx ly) (papp a b) r) (fappR m n sz lx (Nat.add lx ly) cx b r bx ox (gb m n bx)) (Nat.ble (Nat.add lx ly) cx)) (fappU m n sz (Nat.add lx ly) (papp a b) r bx (gb m n bx)) (Nat.beq cx UNK)) .no (Nat.beq cx VAG)
noncomputable def lenF (y : FV) : Nat := FV.rec (motive := fun _ => Nat) (fun _ => 0) (fun _ => 0) (fun _ _ => 0) (fun _ _ l _ => l) (fun v => onSlice v (fun _ l _ => l) 0) y
noncomputable def appX (sz bytes : Nat) (m : FTr) (n : Nat) (x : FV) (ly : Nat) (a : List FV) (ra : Nat) (b : List FV) (rb : Nat) : FR :=
  FV.rec (motive := fun _ => FR) (fun _ => .no) (fun _ => .no) (fun _ _ => .no)
    (fun bx ox lx cx => Bool.rec (motive := fun _ => FR) .no (appS m n sz lx ly cx a b (Nat.lor ra rb) bx ox) (allOne b && Nat.blt 0 sz && Nat.blt 0 bytes && Nat.ble (Nat.mul (Nat.add lx ly) bytes) 140737488355328))
    (fun _ => Bool.rec (motive := fun _ => FR) .no (Bool.rec (motive := fun _ => FR) (fappN m n sz (Nat.add 0 ly) (papp a b) (Nat.lor ra rb)) (.ok (.o (.slice none 0 0)) m n (Nat.lor ra rb) 0) (Nat.beq ly 0)) (allOne b && Nat.blt 0 sz && Nat.blt 0 bytes && Nat.ble (Nat.mul (Nat.add 0 ly) bytes) 140737488355328)) x
noncomputable def appF (sz bytes : Nat) (m : FTr) (n : Nat) (x y : FV) (a b : Option (List FV × Nat)) : FR :=
  Option.rec (motive := fun _ => FR) .no (fun a => Option.rec (motive := fun _ => FR) .no (fun b => appX sz bytes m n x (lenF y) a.1 a.2 b.1 b.2) b) a
noncomputable def uApp (sz bytes : Nat) (x y : Opd) : FS := .mk fun _ e m n => appF sz bytes m n (gv e x) (gv e y) (shownF m n sz (gv e x)) (shownF m n sz (gv e y))

/-- the values worked out, then k -/
noncomputable def fL {α : Type} (l : List FV) (k : List FV → α) : α := List.rec (motive := fun _ => (List FV → α) → α) (fun k => k []) (fun v _ ih k => fF (fun v => ih fun t => k (v :: t)) v) l k
theorem fL_eq {α : Type} (l : List FV) (k : List FV → α) : fL l k = k l := by
  induction l generalizing k with
  | nil => rfl
  | cons v l ih => show fF (fun v => fL l fun t => k (v :: t)) v = _; rw [fF_eq, ih]

/-! ### the operations of a code -/
noncomputable def callvF (cal : FCal) (args : List FV) (m : FTr) (n : Nat) (v : Value) : FR :=
  match v with
  | .func (.func f) a c => cal f (pmap ofV a.toList ++ args ++ pmap ofV c.toList) m n
  | _ => .no
noncomputable def uCallv (x : Opd) (args : List Opd) : FS := .mk fun cal e m n => callvF cal (gvs e args) m n (toV (gv e x))
noncomputable def cOp (op : AOp) : FS :=
  AOp.rec (motive := fun _ => Program → FS)
    (fun x _ => uMov x) (fun c a b _ => uPick c a b) (fun op t x y P => uBin P op t x y) (fun op x _ => uUn op x) (fun k x _ => uConv k x)
    (fun off x _ => uFld off x) (fun sz x i _ => uIdx sz x i) (fun k sz x i _ => uIda k sz x i) (fun z ps _ => uBuild z ps) (fun i x _ => uExtr i x)
    (fun x _ => uNilck x) (fun f a c _ => uFunc f a c) (fun s x _ => uLen s x) (fun x y _ => uMx x y) (fun sz x lo hi _ => uSlc sz x lo hi)
    (fun c _ => uNew c) (fun x _ => uBox x) (fun sz len z ps _ => uMkl sz len z ps) (fun sz bytes z l c _ => uMake sz bytes z l c) (fun x _ => uLd1 x)
    (fun k x _ => uLdn k x) (fun k x y _ => uSt k x y) (fun sz bytes x y _ => uApp sz bytes x y) (fun f args _ => .mk fun cal e m n => fL (gvs e args) fun l => cal f l m n) (fun x args _ => uCallv x args)
    op P
end

def CalSim (cal : FCal) (calA : Nat → List Value → FM → Nat → OR FM) : Prop := ∀ f args m n, FSim m n (cal f args m n) (calA f (args.map toV) (absM m n) n)
section
variable {P : Program} {m : FTr} {n : Nat}
theorem slow_sim {op : BinOp} {t : Nat} {x y : FV} {x' y' : Value} (hx : toV x = x') (hy : toV y = y') : FSim m n (slow P op t x y) (valO (absM m n) n (binV P op t x' y')) := by
  subst hx; subst hy; exact rO_sim rfl
theorem cellsF_eq (v : FV) : (cellsF v).map toV = (toV v).cells.toList := by
  cases v with
  | o v => show (pmap ofV v.cells.toList).map toV = _; rw [pmap_eq, toV_ofVs]; rfl
  | _ => rfl
theorem fnew_sim {B : FBlk} {B' : Blk} {v : Nat → FV} {v' : Nat → Value} (hB : toB B = B') (hv : ∀ n, toV (v n) = v' n) : FSim m n (fnew m n B v) (newb (absM m n) n B' v') := by
  subst hB
  show OR.ok (v' n) (AMem.put (absM m n) n (some (toB B))) (Nat.succ n) 0 (bit n) = OR.ok (toV (v n)) (absM (some B :: m) (Nat.succ n)) (Nat.succ n) 0 (bit n)
  rw [absM_new, hv]; rfl
theorem goev_eq (e : List FV) (x : Option Opd) : goev e x = oev (e.map toV) x := by
  cases x with
  | none => rfl
  | some x => show some (toV (gv e x)) = some (ev (e.map toV) x); rw [gv_eq]
theorem allOne_eq (l : List FV) : allOne l = (l.map toV).all one := by
  induction l with
  | nil => rfl
  | cons v l ih =>
    show Bool.rec (motive := fun _ => Bool) false (allOne l) (oneF v) = (one (toV v) && (l.map toV).all one)
    have : oneF v = one (toV v) := by cases v <;> rfl
    rw [this, ih]
    cases one (toV v) <;> rfl
theorem plen_eq (l : List Value) : llen l = plen l := rfl
theorem shownF_eq (m : FTr) (n sz : Nat) (v : FV) : (shownF m n sz v).map (fun p => (p.1.map toV, p.2)) = shown (absM m n) n sz (toV v) ∨ shownF m n sz v = none := by
  cases v with
  | s b o l c =>
    left
    show (Bool.rec (motive := fun _ => Option (List FV × Nat)) _ _ (Nat.beq l 0) : Option (List FV × Nat)).map _ = cond (Nat.beq l 0) (some ([], 0)) (shownB sz o l b (getb (absM m n) n b))
    cases Nat.beq l 0
    · rw [gb_eq]
      show (Option.rec (motive := fun _ => Option (List FV × Nat)) _ _ (gb m n b) : Option (List FV × Nat)).map _ = shownB sz o l b ((gb m n b).map toB)
      cases gb m n b with
      | none => rfl
      | some x =>
        obtain ⟨c, s, opn, wr⟩ := x
        show (Bool.rec (motive := fun _ => Option (List FV × Nat)) none (Option.rec (motive := fun _ => Option (List FV × Nat)) none (fun x => some (x, bit b)) (pat c o (Nat.mul l sz))) (Nat.beq s sz) : Option (List FV × Nat)).map _ = cond (Nat.beq s sz) (Option.rec (motive := fun _ => Option (List Value × Nat)) none (fun x => some (x, bit b)) (pat (c.map toV) o (Nat.mul l sz))) none
        rw [pat_map]
        cases Nat.beq s sz
        · rfl
        · cases pat c o (Nat.mul l sz) <;> rfl
    · rfl
  | o v =>
    cases v
    case slice a l c =>
      cases a with
      | none =>
        show (Bool.rec (motive := fun _ => Option (List FV × Nat)) none (some ([], 0)) (Nat.beq l 0 && Nat.beq c 0) : Option (List FV × Nat)).map _ = _ ∨ (Bool.rec (motive := fun _ => Option (List FV × Nat)) none (some ([], 0)) (Nat.beq l 0 && Nat.beq c 0) : Option (List FV × Nat)) = none
        cases hb : (Nat.beq l 0 && Nat.beq c 0)
        · right; rfl
        · left
          rw [Bool.and_eq_true] at hb
          obtain rfl := Nat.eq_of_beq_eq_true hb.1
          obtain rfl := Nat.eq_of_beq_eq_true hb.2
          rfl
      | some a => right; rfl
    all_goals (right; rfl)
  | _ => right; rfl
theorem appX_nil {sz bytes : Nat} {v : Value} {ly ra rb : Nat} {a b : List FV} (hv : shownF m n sz (.o v) = some (a, ra)) : v = .slice none 0 0 ∧ a = [] ∧ ra = 0 := by
  cases v
  case slice q l c =>
    cases q with
    | none =>
      have hv : (Bool.rec (motive := fun _ => Option (List FV × Nat)) none (some ([], 0)) (Nat.beq l 0 && Nat.beq c 0) : Option (List FV × Nat)) = some (a, ra) := hv
      cases hb : (Nat.beq l 0 && Nat.beq c 0)
      · rw [hb] at hv; cases hv
      · rw [hb] at hv
        rw [Bool.and_eq_true] at hb
        obtain rfl := Nat.eq_of_beq_eq_true hb.1
        obtain rfl := Nat.eq_of_beq_eq_true hb.2
        injection hv with hv; injection hv with h1 h2
        exact ⟨rfl, h1.symm, h2.symm⟩
    | some q => cases hv
  all_goals cases hv
theorem putF_sim {b sz : Nat} {opn : Bool} {v : FV} {v' : Value} {r : Nat} {c : Option (List FV)} {c' : Option (List Value)} (hs : b < n) (hv : toV v = v') (hc : c' = c.map (List.map toV)) :
    FSim m n (putF m b sz opn n v r c) (putC (absM m n) n b sz opn v' r c') := by
  subst hc; subst hv
  cases c with
  | none => trivial
  | some c =>
    show FSim m n (Option.rec (motive := fun _ => FR) .no (fun m => .ok v m n r (bit b)) (tset m n b (some ⟨c, sz, opn, true⟩))) _
    cases ht : tset m n b (some ⟨c, sz, opn, true⟩) with
    | none => exact fsim_no
    | some m' =>
      show _ = OR.ok (toV v) (absM m' n) n r (bit b)
      rw [absM_set hs ht]; rfl
theorem map_papp (a b : List FV) : (papp a b).map toV = a.map toV ++ b.map toV := by rw [papp_eq, List.map_append]
theorem fappN_sim {sz len r : Nat} {c : List FV} {c' : List Value} (hc : c.map toV = c') : FSim m n (fappN m n sz len c r) (appN (absM m n) n sz len c' r) := by
  subst hc
  show OR.ok (slcP 0 len UNK n) (AMem.put (absM m n) n (some (.cells (c.map toV) sz true true))) (Nat.succ n) r (bit n) = OR.ok _ (absM (some ⟨c, sz, true, true⟩ :: m) (Nat.succ n)) (Nat.succ n) r (bit n)
  rw [absM_new]; rfl
theorem appS_sim {sz lx ly cx r bx ox : Nat} {a b : List FV} : FSim m n (appS m n sz lx ly cx a b r bx ox) (appG (absM m n) n sz lx ly cx (a.map toV) (b.map toV) r (some ⟨bx, ox, none⟩)) := by
  show FSim m n (Bool.rec (motive := fun _ => FR) _ .no (Nat.beq cx VAG)) (cond (Nat.beq cx VAG) .no (cond (Nat.beq cx UNK) (appU (absM m n) n sz (Nat.add lx ly) (a.map toV ++ b.map toV) r ⟨bx, ox, none⟩ (getb (absM m n) n bx)) (cond (Nat.ble (Nat.add lx ly) cx) (appR (absM m n) n sz lx (Nat.add lx ly) cx (b.map toV) r bx ox (getb (absM m n) n bx)) (appN (absM m n) n sz (Nat.add lx ly) (a.map toV ++ b.map toV) r))))
  cases Nat.beq cx VAG
  · show FSim m n (Bool.rec (motive := fun _ => FR) _ _ (Nat.beq cx UNK)) _
    cases Nat.beq cx UNK
    · show FSim m n (Bool.rec (motive := fun _ => FR) _ _ (Nat.ble (Nat.add lx ly) cx)) (cond (Nat.ble (Nat.add lx ly) cx) _ _)
      cases Nat.ble (Nat.add lx ly) cx
      · exact fappN_sim (map_papp a b)
      · show FSim m n (fappR m n sz lx (Nat.add lx ly) cx b r bx ox (gb m n bx)) (appR (absM m n) n sz lx (Nat.add lx ly) cx (b.map toV) r bx ox (getb (absM m n) n bx))
        rw [gb_eq]
        cases hg : gb m n bx with
        | none => trivial
        | some x =>
          obtain ⟨c, s, opn, wr⟩ := x
          cases wr
          · trivial
          · exact putF_sim (gb_lt hg) rfl (pset_map toV c _ b)
    · show FSim m n (fappU m n sz (Nat.add lx ly) (papp a b) r bx (gb m n bx)) (appU (absM m n) n sz (Nat.add lx ly) (a.map toV ++ b.map toV) r ⟨bx, ox, none⟩ (getb (absM m n) n bx))
      rw [gb_eq]
      cases hg : gb m n bx with
      | none => trivial
      | some x =>
        obtain ⟨c, s, opn, wr⟩ := x
        show FSim m n (Bool.rec (motive := fun _ => FR) .no _ (Nat.beq s sz && opn && wr)) _
        cases hs : (Nat.beq s sz && opn && wr)
        · trivial
        · simp only [Bool.and_eq_true] at hs
          obtain ⟨⟨h2, rfl⟩, rfl⟩ := hs
          show FSim m n (Option.rec (motive := fun _ => FR) .no (fun m => .ok (.s n 0 (Nat.add lx ly) UNK) (some ⟨papp a b, sz, true, true⟩ :: m) (Nat.succ n) r (Nat.lor (bit bx) (bit n))) (tset m n bx none)) _
          cases ht : tset m n bx none with
          | none => exact fsim_no
          | some m' =>
            show appU (absM m n) n sz (Nat.add lx ly) (a.map toV ++ b.map toV) r ⟨bx, ox, none⟩ (some (.cells (c.map toV) s true true)) = OR.ok _ (absM (some ⟨papp a b, sz, true, true⟩ :: m') (Nat.succ n)) (Nat.succ n) r _
            rw [absM_new, absM_set (gb_lt hg) ht]
            have e : (some (⟨papp a b, sz, true, true⟩ : FBlk)).map toB = some (.cells (a.map toV ++ b.map toV) sz true true) := by
              show some (Blk.cells ((papp a b).map toV) sz true true) = _; rw [map_papp]
            rw [e]
            show cond (AMem.lim (absM m n) n && Nat.beq s sz) _ _ = _
            rw [h2]; rfl
  · trivial
theorem appF_sim {sz bytes : Nat} {x y : FV} : FSim m n (appF sz bytes m n x y (shownF m n sz x) (shownF m n sz y)) (appO sz bytes (absM m n) n (toV x) (toV y) (shown (absM m n) n sz (toV x)) (shown (absM m n) n sz (toV y))) := by
  cases hx : shownF m n sz x with
  | none => trivial
  | some pa =>
    cases hy : shownF m n sz y with
    | none => trivial
    | some pb =>
      obtain ⟨a, ra⟩ := pa
      obtain ⟨b, rb⟩ := pb
      have ex := (shownF_eq m n sz x).resolve_right (by rw [hx]; simp)
      have ey := (shownF_eq m n sz y).resolve_right (by rw [hy]; simp)
      rw [hx] at ex; rw [hy] at ey
      rw [← ex, ← ey]
      show FSim m n (appX sz bytes m n x (lenF y) a ra b rb) (appV sz bytes (absM m n) n (a.map toV, ra) (b.map toV, rb) (toV x) (toV y))
      have hys : ∃ ay cy, toV y = .slice ay (lenF y) cy := by
        cases y with
        | s b' o l c => exact ⟨_, _, rfl⟩
        | o v => obtain ⟨rfl, _, _⟩ := appX_nil (sz := sz) (bytes := 0) (ly := 0) (rb := 0) (b := []) hy; exact ⟨_, _, rfl⟩
        | i z => cases hy
        | b z => cases hy
        | p z o => cases hy
      obtain ⟨ay, cy, hys⟩ := hys
      rw [hys]
      cases x with
      | s bx ox lx cx =>
        show FSim m n (Bool.rec (motive := fun _ => FR) .no _ (allOne b && Nat.blt 0 sz && Nat.blt 0 bytes && Nat.ble (Nat.mul (Nat.add lx (lenF y)) bytes) 140737488355328)) (cond ((b.map toV).all one && Nat.blt 0 sz && Nat.blt 0 bytes && Nat.ble (Nat.mul (Nat.add lx (lenF y)) bytes) 140737488355328) _ _)
        rw [allOne_eq]
        cases ((b.map toV).all one && Nat.blt 0 sz && Nat.blt 0 bytes && Nat.ble (Nat.mul (Nat.add lx (lenF y)) bytes) 140737488355328)
        · trivial
        · exact appS_sim
      | o v =>
        obtain ⟨rfl, rfl, rfl⟩ := appX_nil (sz := sz) (bytes := 0) (ly := 0) (rb := 0) (b := []) hx
        show FSim m n (Bool.rec (motive := fun _ => FR) .no _ (allOne b && Nat.blt 0 sz && Nat.blt 0 bytes && Nat.ble (Nat.mul (Nat.add 0 (lenF y)) bytes) 140737488355328)) (cond ((b.map toV).all one && Nat.blt 0 sz && Nat.blt 0 bytes && Nat.ble (Nat.mul (Nat.add 0 (lenF y)) bytes) 140737488355328) (cond (Nat.beq (lenF y) 0) (.ok (.slice none 0 0) (absM m n) n (Nat.lor 0 rb) 0) (appN (absM m n) n sz (Nat.add 0 (lenF y)) ([] ++ b.map toV) (Nat.lor 0 rb))) .no)
        rw [allOne_eq]
        cases ((b.map toV).all one && Nat.blt 0 sz && Nat.blt 0 bytes && Nat.ble (Nat.mul (Nat.add 0 (lenF y)) bytes) 140737488355328)
        · trivial
        · show FSim m n (Bool.rec (motive := fun _ => FR) _ _ (Nat.beq (lenF y) 0)) (cond (Nat.beq (lenF y) 0) _ _)
          cases Nat.beq (lenF y) 0
          · exact fappN_sim rfl
          · rfl
      | i z => cases hx
      | b z => cases hx
      | p z o => cases hx
theorem slcF_sim {sz : Nat} {v : Option Value} {x : FV} : FSim m n (slcF m n sz v x) (slcM (absM m n) n sz v (toV x)) := by
  cases x with
  | s b o l c =>
    show FSim m n (Bool.rec (motive := fun _ => FR) _ _ (Nat.beq c UNK)) (cond (Nat.beq c UNK) (cond (szOk sz (getb (absM m n) n b)) (valR (absM m n) n b v) .no) (valO (absM m n) n v))
    cases Nat.beq c UNK
    · exact rO_sim rfl
    · have hz : szOk sz (getb (absM m n) n b) = fszOk sz (gb m n b) := by
        rw [gb_eq]
        cases gb m n b <;> rfl
      rw [hz]
      show FSim m n (Bool.rec (motive := fun _ => FR) .no _ (fszOk sz (gb m n b))) (cond (fszOk sz (gb m n b)) _ _)
      cases fszOk sz (gb m n b)
      · trivial
      · cases v with
        | none => trivial
        | some v => show _ = OR.ok (toV (ofV v)) (absM m n) n (bit b) 0; rw [toV_ofV]; rfl
  | o y =>
    cases y
    case slice a l c =>
      cases a with
      | none => exact rO_sim rfl
      | some a => trivial
    all_goals exact rO_sim rfl
  | _ => exact rO_sim rfl

theorem cOp_sim {cal : FCal} {calA : Nat → List Value → FM → Nat → OR FM} (hcal : CalSim cal calA) (e : List FV) (m : FTr) (n : Nat) (o : AOp) : FSim m n ((cOp P o).run cal e m n) (stepA P calA (e.map toV) (absM m n) n o) := by
  have hnn : ∀ {α : Type} (z : Int) (k : Nat → α) (d : α), (∀ a, z ≠ .ofNat a) → fnn z k d = d := by
    intro α z k d h; cases z <;> first | rfl | exact absurd rfl (h _)
  cases o
  case mov x =>
    show FSim m n (fF FR.pv (gv e x)) (.ok (ev (e.map toV) x) (absM m n) n 0 0)
    rw [fF_eq, ← gv_eq]; rfl
  case pick c a b =>
    show FSim m n (onB (gv e c) (fF FR.pv (gv e a)) (fF FR.pv (gv e b)) .no) (valO (absM m n) n (pickV (ev (e.map toV) a) (ev (e.map toV) b) (ev (e.map toV) c)))
    rw [← gv_eq, ← gv_eq, ← gv_eq, fF_eq, fF_eq]
    cases gv e c with
    | b t => cases t <;> rfl
    | _ => trivial
  case bin op t x y =>
    show FSim m n ((uBin P op t x y).run cal e m n) (valO (absM m n) n (binV P op t (ev (e.map toV) x) (ev (e.map toV) y)))
    rw [uBin_eq, ← gv_eq, ← gv_eq]
    show FSim m n (onI (gv e x) (fun a => onI (gv e y) (fun b => jOp op a b) (slow P op t (gv e x) (gv e y))) (slow P op t (gv e x) (gv e y))) _
    cases gv e x with
    | i a =>
      cases gv e y with
      | i b =>
        show FSim m n (jOp op a b) (valO (absM m n) n (cond (decide (IntKind.i64 = IntKind.i64)) (intBin op .i64 a b) none))
        rw [decide_eq_true rfl]
        exact jOp_sim op a b
      | b t' => show FSim m n (slow P op t (.i a) (.b t')) _; exact slow_sim rfl rfl
      | p b' o => show FSim m n (slow P op t (.i a) (.p b' o)) _; exact slow_sim rfl rfl
      | s b' o l c => show FSim m n (slow P op t (.i a) (.s b' o l c)) _; exact slow_sim rfl rfl
      | o v => show FSim m n (slow P op t (.i a) (.o v)) _; exact slow_sim rfl rfl
    | _ => exact slow_sim rfl rfl
  case una op x =>
    cases op
    case not =>
      show FSim m n (onB (gv e x) (.pv (.b false)) (.pv (.b true)) .no) (valO (absM m n) n (unaV .not (ev (e.map toV) x)))
      rw [← gv_eq]
      cases gv e x with
      | b t => cases t <;> rfl
      | _ => trivial
    case neg => show FSim m n (rO (unaV .neg (toV (gv e x)))) (valO (absM m n) n (unaV .neg (ev (e.map toV) x))); rw [gv_eq]; exact rO_sim rfl
    case xor => show FSim m n (rO (unaV .xor (toV (gv e x)))) (valO (absM m n) n (unaV .xor (ev (e.map toV) x))); rw [gv_eq]; exact rO_sim rfl
    case plus => show FSim m n (rO (unaV .plus (toV (gv e x)))) (valO (absM m n) n (unaV .plus (ev (e.map toV) x))); rw [gv_eq]; exact rO_sim rfl
  case conv k x =>
    show FSim m n (rO (convV k (toV (gv e x)))) (valO (absM m n) n (convV k (ev (e.map toV) x)))
    rw [gv_eq]; exact rO_sim rfl
  case fld off x =>
    show FSim m n (onP (gv e x) (fun b o => fN (fun o => .pv (.p b o)) (Nat.add o off)) .no) (valO (absM m n) n (fldV off (ev (e.map toV) x)))
    rw [← gv_eq]
    cases gv e x with
    | p b o => show FSim m n (fN (fun o => .pv (.p b o)) (Nat.add o off)) _; rw [fN_eq]; rfl
    | _ => trivial
  case idx sz x i =>
    show FSim m n (onI (gv e i) (fun z => fnn z (fun i => idxF sz i (gv e x)) .no) .no) (valO (absM m n) n (obind (fun i => idxV sz i (ev (e.map toV) x)) (natOf (ev (e.map toV) i))))
    rw [← gv_eq, ← gv_eq]
    cases gv e i with
    | i z =>
      cases z with
      | ofNat i =>
        show FSim m n (idxF sz i (gv e x)) (valO (absM m n) n (idxV sz i (toV (gv e x))))
        cases gv e x with
        | s b o l c =>
          show FSim m n (Bool.rec (motive := fun _ => FR) .no (fN (fun o => .pv (.p b o)) (Nat.add o (Nat.mul i sz))) (Nat.blt i l)) (valO (absM m n) n (cond (Nat.blt i l) _ _))
          rw [fN_eq]
          cases Nat.blt i l
          · trivial
          · rfl
        | _ => trivial
      | negSucc i => trivial
    | _ => trivial
  case ida k sz x i =>
    show FSim m n (onI (gv e i) (fun z => fnn z (fun i => idaF k sz i (gv e x)) .no) .no) (valO (absM m n) n (obind (fun i => idaV k sz i (ev (e.map toV) x)) (natOf (ev (e.map toV) i))))
    rw [← gv_eq, ← gv_eq]
    cases gv e i with
    | i z =>
      cases z with
      | ofNat i =>
        show FSim m n (idaF k sz i (gv e x)) (valO (absM m n) n (idaV k sz i (toV (gv e x))))
        cases gv e x with
        | p b o =>
          show FSim m n (Bool.rec (motive := fun _ => FR) .no (fN (fun o => .pv (.p b o)) (Nat.add o (Nat.mul i sz))) (Nat.blt i k)) (valO (absM m n) n (cond (Nat.blt i k) _ _))
          rw [fN_eq]
          cases Nat.blt i k
          · trivial
          · rfl
        | _ => trivial
      | negSucc i => trivial
    | _ => trivial
  case build z ps => exact rO_sim rfl
  case extr i x =>
    show FSim m n (rO (extrV i (toV (gv e x)))) (valO (absM m n) n (extrV i (ev (e.map toV) x)))
    rw [gv_eq]; exact rO_sim rfl
  case nilck x =>
    show FSim m n (onP (gv e x) (fun b o => .pv (.p b o)) .no) (valO (absM m n) n (nilckV (ev (e.map toV) x)))
    rw [← gv_eq]
    cases gv e x with
    | p b o => rfl
    | _ => trivial
  case func f a c =>
    show FSim m n (.pv (.o (.func (.func f) ((gvs e a).map toV).toArray ((gvs e c).map toV).toArray))) (.ok (.func (.func f) (evs (e.map toV) a).toArray (evs (e.map toV) c).toArray) (absM m n) n 0 0)
    rw [gvs_eq, gvs_eq]; rfl
  case len s x =>
    cases s
    · show FSim m n (onS (gv e x) (fun _ _ l _ => .pv (.i (.ofNat l))) (rO (lenV false (toV (gv e x))))) (valO (absM m n) n (lenV false (ev (e.map toV) x)))
      rw [← gv_eq]
      cases gv e x with
      | s b o l c => rfl
      | i z => show FSim m n (rO (lenV false (toV (.i z)))) _; exact rO_sim rfl
      | b z => show FSim m n (rO (lenV false (toV (.b z)))) _; exact rO_sim rfl
      | p b o => show FSim m n (rO (lenV false (toV (.p b o)))) _; exact rO_sim rfl
      | o v => show FSim m n (rO (lenV false (toV (.o v)))) _; exact rO_sim rfl
    · show FSim m n (rO (lenV true (toV (gv e x)))) (valO (absM m n) n (lenV true (ev (e.map toV) x)))
      rw [← gv_eq]
      exact rO_sim rfl
  case mx x y =>
    show FSim m n (onI (gv e x) (fun a => onI (gv e y) (fun b => Bool.rec (motive := fun _ => FR) (.pv (.i a)) (.pv (.i b)) (iLt a b)) .no) .no) (valO (absM m n) n (mxV (ev (e.map toV) x) (ev (e.map toV) y)))
    rw [← gv_eq, ← gv_eq]
    cases gv e x with
    | i a =>
      cases gv e y with
      | i b =>
        show FSim m n (Bool.rec (motive := fun _ => FR) (.pv (.i a)) (.pv (.i b)) (iLt a b)) (valO (absM m n) n (some (.int .i64 (cond (ltB a b) b a))))
        rw [iLt_eq]
        cases ltB a b <;> rfl
      | _ => trivial
    | _ => trivial
  case slc sz x lo hi =>
    show FSim m n (slcF m n sz (slcV sz (goev e lo) (goev e hi) (toV (gv e x))) (gv e x)) (slcM (absM m n) n sz (slcV sz (oev (e.map toV) lo) (oev (e.map toV) hi) (ev (e.map toV) x)) (ev (e.map toV) x))
    rw [goev_eq, goev_eq, ← gv_eq]
    exact slcF_sim
  case new c =>
    refine fnew_sim (B := ⟨pmap ofV c, 0, false, true⟩) (v := fun n => .p n 0) (v' := ptrP) (B' := .cells c 0 false true) ?_ fun _ => rfl
    show Blk.cells ((pmap ofV c).map toV) 0 false true = _
    rw [pmap_eq, toV_ofVs]
  case box x =>
    refine fnew_sim (B := ⟨cellsF (gv e x), 0, false, true⟩) (v := fun n => .p n 0) (v' := ptrP) (B' := .cells (ev (e.map toV) x).cells.toList 0 false true) ?_ fun _ => rfl
    show Blk.cells ((cellsF (gv e x)).map toV) 0 false true = _
    rw [cellsF_eq, gv_eq]
  case mkl sz len z ps =>
    show FSim m n (mklF m n sz len (fillA (parts2 sz (e.map toV) ps) (reps z len))) (mklC (absM m n) n sz len (fillA (parts2 sz (e.map toV) ps) (reps z len)))
    cases fillA (parts2 sz (e.map toV) ps) (reps z len) with
    | none => trivial
    | some c =>
      refine fnew_sim (B := ⟨pmap ofV c, sz, false, true⟩) (v := fun n => .s n 0 len len) (v' := slcP 0 len len) (B' := .cells c sz false true) ?_ fun _ => rfl
      show Blk.cells ((pmap ofV c).map toV) sz false true = _
      rw [pmap_eq, toV_ofVs]
  case make sz bytes z l c =>
    show FSim m n (onI (gv e l) (fun l => onI (gv e c) (fun c => fnn l (fun l => fnn c (fun c => makeF m n sz bytes z l c) .no) .no) .no) .no) (makeV sz bytes z (absM m n) n (natOf (ev (e.map toV) l)) (natOf (ev (e.map toV) c)))
    rw [← gv_eq, ← gv_eq]
    cases gv e l with
    | i l =>
      cases gv e c with
      | i c =>
        cases l with
        | ofNat l =>
          cases c with
          | ofNat c =>
            show FSim m n (Bool.rec (motive := fun _ => FR) .no (fnew m n ⟨preps (pmap ofV z) c, sz, false, true⟩ fun n => .s n 0 l c) (Nat.ble l c && Nat.ble (Nat.mul c bytes) 281474976710656 && Nat.ble c 1099511627776)) (cond (Nat.ble l c && Nat.ble (Nat.mul c bytes) 281474976710656 && Nat.ble c 1099511627776) (newb (absM m n) n (.cells (reps z c) sz false true) (slcP 0 l c)) .no)
            cases (Nat.ble l c && Nat.ble (Nat.mul c bytes) 281474976710656 && Nat.ble c 1099511627776)
            · trivial
            · refine fnew_sim (B := ⟨preps (pmap ofV z) c, sz, false, true⟩) (v := fun n => .s n 0 l c) (v' := slcP 0 l c) (B' := .cells (reps z c) sz false true) ?_ fun _ => rfl
              show Blk.cells ((preps (pmap ofV z) c).map toV) sz false true = _
              rw [← preps_map, pmap_eq, toV_ofVs]
              congr 1
              induction c with
              | zero => rfl
              | succ c ih => show papp z (preps z c) = z ++ reps z c; rw [papp_eq, ih]
          | negSucc c => trivial
        | negSucc l => trivial
      | _ => trivial
    | _ => trivial
  case ld1 x =>
    show FSim m n (onP (gv e x) (fun b o => fcells (gb m n b) (fun c => rdO b (pget c o)) .no) .no) (ld1V (absM m n) n (ev (e.map toV) x))
    rw [← gv_eq]
    cases gv e x with
    | p b o =>
      show FSim m n (fcells (gb m n b) (fun c => rdO b (pget c o)) .no) (withCells (getb (absM m n) n b) fun c => valR (absM m n) n b (cget c o))
      rw [gb_eq]
      cases gb m n b with
      | none => trivial
      | some x =>
        obtain ⟨c, sz, opn, wr⟩ := x
        show FSim m n (rdO b (pget c o)) (valR (absM m n) n b (pget (c.map toV) o))
        rw [pget_map]
        cases pget c o with
        | none => trivial
        | some v => rfl
    | _ => trivial
  case ldn k x =>
    show FSim m n (onP (gv e x) (fun b o => fcells (gb m n b) (fun c => rdO b (aggF (pat c o k))) .no) .no) (ldnV k (absM m n) n (ev (e.map toV) x))
    rw [← gv_eq]
    cases gv e x with
    | p b o =>
      show FSim m n (fcells (gb m n b) (fun c => rdO b (aggF (pat c o k))) .no) (withCells (getb (absM m n) n b) fun c => valR (absM m n) n b (aggO (cellsAt c o k)))
      rw [gb_eq]
      cases gb m n b with
      | none => trivial
      | some x =>
        obtain ⟨c, sz, opn, wr⟩ := x
        show FSim m n (rdO b (aggF (pat c o k))) (valR (absM m n) n b (aggO (pat (c.map toV) o k)))
        rw [pat_map]
        cases pat c o k with
        | none => trivial
        | some v => rfl
    | _ => trivial
  case st k x y =>
    show FSim m n (onP (gv e x) (fun b o => Bool.rec (motive := fun _ => FR) .no (stF m n b o (cellsF (gv e y)) (gb m n b)) (Nat.beq (plen (cellsF (gv e y))) k && allOne (cellsF (gv e y)))) .no) (stV k (ev (e.map toV) y).cells.toList (absM m n) n (ev (e.map toV) x))
    rw [← gv_eq, ← gv_eq, ← cellsF_eq]
    cases gv e x with
    | p b o =>
      show FSim m n (Bool.rec (motive := fun _ => FR) .no (stF m n b o (cellsF (gv e y)) (gb m n b)) (Nat.beq (plen (cellsF (gv e y))) k && allOne (cellsF (gv e y)))) (cond (Nat.beq (plen ((cellsF (gv e y)).map toV)) k && ((cellsF (gv e y)).map toV).all one) (stC (absM m n) n b o ((cellsF (gv e y)).map toV) (getb (absM m n) n b)) .no)
      rw [plen_map, allOne_eq]
      cases (Nat.beq (plen (cellsF (gv e y))) k && ((cellsF (gv e y)).map toV).all one)
      · trivial
      · show FSim m n (stF m n b o (cellsF (gv e y)) (gb m n b)) (stC (absM m n) n b o ((cellsF (gv e y)).map toV) (getb (absM m n) n b))
        rw [gb_eq]
        cases hg : gb m n b with
        | none => trivial
        | some x =>
          obtain ⟨c, sz, opn, wr⟩ := x
          cases wr
          · trivial
          · exact putF_sim (gb_lt hg) rfl (pset_map toV c _ _)
    | _ => trivial
  case app sz bytes x y =>
    show FSim m n (appF sz bytes m n (gv e x) (gv e y) (shownF m n sz (gv e x)) (shownF m n sz (gv e y))) (appO sz bytes (absM m n) n (ev (e.map toV) x) (ev (e.map toV) y) (shown (absM m n) n sz (ev (e.map toV) x)) (shown (absM m n) n sz (ev (e.map toV) y)))
    rw [← gv_eq, ← gv_eq]
    exact appF_sim
  case call f args =>
    show FSim m n (fL (gvs e args) fun l => cal f l m n) (calA f (evs (e.map toV) args) (absM m n) n)
    rw [← gvs_eq, fL_eq]
    exact hcal f _ m n
  case callv x args =>
    show FSim m n (callvF cal (gvs e args) m n (toV (gv e x))) (callV calA (evs (e.map toV) args) (absM m n) n (ev (e.map toV) x))
    rw [gv_eq, ← gvs_eq]
    generalize ev (e.map toV) x = v
    unfold callvF
    split
    · rename_i f a c
      have := hcal f (pmap ofV a.toList ++ gvs e args ++ pmap ofV c.toList) m n
      rw [List.map_append, List.map_append, pmap_eq, pmap_eq, toV_ofVs, toV_ofVs] at this
      rw [pmap_eq, pmap_eq]
      exact this
    · trivial
end
end Go.Am.V
