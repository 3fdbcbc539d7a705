/- The machine and its runs, part 8: AmV2 AmV3 AmMono AmV4 AmShow AmMemo. -/
import Derived.Test.YtkadpnfidbgmmaaDoorB7
set_option linter.unusedVariables false
set_option linter.unusedSimpArgs false
set_option linter.unusedSectionVars false
namespace Go.Am.V
open Go Go.Am Go.Am.Fast

inductive FS where
  | mk (f : FCal → List FV → FTr → Nat → FR)
noncomputable def FS.run (s : FS) : FCal → List FV → FTr → Nat → FR := FS.rec (motive := fun _ => FCal → List FV → FTr → Nat → FR) (fun f => f) s
theorem FS.run_mk (f : FCal → List FV → FTr → Nat → FR) : (FS.mk f).run = f := rfl

section
variable (P : Program)
/-! ### operations without memory -/
noncomputable def uMov (x : Opd) : FS := .mk fun _ e _ _ => fF FR.pv (gv e x)
noncomputable def uPick (c a b : Opd) : FS := .mk fun _ e _ _ => onB (gv e c) (fF FR.pv (gv e a)) (fF FR.pv (gv e b)) .no
noncomputable def slow (op : BinOp) (t : Nat) (x y : FV) : FR := rO (binV P op t (toV x) (toV y))
noncomputable def binRun (f : Int → Int → FR) (op : BinOp) (t : Nat) (x y : Opd) : FS := .mk fun _ e _ _ =>
  onI (gv e x) (fun a => onI (gv e y) (fun b => f a b) (slow P op t (gv e x) (gv e y))) (slow P op t (gv e x) (gv e y))
noncomputable def uBin (op : BinOp) (t : Nat) (x y : Opd) : FS :=
  BinOp.rec (motive := fun _ => Program → Nat → Opd → Opd → FS) (fun P => binRun P jAdd .add) (fun P => binRun P jSub .sub) (fun P => binRun P jMul .mul) (fun P => binRun P jQuo .quo) (fun P => binRun P jRem .rem)
    (fun P => binRun P jNo .and) (fun P => binRun P jNo .or) (fun P => binRun P jNo .xor) (fun P => binRun P jNo .shl) (fun P => binRun P jNo .shr) (fun P => binRun P jNo .andNot)
    (fun P => binRun P jEql .eql) (fun P => binRun P jNeq .neq) (fun P => binRun P jLss .lss) (fun P => binRun P jLeq .leq) (fun P => binRun P jGtr .gtr) (fun P => binRun P jGeq .geq) op P t x y
theorem uBin_eq (op : BinOp) (t : Nat) (x y : Opd) : uBin P op t x y = binRun P (jOp op) op t x y := by cases op <;> rfl
noncomputable def uUna (op : UnOp) (x : Opd) : FS := .mk fun _ e _ _ => rO (unaV op (toV (gv e x)))
noncomputable def uNot (x : Opd) : FS := .mk fun _ e _ _ => onB (gv e x) (.pv (.b false)) (.pv (.b true)) .no
noncomputable def uUn (op : UnOp) (x : Opd) : FS := UnOp.rec (motive := fun _ => Opd → FS) (uUna .neg) (uUna .xor) uNot (uUna .plus) op x
noncomputable def uConv (k : IntKind) (x : Opd) : FS := .mk fun _ e _ _ => rO (convV k (toV (gv e x)))
noncomputable def uFld (off : Nat) (x : Opd) : FS := .mk fun _ e _ _ => onP (gv e x) (fun b o => fN (fun o => .pv (.p b o)) (Nat.add o off)) .no
noncomputable def fnn {α : Type} (z : Int) (k : Nat → α) (d : α) : α := Int.rec (motive := fun _ => (Nat → α) → α → α) (fun a k _ => k a) (fun _ _ d => d) z k d
noncomputable def idxF (sz i : Nat) (v : FV) : FR := onS v (fun b o l _ => Bool.rec (motive := fun _ => FR) .no (fN (fun o => .pv (.p b o)) (Nat.add o (Nat.mul i sz))) (Nat.ble (Nat.succ i) l)) .no
noncomputable def uIdx (sz : Nat) (x i : Opd) : FS := .mk fun _ e _ _ => onI (gv e i) (fun z => fnn z (fun i => idxF sz i (gv e x)) .no) (rO (obind (fun i => idxV sz i (toV (gv e x))) (natOf (toV (gv e i)))))
noncomputable def idaF (k sz i : Nat) (v : FV) : FR := onP v (fun b o => Bool.rec (motive := fun _ => FR) .no (fN (fun o => .pv (.p b o)) (Nat.add o (Nat.mul i sz))) (Nat.ble (Nat.succ i) k)) .no
noncomputable def uIda (k sz : Nat) (x i : Opd) : FS := .mk fun _ e _ _ => onI (gv e i) (fun z => fnn z (fun i => idaF k sz i (gv e x)) .no) (rO (obind (fun i => idaV k sz i (toV (gv e x))) (natOf (toV (gv e i)))))
noncomputable def uBuild (z : List Value) (ps : List (Nat × Nat × Opd)) : FS := .mk fun _ e _ _ => rO (aggO (fillA (parts3 (e.map toV) ps) z))
noncomputable def uExtr (i : Nat) (x : Opd) : FS := .mk fun _ e _ _ => rO (extrV i (toV (gv e x)))
noncomputable def uNilck (x : Opd) : FS := .mk fun _ e _ _ => onP (gv e x) (fun b o => .pv (.p b o)) .no
noncomputable def uFunc (f : Nat) (a c : List Opd) : FS := .mk fun _ e _ _ => .pv (.o (.func (.func f) ((gvs e a).map toV).toArray ((gvs e c).map toV).toArray))
noncomputable def uLen (s : Bool) (x : Opd) : FS := Bool.rec (motive := fun _ => Opd → FS) (fun x => .mk fun _ e _ _ => onS (gv e x) (fun _ _ l _ => .pv (.i (.ofNat l))) (rO (lenV false (toV (gv e x))))) (fun x => .mk fun _ e _ _ => rO (lenV true (toV (gv e x)))) s x
noncomputable def uMx (x y : Opd) : FS := .mk fun _ e _ _ => onI (gv e x) (fun a => onI (gv e y) (fun b => Bool.rec (motive := fun _ => FR) (.pv (.i a)) (.pv (.i b)) (iLt a b)) .no) .no
noncomputable def goev (e : List FV) (x : Option Opd) : Option Value := Option.rec (motive := fun _ => Option Value) none (fun x => some (toV (gv e x))) x
noncomputable def fszOk (sz : Nat) (x : Option FBlk) : Bool := Option.rec (motive := fun _ => Bool) false (fun x => FBlk.rec (motive := fun _ => Bool) (fun _ s _ _ => Nat.beq s sz) x) x
noncomputable def slcF (m : FTr) (n sz : Nat) (v : Option Value) (x : FV) : FR :=
  FV.rec (motive := fun _ => FR) (fun _ => rO v) (fun _ => rO v) (fun _ _ => rO v)
    (fun b _ _ c => Bool.rec (motive := fun _ => FR) (rO v) (Bool.rec (motive := fun _ => FR) .no (Option.rec (motive := fun _ => FR) .no (fun v => FR.rd (ofV v) b) v) (fszOk sz (gb m n b))) (Nat.beq c UNK))
    (fun y => onSlice y (fun a _ _ => Option.rec (motive := fun _ => FR) (rO v) (fun _ => .no) a) (rO v)) x
noncomputable def uSlc (sz : Nat) (x : Opd) (lo hi : Option Opd) : FS := .mk fun _ e m n => slcF m n sz (slcV sz (goev e lo) (goev e hi) (toV (gv e x))) (gv e x)

/-! ### memory -/
noncomputable def fnew (m : FTr) (n : Nat) (B : FBlk) (v : Nat → FV) : FR := .ok (v n) (some B :: m) (Nat.succ n) Nat.zero (bit n)
noncomputable def cellsF (v : FV) : List FV := FV.rec (motive := fun _ => List FV) (fun z => [.i z]) (fun t => [.b t]) (fun b o => [.p b o]) (fun b o l c => [.s b o l c]) (fun v => pmap ofV v.cells.toList) v
noncomputable def uNew (c : List Value) : FS := .mk fun _ _ m n => fnew m n ⟨pmap ofV c, 0, false, true⟩ fun n => .p n 0
noncomputable def uBox (x : Opd) : FS := .mk fun _ e m n => fnew m n ⟨cellsF (gv e x), 0, false, true⟩ fun n => .p n 0
noncomputable def mklF (m : FTr) (n sz len : Nat) (c : Option (List Value)) : FR := Option.rec (motive := fun _ => FR) .no (fun c => fnew m n ⟨pmap ofV c, sz, false, true⟩ fun n => .s n 0 len len) c
noncomputable def uMkl (sz len : Nat) (z : List Value) (ps : List (Nat × Opd)) : FS := .mk fun _ e m n => mklF m n sz len (fillA (parts2 sz (e.map toV) ps) (reps z len))
noncomputable def makeF (m : FTr) (n sz bytes : Nat) (z : List Value) (l c : Nat) : FR :=
  Bool.rec (motive := fun _ => FR) .no (fnew m n ⟨preps (pmap ofV z) c, sz, false, true⟩ fun n => .s n 0 l c) (Nat.ble l c && Nat.ble (Nat.mul c bytes) 281474976710656 && Nat.ble c 1099511627776)
noncomputable def uMake (sz bytes : Nat) (z : List Value) (l c : Opd) : FS := .mk fun _ e m n => onI (gv e l) (fun l => onI (gv e c) (fun c => fnn l (fun l => fnn c (fun c => makeF m n sz bytes z l c) .no) .no) .no) .no
noncomputable def fcells {α : Type} (x : Option FBlk) (k : List FV → α) (d : α) : α := Option.rec (motive := fun _ => α) d (fun x => FBlk.rec (motive := fun _ => α) (fun c _ _ _ => k c) x) x
noncomputable def rdO (b : Nat) (x : Option FV) : FR := Option.rec (motive := fun _ => FR) .no (fun v => .rd v b) x
noncomputable def uLd1 (x : Opd) : FS := .mk fun _ e m n => onP (gv e x) (fun b o => fcells (gb m n b) (fun c => rdO b (pget c o)) .no) .no
noncomputable def aggF (x : Option (List FV)) : Option FV := Option.rec (motive := fun _ => Option FV) none (fun c => some (.o (.agg (c.map toV).toArray))) x
noncomputable def uLdn (k : Nat) (x : Opd) : FS := .mk fun _ e m n => onP (gv e x) (fun b o => fcells (gb m n b) (fun c => rdO b (aggF (pat c o k))) .no) .no
noncomputable def oneF (v : FV) : Bool := FV.rec (motive := fun _ => Bool) (fun _ => true) (fun _ => true) (fun _ _ => true) (fun _ _ _ _ => true) one v
noncomputable def allOne (l : List FV) : Bool := List.rec (motive := fun _ => Bool) true (fun v _ r => Bool.rec (motive := fun _ => Bool) false r (oneF v)) l
noncomputable def putF (m : FTr) (b sz : Nat) (opn : Bool) (n : Nat) (v : FV) (r : Nat) (c : Option (List FV)) : FR := Option.rec (motive := fun _ => FR) .no (fun c => Option.rec (motive := fun _ => FR) .no (fun m => .ok v m n r (bit b)) (tset m n b (some ⟨c, sz, opn, true⟩))) c
noncomputable def stF (m : FTr) (n b o : Nat) (vs : List FV) (x : Option FBlk) : FR :=
  Option.rec (motive := fun _ => FR) .no (fun x => FBlk.rec (motive := fun _ => FR) (fun c sz opn wr => Bool.rec (motive := fun _ => FR) .no (putF m b sz opn n (.o undef) (bit b) (pset c o vs)) wr) x) x
noncomputable def uSt (k : Nat) (x y : Opd) : FS := .mk fun _ e m n => onP (gv e x) (fun b o => Bool.rec (motive := fun _ => FR) .no (stF m n b o (cellsF (gv e y)) (gb m n b)) (Nat.beq (plen (cellsF (gv e y))) k && allOne (cellsF (gv e y)))) .no
/-- what a slice shows: cells, mask -/
noncomputable def shownF (m : FTr) (n sz : Nat) (v : FV) : Option (List FV × Nat) :=
  FV.rec (motive := fun _ => Option (List FV × Nat)) (fun _ => none) (fun _ => none) (fun _ _ => none)
    (fun b o l _ => Bool.rec (motive := fun _ => Option (List FV × Nat)) (Option.rec (motive := fun _ => Option (List FV × Nat)) none (fun x => FBlk.rec (motive := fun _ => Option (List FV × Nat)) (fun c s _ _ => Bool.rec (motive := fun _ => Option (List FV × Nat)) none (Option.rec (motive := fun _ => Option (List FV × Nat)) none (fun x => some (x, bit b)) (pat c o (Nat.mul l sz))) (Nat.beq s sz)) x) (gb m n b)) (some ([], 0)) (Nat.beq l 0))
    (fun v => onSlice v (fun a l c => Option.rec (motive := fun _ => Option (List FV × Nat)) (Bool.rec (motive := fun _ => Option (List FV × Nat)) none (some ([], 0)) (Nat.beq l 0 && Nat.beq c 0)) (fun _ => none) a) none) v
noncomputable def fappN (m : FTr) (n sz len : Nat) (c : List FV) (r : Nat) : FR := .ok (.s n 0 len UNK) (some ⟨c, sz, true, true⟩ :: m) (Nat.succ n) r (bit n)
noncomputable def fappU (m : FTr) (n sz len : Nat) (c : List FV) (r bx : Nat) (x : Option FBlk) : FR :=
  Option.rec (motive := fun _ => FR) .no (fun x => FBlk.rec (motive := fun _ => FR) (fun _ s opn wr => Bool.rec (motive := fun _ => FR) .no (Option.rec (motive := fun _ => FR) .no (fun m => .ok (.s n 0 len UNK) (some ⟨c, sz, true, true⟩ :: m) (Nat.succ n) r (Nat.lor (bit bx) (bit n))) (tset m n bx none)) (Nat.beq s sz && opn && wr)) x) x
noncomputable def fappR (m : FTr) (n sz lx len cx : Nat) (b : List FV) (r bx ox : Nat) (x : Option FBlk) : FR :=
  Option.rec (motive := fun _ => FR) .no (fun x => FBlk.rec (motive := fun _ => FR) (fun c s opn wr => Bool.rec (motive := fun _ => FR) .no (putF m bx s opn n (.s bx ox len cx) r (pset c (Nat.add ox (Nat.mul lx sz)) b)) wr) x) x
noncomputable def appS (m : FTr) (n sz lx ly cx : Nat) (a b : List FV) (r bx ox : Nat) : FR :=
  Bool.rec (motive := fun _ => FR) (Bool.rec (motive := fun _ => FR) (Bool.rec (motive := fun _ => FR) (fappN m n sz (Nat.add lx ly) (papp a b) r) (fappR m n sz lx (Nat.add lx ly) cx b r bx ox (gb m n bx)) (Nat.ble (Nat.add lx ly) cx)) (fappU m n sz (Nat.add lx ly) (papp a b) r bx (gb m n bx)) (Nat.beq cx UNK)) .no (Nat.beq cx VAG)
noncomputable def lenF (y : FV) : Nat := FV.rec (motive := fun _ => Nat) (fun _ => 0) (fun _ => 0) (fun _ _ => 0) (fun _ _ l _ => l) (fun v => onSlice v (fun _ l _ => l) 0) y
noncomputable def appX (sz bytes : Nat) (m : FTr) (n : Nat) (x : FV) (ly : Nat) (a : List FV) (ra : Nat) (b : List FV) (rb : Nat) : FR :=
  FV.rec (motive := fun _ => FR) (fun _ => .no) (fun _ => .no) (fun _ _ => .no)
    (fun bx ox lx cx => Bool.rec (motive := fun _ => FR) .no (appS m n sz lx ly cx a b (Nat.lor ra rb) bx ox) (allOne b && Nat.blt 0 sz && Nat.blt 0 bytes && Nat.ble (Nat.mul (Nat.add lx ly) bytes) 140737488355328))
    (fun _ => Bool.rec (motive := fun _ => FR) .no (Bool.rec (motive := fun _ => FR) (fappN m n sz (Nat.add 0 ly) (papp a b) (Nat.lor ra rb)) (.ok (.o (.slice none 0 0)) m n (Nat.lor ra rb) 0) (Nat.beq ly 0)) (allOne b && Nat.blt 0 sz && Nat.blt 0 bytes && Nat.ble (Nat.mul (Nat.add 0 ly) bytes) 140737488355328)) x
noncomputable def appF (sz bytes : Nat) (m : FTr) (n : Nat) (x y : FV) (a b : Option (List FV × Nat)) : FR :=
  Option.rec (motive := fun _ => FR) .no (fun a => Option.rec (motive := fun _ => FR) .no (fun b => appX sz bytes m n x (lenF y) a.1 a.2 b.1 b.2) b) a
noncomputable def uApp (sz bytes : Nat) (x y : Opd) : FS := .mk fun _ e m n => appF sz bytes m n (gv e x) (gv e y) (shownF m n sz (gv e x)) (shownF m n sz (gv e y))

/-- the values worked out, then k -/
noncomputable def fL {α : Type} (l : List FV) (k : List FV → α) : α := List.rec (motive := fun _ => (List FV → α) → α) (fun k => k []) (fun v _ ih k => fF (fun v => ih fun t => k (v :: t)) v) l k
theorem fL_eq {α : Type} (l : List FV) (k : List FV → α) : fL l k = k l := by
  induction l generalizing k with
  | nil => rfl
  | cons v l ih => show fF (fun v => fL l fun t => k (v :: t)) v = _; rw [fF_eq, ih]

/-! ### the operations of a code -/
noncomputable def callvF (cal : FCal) (args : List FV) (m : FTr) (n : Nat) (v : Value) : FR :=
  match v with
  | .func (.func f) a c => cal f (pmap ofV a.toList ++ args ++ pmap ofV c.toList) m n
  | _ => .no
noncomputable def uCallv (x : Opd) (args : List Opd) : FS := .mk fun cal e m n => callvF cal (gvs e args) m n (toV (gv e x))
noncomputable def cOp (op : AOp) : FS :=
  AOp.rec (motive := fun _ => Program → FS)
    (fun x _ => uMov x) (fun c a b _ => uPick c a b) (fun op t x y P => uBin P op t x y) (fun op x _ => uUn op x) (fun k x _ => uConv k x)
    (fun off x _ => uFld off x) (fun sz x i _ => uIdx sz x i) (fun k sz x i _ => uIda k sz x i) (fun z ps _ => uBuild z ps) (fun i x _ => uExtr i x)
    (fun x _ => uNilck x) (fun f a c _ => uFunc f a c) (fun s x _ => uLen s x) (fun x y _ => uMx x y) (fun sz x lo hi _ => uSlc sz x lo hi)
    (fun c _ => uNew c) (fun x _ => uBox x) (fun sz len z ps _ => uMkl sz len z ps) (fun sz bytes z l c _ => uMake sz bytes z l c) (fun x _ => uLd1 x)
    (fun k x _ => uLdn k x) (fun k x y _ => uSt k x y) (fun sz bytes x y _ => uApp sz bytes x y) (fun f args _ => .mk fun cal e m n => fL (gvs e args) fun l => cal f l m n) (fun x args _ => uCallv x args)
    (fun op xs P => .mk fun _ e _ _ => rO (purV P op ((gvs e xs).map toV)))
    op P
end

def CalSim (cal : FCal) (calA : Nat → List Value → FM → Nat → OR FM) : Prop := ∀ f args m n, FSim m n (cal f args m n) (calA f (args.map toV) (absM m n) n)
section
variable {P : Program} {m : FTr} {n : Nat}
theorem slow_sim {op : BinOp} {t : Nat} {x y : FV} {x' y' : Value} (hx : toV x = x') (hy : toV y = y') : FSim m n (slow P op t x y) (valO (absM m n) n (binV P op t x' y')) := by
  subst hx; subst hy; exact rO_sim rfl
theorem cellsF_eq (v : FV) : (cellsF v).map toV = (toV v).cells.toList := by
  cases v with
  | o v => show (pmap ofV v.cells.toList).map toV = _; rw [pmap_eq, toV_ofVs]; rfl
  | _ => rfl
theorem fnew_sim {B : FBlk} {B' : Blk} {v : Nat → FV} {v' : Nat → Value} (hB : toB B = B') (hv : ∀ n, toV (v n) = v' n) : FSim m n (fnew m n B v) (newb (absM m n) n B' v') := by
  subst hB
  show OR.ok (v' n) (AMem.put (absM m n) n (some (toB B))) (Nat.succ n) 0 (bit n) = OR.ok (toV (v n)) (absM (some B :: m) (Nat.succ n)) (Nat.succ n) 0 (bit n)
  rw [absM_new, hv]; rfl
theorem goev_eq (e : List FV) (x : Option Opd) : goev e x = oev (e.map toV) x := by
  cases x with
  | none => rfl
  | some x => show some (toV (gv e x)) = some (ev (e.map toV) x); rw [gv_eq]
theorem allOne_eq (l : List FV) : allOne l = (l.map toV).all one := by
  induction l with
  | nil => rfl
  | cons v l ih =>
    show Bool.rec (motive := fun _ => Bool) false (allOne l) (oneF v) = (one (toV v) && (l.map toV).all one)
    have : oneF v = one (toV v) := by cases v <;> rfl
    rw [this, ih]
    cases one (toV v) <;> rfl
theorem plen_eq (l : List Value) : llen l = plen l := rfl
theorem shownF_eq (m : FTr) (n sz : Nat) (v : FV) : (shownF m n sz v).map (fun p => (p.1.map toV, p.2)) = shown (absM m n) n sz (toV v) ∨ shownF m n sz v = none := by
  cases v with
  | s b o l c =>
    left
    show (Bool.rec (motive := fun _ => Option (List FV × Nat)) _ _ (Nat.beq l 0) : Option (List FV × Nat)).map _ = cond (Nat.beq l 0) (some ([], 0)) (shownB sz o l b (getb (absM m n) n b))
    cases Nat.beq l 0
    · rw [gb_eq]
      show (Option.rec (motive := fun _ => Option (List FV × Nat)) _ _ (gb m n b) : Option (List FV × Nat)).map _ = shownB sz o l b ((gb m n b).map toB)
      cases gb m n b with
      | none => rfl
      | some x =>
        obtain ⟨c, s, opn, wr⟩ := x
        show (Bool.rec (motive := fun _ => Option (List FV × Nat)) none (Option.rec (motive := fun _ => Option (List FV × Nat)) none (fun x => some (x, bit b)) (pat c o (Nat.mul l sz))) (Nat.beq s sz) : Option (List FV × Nat)).map _ = cond (Nat.beq s sz) (Option.rec (motive := fun _ => Option (List Value × Nat)) none (fun x => some (x, bit b)) (pat (c.map toV) o (Nat.mul l sz))) none
        rw [pat_map]
        cases Nat.beq s sz
        · rfl
        · cases pat c o (Nat.mul l sz) <;> rfl
    · rfl
  | o v =>
    cases v
    case slice a l c =>
      cases a with
      | none =>
        show (Bool.rec (motive := fun _ => Option (List FV × Nat)) none (some ([], 0)) (Nat.beq l 0 && Nat.beq c 0) : Option (List FV × Nat)).map _ = _ ∨ (Bool.rec (motive := fun _ => Option (List FV × Nat)) none (some ([], 0)) (Nat.beq l 0 && Nat.beq c 0) : Option (List FV × Nat)) = none
        cases hb : (Nat.beq l 0 && Nat.beq c 0)
        · right; rfl
        · left
          rw [Bool.and_eq_true] at hb
          obtain rfl := Nat.eq_of_beq_eq_true hb.1
          obtain rfl := Nat.eq_of_beq_eq_true hb.2
          rfl
      | some a => right; rfl
    all_goals (right; rfl)
  | _ => right; rfl
theorem appX_nil {sz bytes : Nat} {v : Value} {ly ra rb : Nat} {a b : List FV} (hv : shownF m n sz (.o v) = some (a, ra)) : v = .slice none 0 0 ∧ a = [] ∧ ra = 0 := by
  cases v
  case slice q l c =>
    cases q with
    | none =>
      have hv : (Bool.rec (motive := fun _ => Option (List FV × Nat)) none (some ([], 0)) (Nat.beq l 0 && Nat.beq c 0) : Option (List FV × Nat)) = some (a, ra) := hv
      cases hb : (Nat.beq l 0 && Nat.beq c 0)
      · rw [hb] at hv; cases hv
      · rw [hb] at hv
        rw [Bool.and_eq_true] at hb
        obtain rfl := Nat.eq_of_beq_eq_true hb.1
        obtain rfl := Nat.eq_of_beq_eq_true hb.2
        injection hv with hv; injection hv with h1 h2
        exact ⟨rfl, h1.symm, h2.symm⟩
    | some q => cases hv
  all_goals cases hv
theorem putF_sim {b sz : Nat} {opn : Bool} {v : FV} {v' : Value} {r : Nat} {c : Option (List FV)} {c' : Option (List Value)} (hs : b < n) (hv : toV v = v') (hc : c' = c.map (List.map toV)) :
    FSim m n (putF m b sz opn n v r c) (putC (absM m n) n b sz opn v' r c') := by
  subst hc; subst hv
  cases c with
  | none => trivial
  | some c =>
    show FSim m n (Option.rec (motive := fun _ => FR) .no (fun m => .ok v m n r (bit b)) (tset m n b (some ⟨c, sz, opn, true⟩))) _
    cases ht : tset m n b (some ⟨c, sz, opn, true⟩) with
    | none => exact fsim_no
    | some m' =>
      show _ = OR.ok (toV v) (absM m' n) n r (bit b)
      rw [absM_set hs ht]; rfl
theorem map_papp (a b : List FV) : (papp a b).map toV = a.map toV ++ b.map toV := by rw [papp_eq, List.map_append]
theorem fappN_sim {sz len r : Nat} {c : List FV} {c' : List Value} (hc : c.map toV = c') : FSim m n (fappN m n sz len c r) (appN (absM m n) n sz len c' r) := by
  subst hc
  show OR.ok (slcP 0 len UNK n) (AMem.put (absM m n) n (some (.cells (c.map toV) sz true true))) (Nat.succ n) r (bit n) = OR.ok _ (absM (some ⟨c, sz, true, true⟩ :: m) (Nat.succ n)) (Nat.succ n) r (bit n)
  rw [absM_new]; rfl
theorem appS_sim {sz lx ly cx r bx ox : Nat} {a b : List FV} : FSim m n (appS m n sz lx ly cx a b r bx ox) (appG (absM m n) n sz lx ly cx (a.map toV) (b.map toV) r (some ⟨bx, ox, none⟩)) := by
  show FSim m n (Bool.rec (motive := fun _ => FR) _ .no (Nat.beq cx VAG)) (cond (Nat.beq cx VAG) .no (cond (Nat.beq cx UNK) (appU (absM m n) n sz (Nat.add lx ly) (a.map toV ++ b.map toV) r ⟨bx, ox, none⟩ (getb (absM m n) n bx)) (cond (Nat.ble (Nat.add lx ly) cx) (appR (absM m n) n sz lx (Nat.add lx ly) cx (b.map toV) r bx ox (getb (absM m n) n bx)) (appN (absM m n) n sz (Nat.add lx ly) (a.map toV ++ b.map toV) r))))
  cases Nat.beq cx VAG
  · show FSim m n (Bool.rec (motive := fun _ => FR) _ _ (Nat.beq cx UNK)) _
    cases Nat.beq cx UNK
    · show FSim m n (Bool.rec (motive := fun _ => FR) _ _ (Nat.ble (Nat.add lx ly) cx)) (cond (Nat.ble (Nat.add lx ly) cx) _ _)
      cases Nat.ble (Nat.add lx ly) cx
      · exact fappN_sim (map_papp a b)
      · show FSim m n (fappR m n sz lx (Nat.add lx ly) cx b r bx ox (gb m n bx)) (appR (absM m n) n sz lx (Nat.add lx ly) cx (b.map toV) r bx ox (getb (absM m n) n bx))
        rw [gb_eq]
        cases hg : gb m n bx with
        | none => trivial
        | some x =>
          obtain ⟨c, s, opn, wr⟩ := x
          cases wr
          · trivial
          · exact putF_sim (gb_lt hg) rfl (pset_map toV c _ b)
    · show FSim m n (fappU m n sz (Nat.add lx ly) (papp a b) r bx (gb m n bx)) (appU (absM m n) n sz (Nat.add lx ly) (a.map toV ++ b.map toV) r ⟨bx, ox, none⟩ (getb (absM m n) n bx))
      rw [gb_eq]
      cases hg : gb m n bx with
      | none => trivial
      | some x =>
        obtain ⟨c, s, opn, wr⟩ := x
        show FSim m n (Bool.rec (motive := fun _ => FR) .no _ (Nat.beq s sz && opn && wr)) _
        cases hs : (Nat.beq s sz && opn && wr)
        · trivial
        · simp only [Bool.and_eq_true] at hs
          obtain ⟨⟨h2, rfl⟩, rfl⟩ := hs
          show FSim m n (Option.rec (motive := fun _ => FR) .no (fun m => .ok (.s n 0 (Nat.add lx ly) UNK) (some ⟨papp a b, sz, true, true⟩ :: m) (Nat.succ n) r (Nat.lor (bit bx) (bit n))) (tset m n bx none)) _
          cases ht : tset m n bx none with
          | none => exact fsim_no
          | some m' =>
            show appU (absM m n) n sz (Nat.add lx ly) (a.map toV ++ b.map toV) r ⟨bx, ox, none⟩ (some (.cells (c.map toV) s true true)) = OR.ok _ (absM (some ⟨papp a b, sz, true, true⟩ :: m') (Nat.succ n)) (Nat.succ n) r _
            rw [absM_new, absM_set (gb_lt hg) ht]
            have e : (some (⟨papp a b, sz, true, true⟩ : FBlk)).map toB = some (.cells (a.map toV ++ b.map toV) sz true true) := by
              show some (Blk.cells ((papp a b).map toV) sz true true) = _; rw [map_papp]
            rw [e]
            show cond (AMem.lim (absM m n) n && Nat.beq s sz) _ _ = _
            rw [h2]; rfl
  · trivial
theorem appF_sim {sz bytes : Nat} {x y : FV} : FSim m n (appF sz bytes m n x y (shownF m n sz x) (shownF m n sz y)) (appO sz bytes (absM m n) n (toV x) (toV y) (shown (absM m n) n sz (toV x)) (shown (absM m n) n sz (toV y))) := by
  cases hx : shownF m n sz x with
  | none => trivial
  | some pa =>
    cases hy : shownF m n sz y with
    | none => trivial
    | some pb =>
      obtain ⟨a, ra⟩ := pa
      obtain ⟨b, rb⟩ := pb
      have ex := (shownF_eq m n sz x).resolve_right (by rw [hx]; simp)
      have ey := (shownF_eq m n sz y).resolve_right (by rw [hy]; simp)
      rw [hx] at ex; rw [hy] at ey
      rw [← ex, ← ey]
      show FSim m n (appX sz bytes m n x (lenF y) a ra b rb) (appV sz bytes (absM m n) n (a.map toV, ra) (b.map toV, rb) (toV x) (toV y))
      have hys : ∃ ay cy, toV y = .slice ay (lenF y) cy := by
        cases y with
        | s b' o l c => exact ⟨_, _, rfl⟩
        | o v => obtain ⟨rfl, _, _⟩ := appX_nil (sz := sz) (bytes := 0) (ly := 0) (rb := 0) (b := []) hy; exact ⟨_, _, rfl⟩
        | i z => cases hy
        | b z => cases hy
        | p z o => cases hy
      obtain ⟨ay, cy, hys⟩ := hys
      rw [hys]
      cases x with
      | s bx ox lx cx =>
        show FSim m n (Bool.rec (motive := fun _ => FR) .no _ (allOne b && Nat.blt 0 sz && Nat.blt 0 bytes && Nat.ble (Nat.mul (Nat.add lx (lenF y)) bytes) 140737488355328)) (cond ((b.map toV).all one && Nat.blt 0 sz && Nat.blt 0 bytes && Nat.ble (Nat.mul (Nat.add lx (lenF y)) bytes) 140737488355328) _ _)
        rw [allOne_eq]
        cases ((b.map toV).all one && Nat.blt 0 sz && Nat.blt 0 bytes && Nat.ble (Nat.mul (Nat.add lx (lenF y)) bytes) 140737488355328)
        · trivial
        · exact appS_sim
      | o v =>
        obtain ⟨rfl, rfl, rfl⟩ := appX_nil (sz := sz) (bytes := 0) (ly := 0) (rb := 0) (b := []) hx
        show FSim m n (Bool.rec (motive := fun _ => FR) .no _ (allOne b && Nat.blt 0 sz && Nat.blt 0 bytes && Nat.ble (Nat.mul (Nat.add 0 (lenF y)) bytes) 140737488355328)) (cond ((b.map toV).all one && Nat.blt 0 sz && Nat.blt 0 bytes && Nat.ble (Nat.mul (Nat.add 0 (lenF y)) bytes) 140737488355328) (cond (Nat.beq (lenF y) 0) (.ok (.slice none 0 0) (absM m n) n (Nat.lor 0 rb) 0) (appN (absM m n) n sz (Nat.add 0 (lenF y)) ([] ++ b.map toV) (Nat.lor 0 rb))) .no)
        rw [allOne_eq]
        cases ((b.map toV).all one && Nat.blt 0 sz && Nat.blt 0 bytes && Nat.ble (Nat.mul (Nat.add 0 (lenF y)) bytes) 140737488355328)
        · trivial
        · show FSim m n (Bool.rec (motive := fun _ => FR) _ _ (Nat.beq (lenF y) 0)) (cond (Nat.beq (lenF y) 0) _ _)
          cases Nat.beq (lenF y) 0
          · exact fappN_sim rfl
          · rfl
      | i z => cases hx
      | b z => cases hx
      | p z o => cases hx
theorem slcF_sim {sz : Nat} {v : Option Value} {x : FV} : FSim m n (slcF m n sz v x) (slcM (absM m n) n sz v (toV x)) := by
  cases x with
  | s b o l c =>
    show FSim m n (Bool.rec (motive := fun _ => FR) _ _ (Nat.beq c UNK)) (cond (Nat.beq c UNK) (cond (szOk sz (getb (absM m n) n b)) (valR (absM m n) n b v) .no) (valO (absM m n) n v))
    cases Nat.beq c UNK
    · exact rO_sim rfl
    · have hz : szOk sz (getb (absM m n) n b) = fszOk sz (gb m n b) := by
        rw [gb_eq]
        cases gb m n b <;> rfl
      rw [hz]
      show FSim m n (Bool.rec (motive := fun _ => FR) .no _ (fszOk sz (gb m n b))) (cond (fszOk sz (gb m n b)) _ _)
      cases fszOk sz (gb m n b)
      · trivial
      · cases v with
        | none => trivial
        | some v => show _ = OR.ok (toV (ofV v)) (absM m n) n (bit b) 0; rw [toV_ofV]; rfl
  | o y =>
    cases y
    case slice a l c =>
      cases a with
      | none => exact rO_sim rfl
      | some a => trivial
    all_goals exact rO_sim rfl
  | _ => exact rO_sim rfl

theorem cOp_sim {cal : FCal} {calA : Nat → List Value → FM → Nat → OR FM} (hcal : CalSim cal calA) (e : List FV) (m : FTr) (n : Nat) (o : AOp) : FSim m n ((cOp P o).run cal e m n) (stepA P calA (e.map toV) (absM m n) n o) := by
  have hnn : ∀ {α : Type} (z : Int) (k : Nat → α) (d : α), (∀ a, z ≠ .ofNat a) → fnn z k d = d := by
    intro α z k d h; cases z <;> first | rfl | exact absurd rfl (h _)
  cases o
  case mov x =>
    show FSim m n (fF FR.pv (gv e x)) (.ok (ev (e.map toV) x) (absM m n) n 0 0)
    rw [fF_eq, ← gv_eq]; rfl
  case pick c a b =>
    show FSim m n (onB (gv e c) (fF FR.pv (gv e a)) (fF FR.pv (gv e b)) .no) (valO (absM m n) n (pickV (ev (e.map toV) a) (ev (e.map toV) b) (ev (e.map toV) c)))
    rw [← gv_eq, ← gv_eq, ← gv_eq, fF_eq, fF_eq]
    cases gv e c with
    | b t => cases t <;> rfl
    | _ => trivial
  case bin op t x y =>
    show FSim m n ((uBin P op t x y).run cal e m n) (valO (absM m n) n (binV P op t (ev (e.map toV) x) (ev (e.map toV) y)))
    rw [uBin_eq, ← gv_eq, ← gv_eq]
    show FSim m n (onI (gv e x) (fun a => onI (gv e y) (fun b => jOp op a b) (slow P op t (gv e x) (gv e y))) (slow P op t (gv e x) (gv e y))) _
    cases gv e x with
    | i a =>
      cases gv e y with
      | i b =>
        show FSim m n (jOp op a b) (valO (absM m n) n (cond (decide (IntKind.i64 = IntKind.i64)) (intBin op .i64 a b) none))
        rw [decide_eq_true rfl]
        exact jOp_sim op a b
      | b t' => show FSim m n (slow P op t (.i a) (.b t')) _; exact slow_sim rfl rfl
      | p b' o => show FSim m n (slow P op t (.i a) (.p b' o)) _; exact slow_sim rfl rfl
      | s b' o l c => show FSim m n (slow P op t (.i a) (.s b' o l c)) _; exact slow_sim rfl rfl
      | o v => show FSim m n (slow P op t (.i a) (.o v)) _; exact slow_sim rfl rfl
    | _ => exact slow_sim rfl rfl
  case una op x =>
    cases op
    case not =>
      show FSim m n (onB (gv e x) (.pv (.b false)) (.pv (.b true)) .no) (valO (absM m n) n (unaV .not (ev (e.map toV) x)))
      rw [← gv_eq]
      cases gv e x with
      | b t => cases t <;> rfl
      | _ => trivial
    case neg => show FSim m n (rO (unaV .neg (toV (gv e x)))) (valO (absM m n) n (unaV .neg (ev (e.map toV) x))); rw [gv_eq]; exact rO_sim rfl
    case xor => show FSim m n (rO (unaV .xor (toV (gv e x)))) (valO (absM m n) n (unaV .xor (ev (e.map toV) x))); rw [gv_eq]; exact rO_sim rfl
    case plus => show FSim m n (rO (unaV .plus (toV (gv e x)))) (valO (absM m n) n (unaV .plus (ev (e.map toV) x))); rw [gv_eq]; exact rO_sim rfl
  case conv k x =>
    show FSim m n (rO (convV k (toV (gv e x)))) (valO (absM m n) n (convV k (ev (e.map toV) x)))
    rw [gv_eq]; exact rO_sim rfl
  case fld off x =>
    show FSim m n (onP (gv e x) (fun b o => fN (fun o => .pv (.p b o)) (Nat.add o off)) .no) (valO (absM m n) n (fldV off (ev (e.map toV) x)))
    rw [← gv_eq]
    cases gv e x with
    | p b o => show FSim m n (fN (fun o => .pv (.p b o)) (Nat.add o off)) _; rw [fN_eq]; rfl
    | _ => trivial
  case idx sz x i =>
    show FSim m n (onI (gv e i) (fun z => fnn z (fun i => idxF sz i (gv e x)) .no) (rO (obind (fun i => idxV sz i (toV (gv e x))) (natOf (toV (gv e i)))))) (valO (absM m n) n (obind (fun i => idxV sz i (ev (e.map toV) x)) (natOf (ev (e.map toV) i))))
    rw [← gv_eq, ← gv_eq]
    cases gv e i with
    | i z =>
      cases z with
      | ofNat i =>
        show FSim m n (idxF sz i (gv e x)) (valO (absM m n) n (idxV sz i (toV (gv e x))))
        cases gv e x with
        | s b o l c =>
          show FSim m n (Bool.rec (motive := fun _ => FR) .no (fN (fun o => .pv (.p b o)) (Nat.add o (Nat.mul i sz))) (Nat.blt i l)) (valO (absM m n) n (cond (Nat.blt i l) _ _))
          rw [fN_eq]
          cases Nat.blt i l
          · trivial
          · rfl
        | _ => trivial
      | negSucc i => trivial
    | b t => show FSim m n (rO (obind (fun i => idxV sz i (toV (gv e x))) (natOf (toV (FV.b t))))) _; exact rO_sim rfl
    | p b o => show FSim m n (rO (obind (fun i => idxV sz i (toV (gv e x))) (natOf (toV (FV.p b o))))) _; exact rO_sim rfl
    | s b o l c => show FSim m n (rO (obind (fun i => idxV sz i (toV (gv e x))) (natOf (toV (FV.s b o l c))))) _; exact rO_sim rfl
    | o v => show FSim m n (rO (obind (fun i => idxV sz i (toV (gv e x))) (natOf (toV (FV.o v))))) _; exact rO_sim rfl
  case ida k sz x i =>
    show FSim m n (onI (gv e i) (fun z => fnn z (fun i => idaF k sz i (gv e x)) .no) (rO (obind (fun i => idaV k sz i (toV (gv e x))) (natOf (toV (gv e i)))))) (valO (absM m n) n (obind (fun i => idaV k sz i (ev (e.map toV) x)) (natOf (ev (e.map toV) i))))
    rw [← gv_eq, ← gv_eq]
    cases gv e i with
    | i z =>
      cases z with
      | ofNat i =>
        show FSim m n (idaF k sz i (gv e x)) (valO (absM m n) n (idaV k sz i (toV (gv e x))))
        cases gv e x with
        | p b o =>
          show FSim m n (Bool.rec (motive := fun _ => FR) .no (fN (fun o => .pv (.p b o)) (Nat.add o (Nat.mul i sz))) (Nat.blt i k)) (valO (absM m n) n (cond (Nat.blt i k) _ _))
          rw [fN_eq]
          cases Nat.blt i k
          · trivial
          · rfl
        | _ => trivial
      | negSucc i => trivial
    | b t => show FSim m n (rO (obind (fun i => idaV k sz i (toV (gv e x))) (natOf (toV (FV.b t))))) _; exact rO_sim rfl
    | p b o => show FSim m n (rO (obind (fun i => idaV k sz i (toV (gv e x))) (natOf (toV (FV.p b o))))) _; exact rO_sim rfl
    | s b o l c => show FSim m n (rO (obind (fun i => idaV k sz i (toV (gv e x))) (natOf (toV (FV.s b o l c))))) _; exact rO_sim rfl
    | o v => show FSim m n (rO (obind (fun i => idaV k sz i (toV (gv e x))) (natOf (toV (FV.o v))))) _; exact rO_sim rfl
  case build z ps => exact rO_sim rfl
  case extr i x =>
    show FSim m n (rO (extrV i (toV (gv e x)))) (valO (absM m n) n (extrV i (ev (e.map toV) x)))
    rw [gv_eq]; exact rO_sim rfl
  case nilck x =>
    show FSim m n (onP (gv e x) (fun b o => .pv (.p b o)) .no) (valO (absM m n) n (nilckV (ev (e.map toV) x)))
    rw [← gv_eq]
    cases gv e x with
    | p b o => rfl
    | _ => trivial
  case func f a c =>
    show FSim m n (.pv (.o (.func (.func f) ((gvs e a).map toV).toArray ((gvs e c).map toV).toArray))) (.ok (.func (.func f) (evs (e.map toV) a).toArray (evs (e.map toV) c).toArray) (absM m n) n 0 0)
    rw [gvs_eq, gvs_eq]; rfl
  case len s x =>
    cases s
    · show FSim m n (onS (gv e x) (fun _ _ l _ => .pv (.i (.ofNat l))) (rO (lenV false (toV (gv e x))))) (valO (absM m n) n (lenV false (ev (e.map toV) x)))
      rw [← gv_eq]
      cases gv e x with
      | s b o l c => rfl
      | i z => show FSim m n (rO (lenV false (toV (.i z)))) _; exact rO_sim rfl
      | b z => show FSim m n (rO (lenV false (toV (.b z)))) _; exact rO_sim rfl
      | p b o => show FSim m n (rO (lenV false (toV (.p b o)))) _; exact rO_sim rfl
      | o v => show FSim m n (rO (lenV false (toV (.o v)))) _; exact rO_sim rfl
    · show FSim m n (rO (lenV true (toV (gv e x)))) (valO (absM m n) n (lenV true (ev (e.map toV) x)))
      rw [← gv_eq]
      exact rO_sim rfl
  case mx x y =>
    show FSim m n (onI (gv e x) (fun a => onI (gv e y) (fun b => Bool.rec (motive := fun _ => FR) (.pv (.i a)) (.pv (.i b)) (iLt a b)) .no) .no) (valO (absM m n) n (mxV (ev (e.map toV) x) (ev (e.map toV) y)))
    rw [← gv_eq, ← gv_eq]
    cases gv e x with
    | i a =>
      cases gv e y with
      | i b =>
        show FSim m n (Bool.rec (motive := fun _ => FR) (.pv (.i a)) (.pv (.i b)) (iLt a b)) (valO (absM m n) n (some (.int .i64 (cond (ltB a b) b a))))
        rw [iLt_eq]
        cases ltB a b <;> rfl
      | _ => trivial
    | _ => trivial
  case slc sz x lo hi =>
    show FSim m n (slcF m n sz (slcV sz (goev e lo) (goev e hi) (toV (gv e x))) (gv e x)) (slcM (absM m n) n sz (slcV sz (oev (e.map toV) lo) (oev (e.map toV) hi) (ev (e.map toV) x)) (ev (e.map toV) x))
    rw [goev_eq, goev_eq, ← gv_eq]
    exact slcF_sim
  case new c =>
    refine fnew_sim (B := ⟨pmap ofV c, 0, false, true⟩) (v := fun n => .p n 0) (v' := ptrP) (B' := .cells c 0 false true) ?_ fun _ => rfl
    show Blk.cells ((pmap ofV c).map toV) 0 false true = _
    rw [pmap_eq, toV_ofVs]
  case box x =>
    refine fnew_sim (B := ⟨cellsF (gv e x), 0, false, true⟩) (v := fun n => .p n 0) (v' := ptrP) (B' := .cells (ev (e.map toV) x).cells.toList 0 false true) ?_ fun _ => rfl
    show Blk.cells ((cellsF (gv e x)).map toV) 0 false true = _
    rw [cellsF_eq, gv_eq]
  case mkl sz len z ps =>
    show FSim m n (mklF m n sz len (fillA (parts2 sz (e.map toV) ps) (reps z len))) (mklC (absM m n) n sz len (fillA (parts2 sz (e.map toV) ps) (reps z len)))
    cases fillA (parts2 sz (e.map toV) ps) (reps z len) with
    | none => trivial
    | some c =>
      refine fnew_sim (B := ⟨pmap ofV c, sz, false, true⟩) (v := fun n => .s n 0 len len) (v' := slcP 0 len len) (B' := .cells c sz false true) ?_ fun _ => rfl
      show Blk.cells ((pmap ofV c).map toV) sz false true = _
      rw [pmap_eq, toV_ofVs]
  case make sz bytes z l c =>
    show FSim m n (onI (gv e l) (fun l => onI (gv e c) (fun c => fnn l (fun l => fnn c (fun c => makeF m n sz bytes z l c) .no) .no) .no) .no) (makeV sz bytes z (absM m n) n (natOf (ev (e.map toV) l)) (natOf (ev (e.map toV) c)))
    rw [← gv_eq, ← gv_eq]
    cases gv e l with
    | i l =>
      cases gv e c with
      | i c =>
        cases l with
        | ofNat l =>
          cases c with
          | ofNat c =>
            show FSim m n (Bool.rec (motive := fun _ => FR) .no (fnew m n ⟨preps (pmap ofV z) c, sz, false, true⟩ fun n => .s n 0 l c) (Nat.ble l c && Nat.ble (Nat.mul c bytes) 281474976710656 && Nat.ble c 1099511627776)) (cond (Nat.ble l c && Nat.ble (Nat.mul c bytes) 281474976710656 && Nat.ble c 1099511627776) (newb (absM m n) n (.cells (reps z c) sz false true) (slcP 0 l c)) .no)
            cases (Nat.ble l c && Nat.ble (Nat.mul c bytes) 281474976710656 && Nat.ble c 1099511627776)
            · trivial
            · refine fnew_sim (B := ⟨preps (pmap ofV z) c, sz, false, true⟩) (v := fun n => .s n 0 l c) (v' := slcP 0 l c) (B' := .cells (reps z c) sz false true) ?_ fun _ => rfl
              show Blk.cells ((preps (pmap ofV z) c).map toV) sz false true = _
              rw [← preps_map, pmap_eq, toV_ofVs]
              congr 1
              induction c with
              | zero => rfl
              | succ c ih => show papp z (preps z c) = z ++ reps z c; rw [papp_eq, ih]
          | negSucc c => trivial
        | negSucc l => trivial
      | _ => trivial
    | _ => trivial
  case ld1 x =>
    show FSim m n (onP (gv e x) (fun b o => fcells (gb m n b) (fun c => rdO b (pget c o)) .no) .no) (ld1V (absM m n) n (ev (e.map toV) x))
    rw [← gv_eq]
    cases gv e x with
    | p b o =>
      show FSim m n (fcells (gb m n b) (fun c => rdO b (pget c o)) .no) (withCells (getb (absM m n) n b) fun c => valR (absM m n) n b (cget c o))
      rw [gb_eq]
      cases gb m n b with
      | none => trivial
      | some x =>
        obtain ⟨c, sz, opn, wr⟩ := x
        show FSim m n (rdO b (pget c o)) (valR (absM m n) n b (pget (c.map toV) o))
        rw [pget_map]
        cases pget c o with
        | none => trivial
        | some v => rfl
    | _ => trivial
  case ldn k x =>
    show FSim m n (onP (gv e x) (fun b o => fcells (gb m n b) (fun c => rdO b (aggF (pat c o k))) .no) .no) (ldnV k (absM m n) n (ev (e.map toV) x))
    rw [← gv_eq]
    cases gv e x with
    | p b o =>
      show FSim m n (fcells (gb m n b) (fun c => rdO b (aggF (pat c o k))) .no) (withCells (getb (absM m n) n b) fun c => valR (absM m n) n b (aggO (cellsAt c o k)))
      rw [gb_eq]
      cases gb m n b with
      | none => trivial
      | some x =>
        obtain ⟨c, sz, opn, wr⟩ := x
        show FSim m n (rdO b (aggF (pat c o k))) (valR (absM m n) n b (aggO (pat (c.map toV) o k)))
        rw [pat_map]
        cases pat c o k with
        | none => trivial
        | some v => rfl
    | _ => trivial
  case st k x y =>
    show FSim m n (onP (gv e x) (fun b o => Bool.rec (motive := fun _ => FR) .no (stF m n b o (cellsF (gv e y)) (gb m n b)) (Nat.beq (plen (cellsF (gv e y))) k && allOne (cellsF (gv e y)))) .no) (stV k (ev (e.map toV) y).cells.toList (absM m n) n (ev (e.map toV) x))
    rw [← gv_eq, ← gv_eq, ← cellsF_eq]
    cases gv e x with
    | p b o =>
      show FSim m n (Bool.rec (motive := fun _ => FR) .no (stF m n b o (cellsF (gv e y)) (gb m n b)) (Nat.beq (plen (cellsF (gv e y))) k && allOne (cellsF (gv e y)))) (cond (Nat.beq (plen ((cellsF (gv e y)).map toV)) k && ((cellsF (gv e y)).map toV).all one) (stC (absM m n) n b o ((cellsF (gv e y)).map toV) (getb (absM m n) n b)) .no)
      rw [plen_map, allOne_eq]
      cases (Nat.beq (plen (cellsF (gv e y))) k && ((cellsF (gv e y)).map toV).all one)
      · trivial
      · show FSim m n (stF m n b o (cellsF (gv e y)) (gb m n b)) (stC (absM m n) n b o ((cellsF (gv e y)).map toV) (getb (absM m n) n b))
        rw [gb_eq]
        cases hg : gb m n b with
        | none => trivial
        | some x =>
          obtain ⟨c, sz, opn, wr⟩ := x
          cases wr
          · trivial
          · exact putF_sim (gb_lt hg) rfl (pset_map toV c _ _)
    | _ => trivial
  case app sz bytes x y =>
    show FSim m n (appF sz bytes m n (gv e x) (gv e y) (shownF m n sz (gv e x)) (shownF m n sz (gv e y))) (appO sz bytes (absM m n) n (ev (e.map toV) x) (ev (e.map toV) y) (shown (absM m n) n sz (ev (e.map toV) x)) (shown (absM m n) n sz (ev (e.map toV) y)))
    rw [← gv_eq, ← gv_eq]
    exact appF_sim
  case call f args =>
    show FSim m n (fL (gvs e args) fun l => cal f l m n) (calA f (evs (e.map toV) args) (absM m n) n)
    rw [← gvs_eq, fL_eq]
    exact hcal f _ m n
  case pur op xs =>
    show FSim m n (rO (purV P op ((gvs e xs).map toV))) (valO (absM m n) n (purV P op (evs (e.map toV) xs)))
    rw [← gvs_eq]; exact rO_sim rfl
  case callv x args =>
    show FSim m n (callvF cal (gvs e args) m n (toV (gv e x))) (callV calA (evs (e.map toV) args) (absM m n) n (ev (e.map toV) x))
    rw [gv_eq, ← gvs_eq]
    generalize ev (e.map toV) x = v
    unfold callvF
    split
    · rename_i f a c
      have := hcal f (pmap ofV a.toList ++ gvs e args ++ pmap ofV c.toList) m n
      rw [List.map_append, List.map_append, pmap_eq, pmap_eq, toV_ofVs, toV_ofVs] at this
      rw [pmap_eq, pmap_eq]
      exact this
    · trivial
end
end Go.Am.V
namespace Go.Am.V
open Go Go.Am Go.Am.Fast

inductive FAX where
  | norm
  | exit (id : Nat)
  | ret (v : FV)
inductive FC where
  | no
  | ok (x : FAX) (e : List FV) (m : FTr) (n r w : Nat)
noncomputable def toX (x : FAX) : AX := FAX.rec (motive := fun _ => AX) .norm (fun i => .exit i) (fun v => .ret (toV v)) x
def CSim (x : FC) (y : CR FM) : Prop :=
  match x with
  | .no => True
  | .ok X e m n r w => y = .ok (toX X) (e.map toV) (absM m n) n r w
theorem csim_no {y : CR FM} : CSim .no y := trivial

/-! ### regions -/
abbrev FT0 := FCal → List FV → FTr → Nat → Nat → Nat → FC
inductive FT where
  | mk (f : FT0)
noncomputable def FT.run (s : FT) : FT0 := FT.rec (motive := fun _ => FT0) (fun f => f) s
noncomputable def orn (r : Nat) (b : Nat) (k : Nat → FC) : FC := fN k (Nat.lor r b)
noncomputable def kOk (ih : FT) (cal : FCal) (e : List FV) (r w : Nat) (m : FTr) (n r' w' : Nat) : FC := fN (fun r => fN (fun w => fN (fun n => ih.run cal e m n r w) n) (Nat.lor w w')) (Nat.lor r r')
noncomputable def stepK (keep : Bool) (ih : FT) (cal : FCal) (e : List FV) (m : FTr) (n r w : Nat) (x : FR) : FC :=
  FR.rec (motive := fun _ => FC) .no
    (fun v => ih.run cal (Bool.rec (motive := fun _ => List FV) e (v :: e) keep) m n r w)
    (fun v b => fN (fun r => fF (fun v => ih.run cal (Bool.rec (motive := fun _ => List FV) e (v :: e) keep) m n r w) v) (Nat.lor r (bit b)))
    (fun v m' n' r' w' => kOk ih cal (Bool.rec (motive := fun _ => List FV) e (v :: e) keep) r w m' n' r' w') x
/-- the same, a value kept · none kept -/
noncomputable def stepT (ih : FT) (cal : FCal) (e : List FV) (m : FTr) (n r w : Nat) (x : FR) : FC :=
  FR.rec (motive := fun _ => FC) .no (fun v => ih.run cal (v :: e) m n r w) (fun v b => fN (fun r => fF (fun v => ih.run cal (v :: e) m n r w) v) (Nat.lor r (bit b))) (fun v m' n' r' w' => kOk ih cal (v :: e) r w m' n' r' w') x
noncomputable def stepE (ih : FT) (cal : FCal) (e : List FV) (m : FTr) (n r w : Nat) (x : FR) : FC :=
  FR.rec (motive := fun _ => FC) .no (fun _ => ih.run cal e m n r w) (fun _ b => fN (fun r => ih.run cal e m n r w) (Nat.lor r (bit b))) (fun _ m' n' r' w' => kOk ih cal e r w m' n' r' w') x
section
variable (P : Program)
noncomputable def want (gw : Bool) (v : FV) (a b : FC) : FC :=
  FV.rec (motive := fun _ => Bool → FC → FC → FC) (fun _ _ _ b => b) (fun t gw a b => Bool.rec (motive := fun _ => FC) (Bool.rec (motive := fun _ => FC) a b gw) (Bool.rec (motive := fun _ => FC) b a gw) t) (fun _ _ _ _ b => b) (fun _ _ _ _ _ _ b => b) (fun v _ _ b => onBool v .no .no b) v gw a b
noncomputable def tOp (o : AOp) (ih : FT) : FT := .mk fun cal e m n r w => stepT ih cal e m n r w ((cOp P o).run cal e m n)
noncomputable def tEff (o : AOp) (ih : FT) : FT := .mk fun cal e m n r w => stepE ih cal e m n r w ((cOp P o).run cal e m n)
noncomputable def tOpg (o : AOp) (gi : Nat) (gw : Bool) (ih : FT) : FT := .mk fun cal e m n r w => want gw (gl e gi) (stepT ih cal e m n r w ((cOp P o).run cal e m n)) (ih.run cal (.o undef :: e) m n r w)
noncomputable def tEffg (o : AOp) (gi : Nat) (gw : Bool) (ih : FT) : FT := .mk fun cal e m n r w => want gw (gl e gi) (stepE ih cal e m n r w ((cOp P o).run cal e m n)) (ih.run cal e m n r w)
noncomputable def cOps (l : List AI) : FT :=
  List.rec (motive := fun _ => FT) (.mk fun _ e m n r w => .ok .norm e m n r w)
    (fun i _ ih => AI.rec (motive := fun _ => Program → FT → FT) (fun _ _ ih => ih) (fun o P ih => tOp P o ih) (fun o gi gw P ih => tOpg P o gi gw ih) (fun o P ih => tEff P o ih) (fun o gi gw P ih => tEffg P o gi gw ih) i P ih) l
end
section
variable {P : Program} {cal : FCal} {calA : Nat → List Value → FM → Nat → OR FM}
theorem stepT_sim {ih : FT} {l : List AI} (hih : ∀ e m n r w, CSim (ih.run cal e m n r w) (opsA P calA l (e.map toV) (absM m n) n r w)) {e : List FV} {m : FTr} {n r w : Nat} {x : FR} {y : OR FM} (h : FSim m n x y) :
    CSim (stepT ih cal e m n r w x) (orRec y fun v m n r' w' => opsA P calA l (v :: e.map toV) m n (Nat.lor r r') (Nat.lor w w')) := by
  cases x with
  | no => trivial
  | pv v =>
    replace h : y = _ := h
    subst h
    show CSim (ih.run cal (v :: e) m n r w) (opsA P calA l (toV v :: e.map toV) (absM m n) n (Nat.lor r 0) (Nat.lor w 0))
    rw [lor_zero', lor_zero']
    exact hih (v :: e) m n r w
  | rd v b =>
    replace h : y = _ := h
    subst h
    show CSim (fN (fun r => fF (fun v => ih.run cal (v :: e) m n r w) v) (Nat.lor r (bit b))) (opsA P calA l (toV v :: e.map toV) (absM m n) n (Nat.lor r (bit b)) (Nat.lor w 0))
    rw [fN_eq, fF_eq, lor_zero']
    exact hih (v :: e) m n _ w
  | ok v m' n' r' w' =>
    replace h : y = _ := h
    subst h
    show CSim (fN (fun r => fN (fun w => fN (fun n => ih.run cal (v :: e) m' n r w) n') (Nat.lor w w')) (Nat.lor r r')) (opsA P calA l (toV v :: e.map toV) (absM m' n') n' (Nat.lor r r') (Nat.lor w w'))
    rw [fN_eq, fN_eq, fN_eq]
    exact hih (v :: e) m' n' _ _
theorem stepE_sim {ih : FT} {l : List AI} (hih : ∀ e m n r w, CSim (ih.run cal e m n r w) (opsA P calA l (e.map toV) (absM m n) n r w)) {e : List FV} {m : FTr} {n r w : Nat} {x : FR} {y : OR FM} (h : FSim m n x y) :
    CSim (stepE ih cal e m n r w x) (orRec y fun _ m n r' w' => opsA P calA l (e.map toV) m n (Nat.lor r r') (Nat.lor w w')) := by
  cases x with
  | no => trivial
  | pv v =>
    replace h : y = _ := h
    subst h
    show CSim (ih.run cal e m n r w) (opsA P calA l (e.map toV) (absM m n) n (Nat.lor r 0) (Nat.lor w 0))
    rw [lor_zero', lor_zero']
    exact hih e m n r w
  | rd v b =>
    replace h : y = _ := h
    subst h
    show CSim (fN (fun r => ih.run cal e m n r w) (Nat.lor r (bit b))) (opsA P calA l (e.map toV) (absM m n) n (Nat.lor r (bit b)) (Nat.lor w 0))
    rw [fN_eq, lor_zero']
    exact hih e m n _ w
  | ok v m' n' r' w' =>
    replace h : y = _ := h
    subst h
    show CSim (fN (fun r => fN (fun w => fN (fun n => ih.run cal e m' n r w) n') (Nat.lor w w')) (Nat.lor r r')) (opsA P calA l (e.map toV) (absM m' n') n' (Nat.lor r r') (Nat.lor w w'))
    rw [fN_eq, fN_eq, fN_eq]
    exact hih e m' n' _ _
theorem want_sim {gw : Bool} {v : FV} {v' : Value} (hv : toV v = v') {a b : FC} {a' b' : CR FM} (ha : CSim a a') (hb : CSim b b') : CSim (want gw v a b) (cond (wantB gw v') a' b') := by
  subst hv
  cases v with
  | b t => cases gw <;> cases t <;> first | exact ha | exact hb
  | i z => exact hb
  | p z o => exact hb
  | s b o l c => exact hb
  | o v =>
    cases v
    case bool t => cases t <;> trivial
    all_goals exact hb
theorem cOps_sim (hcal : CalSim cal calA) : ∀ (l : List AI) (e : List FV) (m : FTr) (n r w : Nat), CSim ((cOps P l).run cal e m n r w) (opsA P calA l (e.map toV) (absM m n) n r w)
  | [], e, m, n, r, w => by show doneA (e.map toV) (absM m n) n r w = _; rw [doneA, forceN_eq, forceN_eq]; rfl
  | i :: l, e, m, n, r, w => by
    have ih := cOps_sim hcal l
    cases i with
    | nop i => exact ih e m n r w
    | op o => exact stepT_sim ih (cOp_sim hcal e m n o)
    | eff o => exact stepE_sim ih (cOp_sim hcal e m n o)
    | opg o gi gw =>
      have h2 : CSim ((cOps P l).run cal (.o undef :: e) m n r w) (opsA P calA l (undef :: e.map toV) (absM m n) n r w) := ih (.o undef :: e) m n r w
      exact want_sim (gl_eq e gi) (stepT_sim ih (cOp_sim hcal e m n o)) h2
    | effg o gi gw => exact want_sim (gl_eq e gi) (stepE_sim ih (cOp_sim hcal e m n o)) (ih e m n r w)
end

/-! ### drawn regions -/
section
variable (P : Program)
noncomputable def belowFV (n : Nat) (v : FV) : Bool := FV.rec (motive := fun _ => Bool) (fun _ => true) (fun _ => true) (fun b _ => Nat.blt b n) (fun b _ _ _ => Nat.blt b n) (fun v => belowV n v) v
theorem belowFV_eq (n : Nat) (v : FV) : belowFV n v = belowV n (toV v) := by cases v <;> rfl
noncomputable def belowOpsF (n : Nat) (e : List FV) (o : AOp) : Bool := (opds o).all fun x => belowFV n (gv e x)
theorem belowOpsF_eq (n : Nat) (e : List FV) (o : AOp) : belowOpsF n e o = belowOps n (e.map toV) o := by
  unfold belowOpsF belowOps
  congr 1
  funext x
  rw [belowFV_eq, gv_eq]
noncomputable def stepDF (cal : FCal) (e : List FV) (m : FTr) (n : Nat) (o : AOp) : FR := Bool.rec (motive := fun _ => FR) .no ((cOp P o).run cal e m n) (belowOpsF n e o)
noncomputable def okF (bef k : Nat) (done : List (Nat × Nat × Nat)) (m : FTr) (n : Nat) (x : FR) (f : FV → FTr → Nat → Nat → Nat → List (Nat × Nat × Nat) → FC) : FC :=
  FR.rec (motive := fun _ => FC) .no (fun v => f v m n 0 0 done)
    (fun v b => fN (fun r => Bool.rec (motive := fun _ => FC) (Bool.rec (motive := fun _ => FC) .no (fF (fun v => f v m n r 0 ((k, r, 0) :: done)) v) (apart bef r 0 done)) (f v m n r 0 done) (Nat.beq (Nat.lor r 0) 0)) (bit b))
    (fun v m n r w => fN (fun r => fN (fun w => fN (fun n => Bool.rec (motive := fun _ => FC) (Bool.rec (motive := fun _ => FC) .no (f v m n r w ((k, r, w) :: done)) (apart bef r w done)) (f v m n r w done) (Nat.beq (Nat.lor r w) 0)) n) w) r) x
noncomputable def opsDF (l : List AI) (cal : FCal) : List Nat → Nat → List (Nat × Nat × Nat) → List FV → FTr → Nat → Nat → Nat → FC :=
  List.rec (motive := fun _ => List Nat → Nat → List (Nat × Nat × Nat) → List FV → FTr → Nat → Nat → Nat → FC) (fun _ _ _ e m n r w => .ok .norm e m n r w)
    (fun i _ ih bs k done e m n r w => AI.rec (motive := fun _ => FC)
      (fun _ => ih bs.tail (Nat.succ k) done e m n r w)
      (fun o => okF (bs.headD 0) k done m n (stepDF P cal e m n o) fun v m n r' w' done => fN (fun r => fN (fun w => ih bs.tail (Nat.succ k) done (v :: e) m n r w) (Nat.lor w w')) (Nat.lor r r'))
      (fun o gi gw => want gw (gl e gi) (okF (bs.headD 0) k done m n (stepDF P cal e m n o) fun v m n r' w' done => fN (fun r => fN (fun w => ih bs.tail (Nat.succ k) done (v :: e) m n r w) (Nat.lor w w')) (Nat.lor r r')) (ih bs.tail (Nat.succ k) done (.o undef :: e) m n r w))
      (fun o => okF (bs.headD 0) k done m n (stepDF P cal e m n o) fun _ m n r' w' done => fN (fun r => fN (fun w => ih bs.tail (Nat.succ k) done e m n r w) (Nat.lor w w')) (Nat.lor r r'))
      (fun o gi gw => want gw (gl e gi) (okF (bs.headD 0) k done m n (stepDF P cal e m n o) fun _ m n r' w' done => fN (fun r => fN (fun w => ih bs.tail (Nat.succ k) done e m n r w) (Nat.lor w w')) (Nat.lor r r')) (ih bs.tail (Nat.succ k) done e m n r w))
      i) l
end
section
variable {P : Program} {cal : FCal} {calA : Nat → List Value → FM → Nat → OR FM}
theorem okF_sim {bef k : Nat} {done : List (Nat × Nat × Nat)} {m : FTr} {n : Nat} {x : FR} {y : OR FM} (h : FSim m n x y) {f : FV → FTr → Nat → Nat → Nat → List (Nat × Nat × Nat) → FC} {g : Value → FM → Nat → Nat → Nat → List (Nat × Nat × Nat) → CR FM}
    (hf : ∀ v m n r w d, CSim (f v m n r w d) (g (toV v) (absM m n) n r w d)) : CSim (okF bef k done m n x f) (okD bef k done y g) := by
  have key : ∀ v m n r w, CSim (Bool.rec (motive := fun _ => FC) (Bool.rec (motive := fun _ => FC) .no (f v m n r w ((k, r, w) :: done)) (apart bef r w done)) (f v m n r w done) (Nat.beq (Nat.lor r w) 0)) (okD bef k done (.ok (toV v) (absM m n) n r w) g) := by
    intro v m n r w
    show CSim _ (forceN r fun r => forceN w fun w => cond (Nat.beq (Nat.lor r w) 0) (g (toV v) (absM m n) n r w done) (cond (apart bef r w done) (g (toV v) (absM m n) n r w ((k, r, w) :: done)) .no))
    rw [forceN_eq, forceN_eq]
    cases Nat.beq (Nat.lor r w) 0
    · cases apart bef r w done
      · trivial
      · exact hf v m n r w _
    · exact hf v m n r w _
  cases x with
  | no => trivial
  | pv v =>
    replace h : y = _ := h
    subst h
    exact key v m n 0 0
  | rd v b =>
    replace h : y = _ := h
    subst h
    have := key v m n (bit b) 0
    show CSim (fN (fun r => Bool.rec (motive := fun _ => FC) (Bool.rec (motive := fun _ => FC) .no (fF (fun v => f v m n r 0 ((k, r, 0) :: done)) v) (apart bef r 0 done)) (f v m n r 0 done) (Nat.beq (Nat.lor r 0) 0)) (bit b)) _
    rw [fN_eq, fF_eq]
    exact this
  | ok v m' n' r w =>
    replace h : y = _ := h
    subst h
    show CSim (fN (fun r => fN (fun w => fN (fun n => Bool.rec (motive := fun _ => FC) (Bool.rec (motive := fun _ => FC) .no (f v m' n r w ((k, r, w) :: done)) (apart bef r w done)) (f v m' n r w done) (Nat.beq (Nat.lor r w) 0)) n') w) r) _
    rw [fN_eq, fN_eq, fN_eq]
    exact key v m' n' r w
theorem stepDF_sim (hcal : CalSim cal calA) (e : List FV) (m : FTr) (n : Nat) (o : AOp) : FSim m n (stepDF P cal e m n o) (stepD P calA (e.map toV) (absM m n) n o) := by
  show FSim m n (Bool.rec (motive := fun _ => FR) .no _ (belowOpsF n e o)) (cond (belowOps n (e.map toV) o) (stepA P calA (e.map toV) (absM m n) n o) .no)
  rw [belowOpsF_eq]
  cases belowOps n (e.map toV) o
  · trivial
  · exact cOp_sim hcal e m n o
theorem opsDF_sim (hcal : CalSim cal calA) : ∀ (l : List AI) (bs : List Nat) (k : Nat) (done : List (Nat × Nat × Nat)) (e : List FV) (m : FTr) (n r w : Nat), CSim (opsDF P l cal bs k done e m n r w) (opsD P calA l bs k done (e.map toV) (absM m n) n r w)
  | [], bs, k, done, e, m, n, r, w => by show doneA (e.map toV) (absM m n) n r w = _; rw [doneA, forceN_eq, forceN_eq]; rfl
  | i :: l, bs, k, done, e, m, n, r, w => by
    have ih := opsDF_sim hcal l
    have h1 : ∀ o, CSim (okF (bs.headD 0) k done m n (stepDF P cal e m n o) fun v m n r' w' done => fN (fun r => fN (fun w => opsDF P l cal bs.tail (Nat.succ k) done (v :: e) m n r w) (Nat.lor w w')) (Nat.lor r r'))
        (okD (bs.headD 0) k done (stepD P calA (e.map toV) (absM m n) n o) fun v m n r' w' done => opsD P calA l bs.tail (Nat.succ k) done (v :: e.map toV) m n (Nat.lor r r') (Nat.lor w w')) := fun o =>
      okF_sim (stepDF_sim hcal e m n o) fun v m n r' w' d => by rw [fN_eq, fN_eq]; exact ih bs.tail (Nat.succ k) d (v :: e) m n _ _
    have h2 : ∀ o, CSim (okF (bs.headD 0) k done m n (stepDF P cal e m n o) fun _ m n r' w' done => fN (fun r => fN (fun w => opsDF P l cal bs.tail (Nat.succ k) done e m n r w) (Nat.lor w w')) (Nat.lor r r'))
        (okD (bs.headD 0) k done (stepD P calA (e.map toV) (absM m n) n o) fun _ m n r' w' done => opsD P calA l bs.tail (Nat.succ k) done (e.map toV) m n (Nat.lor r r') (Nat.lor w w')) := fun o =>
      okF_sim (stepDF_sim hcal e m n o) fun v m n r' w' d => by rw [fN_eq, fN_eq]; exact ih bs.tail (Nat.succ k) d e m n _ _
    cases i with
    | nop i => exact ih bs.tail (Nat.succ k) done e m n r w
    | op o => exact h1 o
    | eff o => exact h2 o
    | opg o gi gw =>
      have h3 : CSim (opsDF P l cal bs.tail (Nat.succ k) done (.o undef :: e) m n r w) (opsD P calA l bs.tail (Nat.succ k) done (undef :: e.map toV) (absM m n) n r w) := ih bs.tail (Nat.succ k) done (.o undef :: e) m n r w
      exact want_sim (gl_eq e gi) (h1 o) h3
    | effg o gi gw => exact want_sim (gl_eq e gi) (h2 o) (ih bs.tail (Nat.succ k) done e m n r w)
end
end Go.Am.V
namespace Go.Am
open Go
section
variable {μ : Type} [AMem μ] {P : Program}
/-- whatever x gives y gives -/
def OLe (x y : OR μ) : Prop := ∀ v m n r w, x = .ok v m n r w → y = .ok v m n r w
def CLe (x y : CR μ) : Prop := ∀ X e m n r w, x = .ok X e m n r w → y = .ok X e m n r w
theorem OLe.refl (x : OR μ) : OLe x x := fun _ _ _ _ _ h => h
theorem CLe.refl (x : CR μ) : CLe x x := fun _ _ _ _ _ _ h => h
theorem OLe.trans {x y z : OR μ} (h : OLe x y) (k : OLe y z) : OLe x z := fun v m n r w e => k v m n r w (h v m n r w e)
theorem CLe.trans {x y z : CR μ} (h : CLe x y) (k : CLe y z) : CLe x z := fun X v m n r w e => k X v m n r w (h X v m n r w e)
theorem OLe.no (y : OR μ) : OLe .no y := fun _ _ _ _ _ h => by cases h
theorem CLe.no (y : CR μ) : CLe .no y := fun _ _ _ _ _ _ h => by cases h
def CalLe (a b : Nat → List Value → μ → Nat → OR μ) : Prop := ∀ f args m n, OLe (a f args m n) (b f args m n)
def RcLe (a b : AC → List Value → μ → Nat → CR μ) : Prop := ∀ c e m n, CLe (a c e m n) (b c e m n)
theorem orRec_le {x y : OR μ} {f g : Value → μ → Nat → Nat → Nat → CR μ} (h : OLe x y) (hf : ∀ v m n r w, CLe (f v m n r w) (g v m n r w)) : CLe (orRec x f) (orRec y g) := by
  cases x with
  | no => exact CLe.no _
  | ok v m n r w => rw [h _ _ _ _ _ rfl]; exact hf v m n r w
theorem crRec_le {x y : CR μ} {f g : AX → List Value → μ → Nat → Nat → Nat → CR μ} (h : CLe x y) (hf : ∀ X e m n r w, CLe (f X e m n r w) (g X e m n r w)) : CLe (crRec x f) (crRec y g) := by
  cases x with
  | no => exact CLe.no _
  | ok X e m n r w => rw [h _ _ _ _ _ _ rfl]; exact hf X e m n r w
theorem cond_cle (b : Bool) {x x' y y' : CR μ} (h : CLe x x') (k : CLe y y') : CLe (cond b x y) (cond b x' y') := by cases b <;> assumption
theorem step_le {a b : Nat → List Value → μ → Nat → OR μ} (h : CalLe a b) (e : List Value) (m : μ) (n : Nat) (o : AOp) : OLe (stepA P a e m n o) (stepA P b e m n o) := by
  cases o
  case call f args => exact h f _ m n
  case callv x args =>
    show OLe (callV a (evs e args) m n (ev e x)) (callV b (evs e args) m n (ev e x))
    generalize ev e x = v
    unfold callV
    split
    · exact h _ _ m n
    · exact OLe.refl _
  all_goals exact OLe.refl _
theorem ops_le {a b : Nat → List Value → μ → Nat → OR μ} (h : CalLe a b) : ∀ (l : List AI) (e : List Value) (m : μ) (n r w : Nat), CLe (opsA P a l e m n r w) (opsA P b l e m n r w)
  | [], e, m, n, r, w => CLe.refl _
  | i :: l, e, m, n, r, w => by
    have ih := ops_le h l
    cases i with
    | nop i => exact ih e m n r w
    | op o => exact orRec_le (step_le h e m n o) fun v m n r' w' => ih _ m n _ _
    | eff o => exact orRec_le (step_le h e m n o) fun v m n r' w' => ih _ m n _ _
    | opg o gi gw => exact cond_cle _ (orRec_le (step_le h e m n o) fun v m n r' w' => ih _ m n _ _) (ih _ m n r w)
    | effg o gi gw => exact cond_cle _ (orRec_le (step_le h e m n o) fun v m n r' w' => ih _ m n _ _) (ih _ m n r w)
theorem okD_le {bef k : Nat} {done : List (Nat × Nat × Nat)} {x y : OR μ} {f g : Value → μ → Nat → Nat → Nat → List (Nat × Nat × Nat) → CR μ} (h : OLe x y) (hf : ∀ v m n r w d, CLe (f v m n r w d) (g v m n r w d)) : CLe (okD bef k done x f) (okD bef k done y g) := by
  refine orRec_le h fun v m n r w => ?_
  rw [forceN_eq, forceN_eq, forceN_eq, forceN_eq]
  exact cond_cle _ (hf v m n r w _) (cond_cle _ (hf v m n r w _) (CLe.refl _))
theorem stepD_le {a b : Nat → List Value → μ → Nat → OR μ} (h : CalLe a b) (e : List Value) (m : μ) (n : Nat) (o : AOp) : OLe (stepD P a e m n o) (stepD P b e m n o) := by
  unfold stepD
  cases belowOps n e o
  · exact OLe.refl _
  · exact step_le h e m n o
theorem opsD_le {a b : Nat → List Value → μ → Nat → OR μ} (h : CalLe a b) : ∀ (l : List AI) (bs : List Nat) (k : Nat) (done : List (Nat × Nat × Nat)) (e : List Value) (m : μ) (n r w : Nat), CLe (opsD P a l bs k done e m n r w) (opsD P b l bs k done e m n r w)
  | [], bs, k, done, e, m, n, r, w => CLe.refl _
  | i :: l, bs, k, done, e, m, n, r, w => by
    have ih := opsD_le h l
    have h1 : ∀ o, CLe (okD (bs.headD 0) k done (stepD P a e m n o) fun v m n r' w' done => opsD P a l bs.tail (Nat.succ k) done (v :: e) m n (Nat.lor r r') (Nat.lor w w'))
        (okD (bs.headD 0) k done (stepD P b e m n o) fun v m n r' w' done => opsD P b l bs.tail (Nat.succ k) done (v :: e) m n (Nat.lor r r') (Nat.lor w w')) := fun o =>
      okD_le (stepD_le h e m n o) fun v m n r' w' d => ih _ _ _ _ m n _ _
    have h2 : ∀ o, CLe (okD (bs.headD 0) k done (stepD P a e m n o) fun _ m n r' w' done => opsD P a l bs.tail (Nat.succ k) done e m n (Nat.lor r r') (Nat.lor w w'))
        (okD (bs.headD 0) k done (stepD P b e m n o) fun _ m n r' w' done => opsD P b l bs.tail (Nat.succ k) done e m n (Nat.lor r r') (Nat.lor w w')) := fun o =>
      okD_le (stepD_le h e m n o) fun v m n r' w' d => ih _ _ _ _ m n _ _
    cases i with
    | nop i => exact ih _ _ _ e m n r w
    | op o => exact h1 o
    | eff o => exact h2 o
    | opg o gi gw => exact cond_cle _ (h1 o) (ih _ _ _ _ m n r w)
    | effg o gi gw => exact cond_cle _ (h2 o) (ih _ _ _ _ m n r w)
theorem call_le {E : Nat → Option AFn} {Y : Nat → List Value → μ → Nat → OR μ} {a b : AC → List Value → μ → Nat → CR μ} (h : RcLe a b) : CalLe (callA E Y a) (callA E Y b) := by
  intro f args m n
  show OLe (Option.rec (motive := fun _ => OR μ) (Y f args m n) (callF a args m n) (E f)) (Option.rec (motive := fun _ => OR μ) (Y f args m n) (callF b args m n) (E f))
  cases E f with
  | none => exact OLe.refl _
  | some fn =>
    show OLe (cond (Nat.beq (llen args) fn.na) (CR.rec (motive := fun _ => OR μ) .no (fun x e m' n' r w => leaveX fn m n e m' n' r w x) (a fn.code args m n)) .no) (cond (Nat.beq (llen args) fn.na) (CR.rec (motive := fun _ => OR μ) .no (fun x e m' n' r w => leaveX fn m n e m' n' r w x) (b fn.code args m n)) .no)
    cases Nat.beq (llen args) fn.na
    · exact OLe.refl _
    · show OLe (CR.rec (motive := fun _ => OR μ) .no (fun x e m' n' r w => leaveX fn m n e m' n' r w x) (a fn.code args m n)) (CR.rec (motive := fun _ => OR μ) .no (fun x e m' n' r w => leaveX fn m n e m' n' r w x) (b fn.code args m n))
      have hc := h fn.code args m n
      cases ha : a fn.code args m n with
      | no => exact OLe.no _
      | ok X e m' n' r w => rw [hc _ _ _ _ _ _ ha]; exact OLe.refl _
theorem addRW_le (r w : Nat) {x y : CR μ} (h : CLe x y) : CLe (addRW r w x) (addRW r w y) := by
  cases x with
  | no => exact CLe.no _
  | ok X e m n r' w' => rw [h _ _ _ _ _ _ rfl]; exact CLe.refl _
theorem onNorm_le {f g : List Value → μ → Nat → CR μ} (h : ∀ e m n, CLe (f e m n) (g e m n)) (X : AX) (e : List Value) (m : μ) (n r w : Nat) : CLe (onNorm f X e m n r w) (onNorm g X e m n r w) := by
  cases X with
  | norm => exact addRW_le r w (h e m n)
  | exit i => exact CLe.refl _
  | ret v => exact CLe.refl _
/-- codes, where calls go to 'cal' and parts to 'rec' -/
noncomputable def execC (P : Program) (cal : Nat → List Value → μ → Nat → OR μ) (rec : AC → List Value → μ → Nat → CR μ) (c : AC) (e : List Value) (m : μ) (n : Nat) : CR μ :=
  AC.casesOn (motive := fun _ => CR μ) c
    (.ok .norm e m n 0 0)
    (fun l => opsA P cal l e m n 0 0)
    (fun l bs => opsD P cal l bs 0 [] e m n 0 0)
    (fun a b => crRec (rec a e m n) (onNorm (rec b)))
    (fun x a b => onCond (rec a e m n) (rec b e m n) (ev e x))
    (fun id _ b => crRec (rec b e m n) (onBlock id))
    (fun sh b => crRec (rec b e m n) (onNorm (rec (.loop sh b))))
    (fun sel d c => rec c (fixE sel d e) m n)
    (fun c sel d => crRec (rec c e m n) (onPost sel d))
    (fun id => .ok (.exit id) e m n 0 0)
    (fun rs => onRet e m n (resA e m n rs))
theorem execF_C (E : Nat → Option AFn) (Y : Nat → List Value → μ → Nat → OR μ) (rec : AC → List Value → μ → Nat → CR μ) (c : AC) (e : List Value) (m : μ) (n : Nat) : execF P E Y rec c e m n = execC P (callA E Y rec) rec c e m n := rfl
theorem execC_le {ca cb : Nat → List Value → μ → Nat → OR μ} {a b : AC → List Value → μ → Nat → CR μ} (hc : CalLe ca cb) (h : RcLe a b) (c : AC) (e : List Value) (m : μ) (n : Nat) : CLe (execC P ca a c e m n) (execC P cb b c e m n) := by
  cases c with
  | skip => exact CLe.refl _
  | reg l => exact ops_le hc l e m n 0 0
  | regD l bs => exact opsD_le hc l bs 0 [] e m n 0 0
  | seq x y => exact crRec_le (h x e m n) fun X e m n r w => onNorm_le (h y) X e m n r w
  | cond o x y =>
    show CLe (onCond (a x e m n) (a y e m n) (ev e o)) (onCond (b x e m n) (b y e m n) (ev e o))
    generalize ev e o = v
    unfold onCond
    split
    · exact cond_cle _ (h x e m n) (h y e m n)
    · exact CLe.refl _
  | block id sh x => exact crRec_le (h x e m n) fun X e m n r w => CLe.refl _
  | loop sh x => exact crRec_le (h x e m n) fun X e m n r w => onNorm_le (h _) X e m n r w
  | pre sel d x => exact h x _ m n
  | post x sel d => exact crRec_le (h x e m n) fun X e m n r w => CLe.refl _
  | exit id => exact CLe.refl _
  | ret rs => exact CLe.refl _
theorem exec_succ {E : Nat → Option AFn} {Y : Nat → List Value → μ → Nat → OR μ} : ∀ k, RcLe (exec P E Y k) (exec P E Y (k + 1))
  | 0 => fun _ _ _ _ => CLe.no _
  | k + 1 => fun c e m n => execC_le (call_le (exec_succ k)) (exec_succ k) c e m n
theorem exec_mono {E : Nat → Option AFn} {Y : Nat → List Value → μ → Nat → OR μ} {k k' : Nat} (h : k ≤ k') : RcLe (exec P E Y k) (exec P E Y k') := by
  induction h with
  | refl => exact fun _ _ _ _ => CLe.refl _
  | step _ ih => exact fun c e m n => (ih c e m n).trans (exec_succ _ c e m n)

/-- the machine with calls of bounded depth: d; each body with fuel K -/
noncomputable def execK (P : Program) (cal : Nat → List Value → μ → Nat → OR μ) (k : Nat) : AC → List Value → μ → Nat → CR μ := Nat.rec (motive := fun _ => AC → List Value → μ → Nat → CR μ) (fun _ _ _ _ => .no) (fun _ ih => execC P cal ih) k
noncomputable def calD (P : Program) (E : Nat → Option AFn) (Y : Nat → List Value → μ → Nat → OR μ) (K : Nat) (d : Nat) : Nat → List Value → μ → Nat → OR μ :=
  Nat.rec (motive := fun _ => Nat → List Value → μ → Nat → OR μ) Y (fun _ ih => callA E Y (execK P ih K)) d
theorem execK_le {E : Nat → Option AFn} {Y : Nat → List Value → μ → Nat → OR μ} {cal : Nat → List Value → μ → Nat → OR μ} {k0 : Nat} (h : CalLe cal (callA E Y (exec P E Y k0))) : ∀ k, RcLe (execK P cal k) (exec P E Y (k0 + k))
  | 0 => fun _ _ _ _ => CLe.no _
  | k + 1 => fun c e m n => execC_le (fun f args m n => (h f args m n).trans (call_le (exec_mono (Nat.le_add_right _ _)) f args m n)) (execK_le h k) c e m n
/-- functions outside the table -/
theorem calD_le {E : Nat → Option AFn} {Y : Nat → List Value → μ → Nat → OR μ} (hY : ∀ f fn, E f = some fn → ∀ args m n, Y f args m n = .no) (K : Nat) : ∀ d, CalLe (calD P E Y K d) (callA E Y (exec P E Y (d * K)))
  | 0 => fun f args m n => by
    show OLe (Y f args m n) (Option.rec (motive := fun _ => OR μ) (Y f args m n) (callF _ args m n) (E f))
    cases hf : E f with
    | none => exact OLe.refl _
    | some fn => rw [hY f fn hf]; exact OLe.no _
  | d + 1 => fun f args m n => by
    have h := execK_le (calD_le hY K d) K
    have e : d * K + K = (d + 1) * K := by rw [Nat.succ_mul]
    rw [e] at h
    exact call_le h f args m n
end
end Go.Am
namespace Go.Am.V
open Go Go.Am Go.Am.Fast

abbrev FRc := AC → List FV → FTr → Nat → FC
/-! ### results -/
noncomputable def fmap1 (e : List FV) (sel : List Nat) (t : List FV) : List FV := List.rec (motive := fun _ => List FV) t (fun i _ r => gl e i :: r) sel
noncomputable def fixF (sel : List Nat) (d : Nat) (e : List FV) : List FV := fmap1 e sel (pdrop e d)
theorem fixF_eq (sel : List Nat) (d : Nat) (e : List FV) : (fixF sel d e).map toV = fixE sel d (e.map toV) := by
  show (fmap1 e sel (pdrop e d)).map toV = lmap (e.map toV) sel (pdrop (e.map toV) d)
  rw [pdrop_map]
  generalize pdrop e d = t
  induction sel with
  | nil => rfl
  | cons i sel ih => show toV (gl e i) :: (fmap1 e sel t).map toV = lget (e.map toV) i :: lmap (e.map toV) sel (t.map toV); rw [ih, gl_eq]
noncomputable def resPF (m : FTr) (n : Nat) (vs : List FV) (r : Nat) (f : Nat → List FV → Option FV) (v : FV) : Option (List FV × Nat) :=
  onP v (fun b o => fcells (gb m n b) (fun c => Option.rec (motive := fun _ => Option (List FV × Nat)) none (fun v => some (v :: vs, Nat.lor r (bit b))) (f o c)) none) none
noncomputable def resOF (e : List FV) (m : FTr) (n : Nat) (vs : List FV) (r : Nat) (x : ROp) : Option (List FV × Nat) :=
  ROp.rec (motive := fun _ => Option (List FV × Nat)) (fun i => some (gl e i :: vs, r)) (fun i => resPF m n vs r (fun o c => pget c o) (gl e i)) (fun i k => resPF m n vs r (fun o c => aggF (pat c o k)) (gl e i)) x
noncomputable def resF (e : List FV) (m : FTr) (n : Nat) (l : List ROp) : Option (List FV × Nat) :=
  List.rec (motive := fun _ => Option (List FV × Nat)) (some ([], 0)) (fun x _ ih => Option.rec (motive := fun _ => Option (List FV × Nat)) none (fun p => resOF e m n p.1 p.2 x) ih) l
def ROk (x : Option (List FV × Nat)) (y : Option (List Value × Nat)) : Prop := ∀ p, x = some p → y = some (p.1.map toV, p.2)
theorem resPF_ok {m : FTr} {n : Nat} {vs : List FV} {r : Nat} {f : Nat → List FV → Option FV} {g : Nat → List Value → Option Value} (hfg : ∀ o c, g o (c.map toV) = (f o c).map toV) {v : FV} {v' : Value} (hv : toV v = v') : ROk (resPF m n vs r f v) (resP (absM m n) n (vs.map toV) r g v') := by
  subst hv
  intro p h
  cases v with
  | p b o =>
    replace h : fcells (gb m n b) (fun c => Option.rec (motive := fun _ => Option (List FV × Nat)) none (fun v => some (v :: vs, Nat.lor r (bit b))) (f o c)) none = some p := h
    show resC (vs.map toV) r b (g o) (getb (absM m n) n b) = _
    rw [gb_eq]
    cases hg : gb m n b with
    | none => rw [hg] at h; cases h
    | some x =>
      obtain ⟨c, sz, opn, wr⟩ := x
      rw [hg] at h
      replace h : Option.rec (motive := fun _ => Option (List FV × Nat)) none (fun v => some (v :: vs, Nat.lor r (bit b))) (f o c) = some p := h
      show Option.rec (motive := fun _ => Option (List Value × Nat)) none (fun v => some (v :: vs.map toV, Nat.lor r (bit b))) (g o (c.map toV)) = _
      rw [hfg]
      cases hc : f o c with
      | none => rw [hc] at h; cases h
      | some v => rw [hc] at h; injection h with h; subst h; rfl
  | _ => cases h
theorem resOF_ok {e : List FV} {m : FTr} {n : Nat} {vs : List FV} {r : Nat} {x : ROp} : ROk (resOF e m n vs r x) (resO (e.map toV) (absM m n) n (vs.map toV) r x) := by
  cases x with
  | v i =>
    intro p h
    injection h with h; subst h
    show some (lget (e.map toV) i :: vs.map toV, r) = _
    rw [← gl_eq]; rfl
  | cell i => exact resPF_ok (fun o c => pget_map toV c o) (gl_eq e i)
  | cells i k => exact resPF_ok (fun o c => by show aggO (pat (c.map toV) o k) = _; rw [pat_map]; cases pat c o k <;> rfl) (gl_eq e i)
theorem resF_ok {e : List FV} {m : FTr} {n : Nat} : ∀ (l : List ROp), ROk (resF e m n l) (resA (e.map toV) (absM m n) n l)
  | [] => fun p h => by injection h with h; subst h; rfl
  | x :: l => by
    intro p h
    replace h : Option.rec (motive := fun _ => Option (List FV × Nat)) none (fun p => resOF e m n p.1 p.2 x) (resF e m n l) = some p := h
    show Option.rec (motive := fun _ => Option (List Value × Nat)) none (fun p => resO (e.map toV) (absM m n) n p.1 p.2 x) (resA (e.map toV) (absM m n) n l) = _
    cases hr : resF e m n l with
    | none => rw [hr] at h; cases h
    | some q =>
      rw [hr] at h
      rw [resF_ok l q hr]
      exact resOF_ok p h
noncomputable def retF (l : List FV) : FV :=
  List.rec (motive := fun _ => FV) (.o (.tuple #[])) (fun x t _ => List.rec (motive := fun _ => FV) x (fun y t _ => .o (.tuple ((x :: y :: t).map toV).toArray)) t) l
theorem retF_eq (l : List FV) : toV (retF l) = retV (l.map toV) := by
  rcases l with _ | ⟨x, _ | ⟨y, t⟩⟩ <;> rfl

/-! ### calls -/
noncomputable def freeF (v : FV) : Bool := FV.rec (motive := fun _ => Bool) (fun _ => true) (fun _ => true) (fun _ _ => false) (fun _ _ _ _ => false) addrFree v
theorem freeF_eq (v : FV) : freeF v = addrFree (toV v) := by cases v <;> rfl
noncomputable def leaveAF (m0 : FTr) (n0 : Nat) (v : FV) (m : FTr) (n r w : Nat) : FR :=
  Bool.rec (motive := fun _ => FR) (.ok v m n r w) (fN (fun r => .ok v m0 n0 r 0) (Nat.mod r (bit n0))) (freeF v && Nat.beq (Nat.mod w (bit n0)) 0)
theorem leaveAF_sim {m m0 m1 : FTr} {n n0 n1 : Nat} {v : FV} {r w : Nat} : FSim m1 n1 (leaveAF m0 n0 v m n r w) (leaveA (absM m0 n0) n0 (toV v) (absM m n) n r w) := by
  show FSim m1 n1 (Bool.rec (motive := fun _ => FR) (.ok v m n r w) (fN (fun r => .ok v m0 n0 r 0) (Nat.mod r (bit n0))) (freeF v && Nat.beq (Nat.mod w (bit n0)) 0)) (cond (addrFree (toV v) && Nat.beq (Nat.mod w (bit n0)) 0) (forceN (Nat.mod r (bit n0)) fun r => .ok (toV v) (absM m0 n0) n0 r 0) (.ok (toV v) (absM m n) n r w))
  rw [freeF_eq, fN_eq, forceN_eq]
  cases (addrFree (toV v) && Nat.beq (Nat.mod w (bit n0)) 0) <;> rfl
noncomputable def leaveXF (fn : AFn) (m0 : FTr) (n0 : Nat) (x : FC) : FR :=
  FC.rec (motive := fun _ => FR) .no (fun X e m n r w => FAX.rec (motive := fun _ => FR) (Option.rec (motive := fun _ => FR) .no (fun p => leaveAF m0 n0 (retF p.1) m n (Nat.lor r p.2) w) (resF e m n (AFn.rec (motive := fun _ => List ROp) (fun _ rs _ => rs) fn))) (fun _ => .no) (fun v => leaveAF m0 n0 v m n r w) X) x
noncomputable def callFF (rec : FRc) (args : List FV) (m : FTr) (n : Nat) (fn : AFn) : FR :=
  AFn.rec (motive := fun _ => FR) (fun na rs code => Bool.rec (motive := fun _ => FR) .no (leaveXF ⟨na, rs, code⟩ m n (rec code args m n)) (Nat.beq (plen args) na)) fn
noncomputable def calFF (E : Nat → Option AFn) (Yf : FCal) (rec : FRc) : FCal := fun f args m n => Option.rec (motive := fun _ => FR) (Yf f args m n) (callFF rec args m n) (E f)
def RcSim (rec : FRc) (recA : AC → List Value → FM → Nat → CR FM) : Prop := ∀ c e m n, CSim (rec c e m n) (recA c (e.map toV) (absM m n) n)
theorem calFF_sim {E : Nat → Option AFn} {Yf : FCal} {Y : Nat → List Value → FM → Nat → OR FM} {rec : FRc} {recA : AC → List Value → FM → Nat → CR FM} (hY : CalSim Yf Y) (hrec : RcSim rec recA) : CalSim (calFF E Yf rec) (callA E Y recA) := by
  intro f args m n
  show FSim m n (Option.rec (motive := fun _ => FR) (Yf f args m n) (callFF rec args m n) (E f)) (Option.rec (motive := fun _ => OR FM) (Y f (args.map toV) (absM m n) n) (callF recA (args.map toV) (absM m n) n) (E f))
  cases E f with
  | none => exact hY f args m n
  | some fn =>
    obtain ⟨na, rs, code⟩ := fn
    show FSim m n (Bool.rec (motive := fun _ => FR) .no (leaveXF ⟨na, rs, code⟩ m n (rec code args m n)) (Nat.beq (plen args) na)) (cond (Nat.beq (plen (args.map toV)) na) (CR.rec (motive := fun _ => OR FM) .no (fun x e m' n' r w => leaveX ⟨na, rs, code⟩ (absM m n) n e m' n' r w x) (recA code (args.map toV) (absM m n) n)) .no)
    rw [plen_map]
    cases Nat.beq (plen args) na
    · trivial
    · have h := hrec code args m n
      cases hx : rec code args m n with
      | no => exact fsim_no
      | ok X e m' n' r w =>
        rw [hx] at h
        replace h : recA code (args.map toV) (absM m n) n = .ok (toX X) (e.map toV) (absM m' n') n' r w := h
        rw [h]
        cases X with
        | norm =>
          show FSim m n (Option.rec (motive := fun _ => FR) .no (fun p => leaveAF m n (retF p.1) m' n' (Nat.lor r p.2) w) (resF e m' n' rs)) (leaveO (absM m n) n (absM m' n') n' r w (resA (e.map toV) (absM m' n') n' rs))
          cases hr : resF e m' n' rs with
          | none => exact fsim_no
          | some p =>
            rw [resF_ok rs p hr]
            show FSim m n (leaveAF m n (retF p.1) m' n' (Nat.lor r p.2) w) (leaveA (absM m n) n (retV (p.1.map toV)) (absM m' n') n' (Nat.lor r p.2) w)
            rw [← retF_eq]
            exact leaveAF_sim
        | exit i => exact fsim_no
        | ret v => exact leaveAF_sim

/-! ### codes -/
abbrev FX0 := FCal → FRc → List FV → FTr → Nat → FC
inductive FX where
  | mk (f : FX0)
noncomputable def FX.run (x : FX) : FX0 := FX.rec (motive := fun _ => FX0) (fun f => f) x
noncomputable def faddRW (r w : Nat) (x : FC) : FC := FC.rec (motive := fun _ => FC) .no (fun X e m n r' w' => fN (fun r => fN (fun w => .ok X e m n r w) (Nat.lor w w')) (Nat.lor r r')) x
noncomputable def fseqK (rec : FRc) (b : AC) (x : FC) : FC :=
  FC.rec (motive := fun _ => FC) .no (fun X e m n r w => FAX.rec (motive := fun _ => FC) (faddRW r w (rec b e m n)) (fun i => .ok (.exit i) e m n r w) (fun v => .ok (.ret v) e m n r w) X) x
noncomputable def fblockK (id : Nat) (x : FC) : FC :=
  FC.rec (motive := fun _ => FC) .no (fun X e m n r w => FAX.rec (motive := fun _ => FC) (.ok .norm e m n r w) (fun i => Bool.rec (motive := fun _ => FC) (.ok (.exit i) e m n r w) (.ok .norm e m n r w) (Nat.beq i id)) (fun v => .ok (.ret v) e m n r w) X) x
noncomputable def fpostK (sel : List Nat) (d : Nat) (x : FC) : FC :=
  FC.rec (motive := fun _ => FC) .no (fun X e m n r w => FAX.rec (motive := fun _ => FC) (.ok .norm (fixF sel d e) m n r w) (fun i => .ok (.exit i) e m n r w) (fun v => .ok (.ret v) e m n r w) X) x
noncomputable def fretK (e : List FV) (m : FTr) (n : Nat) (x : Option (List FV × Nat)) : FC := Option.rec (motive := fun _ => FC) .no (fun p => fF (fun v => .ok (.ret v) e m n p.2 0) (retF p.1)) x
noncomputable def cAC (P : Program) (c : AC) : FX :=
  AC.casesOn (motive := fun _ => Program → FX) c
    (fun _ => .mk fun _ _ e m n => .ok .norm e m n 0 0)
    (fun l P => .mk fun cal _ e m n => (cOps P l).run cal e m n 0 0)
    (fun l bs P => .mk fun cal _ e m n => opsDF P l cal bs 0 [] e m n 0 0)
    (fun a b _ => .mk fun _ rec e m n => fseqK rec b (rec a e m n))
    (fun x a b _ => .mk fun _ rec e m n => onB (gv e x) (rec a e m n) (rec b e m n) .no)
    (fun id _ b _ => .mk fun _ rec e m n => fblockK id (rec b e m n))
    (fun sh b _ => .mk fun _ rec e m n => fseqK rec (.loop sh b) (rec b e m n))
    (fun sel d c _ => .mk fun _ rec e m n => rec c (fixF sel d e) m n)
    (fun c sel d _ => .mk fun _ rec e m n => fpostK sel d (rec c e m n))
    (fun id _ => .mk fun _ _ e m n => .ok (.exit id) e m n 0 0)
    (fun rs _ => .mk fun _ _ e m n => fretK e m n (resF e m n rs))
    P
noncomputable def fexecK (P : Program) (cal : FCal) (k : Nat) : FRc :=
  Nat.rec (motive := fun _ => FRc) (fun _ _ _ _ => .no) (fun _ ih c => (cAC P c).run cal ih) k
theorem faddRW_sim {r w : Nat} {x : FC} {y : CR FM} (h : CSim x y) : CSim (faddRW r w x) (addRW r w y) := by
  cases x with
  | no => trivial
  | ok X e m n r' w' =>
    replace h : y = _ := h
    subst h
    show CSim (fN (fun r => fN (fun w => .ok X e m n r w) (Nat.lor w w')) (Nat.lor r r')) _
    rw [fN_eq, fN_eq]; rfl
theorem fseqK_sim {rec : FRc} {recA : AC → List Value → FM → Nat → CR FM} (hrec : RcSim rec recA) {b : AC} {x : FC} {y : CR FM} (h : CSim x y) : CSim (fseqK rec b x) (crRec y (onNorm (recA b))) := by
  cases x with
  | no => trivial
  | ok X e m n r w =>
    replace h : y = _ := h
    subst h
    cases X with
    | norm => exact faddRW_sim (hrec b e m n)
    | exit i => rfl
    | ret v => rfl
theorem fexecK_sim {P : Program} {cal : FCal} {calA : Nat → List Value → FM → Nat → OR FM} (hcal : CalSim cal calA) : ∀ k, RcSim (fexecK P cal k) (execK P calA k)
  | 0 => fun _ _ _ _ => csim_no
  | k + 1 => by
    have ih := fexecK_sim (P := P) hcal k
    intro c e m n
    cases c with
    | skip => rfl
    | reg l => exact cOps_sim hcal l e m n 0 0
    | regD l bs => exact opsDF_sim hcal l bs 0 [] e m n 0 0
    | seq a b => exact fseqK_sim ih (ih a e m n)
    | cond x a b =>
      show CSim (onB (gv e x) (fexecK P cal k a e m n) (fexecK P cal k b e m n) .no) (onCond (execK P calA k a (e.map toV) (absM m n) n) (execK P calA k b (e.map toV) (absM m n) n) (ev (e.map toV) x))
      rw [← gv_eq]
      cases gv e x with
      | b t =>
        cases t
        · exact ih b e m n
        · exact ih a e m n
      | _ => exact csim_no
    | block id sh b =>
      have h := ih b e m n
      show CSim (fblockK id (fexecK P cal k b e m n)) (crRec (execK P calA k b (e.map toV) (absM m n) n) (onBlock id))
      cases hx : fexecK P cal k b e m n with
      | no => exact csim_no
      | ok X e m n r w =>
        rw [hx] at h
        replace h : execK P calA k b _ _ _ = _ := h
        rw [h]
        cases X with
        | norm => rfl
        | exit i =>
          show CSim (Bool.rec (motive := fun _ => FC) _ _ (Nat.beq i id)) (cond (Nat.beq i id) _ _)
          cases Nat.beq i id <;> rfl
        | ret v => rfl
    | loop sh b => exact fseqK_sim ih (ih b e m n)
    | pre sel d c =>
      show CSim (fexecK P cal k c (fixF sel d e) m n) (execK P calA k c (fixE sel d (e.map toV)) (absM m n) n)
      rw [← fixF_eq]
      exact ih c _ m n
    | post c sel d =>
      have h := ih c e m n
      show CSim (fpostK sel d (fexecK P cal k c e m n)) (crRec (execK P calA k c (e.map toV) (absM m n) n) (onPost sel d))
      cases hx : fexecK P cal k c e m n with
      | no => exact csim_no
      | ok X e m n r w =>
        rw [hx] at h
        replace h : execK P calA k c _ _ _ = _ := h
        rw [h]
        cases X with
        | norm => show CR.ok _ (fixE sel d (e.map toV)) _ _ _ _ = _; rw [← fixF_eq]; rfl
        | exit i => rfl
        | ret v => rfl
    | exit id => rfl
    | ret rs =>
      show CSim (fretK e m n (resF e m n rs)) (onRet (e.map toV) (absM m n) n (resA (e.map toV) (absM m n) n rs))
      cases hr : resF e m n rs with
      | none => exact csim_no
      | some p =>
        rw [resF_ok rs p hr]
        show CSim (fF (fun v => .ok (.ret v) e m n p.2 0) (retF p.1)) _
        rw [fF_eq]
        show onRet _ _ _ _ = CR.ok (.ret (toV (retF p.1))) _ _ _ _ _
        rw [retF_eq]; rfl

/-- calls of bounded depth -/
noncomputable def fcalD (P : Program) (E : Nat → Option AFn) (Yf : FCal) (K : Nat) (d : Nat) : FCal :=
  Nat.rec (motive := fun _ => FCal) Yf (fun _ ih => calFF E Yf (fexecK P ih K)) d
theorem fcalD_sim {P : Program} {E : Nat → Option AFn} {Yf : FCal} {Y : Nat → List Value → FM → Nat → OR FM} (hY : CalSim Yf Y) (K : Nat) : ∀ d, CalSim (fcalD P E Yf K d) (calD P E Y K d)
  | 0 => hY
  | d + 1 => calFF_sim hY (fexecK_sim (fcalD_sim hY K d) K)
/-- the call of a function by the fast machine -/
noncomputable def fcall (P : Program) (t : Tr AFn) (Yf : FCal) (K d f : Nat) (args : List FV) (m : FTr) (n : Nat) : FR := fcalD P (lookT t) Yf K d f args m n
/-- functions of the table have no contract -/
def Apart (l : List (Nat × AFn)) (Y : Nat → List Value → FM → Nat → OR FM) : Prop := ∀ f fn, look l f = some fn → ∀ args m n, Y f args m n = .no
theorem fcall_sim {P : Program} {l : List (Nat × AFn)} (hl : (l.all fun p => Nat.blt p.1 256) = true) {Yf : FCal} {Y : Nat → List Value → FM → Nat → OR FM} (hY : CalSim Yf Y) (hA : Apart l Y) (K d f : Nat) (args : List FV) (m : FTr) (n : Nat) :
    ∃ k, ∀ v m' n' r w, fcall P (treeOf l) Yf K d f args m n = .ok v m' n' r w → callA (look l) Y (exec P (look l) Y k) f (args.map toV) (absM m n) n = .ok (toV v) (absM m' n') n' r w := by
  refine ⟨d * K, fun v m' n' r w h => ?_⟩
  have hs := fcalD_sim (P := P) (E := look l) hY K d f args m n
  unfold fcall at h
  rw [lookT_look hl] at h
  rw [h] at hs
  exact calD_le hA K d f (args.map toV) (absM m n) n _ _ _ _ _ hs
end Go.Am.V
namespace Go.Am
open Go Go.RowKit
section
variable {μ : Type} [AMem μ] {ρ : Ren} {V : Nat → Option Blk} {w w' : World} {B : Nat}

theorem Post.of_below {n : Nat} {m : μ} (hm : MRel ρ V w B) (hb : Below w.heap.size w w') : Post ρ V w B n m n 0 ρ w' :=
  ⟨Ren.le_refl ρ, fun _ _ h => .inl h, by
    rw [upd_zero]
    exact ⟨fun b p O hp hO => (hm.blk b p O hp hO).mono (Ren.le_refl ρ) (hb.block _ (hm.fresh b p hp)), hm.excl, fun b p hp => Nat.lt_of_lt_of_le (hm.fresh b p hp) hb.size, Nat.le_trans hm.le hb.size⟩,
    hb.mono hm.le, Nat.le_refl _, fun k hk _ => hb.block k hk, fun _ _ h => .inl h, fun b h => by simp at h⟩

end
end Go.Am
namespace Go.Am.V
open Go Go.Am Go.Am.Fast

noncomputable def rn (f : Nat → Nat) (v : FV) : FV := FV.rec (motive := fun _ => FV) (fun z => .i z) (fun t => .b t) (fun b o => .p (f b) o) (fun b o l c => .s (f b) o l c) (fun v => .o v) v
noncomputable def leaf (k : Nat) (v : FV) : Bool := FV.rec (motive := fun _ => Bool) (fun _ => true) (fun _ => true) (fun b _ => Nat.blt b k) (fun b _ _ _ => Nat.blt b k) addrFree v
theorem leaf_rel {ρ1 ρ' : Ren} {f g : Nat → Nat} {k : Nat} {v : FV} {y : Value} (hv : leaf k v = true) (h : ∀ b p, b < k → ρ1 (f b) = some p → ρ' (g b) = some p) (hr : VRel ρ1 (toV (rn f v)) y) : VRel ρ' (toV (rn g v)) y := by
  cases v with
  | i z => rw [hr.flat_eq rfl]; exact .int _ _ _
  | b t => rw [hr.flat_eq rfl]; exact .bool _ _
  | p b o =>
    replace hr : VRel ρ1 (.pointer (some ⟨f b, o, none⟩)) y := hr
    cases hr with
    | flat hf => simp [flat] at hf
    | ptr hp => exact .ptr (h b _ (Nat.le_of_ble_eq_true hv) hp)
  | s b o l c =>
    replace hr : VRel ρ1 (.slice (some ⟨f b, o, none⟩) l c) y := hr
    cases hr with
    | flat hf => simp [flat] at hf
    | slice hp hn hu hk hq => exact .slice (h b _ (Nat.le_of_ble_eq_true hv) hp) hn hu hk hq
    | vag => exact .vag
  | o v =>
    replace hv : addrFree v = true := hv
    replace hr : VRel ρ1 v y := hr
    rw [hr.free_eq hv]
    exact addrFree_rel _ hv

noncomputable def rnB (f : Nat → Nat) (x : FBlk) : FBlk := FBlk.rec (motive := fun _ => FBlk) (fun c sz opn wr => ⟨pmap (rn f) c, sz, opn, wr⟩) x
/-- blocks laid one behind the other: n0: the first one's number -/
noncomputable def layF (f : Nat → Nat) (bs : List FBlk) : FTr → FTr := List.rec (motive := fun _ => FTr → FTr) (fun m => m) (fun b _ ih m => ih (some (rnB f b) :: m)) bs
noncomputable def layA (f : Nat → Nat) (bs : List FBlk) : Nat → FM → FM := List.rec (motive := fun _ => Nat → FM → FM) (fun _ m => m) (fun b _ ih n m => ih (n + 1) (AMem.put m n (some (toB (rnB f b))))) bs
theorem lay_abs (f : Nat → Nat) : ∀ (bs : List FBlk) (m : FTr) (n : Nat), absM (layF f bs m) (n + bs.length) = layA f bs n (absM m n)
  | [], m, n => rfl
  | b :: bs, m, n => by
    show absM (layF f bs (some (rnB f b) :: m)) (n + (bs.length + 1)) = layA f bs (n + 1) (AMem.put (absM m n) n (some (toB (rnB f b))))
    have e : n + (bs.length + 1) = (n + 1) + bs.length := by omega
    rw [e, lay_abs f bs (some (rnB f b) :: m) (n + 1)]
    congr 1
    exact absM_new
theorem layA_get (f : Nat → Nat) : ∀ (bs : List FBlk) (m : FM) (n j : Nat), layA f bs n m j = if n ≤ j ∧ j < n + bs.length then (bs[j - n]?).map (fun b => toB (rnB f b)) else m j
  | [], m, n, j => by
    rw [if_neg (by intro h; have := h.2; simp at this; omega)]; rfl
  | b :: bs, m, n, j => by
    show layA f bs (n + 1) (AMem.put m n (some (toB (rnB f b)))) j = _
    rw [layA_get f bs _ (n + 1) j]
    by_cases h1 : n + 1 ≤ j ∧ j < n + 1 + bs.length
    · rw [if_pos h1, if_pos (by simp; omega)]
      have e : j - n = (j - (n + 1)) + 1 := by omega
      rw [e]; rfl
    · rw [if_neg h1]
      show (if j = n then some (toB (rnB f b)) else m j) = _
      by_cases h2 : j = n
      · subst h2
        rw [if_pos rfl, if_pos (by simp), Nat.sub_self]; rfl
      · rw [if_neg h2, if_neg (by simp; omega)]

/-- what a closed run gave: results (leaves), blocks, where the blocks lie in the run -/
structure Memo where
  f : Nat
  args : List Value
  rs : List FV
  bs : List FBlk
  pi : List Nat
  ag : Bool := false
/-- the result: a struct, or what a return hands back -/
def mres (M : Memo) (l : List Value) : Value := cond M.ag (.agg l.toArray) (retV l)
noncomputable def newW (n len : Nat) : Nat := Nat.shiftLeft (Nat.sub (Nat.pow 2 len) 1) n
theorem newW_test (n len b : Nat) : (newW n len).testBit b = (decide (n ≤ b) && decide (b < n + len)) := by
  show (((2 ^ len - 1) <<< n).testBit b) = _
  rw [Nat.testBit_shiftLeft, Nat.testBit_two_pow_sub_one, Bool.eq_iff_iff]
  simp
  omega
noncomputable def memoA (M : Memo) (f : Nat) (args : List Value) (m : FM) (n : Nat) : OR FM :=
  cond (Nat.beq f M.f && veqL args M.args) (.ok (mres M ((M.rs.map (rn (fun b => n + b))).map toV)) (layA (fun b => n + b) M.bs n m) (n + M.bs.length) 0 (newW n M.bs.length)) .no
noncomputable def pif (l : List Nat) (b : Nat) : Nat := Option.rec (motive := fun _ => Nat) 0 (fun x => x) (pget l b)
theorem pget_eq {α : Type} (l : List α) (i : Nat) : pget l i = l[i]? := by
  induction l generalizing i with
  | nil => rfl
  | cons x l ih => cases i with
    | zero => rfl
    | succ i => show pget l i = _; rw [ih]; simp
theorem pif_lt {l : List Nat} {b : Nat} (h : b < l.length) : pif l b = l[b] := by
  unfold pif; rw [pget_eq, List.getElem?_eq_getElem h]

/-- the closed run fits the memo -/
structure Fits (M : Memo) (v : Value) (m : FM) (w : Nat) : Prop where
  res : v = mres M ((M.rs.map (rn (pif M.pi))).map toV)
  leafs : M.rs.all (leaf M.bs.length) = true
  len : M.pi.length = M.bs.length
  nodup : M.pi.Nodup
  blk : ∀ i b, M.bs[i]? = some b → m (pif M.pi i) = some (toB (rnB (pif M.pi) b)) ∧ b.c.all (leaf M.bs.length) = true ∧ w.testBit (pif M.pi i) = true
section
variable {P : Program}
theorem rnB_cells (f : Nat → Nat) (b : FBlk) : toB (rnB f b) = .cells ((b.c.map (rn f)).map toV) b.sz b.opn b.wr := by
  obtain ⟨c, sz, opn, wr⟩ := b
  show Blk.cells ((pmap (rn f) c).map toV) sz opn wr = _
  rw [pmap_eq]
theorem retV_rel {ρ ρ' : Ren} {f g : Nat → Nat} {k : Nat} {rs : List FV} (hl : rs.all (leaf k) = true) (h : ∀ b p, b < k → ρ (f b) = some p → ρ' (g b) = some p) {y : Value} (hr : VRel ρ (retV ((rs.map (rn f)).map toV)) y) : VRel ρ' (retV ((rs.map (rn g)).map toV)) y := by
  have hmany : ∀ (l : List FV) (y : Value), l.all (leaf k) = true → VRel ρ (.tuple ((l.map (rn f)).map toV).toArray) y → VRel ρ' (.tuple ((l.map (rn g)).map toV).toArray) y := by
    intro l y hl hr
    cases hr with
    | flat hf => simp [flat] at hf
    | tuple h1 h2 =>
      rename_i a'
      refine .tuple (by simpa using h1) fun i x z hx hz => ?_
      simp only [List.getElem?_toArray, List.getElem?_map, Option.map_eq_some_iff] at hx
      obtain ⟨x1, ⟨x2, hx2, rfl⟩, rfl⟩ := hx
      refine leaf_rel (List.all_eq_true.1 hl _ (List.mem_of_getElem? hx2)) h (h2 i (toV (rn f x2)) z ?_ hz)
      simp [hx2]
  rcases rs with _ | ⟨x, _ | ⟨x2, t⟩⟩
  · exact hmany [] y rfl hr
  · simp only [List.all_cons, List.all_nil, Bool.and_true] at hl
    exact leaf_rel hl h hr
  · exact hmany (x :: x2 :: t) y hl hr

theorem mres_rel {M : Memo} {ρ ρ' : Ren} {f g : Nat → Nat} {k : Nat} {rs : List FV} (hl : rs.all (leaf k) = true) (h : ∀ b p, b < k → ρ (f b) = some p → ρ' (g b) = some p) {y : Value} (hr : VRel ρ (mres M ((rs.map (rn f)).map toV)) y) : VRel ρ' (mres M ((rs.map (rn g)).map toV)) y := by
  unfold mres at hr ⊢
  cases hg : M.ag
  · rw [hg] at hr; exact retV_rel hl h hr
  · rw [hg] at hr
    replace hr : VRel ρ (.agg ((rs.map (rn f)).map toV).toArray) y := hr
    show VRel ρ' (.agg ((rs.map (rn g)).map toV).toArray) y
    cases hr with
    | flat hf => simp [flat] at hf
    | agg h1 h2 =>
      rename_i a'
      refine .agg (by simpa using h1) fun i x z hx hz => ?_
      simp only [List.getElem?_toArray, List.getElem?_map, Option.map_eq_some_iff] at hx
      obtain ⟨x1, ⟨x2, hx2, rfl⟩, rfl⟩ := hx
      refine leaf_rel (List.all_eq_true.1 hl _ (List.mem_of_getElem? hx2)) h (h2 i (toV (rn f x2)) z ?_ hz)
      simp [hx2]

theorem memo_loc (M : Memo) : CallLoc (memoA M) := by
  intro f args m n v m' n' r wm h
  unfold memoA at h
  cases hc : (Nat.beq f M.f && veqL args M.args)
  · rw [hc] at h; cases h
  · rw [hc] at h
    injection h with h1 h2 h3 h4 h5
    subst h2; subst h3; subst h5
    refine ⟨Nat.le_add_right _ _, fun b hb => ?_, fun b h1 h2 => by rw [newW_test]; simp; omega⟩
    rw [newW_test] at hb
    show layA _ M.bs n m b = m b
    rw [layA_get, if_neg]
    intro hh
    simp at hb
    omega

theorem memo_sim {M : Memo} (hflat : M.args.all flat = true) {rec0 : Nat → List Value → FM → Nat → OR FM} (hsim : CallSim P rec0) {m0 : FM} {v : Value} {m1 : FM} {n1 r1 w1 : Nat} (hrun : rec0 M.f M.args m0 0 = .ok v m1 n1 r1 w1) (hfit : Fits M v m1 w1) : CallSim P (memoA M) := by
  intro f args m n v2 m' n' r wm h ρ V w B F args' hargs hF hag hm hfree
  unfold memoA at h
  cases hc : (Nat.beq f M.f && veqL args M.args)
  · rw [hc] at h; cases h
  rw [hc] at h
  rw [Bool.and_eq_true] at hc
  obtain rfl := Nat.eq_of_beq_eq_true hc.1
  obtain rfl := veqL_eq hc.2
  injection h with e1 e2 e3 e4 e5
  subst e1; subst e2; subst e3; subst e4; subst e5
  obtain ⟨hen, hcall⟩ := hsim M.f M.args m0 0 v m1 n1 r1 w1 hrun (fun _ => none) (fun _ => none) w w.heap.size (Nat.lor r1 w1) args' (by
      refine ⟨hargs.1, fun i x y hx hy => ?_⟩
      have hf : flat x = true := List.all_eq_true.1 hflat _ (List.mem_of_getElem? hx)
      rw [(hargs.2 i x y hx hy).flat_eq hf]
      exact .flat hf) (Sub.refl _) (fun b hb => by omega) (mrel_none w) (fun _ _ => rfl)
  refine ⟨hen, hcall.mono ?_⟩
  rintro e w' ⟨ρ1, v1, rfl, hv1, hp1⟩
  -- the new places
  obtain ⟨ρ', hρ'⟩ : ∃ ρ' : Ren, ρ' = fun b => if b < n then ρ b else if b < n + M.bs.length then ρ1 (pif M.pi (b - n)) else none := ⟨_, rfl⟩
  have hold : ∀ b, b < n → ρ' b = ρ b := fun b hb => by rw [hρ']; simp [hb]
  have hnew : ∀ i, i < M.bs.length → ρ' (n + i) = ρ1 (pif M.pi i) := fun i hi => by
    rw [hρ']
    have e : n + i - n = i := by omega
    simp only [if_neg (show ¬ n + i < n by omega), if_pos (show n + i < n + M.bs.length by omega), e]
  have hout : ∀ b, n + M.bs.length ≤ b → ρ' b = none := fun b hb => by
    rw [hρ']; simp only [if_neg (show ¬ b < n by omega), if_neg (show ¬ b < n + M.bs.length by omega)]
  have hle : ρ.le ρ' := fun b p hb => by
    by_cases hbn : b < n
    · rw [hold b hbn]; exact hb
    · rw [hfree b (by omega)] at hb; cases hb
  have hfresh1 : ∀ b p, ρ1 b = some p → w.heap.size ≤ p.blk := fun b p hb => by
    rcases hp1.newp b p hb with h1 | h1 | ⟨_, _, h1, _⟩
    · cases h1
    · exact h1
    · cases h1
  have hren : ∀ b p, ρ1 (pif M.pi b) = some p → b < M.bs.length → ρ' (n + b) = some p := fun b p hb hlt => by rw [hnew b hlt]; exact hb
  have hup : ∀ i b, M.bs[i]? = some b → upd (fun _ => none) w1 m1 (pif M.pi i) = some (toB (rnB (pif M.pi) b)) := fun i b hb => by
    obtain ⟨h1, _, h3⟩ := hfit.blk i b hb
    unfold upd; rw [h3]; exact h1
  have hren' : ∀ b p, b < M.bs.length → ρ1 (pif M.pi b) = some p → ρ' (n + b) = some p := fun b p hb h => hren b p h hb
  have hinv : ∀ b p, ρ' b = some p → (b < n ∧ ρ b = some p) ∨ (∃ i, i < M.bs.length ∧ b = n + i ∧ ρ1 (pif M.pi i) = some p) := fun b p hb => by
    by_cases h1 : b < n
    · exact .inl ⟨h1, by rw [← hold b h1]; exact hb⟩
    · by_cases h2 : b < n + M.bs.length
      · refine .inr ⟨b - n, by omega, by omega, ?_⟩
        rw [← hnew (b - n) (by omega), ← hb]; congr 1; omega
      · rw [hout b (by omega)] at hb; cases hb
  have hupo : ∀ b, b < n → upd V (newW n M.bs.length) (layA (fun b => n + b) M.bs n m) b = V b := fun b hb => by
    unfold upd
    rw [newW_test, if_neg (by simp; omega)]
  have hupn : ∀ i b, M.bs[i]? = some b → upd V (newW n M.bs.length) (layA (fun b => n + b) M.bs n m) (n + i) = some (toB (rnB (fun b => n + b) b)) := fun i b hb => by
    have hi : i < M.bs.length := (List.getElem?_eq_some_iff.1 hb).1
    have e : n + i - n = i := by omega
    unfold upd
    rw [newW_test, if_pos (by simp; omega)]
    show layA _ M.bs n m (n + i) = _
    rw [layA_get, if_pos (by omega), e, hb]; rfl
  have hwr : ∀ (f : Nat → Nat) (b : FBlk), (toB (rnB f b)).wr = b.wr := fun f b => by rw [rnB_cells]; rfl
  refine ⟨ρ', v1, rfl, mres_rel hfit.leafs hren' (hfit.res ▸ hv1), hle, fun b p hb => ?_, ⟨fun b p O hb hO => ?_, fun b1 b2 p1 p2 O1 O2 h1 h2 hO1 hO2 hne hw1 => ?_, fun b p hb => ?_, Nat.le_trans hm.le hp1.below.size⟩, hp1.below.mono hm.le, Nat.le_add_right _ _, fun k hk _ => hp1.below.block k hk, fun b p hb => ?_, fun b hb => ?_⟩
  · rcases hinv b p hb with ⟨h1, h2⟩ | ⟨i, hi, rfl, h2⟩
    · exact .inl h2
    · exact .inr ⟨by omega, by omega⟩
  · rcases hinv b p hb with ⟨h1, h2⟩ | ⟨i, hi, rfl, h2⟩
    · rw [hupo b h1] at hO
      exact (hm.blk b p O h2 hO).mono hle (hp1.below.block _ (hm.fresh b p h2))
    · have hbi : M.bs[i]? = some M.bs[i] := List.getElem?_eq_getElem hi
      rw [hupn i _ hbi] at hO
      injection hO with hO
      subst hO
      have hb1 := hp1.mrel.blk (pif M.pi i) p _ h2 (hup i _ hbi)
      rw [rnB_cells] at hb1 ⊢
      obtain ⟨g1, cc, el, fz, g2, g3, g4, g5, g6⟩ := hb1
      refine ⟨g1, cc, el, fz, g2, fun j x hx => ?_, fun hw => ⟨Nat.le_trans hm.le (g4 hw).1, (g4 hw).2⟩, g5, by simpa using g6⟩
      simp only [List.getElem?_map, Option.map_eq_some_iff] at hx
      obtain ⟨x1, ⟨x2, hx2, rfl⟩, rfl⟩ := hx
      obtain ⟨y, hy, hr⟩ := g3 j (toV (rn (pif M.pi) x2)) (by simp [hx2])
      exact ⟨y, hy, leaf_rel (List.all_eq_true.1 (hfit.blk i _ hbi).2.1 _ (List.mem_of_getElem? hx2)) hren' hr⟩
  · rcases hinv b1 p1 h1 with ⟨k1, k2⟩ | ⟨i1, hi1, rfl, k2⟩ <;> rcases hinv b2 p2 h2 with ⟨q1, q2⟩ | ⟨i2, hi2, rfl, q2⟩
    · rw [hupo b1 k1] at hO1
      rw [hupo b2 q1] at hO2
      exact hm.excl b1 b2 p1 p2 O1 O2 k2 q2 hO1 hO2 hne hw1
    · have := hm.fresh b1 p1 k2
      have := hfresh1 _ p2 q2
      omega
    · have := hm.fresh b2 p2 q2
      have := hfresh1 _ p1 k2
      omega
    · have g1 : M.bs[i1]? = some M.bs[i1] := List.getElem?_eq_getElem hi1
      have g2 : M.bs[i2]? = some M.bs[i2] := List.getElem?_eq_getElem hi2
      rw [hupn i1 _ g1] at hO1
      injection hO1 with hO1
      subst hO1
      have hl1 : i1 < M.pi.length := by rw [hfit.len]; exact hi1
      have hl2 : i2 < M.pi.length := by rw [hfit.len]; exact hi2
      refine hp1.mrel.excl (pif M.pi i1) (pif M.pi i2) p1 p2 _ _ k2 q2 (hup i1 _ g1) (hup i2 _ g2) (fun e => hne ?_) ?_
      · rw [pif_lt hl1, pif_lt hl2] at e
        have := (List.getElem_inj hfit.nodup).1 e
        rw [this]
      · rw [hwr]; rw [hwr] at hw1; exact hw1
  · rcases hinv b p hb with ⟨h1, h2⟩ | ⟨i, hi, rfl, h2⟩
    · exact Nat.lt_of_lt_of_le (hm.fresh b p h2) hp1.below.size
    · exact hp1.mrel.fresh _ p h2
  · rcases hinv b p hb with ⟨h1, h2⟩ | ⟨i, hi, rfl, h2⟩
    · exact .inl h2
    · exact .inr (.inl (hfresh1 _ p h2))
  · rw [newW_test] at hb
    simp at hb
    have hi : b - n < M.bs.length := by omega
    have hbi : M.bs[b - n]? = some M.bs[b - n] := List.getElem?_eq_getElem hi
    obtain ⟨p, hp⟩ := (hp1.wold _ (hfit.blk _ _ hbi).2.2).1
    refine ⟨⟨p, ?_⟩, fun h => by omega⟩
    have := hren' (b - n) p hi hp
    rwa [show n + (b - n) = b by omega] at this
end
end Go.Am.V
