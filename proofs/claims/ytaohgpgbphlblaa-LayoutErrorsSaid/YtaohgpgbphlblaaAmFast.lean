/- The abstract machine in a form that the kernel evaluates fast: the same functions, pointfree, numbers worked out as they come. -/
import Derived.Test.YtaohgpgbphlblaaAmTree
set_option linter.unusedVariables false
set_option linter.unusedSimpArgs false
set_option linter.unusedSectionVars false
namespace Go.Am.Fast
open Go Go.Am

/-- 'k n', with n worked out first -/
noncomputable def fN {α : Type} (k : Nat → α) (n : Nat) : α := Nat.rec (motive := fun _ => α) (k Nat.zero) (fun m _ => k (Nat.succ m)) n
theorem fN_eq {α : Type} (k : Nat → α) (n : Nat) : fN k n = k n := by cases n <;> rfl
noncomputable def fI {α : Type} (k : Int → α) (z : Int) : α := Int.rec (motive := fun _ => α) (fN fun a => k (Int.ofNat a)) (fN fun a => k (Int.negSucc a)) z
theorem fI_eq {α : Type} (k : Int → α) (z : Int) : fI k z = k z := by
  cases z
  · exact fN_eq (fun a => k (Int.ofNat a)) _
  · exact fN_eq (fun a => k (Int.negSucc a)) _
noncomputable def fB {α : Type} (k : Bool → α) (b : Bool) : α := Bool.rec (motive := fun _ => α) (k false) (k true) b
theorem fB_eq {α : Type} (k : Bool → α) (b : Bool) : fB k b = k b := by cases b <;> rfl

noncomputable def iAddP (a b : Nat) : Int := Int.ofNat (Nat.add a b)
noncomputable def iAdd (x y : Int) : Int := Int.rec (motive := fun _ => Int → Int) (fun a y => Int.rec (motive := fun _ => Nat → Int) (fun b a => Int.ofNat (Nat.add a b)) (fun b a => Int.add (Int.ofNat a) (Int.negSucc b)) y a) (fun a y => Int.add (Int.negSucc a) y) x y
theorem iAdd_eq (x y : Int) : iAdd x y = Int.add x y := by cases x <;> cases y <;> rfl
noncomputable def iMul (x y : Int) : Int := Int.rec (motive := fun _ => Int → Int) (fun a y => Int.rec (motive := fun _ => Nat → Int) (fun b a => Int.ofNat (Nat.mul a b)) (fun b a => Int.mul (Int.ofNat a) (Int.negSucc b)) y a) (fun a y => Int.mul (Int.negSucc a) y) x y
theorem iMul_eq (x y : Int) : iMul x y = Int.mul x y := by cases x <;> cases y <;> rfl
noncomputable def iSub (x y : Int) : Int := Int.rec (motive := fun _ => Int → Int) (fun a y => Int.rec (motive := fun _ => Nat → Int) (fun b a => Bool.rec (motive := fun _ => Int) (Int.sub (Int.ofNat a) (Int.ofNat b)) (Int.ofNat (Nat.sub a b)) (Nat.ble b a)) (fun b a => Int.sub (Int.ofNat a) (Int.negSucc b)) y a) (fun a y => Int.sub (Int.negSucc a) y) x y
theorem iSub_eq (x y : Int) : iSub x y = Int.sub x y := by
  cases x with
  | ofNat a => cases y with
    | ofNat b =>
      show Bool.rec (motive := fun _ => Int) (Int.sub (Int.ofNat a) (Int.ofNat b)) (Int.ofNat (Nat.sub a b)) (Nat.ble b a) = _
      cases h : Nat.ble b a
      · rfl
      · have := Nat.le_of_ble_eq_true h
        show ((a - b : Nat) : Int) = (a : Int) - (b : Int)
        omega
    | negSucc b => rfl
  | negSucc a => rfl
noncomputable def iRem (x y : Int) : Int := Int.rec (motive := fun _ => Int → Int) (fun a y => Int.rec (motive := fun _ => Nat → Int) (fun b a => Int.ofNat (Nat.mod a b)) (fun b a => Int.tmod (Int.ofNat a) (Int.negSucc b)) y a) (fun a y => Int.tmod (Int.negSucc a) y) x y
theorem iRem_eq (x y : Int) : iRem x y = Int.tmod x y := by cases x <;> cases y <;> rfl
noncomputable def iQuo (x y : Int) : Int := Int.rec (motive := fun _ => Int → Int) (fun a y => Int.rec (motive := fun _ => Nat → Int) (fun b a => Int.ofNat (Nat.div a b)) (fun b a => Int.tdiv (Int.ofNat a) (Int.negSucc b)) y a) (fun a y => Int.tdiv (Int.negSucc a) y) x y
theorem iQuo_eq (x y : Int) : iQuo x y = Int.tdiv x y := by cases x <;> cases y <;> rfl
noncomputable def iLt (x y : Int) : Bool := Int.rec (motive := fun _ => Int → Bool) (fun a y => Int.rec (motive := fun _ => Nat → Bool) (fun b a => Nat.ble (Nat.succ a) b) (fun _ _ => false) y a) (fun a y => Int.rec (motive := fun _ => Nat → Bool) (fun _ _ => true) (fun b a => Nat.ble (Nat.succ b) a) y a) x y
theorem iLt_eq (x y : Int) : iLt x y = ltB x y := by cases x <;> cases y <;> rfl
noncomputable def iEq (x y : Int) : Bool := Int.rec (motive := fun _ => Int → Bool) (fun a y => Int.rec (motive := fun _ => Nat → Bool) (fun b a => Nat.beq a b) (fun _ _ => false) y a) (fun a y => Int.rec (motive := fun _ => Nat → Bool) (fun _ _ => false) (fun b a => Nat.beq a b) y a) x y
theorem iEq_eq (x y : Int) : iEq x y = eqB x y := by cases x <;> cases y <;> rfl
noncomputable def kNat (k : IntKind) : Nat := IntKind.rec (motive := fun _ => Nat) 0 1 2 3 4 5 6 7 k
noncomputable def kEq (a b : IntKind) : Bool := Nat.beq (kNat a) (kNat b)
theorem kEq_eq (a b : IntKind) : kEq a b = decide (a = b) := by cases a <;> cases b <;> rfl

/-! ### results -/
abbrev M := TrM
abbrev R := OR TrM
noncomputable def rInt (k : IntKind) (m : M) (n : Nat) (z : Int) : R := fI (fun z => .ok (.int k z) m n Nat.zero Nat.zero) z
noncomputable def rBool (m : M) (n : Nat) (b : Bool) : R := fB (fun b => .ok (.bool b) m n Nat.zero Nat.zero) b
noncomputable def in64 (z : Int) : Bool := Int.rec (motive := fun _ => Bool) (fun a => Nat.ble (Nat.succ a) 9223372036854775808) (fun a => Nat.ble (Nat.succ a) 9223372036854775808) z
noncomputable def rW64 (m : M) (n : Nat) (z : Int) : R := Bool.rec (motive := fun _ => R) (rInt .i64 m n (IntKind.i64.wrap z)) (.ok (.int .i64 z) m n Nat.zero Nat.zero) (in64 z)
noncomputable def rW (k : IntKind) (m : M) (n : Nat) (z : Int) : R :=
  IntKind.rec (motive := fun _ => M → Nat → Int → R) (fun m n z => rInt .i8 m n (IntKind.i8.wrap z)) (fun m n z => rInt .i16 m n (IntKind.i16.wrap z)) (fun m n z => rInt .i32 m n (IntKind.i32.wrap z)) (fun m n z => fI (rW64 m n) z)
    (fun m n z => rInt .u8 m n (IntKind.u8.wrap z)) (fun m n z => rInt .u16 m n (IntKind.u16.wrap z)) (fun m n z => rInt .u32 m n (IntKind.u32.wrap z)) (fun m n z => rInt .u64 m n (IntKind.u64.wrap z)) k m n z
theorem rW_eq (k : IntKind) (m : M) (n : Nat) (z : Int) : rW k m n z = .ok (.int k (wrapF k z)) m n 0 0 := by
  cases k
  case i64 =>
    show fI (rW64 m n) z = _
    rw [fI_eq]
    show Bool.rec (motive := fun _ => R) _ _ (in64 z) = _
    have h : in64 z = inI64 z := by cases z <;> rfl
    rw [h]
    simp only [wrapF]
    cases inI64 z
    · show rInt _ m n _ = _
      rw [rInt, fI_eq]; rfl
    · rfl
  all_goals (show rInt _ m n _ = _; rw [rInt, fI_eq]; rfl)

/-! ### operators on two integers -/
noncomputable def bAdd (k : IntKind) (a b : Int) (m : M) (n : Nat) : R := rW k m n (iAdd a b)
noncomputable def bSub (k : IntKind) (a b : Int) (m : M) (n : Nat) : R := rW k m n (iSub a b)
noncomputable def bMul (k : IntKind) (a b : Int) (m : M) (n : Nat) : R := rW k m n (iMul a b)
noncomputable def bQuo (k : IntKind) (a b : Int) (m : M) (n : Nat) : R := Bool.rec (motive := fun _ => R) (rW k m n (iQuo a b)) .no (iEq b (Int.ofNat Nat.zero))
noncomputable def bRem (k : IntKind) (a b : Int) (m : M) (n : Nat) : R := Bool.rec (motive := fun _ => R) (rInt k m n (iRem a b)) .no (iEq b (Int.ofNat Nat.zero))
noncomputable def bEql (_ : IntKind) (a b : Int) (m : M) (n : Nat) : R := rBool m n (iEq a b)
noncomputable def bNeq (_ : IntKind) (a b : Int) (m : M) (n : Nat) : R := rBool m n (Bool.not (iEq a b))
noncomputable def bLss (_ : IntKind) (a b : Int) (m : M) (n : Nat) : R := rBool m n (iLt a b)
noncomputable def bLeq (_ : IntKind) (a b : Int) (m : M) (n : Nat) : R := rBool m n (Bool.not (iLt b a))
noncomputable def bGtr (_ : IntKind) (a b : Int) (m : M) (n : Nat) : R := rBool m n (iLt b a)
noncomputable def bGeq (_ : IntKind) (a b : Int) (m : M) (n : Nat) : R := rBool m n (Bool.not (iLt a b))
def bNo (_ : IntKind) (_ _ : Int) (_ : M) (_ : Nat) : R := .no
noncomputable def intF (op : BinOp) : IntKind → Int → Int → M → Nat → R :=
  BinOp.rec (motive := fun _ => IntKind → Int → Int → M → Nat → R) bAdd bSub bMul bQuo bRem bNo bNo bNo bNo bNo bNo bEql bNeq bLss bLeq bGtr bGeq op
theorem intF_eq (op : BinOp) (k : IntKind) (a b : Int) (m : M) (n : Nat) : intF op k a b m n = valO m n (intBin op k a b) := by
  cases op
  case add => show rW k m n (iAdd a b) = _; rw [rW_eq, iAdd_eq]; rfl
  case sub => show rW k m n (iSub a b) = _; rw [rW_eq, iSub_eq]; rfl
  case mul => show rW k m n (iMul a b) = _; rw [rW_eq, iMul_eq]; rfl
  case quo =>
    show Bool.rec (motive := fun _ => R) (rW k m n (iQuo a b)) .no (iEq b 0) = valO m n (cond (eqB b 0) none (some (.int k (wrapF k (a.tdiv b)))))
    rw [iEq_eq, rW_eq, iQuo_eq]
    cases eqB b 0 <;> rfl
  case rem =>
    show Bool.rec (motive := fun _ => R) (rInt k m n (iRem a b)) .no (iEq b 0) = valO m n (cond (eqB b 0) none (some (.int k (a.tmod b))))
    rw [iEq_eq, iRem_eq, rInt, fI_eq]
    cases eqB b 0 <;> rfl
  case eql => show rBool m n (iEq a b) = _; rw [rBool, fB_eq, iEq_eq]; rfl
  case neq => show rBool m n (Bool.not (iEq a b)) = _; rw [rBool, fB_eq, iEq_eq]; rfl
  case lss => show rBool m n (iLt a b) = _; rw [rBool, fB_eq, iLt_eq]; rfl
  case leq => show rBool m n (Bool.not (iLt b a)) = _; rw [rBool, fB_eq, iLt_eq]; rfl
  case gtr => show rBool m n (iLt b a) = _; rw [rBool, fB_eq, iLt_eq]; rfl
  case geq => show rBool m n (Bool.not (iLt a b)) = _; rw [rBool, fB_eq, iLt_eq]; rfl
  all_goals rfl

/-- of an integer: k's answer; else d's -/
noncomputable def onInt {α : Type} (v : Value) (k : IntKind → Int → α) (d : α) : α :=
  Value.casesOn (motive_1 := fun _ => (IntKind → Int → α) → α → α) v (fun _ _ d => d) (fun q z k _ => k q z) (fun _ _ _ d => d) (fun _ _ _ _ d => d) (fun _ _ d => d) (fun _ _ d => d) (fun _ _ _ _ d => d) (fun _ _ d => d) (fun _ _ d => d) (fun _ _ _ _ d => d) (fun _ d => d) (fun _ _ _ d => d) (fun _ d => d) (fun _ _ d => d) (fun _ _ d => d) k d
theorem onInt_ne {α : Type} {v : Value} {k : IntKind → Int → α} {d : α} (h : ∀ q z, v ≠ .int q z) : onInt v k d = d := by
  cases v <;> first | rfl | exact absurd rfl (h _ _)
noncomputable def onPtr {α : Type} (v : Value) (k : Option Addr → α) (d : α) : α :=
  Value.casesOn (motive_1 := fun _ => (Option Addr → α) → α → α) v (fun _ _ d => d) (fun _ _ _ d => d) (fun _ _ _ d => d) (fun _ _ _ _ d => d) (fun _ _ d => d) (fun a k _ => k a) (fun _ _ _ _ d => d) (fun _ _ d => d) (fun _ _ d => d) (fun _ _ _ _ d => d) (fun _ d => d) (fun _ _ _ d => d) (fun _ d => d) (fun _ _ d => d) (fun _ _ d => d) k d
theorem onPtr_ne {α : Type} {v : Value} {k : Option Addr → α} {d : α} (h : ∀ q, v ≠ .pointer q) : onPtr v k d = d := by
  cases v <;> first | rfl | exact absurd rfl (h _)
noncomputable def onSlice {α : Type} (v : Value) (k : Option Addr → Nat → Nat → α) (d : α) : α :=
  Value.casesOn (motive_1 := fun _ => (Option Addr → Nat → Nat → α) → α → α) v (fun _ _ d => d) (fun _ _ _ d => d) (fun _ _ _ d => d) (fun _ _ _ _ d => d) (fun _ _ d => d) (fun _ _ d => d) (fun a l c k _ => k a l c) (fun _ _ d => d) (fun _ _ d => d) (fun _ _ _ _ d => d) (fun _ d => d) (fun _ _ _ d => d) (fun _ d => d) (fun _ _ d => d) (fun _ _ d => d) k d
theorem onSlice_ne {α : Type} {v : Value} {k : Option Addr → Nat → Nat → α} {d : α} (h : ∀ q l c, v ≠ .slice q l c) : onSlice v k d = d := by
  cases v <;> first | rfl | exact absurd rfl (h _ _ _)
noncomputable def onBool {α : Type} (v : Value) (a b d : α) : α :=
  Value.casesOn (motive_1 := fun _ => α → α → α → α) v (fun t a b _ => Bool.rec (motive := fun _ => α) b a t) (fun _ _ _ _ d => d) (fun _ _ _ _ d => d) (fun _ _ _ _ _ d => d) (fun _ _ _ d => d) (fun _ _ _ d => d) (fun _ _ _ _ _ d => d) (fun _ _ _ d => d) (fun _ _ _ d => d) (fun _ _ _ _ _ d => d) (fun _ _ d => d) (fun _ _ _ _ d => d) (fun _ _ d => d) (fun _ _ _ d => d) (fun _ _ _ d => d) a b d
/-- an address without a spot -/
noncomputable def onAddr {α : Type} (a : Option Addr) (k : Nat → Nat → α) (d : α) : α :=
  Option.rec (motive := fun _ => (Nat → Nat → α) → α → α) (fun _ d => d) (fun a => Addr.rec (motive := fun _ => (Nat → Nat → α) → α → α) (fun b o s => Option.rec (motive := fun _ => Nat → Nat → (Nat → Nat → α) → α → α) (fun b o k _ => k b o) (fun _ _ _ _ d => d) s b o) a) a k d
theorem onAddr_ne {α : Type} {a : Option Addr} {k : Nat → Nat → α} {d : α} (h : ∀ b o, a ≠ some ⟨b, o, none⟩) : onAddr a k d = d := by
  rcases a with _ | ⟨b, o, _ | s⟩
  · rfl
  · exact absurd rfl (h _ _)
  · rfl

/-! ### the operations -/
abbrev Cal := Nat → List Value → M → Nat → R
noncomputable def evF (e : List Value) (x : Opd) : Value := Opd.rec (motive := fun _ => List Value → Value) (fun i e => lget e i) (fun v _ => v) x e
theorem evF_eq (e : List Value) (x : Opd) : evF e x = ev e x := by cases x <;> rfl
section
variable (P : Program) (cal : Cal) (e : List Value) (m : M) (n : Nat)
noncomputable def sMov (x : Opd) : R := .ok (evF e x) m n Nat.zero Nat.zero
noncomputable def sPick (c a b : Opd) : R := valO m n (pickV (ev e a) (ev e b) (ev e c))
noncomputable def binInt (op : BinOp) (t : Nat) (x y : Value) (k : IntKind) (a : Int) : R :=
  onInt y (fun k' b => Bool.rec (motive := fun _ => R) (valO m n (binV P op t x y)) (intF op k a b m n) (kEq k k')) (valO m n (binV P op t x y))
noncomputable def binF (op : BinOp) (t : Nat) (x y : Value) : R := onInt x (binInt P m n op t x y) (valO m n (binV P op t x y))
theorem binF_eq (op : BinOp) (t : Nat) (x y : Value) : binF P m n op t x y = valO m n (binV P op t x y) := by
  unfold binF
  cases x
  case int k a =>
    show onInt y _ _ = _
    cases y
    case int k' b =>
      show Bool.rec (motive := fun _ => R) _ (intF op k a b m n) (kEq k k') = _
      cases h : kEq k k'
      · rfl
      · rw [kEq_eq] at h
        have h := of_decide_eq_true h
        subst h
        show intF op k a b m n = _
        rw [intF_eq]
        show _ = valO m n (cond (decide (k = k)) (intBin op k a b) none)
        simp
    all_goals rfl
  all_goals rfl
noncomputable def sBin (op : BinOp) (t : Nat) (x y : Opd) : R := binF P m n op t (evF e x) (evF e y)
noncomputable def sUna (op : UnOp) (x : Opd) : R := valO m n (unaV op (ev e x))
noncomputable def sConv (k : IntKind) (x : Opd) : R := onInt (evF e x) (fun _ z => rW k m n z) .no
noncomputable def sFld (off : Nat) (x : Opd) : R := onPtr (evF e x) (fun a => onAddr a (fun b o => .ok (.pointer (some ⟨b, Nat.add o off, none⟩)) m n Nat.zero Nat.zero) .no) .no
noncomputable def nn {α : Type} (z : Int) (k : Nat → α) (d : α) : α := Int.rec (motive := fun _ => (Nat → α) → α → α) (fun a k _ => k a) (fun _ _ d => d) z k d
noncomputable def idxS (sz i : Nat) (v : Value) : R :=
  onSlice v (fun a l _ => Bool.rec (motive := fun _ => R) .no (onAddr a (fun b o => fN (fun o => .ok (.pointer (some ⟨b, o, none⟩)) m n Nat.zero Nat.zero) (Nat.add o (Nat.mul i sz))) .no) (Nat.ble (Nat.succ i) l)) .no
noncomputable def sIdx (sz : Nat) (x i : Opd) : R := onInt (evF e i) (fun _ z => nn z (fun i => idxS m n sz i (evF e x)) .no) .no
noncomputable def idaS (k sz i : Nat) (v : Value) : R :=
  onPtr v (fun a => onAddr a (fun b o => Bool.rec (motive := fun _ => R) .no (fN (fun o => .ok (.pointer (some ⟨b, o, none⟩)) m n Nat.zero Nat.zero) (Nat.add o (Nat.mul i sz))) (Nat.ble (Nat.succ i) k)) .no) .no
noncomputable def sIda (k sz : Nat) (x i : Opd) : R := onInt (evF e i) (fun _ z => nn z (fun i => idaS m n k sz i (evF e x)) .no) .no
noncomputable def sBuild (z : List Value) (ps : List (Nat × Nat × Opd)) : R := valO m n (aggO (fillA (parts3 e ps) z))
noncomputable def sExtr (i : Nat) (x : Opd) : R := valO m n (extrV i (ev e x))
noncomputable def sNilck (x : Opd) : R := valO m n (nilckV (ev e x))
noncomputable def sFunc (f : Nat) (a c : List Opd) : R := .ok (.func (.func f) (evs e a).toArray (evs e c).toArray) m n 0 0
noncomputable def sLen (s : Bool) (x : Opd) : R := Bool.rec (motive := fun _ => R) (onSlice (evF e x) (fun _ l _ => fN (fun l => .ok (.int .i64 (Int.ofNat l)) m n Nat.zero Nat.zero) l) .no) (valO m n (lenV true (ev e x))) s
noncomputable def sMx (x y : Opd) : R := valO m n (mxV (ev e x) (ev e y))
noncomputable def sSlc (sz : Nat) (x : Opd) (lo hi : Option Opd) : R := slcM m n sz (slcV sz (oev e lo) (oev e hi) (ev e x)) (ev e x)
noncomputable def sNew (c : List Value) : R := newb m n (.cells c 0 false true) ptrP
noncomputable def sBox (x : Opd) : R := newb m n (.cells (ev e x).cells.toList 0 false true) ptrP
noncomputable def sMkl (sz len : Nat) (z : List Value) (ps : List (Nat × Opd)) : R := mklC m n sz len (fillA (parts2 sz e ps) (reps z len))
noncomputable def sMake (sz bytes : Nat) (z : List Value) (l c : Opd) : R := makeV sz bytes z m n (natOf (ev e l)) (natOf (ev e c))
noncomputable def ldB (b o : Nat) (B : Option Blk) : R :=
  Option.rec (motive := fun _ => Nat → Nat → M → Nat → R) (fun _ _ _ _ => .no) (fun B => Blk.rec (motive := fun _ => Nat → Nat → M → Nat → R) (fun c _ _ _ b o m n => Option.rec (motive := fun _ => R) .no (fun v => .ok v m n (bit b) Nat.zero) (cget c o)) B) B b o m n
noncomputable def sLd1 (x : Opd) : R := onPtr (evF e x) (fun a => onAddr a (fun b o => ldB m n b o (getb m n b)) .no) .no
noncomputable def sLdn (k : Nat) (x : Opd) : R := ldnV k m n (ev e x)
noncomputable def sSt (k : Nat) (x y : Opd) : R := stV k (ev e y).cells.toList m n (ev e x)
noncomputable def sApp (sz bytes : Nat) (x y : Opd) : R := appO sz bytes m n (ev e x) (ev e y) (shown m n sz (ev e x)) (shown m n sz (ev e y))
noncomputable def evsF (l : List Opd) : List Value := List.rec (motive := fun _ => List Value → List Value) (fun _ => []) (fun x _ r e => evF e x :: r e) l e
theorem evsF_eq (l : List Opd) : evsF e l = evs e l := by
  induction l with
  | nil => rfl
  | cons x l ih => show evF e x :: evsF e l = _; rw [ih, evF_eq]; rfl
noncomputable def sCall (f : Nat) (args : List Opd) : R := cal f (evsF e args) m n
noncomputable def sCallv (x : Opd) (args : List Opd) : R := callV cal (evs e args) m n (ev e x)
end
abbrev S := Program → Cal → List Value → M → Nat → R
noncomputable def stepF (op : AOp) : S :=
  AOp.rec (motive := fun _ => S)
    (fun x _ _ e m n => sMov e m n x) (fun c a b _ _ e m n => sPick e m n c a b) (fun op t x y P _ e m n => sBin P e m n op t x y) (fun op x _ _ e m n => sUna e m n op x) (fun k x _ _ e m n => sConv e m n k x)
    (fun off x _ _ e m n => sFld e m n off x) (fun sz x i _ _ e m n => sIdx e m n sz x i) (fun k sz x i _ _ e m n => sIda e m n k sz x i) (fun z ps _ _ e m n => sBuild e m n z ps) (fun i x _ _ e m n => sExtr e m n i x)
    (fun x _ _ e m n => sNilck e m n x) (fun f a c _ _ e m n => sFunc e m n f a c) (fun s x _ _ e m n => sLen e m n s x) (fun x y _ _ e m n => sMx e m n x y) (fun sz x lo hi _ _ e m n => sSlc e m n sz x lo hi)
    (fun c _ _ _ m n => sNew m n c) (fun x _ _ e m n => sBox e m n x) (fun sz len z ps _ _ e m n => sMkl e m n sz len z ps) (fun sz bytes z l c _ _ e m n => sMake e m n sz bytes z l c) (fun x _ _ e m n => sLd1 e m n x)
    (fun k x _ _ e m n => sLdn e m n k x) (fun k x y _ _ e m n => sSt e m n k x y) (fun sz bytes x y _ _ e m n => sApp e m n sz bytes x y) (fun f args _ cal e m n => sCall cal e m n f args) (fun x args _ cal e m n => sCallv cal e m n x args)
    op
theorem stepF_eq (op : AOp) (P : Program) (cal : Cal) (e : List Value) (m : M) (n : Nat) : stepF op P cal e m n = stepA P cal e m n op := by
  cases op
  case mov x => show OR.ok (evF e x) m n 0 0 = _; rw [evF_eq]; rfl
  case bin op t x y => show binF P m n op t (evF e x) (evF e y) = _; rw [binF_eq, evF_eq, evF_eq]; rfl
  case conv k x =>
    show onInt (evF e x) _ _ = valO m n (convV k (ev e x))
    rw [evF_eq]
    cases ev e x
    case int q z => exact rW_eq k m n z
    all_goals rfl
  case fld off x =>
    show onPtr (evF e x) _ _ = valO m n (fldV off (ev e x))
    rw [evF_eq]
    cases ev e x
    case pointer a => rcases a with _ | ⟨b, o, _ | s⟩ <;> rfl
    all_goals rfl
  case idx sz x i =>
    show onInt (evF e i) _ _ = valO m n (obind (fun i => idxV sz i (ev e x)) (natOf (ev e i)))
    rw [evF_eq]
    cases ev e i
    case int q z =>
      cases z
      case ofNat i =>
        show idxS m n sz i (evF e x) = valO m n (idxV sz i (ev e x))
        rw [evF_eq]
        cases ev e x
        case slice a l c =>
          show Bool.rec (motive := fun _ => R) _ _ (Nat.blt i l) = _
          rcases a with _ | ⟨b, o, _ | s⟩
          · cases Nat.blt i l <;> rfl
          · show _ = valO m n (cond (Nat.blt i l) _ _)
            cases Nat.blt i l
            · rfl
            · exact fN_eq (fun o => OR.ok (Value.pointer (some { block := b, off := o })) m n 0 0) _
          · cases Nat.blt i l <;> rfl
        all_goals rfl
      case negSucc i => rfl
    all_goals rfl
  case ida k sz x i =>
    show onInt (evF e i) _ _ = valO m n (obind (fun i => idaV k sz i (ev e x)) (natOf (ev e i)))
    rw [evF_eq]
    cases ev e i
    case int q z =>
      cases z
      case ofNat i =>
        show idaS m n k sz i (evF e x) = valO m n (idaV k sz i (ev e x))
        rw [evF_eq]
        cases ev e x
        case pointer a =>
          rcases a with _ | ⟨b, o, _ | s⟩
          · rfl
          · show Bool.rec (motive := fun _ => R) _ _ (Nat.blt i k) = valO m n (cond (Nat.blt i k) _ _)
            cases Nat.blt i k
            · rfl
            · exact fN_eq (fun o => OR.ok (Value.pointer (some { block := b, off := o })) m n 0 0) _
          · rfl
        all_goals rfl
      case negSucc i => rfl
    all_goals rfl
  case len s x =>
    show Bool.rec (motive := fun _ => R) _ _ s = valO m n (lenV s (ev e x))
    cases s
    · show onSlice (evF e x) _ _ = _
      rw [evF_eq]
      cases ev e x
      case slice a l c => exact fN_eq (fun l => OR.ok (Value.int .i64 (Int.ofNat l)) m n 0 0) _
      all_goals rfl
    · rfl
  case ld1 x =>
    show onPtr (evF e x) _ _ = ld1V m n (ev e x)
    rw [evF_eq]
    cases ev e x
    case pointer a =>
      rcases a with _ | ⟨b, o, _ | s⟩
      · rfl
      · show ldB m n b o (getb m n b) = withCells (getb m n b) fun c => valR m n b (cget c o)
        cases getb m n b with
        | none => rfl
        | some B =>
          cases B with | cells c sz opn wr =>
          show Option.rec (motive := fun _ => R) _ _ (cget c o) = valR m n b (cget c o)
          cases cget c o <;> rfl
      · rfl
    all_goals rfl
  case call f args => show cal f (evsF e args) m n = _; rw [evsF_eq]; rfl
  all_goals rfl

/-! ### regions -/
abbrev C := CR TrM
noncomputable def orR (f : Value → M → Nat → Nat → Nat → C) (x : R) : C := OR.rec (motive := fun _ => C) .no f x
/-- where nothing is read or written: k with the old masks -/
noncomputable def masks {α : Type} (r w r' w' : Nat) (k : Nat → Nat → α) : α :=
  fN (fun r => fN (fun w => k r w) (Nat.lor w w')) (Nat.lor r r')
theorem masks_eq {α : Type} (r w r' w' : Nat) (k : Nat → Nat → α) : masks r w r' w' k = k (Nat.lor r r') (Nat.lor w w') := by
  unfold masks; rw [fN_eq, fN_eq]
abbrev T := Program → Cal → List Value → M → Nat → Nat → Nat → C
noncomputable def kOp (ih : T) (P : Program) (cal : Cal) (e : List Value) (r w : Nat) (v : Value) (m : M) (n r' w' : Nat) : C := masks r w r' w' (fun r w => fN (fun n => ih P cal (v :: e) m n r w) n)
noncomputable def kEff (ih : T) (P : Program) (cal : Cal) (e : List Value) (r w : Nat) (_ : Value) (m : M) (n r' w' : Nat) : C := masks r w r' w' (fun r w => fN (fun n => ih P cal e m n r w) n)
noncomputable def aNop (_ : Nat) (ih : T) (P : Program) (cal : Cal) (e : List Value) (m : M) (n r w : Nat) : C := ih P cal e m n r w
noncomputable def aOp (o : AOp) (ih : T) (P : Program) (cal : Cal) (e : List Value) (m : M) (n r w : Nat) : C := orR (kOp ih P cal e r w) (stepF o P cal e m n)
noncomputable def aOpg (o : AOp) (gi : Nat) (gw : Bool) (ih : T) (P : Program) (cal : Cal) (e : List Value) (m : M) (n r w : Nat) : C := Bool.rec (motive := fun _ => C) (ih P cal (undef :: e) m n r w) (aOp o ih P cal e m n r w) (wantB gw (lget e gi))
noncomputable def aEff (o : AOp) (ih : T) (P : Program) (cal : Cal) (e : List Value) (m : M) (n r w : Nat) : C := orR (kEff ih P cal e r w) (stepF o P cal e m n)
noncomputable def aEffg (o : AOp) (gi : Nat) (gw : Bool) (ih : T) (P : Program) (cal : Cal) (e : List Value) (m : M) (n r w : Nat) : C := Bool.rec (motive := fun _ => C) (ih P cal e m n r w) (aEff o ih P cal e m n r w) (wantB gw (lget e gi))
noncomputable def aOne (i : AI) : T → T := AI.rec (motive := fun _ => T → T) aNop aOp aOpg aEff aEffg i
noncomputable def aEnd : T := fun _ _ e m n r w => .ok .norm e m n r w
noncomputable def opsF (l : List AI) : T := List.rec (motive := fun _ => T) aEnd (fun i _ ih => aOne i ih) l
theorem opsF_eq (P : Program) (cal : Cal) : ∀ (l : List AI) (e : List Value) (m : M) (n r w : Nat), opsF l P cal e m n r w = opsA P cal l e m n r w
  | [], e, m, n, r, w => by show CR.ok AX.norm e m n r w = doneA e m n r w; rw [doneA, forceN_eq, forceN_eq]
  | i :: l, e, m, n, r, w => by
    have hop : ∀ (o : AOp), aOp o (opsF l) P cal e m n r w = orRec (stepA P cal e m n o) fun v m n r' w' => opsA P cal l (v :: e) m n (Nat.lor r r') (Nat.lor w w') := by
      intro o
      show orR (kOp (opsF l) P cal e r w) (stepF o P cal e m n) = _
      rw [stepF_eq]
      cases stepA P cal e m n o with
      | no => rfl
      | ok v m1 n1 r1 w1 =>
        show masks r w r1 w1 (fun r w => fN (fun n => opsF l P cal (v :: e) m1 n r w) n1) = opsA P cal l (v :: e) m1 n1 (Nat.lor r r1) (Nat.lor w w1)
        rw [masks_eq, fN_eq, opsF_eq]
    have heff : ∀ (o : AOp), aEff o (opsF l) P cal e m n r w = orRec (stepA P cal e m n o) fun _ m n r' w' => opsA P cal l e m n (Nat.lor r r') (Nat.lor w w') := by
      intro o
      show orR (kEff (opsF l) P cal e r w) (stepF o P cal e m n) = _
      rw [stepF_eq]
      cases stepA P cal e m n o with
      | no => rfl
      | ok v m1 n1 r1 w1 =>
        show masks r w r1 w1 (fun r w => fN (fun n => opsF l P cal e m1 n r w) n1) = opsA P cal l e m1 n1 (Nat.lor r r1) (Nat.lor w w1)
        rw [masks_eq, fN_eq, opsF_eq]
    cases i with
    | nop i => exact opsF_eq P cal l e m n r w
    | op o => exact hop o
    | eff o => exact heff o
    | opg o gi gw =>
      show Bool.rec (motive := fun _ => C) (opsF l P cal (undef :: e) m n r w) (aOp o (opsF l) P cal e m n r w) (wantB gw (lget e gi)) = cond (wantB gw (lget e gi)) (orRec (stepA P cal e m n o) fun v m n r' w' => opsA P cal l (v :: e) m n (Nat.lor r r') (Nat.lor w w')) (opsA P cal l (undef :: e) m n r w)
      rw [hop o, opsF_eq]
      cases wantB gw (lget e gi) <;> rfl
    | effg o gi gw =>
      show Bool.rec (motive := fun _ => C) (opsF l P cal e m n r w) (aEff o (opsF l) P cal e m n r w) (wantB gw (lget e gi)) = cond (wantB gw (lget e gi)) (orRec (stepA P cal e m n o) fun _ m n r' w' => opsA P cal l e m n (Nat.lor r r') (Nat.lor w w')) (opsA P cal l e m n r w)
      rw [heff o, opsF_eq]
      cases wantB gw (lget e gi) <;> rfl

/-! ### functions and codes -/
abbrev Rc := AC → List Value → M → Nat → C
abbrev EF := Nat → Option AFn
noncomputable def addF (r w : Nat) (x : C) : C := CR.rec (motive := fun _ => C) .no (fun X e m n r' w' => masks r w r' w' (fun r w => .ok X e m n r w)) x
theorem addF_eq (r w : Nat) (x : C) : addF r w x = addRW r w x := by
  cases x with
  | no => rfl
  | ok X e m n r' w' => exact masks_eq r w r' w' (fun r w => CR.ok X e m n r w)
noncomputable def seqK (rec : Rc) (b : AC) (X : AX) (e : List Value) (m : M) (n r w : Nat) : C :=
  AX.rec (motive := fun _ => C) (addF r w (rec b e m n)) (fun i => .ok (.exit i) e m n r w) (fun v => .ok (.ret v) e m n r w) X
theorem seqK_eq (rec : Rc) (b : AC) (X : AX) (e : List Value) (m : M) (n r w : Nat) : seqK rec b X e m n r w = onNorm (rec b) X e m n r w := by
  cases X with
  | norm => exact addF_eq r w (rec b e m n)
  | exit i => rfl
  | ret v => rfl
abbrev X4 := Program → EF → (Nat → List Value → M → Nat → R) → Rc → List Value → M → Nat → C
noncomputable def cSkip : X4 := fun _ _ _ _ e m n => .ok .norm e m n Nat.zero Nat.zero
noncomputable def calF (E : EF) (Y : Cal) (rec : Rc) : Cal := callA E Y rec
noncomputable def cReg (l : List AI) : X4 := fun P E Y rec e m n => opsF l P (calF E Y rec) e m n Nat.zero Nat.zero
noncomputable def cRegD (l : List AI) (bs : List Nat) : X4 := fun P E Y rec e m n => opsD P (callA E Y rec) l bs 0 [] e m n 0 0
noncomputable def crR (f : AX → List Value → M → Nat → Nat → Nat → C) (x : C) : C := CR.rec (motive := fun _ => C) .no f x
noncomputable def cSeq (a b : AC) : X4 := fun _ _ _ rec e m n => crR (seqK rec b) (rec a e m n)
noncomputable def cCond (x : Opd) (a b : AC) : X4 := fun _ _ _ rec e m n => onBool (evF e x) (rec a e m n) (rec b e m n) .no
noncomputable def cBlock (id : Nat) (_ : List (List Nat)) (b : AC) : X4 := fun _ _ _ rec e m n => crR (onBlock id) (rec b e m n)
noncomputable def cLoop (sh : List (List Nat)) (b : AC) : X4 := fun _ _ _ rec e m n => crR (seqK rec (.loop sh b)) (rec b e m n)
noncomputable def cPre (sel : List Nat) (d : Nat) (c : AC) : X4 := fun _ _ _ rec e m n => rec c (fixE sel d e) m n
noncomputable def cPost (c : AC) (sel : List Nat) (d : Nat) : X4 := fun _ _ _ rec e m n => crR (onPost sel d) (rec c e m n)
noncomputable def cExit (id : Nat) : X4 := fun _ _ _ _ e m n => .ok (.exit id) e m n Nat.zero Nat.zero
noncomputable def cRet (rs : List ROp) : X4 := fun _ _ _ _ e m n => onRet e m n (resA e m n rs)
noncomputable def codeF (c : AC) : X4 := AC.casesOn (motive := fun _ => X4) c cSkip cReg cRegD cSeq cCond cBlock cLoop cPre cPost cExit cRet
noncomputable def execFast (P : Program) (E : EF) (Y : Cal) (k : Nat) : Rc :=
  Nat.rec (motive := fun _ => Rc) (fun _ _ _ _ => .no) (fun _ ih c => codeF c P E Y ih) k
theorem execFast_eq (P : Program) (E : EF) (Y : Cal) : ∀ k, execFast P E Y k = exec P E Y k
  | 0 => rfl
  | k + 1 => by
    have ih := execFast_eq P E Y k
    funext c e m n
    show codeF c P E Y (execFast P E Y k) e m n = execF P E Y (exec P E Y k) c e m n
    rw [ih]
    cases c with
    | reg l => exact opsF_eq P _ l e m n 0 0
    | seq a b =>
      show crR (seqK (exec P E Y k) b) (exec P E Y k a e m n) = crRec (exec P E Y k a e m n) (onNorm (exec P E Y k b))
      have : seqK (exec P E Y k) b = onNorm (exec P E Y k b) := by funext X e m n r w; exact seqK_eq _ _ _ _ _ _ _ _
      rw [this]; rfl
    | loop sh b =>
      show crR (seqK (exec P E Y k) (.loop sh b)) (exec P E Y k b e m n) = crRec (exec P E Y k b e m n) (onNorm (exec P E Y k (.loop sh b)))
      have : seqK (exec P E Y k) (.loop sh b) = onNorm (exec P E Y k (.loop sh b)) := by funext X e m n r w; exact seqK_eq _ _ _ _ _ _ _ _
      rw [this]; rfl
    | cond x a b =>
      show onBool (evF e x) _ _ _ = onCond (exec P E Y k a e m n) (exec P E Y k b e m n) (ev e x)
      rw [evF_eq]
      cases ev e x
      case bool t => cases t <;> rfl
      all_goals rfl
    | _ => rfl

/-- a table of functions as a tree -/
noncomputable def treeOf (l : List (Nat × AFn)) : Tr AFn := List.rec (motive := fun _ => Tr AFn) .nil (fun p _ t => Tr.set 8 t p.1 p.2) l
noncomputable def lookT (t : Tr AFn) (f : Nat) : Option AFn := Bool.rec (motive := fun _ => Option AFn) none (Tr.get 8 t f) (Nat.ble (Nat.succ f) 256)
theorem lookT_eq : ∀ (l : List (Nat × AFn)), (l.all fun p => Nat.blt p.1 256) = true → ∀ f, f < 256 → Tr.get 8 (treeOf l) f = look l f
  | [], _, f, hf => by
    show Tr.get 8 .nil f = none
    have : ∀ (d : Nat) (f : Nat), Tr.get d (.nil : Tr AFn) f = none := by
      intro d
      induction d with
      | zero => intro f; rfl
      | succ d ih =>
        intro f
        rw [Tr.get_succ]
        split <;> exact ih _
    exact this 8 f
  | p :: l, h, f, hf => by
    simp only [List.all_cons, Bool.and_eq_true] at h
    have hp : p.1 < 2 ^ 8 := by simpa using h.1
    show Tr.get 8 (Tr.set 8 (treeOf l) p.1 p.2) f = Bool.rec (motive := fun _ => Option AFn) (look l f) (some p.2) (Nat.beq p.1 f)
    rw [Tr.get_set 8 _ _ _ _ hp hf, lookT_eq l h.2 f hf]
    cases hb : Nat.beq p.1 f
    · rw [if_neg (by intro e; subst e; simp at hb)]
    · rw [if_pos (Nat.eq_of_beq_eq_true hb).symm]
theorem look_big : ∀ (l : List (Nat × AFn)), (l.all fun p => Nat.blt p.1 256) = true → ∀ f, 256 ≤ f → look l f = none
  | [], _, f, _ => rfl
  | p :: l, h, f, hf => by
    simp only [List.all_cons, Bool.and_eq_true] at h
    have hp : p.1 < 256 := by simpa using h.1
    show Bool.rec (motive := fun _ => Option AFn) (look l f) (some p.2) (Nat.beq p.1 f) = none
    cases hb : Nat.beq p.1 f
    · exact look_big l h.2 f hf
    · have := Nat.eq_of_beq_eq_true hb; omega
theorem lookT_look {l : List (Nat × AFn)} (h : (l.all fun p => Nat.blt p.1 256) = true) : lookT (treeOf l) = look l := by
  funext f
  show Bool.rec (motive := fun _ => Option AFn) none (Tr.get 8 (treeOf l) f) (Nat.blt f 256) = look l f
  cases hb : Nat.blt f 256
  · have : ¬ f < 256 := fun hlt => by
      rw [show Nat.blt f 256 = true from Nat.ble_eq_true_of_le hlt] at hb; cases hb
    rw [look_big l h f (by omega)]
  · have : f < 256 := by simpa using hb
    exact lookT_eq l h f this
/-- the call of 'call0' -/
noncomputable def call0F (P : Program) (t : Tr AFn) (Y : Cal) (k f : Nat) (args : List Value) : R := callA (lookT t) Y (execFast P (lookT t) Y k) f args m0 0
theorem call0F_eq {P : Program} {l : List (Nat × AFn)} (h : (l.all fun p => Nat.blt p.1 256) = true) (Y : Cal) (k f : Nat) (args : List Value) : call0F P (treeOf l) Y k f args = call0 P l Y k f args := by
  unfold call0F call0
  rw [lookT_look h, execFast_eq]
end Go.Am.Fast
