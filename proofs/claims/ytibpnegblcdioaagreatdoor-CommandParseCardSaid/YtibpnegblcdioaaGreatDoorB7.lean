/- The machine and its runs, part 7: AzFast AzSym AzV AzV2. -/
import Derived.Test.YtibpnegblcdioaaGreatDoorB6
set_option linter.unusedVariables false
set_option linter.unusedSimpArgs false
set_option linter.unusedSectionVars false
namespace Go.Am.Fast
open Go Go.Am

noncomputable def fN {α : Type} (k : Nat → α) (n : Nat) : α := Nat.rec (motive := fun _ => α) (k Nat.zero) (fun m _ => k (Nat.succ m)) n
theorem fN_eq {α : Type} (k : Nat → α) (n : Nat) : fN k n = k n := by cases n <;> rfl
noncomputable def fI {α : Type} (k : Int → α) (z : Int) : α := Int.rec (motive := fun _ => α) (fN fun a => k (Int.ofNat a)) (fN fun a => k (Int.negSucc a)) z
theorem fI_eq {α : Type} (k : Int → α) (z : Int) : fI k z = k z := by
  cases z
  · exact fN_eq (fun a => k (Int.ofNat a)) _
  · exact fN_eq (fun a => k (Int.negSucc a)) _
noncomputable def fB {α : Type} (k : Bool → α) (b : Bool) : α := Bool.rec (motive := fun _ => α) (k false) (k true) b
theorem fB_eq {α : Type} (k : Bool → α) (b : Bool) : fB k b = k b := by cases b <;> rfl

noncomputable def iAddP (a b : Nat) : Int := Int.ofNat (Nat.add a b)
noncomputable def iAdd (x y : Int) : Int := Int.rec (motive := fun _ => Int → Int) (fun a y => Int.rec (motive := fun _ => Nat → Int) (fun b a => Int.ofNat (Nat.add a b)) (fun b a => Int.add (Int.ofNat a) (Int.negSucc b)) y a) (fun a y => Int.add (Int.negSucc a) y) x y
theorem iAdd_eq (x y : Int) : iAdd x y = Int.add x y := by cases x <;> cases y <;> rfl
noncomputable def iMul (x y : Int) : Int := Int.rec (motive := fun _ => Int → Int) (fun a y => Int.rec (motive := fun _ => Nat → Int) (fun b a => Int.ofNat (Nat.mul a b)) (fun b a => Int.mul (Int.ofNat a) (Int.negSucc b)) y a) (fun a y => Int.mul (Int.negSucc a) y) x y
theorem iMul_eq (x y : Int) : iMul x y = Int.mul x y := by cases x <;> cases y <;> rfl
noncomputable def iSub (x y : Int) : Int := Int.rec (motive := fun _ => Int → Int) (fun a y => Int.rec (motive := fun _ => Nat → Int) (fun b a => Bool.rec (motive := fun _ => Int) (Int.sub (Int.ofNat a) (Int.ofNat b)) (Int.ofNat (Nat.sub a b)) (Nat.ble b a)) (fun b a => Int.sub (Int.ofNat a) (Int.negSucc b)) y a) (fun a y => Int.sub (Int.negSucc a) y) x y
theorem iSub_eq (x y : Int) : iSub x y = Int.sub x y := by
  cases x with
  | ofNat a => cases y with
    | ofNat b =>
      show Bool.rec (motive := fun _ => Int) (Int.sub (Int.ofNat a) (Int.ofNat b)) (Int.ofNat (Nat.sub a b)) (Nat.ble b a) = _
      cases h : Nat.ble b a
      · rfl
      · have := Nat.le_of_ble_eq_true h
        show ((a - b : Nat) : Int) = (a : Int) - (b : Int)
        omega
    | negSucc b => rfl
  | negSucc a => rfl
noncomputable def iRem (x y : Int) : Int := Int.rec (motive := fun _ => Int → Int) (fun a y => Int.rec (motive := fun _ => Nat → Int) (fun b a => Int.ofNat (Nat.mod a b)) (fun b a => Int.tmod (Int.ofNat a) (Int.negSucc b)) y a) (fun a y => Int.tmod (Int.negSucc a) y) x y
theorem iRem_eq (x y : Int) : iRem x y = Int.tmod x y := by cases x <;> cases y <;> rfl
noncomputable def iQuo (x y : Int) : Int := Int.rec (motive := fun _ => Int → Int) (fun a y => Int.rec (motive := fun _ => Nat → Int) (fun b a => Int.ofNat (Nat.div a b)) (fun b a => Int.tdiv (Int.ofNat a) (Int.negSucc b)) y a) (fun a y => Int.tdiv (Int.negSucc a) y) x y
theorem iQuo_eq (x y : Int) : iQuo x y = Int.tdiv x y := by cases x <;> cases y <;> rfl
noncomputable def iLt (x y : Int) : Bool := Int.rec (motive := fun _ => Int → Bool) (fun a y => Int.rec (motive := fun _ => Nat → Bool) (fun b a => Nat.ble (Nat.succ a) b) (fun _ _ => false) y a) (fun a y => Int.rec (motive := fun _ => Nat → Bool) (fun _ _ => true) (fun b a => Nat.ble (Nat.succ b) a) y a) x y
theorem iLt_eq (x y : Int) : iLt x y = ltB x y := by cases x <;> cases y <;> rfl
noncomputable def iEq (x y : Int) : Bool := Int.rec (motive := fun _ => Int → Bool) (fun a y => Int.rec (motive := fun _ => Nat → Bool) (fun b a => Nat.beq a b) (fun _ _ => false) y a) (fun a y => Int.rec (motive := fun _ => Nat → Bool) (fun _ _ => false) (fun b a => Nat.beq a b) y a) x y
theorem iEq_eq (x y : Int) : iEq x y = eqB x y := by cases x <;> cases y <;> rfl
noncomputable def kNat (k : IntKind) : Nat := IntKind.rec (motive := fun _ => Nat) 0 1 2 3 4 5 6 7 k
noncomputable def kEq (a b : IntKind) : Bool := Nat.beq (kNat a) (kNat b)
abbrev M := TrM
abbrev R := OR TrM
noncomputable def rInt (k : IntKind) (m : M) (n : Nat) (z : Int) : R := fI (fun z => .ok (.int k z) m n Nat.zero Nat.zero) z
noncomputable def rBool (m : M) (n : Nat) (b : Bool) : R := fB (fun b => .ok (.bool b) m n Nat.zero Nat.zero) b
noncomputable def in64 (z : Int) : Bool := Int.rec (motive := fun _ => Bool) (fun a => Nat.ble (Nat.succ a) 9223372036854775808) (fun a => Nat.ble (Nat.succ a) 9223372036854775808) z
noncomputable def rW64 (m : M) (n : Nat) (z : Int) : R := Bool.rec (motive := fun _ => R) (rInt .i64 m n (IntKind.i64.wrap z)) (.ok (.int .i64 z) m n Nat.zero Nat.zero) (in64 z)
noncomputable def rW (k : IntKind) (m : M) (n : Nat) (z : Int) : R :=
  IntKind.rec (motive := fun _ => M → Nat → Int → R) (fun m n z => rInt .i8 m n (IntKind.i8.wrap z)) (fun m n z => rInt .i16 m n (IntKind.i16.wrap z)) (fun m n z => rInt .i32 m n (IntKind.i32.wrap z)) (fun m n z => fI (rW64 m n) z)
    (fun m n z => rInt .u8 m n (IntKind.u8.wrap z)) (fun m n z => rInt .u16 m n (IntKind.u16.wrap z)) (fun m n z => rInt .u32 m n (IntKind.u32.wrap z)) (fun m n z => rInt .u64 m n (IntKind.u64.wrap z)) k m n z
noncomputable def bAdd (k : IntKind) (a b : Int) (m : M) (n : Nat) : R := rW k m n (iAdd a b)
noncomputable def bSub (k : IntKind) (a b : Int) (m : M) (n : Nat) : R := rW k m n (iSub a b)
noncomputable def bMul (k : IntKind) (a b : Int) (m : M) (n : Nat) : R := rW k m n (iMul a b)
noncomputable def bQuo (k : IntKind) (a b : Int) (m : M) (n : Nat) : R := Bool.rec (motive := fun _ => R) (rW k m n (iQuo a b)) .no (iEq b (Int.ofNat Nat.zero))
noncomputable def bRem (k : IntKind) (a b : Int) (m : M) (n : Nat) : R := Bool.rec (motive := fun _ => R) (rInt k m n (iRem a b)) .no (iEq b (Int.ofNat Nat.zero))
noncomputable def bEql (_ : IntKind) (a b : Int) (m : M) (n : Nat) : R := rBool m n (iEq a b)
noncomputable def bNeq (_ : IntKind) (a b : Int) (m : M) (n : Nat) : R := rBool m n (Bool.not (iEq a b))
noncomputable def bLss (_ : IntKind) (a b : Int) (m : M) (n : Nat) : R := rBool m n (iLt a b)
noncomputable def bLeq (_ : IntKind) (a b : Int) (m : M) (n : Nat) : R := rBool m n (Bool.not (iLt b a))
noncomputable def bGtr (_ : IntKind) (a b : Int) (m : M) (n : Nat) : R := rBool m n (iLt b a)
noncomputable def bGeq (_ : IntKind) (a b : Int) (m : M) (n : Nat) : R := rBool m n (Bool.not (iLt a b))
def bNo (_ : IntKind) (_ _ : Int) (_ : M) (_ : Nat) : R := .no
noncomputable def intF (op : BinOp) : IntKind → Int → Int → M → Nat → R :=
  BinOp.rec (motive := fun _ => IntKind → Int → Int → M → Nat → R) bAdd bSub bMul bQuo bRem bNo bNo bNo bNo bNo bNo bEql bNeq bLss bLeq bGtr bGeq op
noncomputable def onInt {α : Type} (v : Value) (k : IntKind → Int → α) (d : α) : α :=
  Value.casesOn (motive_1 := fun _ => (IntKind → Int → α) → α → α) v (fun _ _ d => d) (fun q z k _ => k q z) (fun _ _ _ d => d) (fun _ _ _ _ d => d) (fun _ _ d => d) (fun _ _ d => d) (fun _ _ _ _ d => d) (fun _ _ d => d) (fun _ _ d => d) (fun _ _ _ _ d => d) (fun _ d => d) (fun _ _ _ d => d) (fun _ d => d) (fun _ _ d => d) (fun _ _ d => d) k d
noncomputable def onPtr {α : Type} (v : Value) (k : Option Addr → α) (d : α) : α :=
  Value.casesOn (motive_1 := fun _ => (Option Addr → α) → α → α) v (fun _ _ d => d) (fun _ _ _ d => d) (fun _ _ _ d => d) (fun _ _ _ _ d => d) (fun _ _ d => d) (fun a k _ => k a) (fun _ _ _ _ d => d) (fun _ _ d => d) (fun _ _ d => d) (fun _ _ _ _ d => d) (fun _ d => d) (fun _ _ _ d => d) (fun _ d => d) (fun _ _ d => d) (fun _ _ d => d) k d
noncomputable def onSlice {α : Type} (v : Value) (k : Option Addr → Nat → Nat → α) (d : α) : α :=
  Value.casesOn (motive_1 := fun _ => (Option Addr → Nat → Nat → α) → α → α) v (fun _ _ d => d) (fun _ _ _ d => d) (fun _ _ _ d => d) (fun _ _ _ _ d => d) (fun _ _ d => d) (fun _ _ d => d) (fun a l c k _ => k a l c) (fun _ _ d => d) (fun _ _ d => d) (fun _ _ _ _ d => d) (fun _ d => d) (fun _ _ _ d => d) (fun _ d => d) (fun _ _ d => d) (fun _ _ d => d) k d
noncomputable def onBool {α : Type} (v : Value) (a b d : α) : α :=
  Value.casesOn (motive_1 := fun _ => α → α → α → α) v (fun t a b _ => Bool.rec (motive := fun _ => α) b a t) (fun _ _ _ _ d => d) (fun _ _ _ _ d => d) (fun _ _ _ _ _ d => d) (fun _ _ _ d => d) (fun _ _ _ d => d) (fun _ _ _ _ _ d => d) (fun _ _ _ d => d) (fun _ _ _ d => d) (fun _ _ _ _ _ d => d) (fun _ _ d => d) (fun _ _ _ _ d => d) (fun _ _ d => d) (fun _ _ _ d => d) (fun _ _ _ d => d) a b d
noncomputable def onAddr {α : Type} (a : Option Addr) (k : Nat → Nat → α) (d : α) : α :=
  Option.rec (motive := fun _ => (Nat → Nat → α) → α → α) (fun _ d => d) (fun a => Addr.rec (motive := fun _ => (Nat → Nat → α) → α → α) (fun b o s => Option.rec (motive := fun _ => Nat → Nat → (Nat → Nat → α) → α → α) (fun b o k _ => k b o) (fun _ _ _ _ d => d) s b o) a) a k d
abbrev Cal := Nat → List Value → M → Nat → R
noncomputable def evF (e : List Value) (x : Opd) : Value := Opd.rec (motive := fun _ => List Value → Value) (fun i e => lget e i) (fun v _ => v) x e
section
variable (P : Program) (cal : Cal) (e : List Value) (m : M) (n : Nat)
noncomputable def sMov (x : Opd) : R := .ok (evF e x) m n Nat.zero Nat.zero
noncomputable def sPick (c a b : Opd) : R := valO m n (pickV (ev e a) (ev e b) (ev e c))
noncomputable def binInt (op : BinOp) (t : Nat) (x y : Value) (k : IntKind) (a : Int) : R :=
  onInt y (fun k' b => Bool.rec (motive := fun _ => R) (valO m n (binV P op t x y)) (intF op k a b m n) (kEq k k')) (valO m n (binV P op t x y))
noncomputable def binF (op : BinOp) (t : Nat) (x y : Value) : R := onInt x (binInt P m n op t x y) (valO m n (binV P op t x y))
noncomputable def sBin (op : BinOp) (t : Nat) (x y : Opd) : R := binF P m n op t (evF e x) (evF e y)
noncomputable def sUna (op : UnOp) (x : Opd) : R := valO m n (unaV op (ev e x))
noncomputable def sConv (k : IntKind) (x : Opd) : R := onInt (evF e x) (fun _ z => rW k m n z) .no
noncomputable def sFld (off : Nat) (x : Opd) : R := onPtr (evF e x) (fun a => onAddr a (fun b o => .ok (.pointer (some ⟨b, Nat.add o off, none⟩)) m n Nat.zero Nat.zero) .no) .no
noncomputable def nn {α : Type} (z : Int) (k : Nat → α) (d : α) : α := Int.rec (motive := fun _ => (Nat → α) → α → α) (fun a k _ => k a) (fun _ _ d => d) z k d
noncomputable def idxS (sz i : Nat) (v : Value) : R :=
  onSlice v (fun a l _ => Bool.rec (motive := fun _ => R) .no (onAddr a (fun b o => fN (fun o => .ok (.pointer (some ⟨b, o, none⟩)) m n Nat.zero Nat.zero) (Nat.add o (Nat.mul i sz))) .no) (Nat.ble (Nat.succ i) l)) .no
noncomputable def sIdx (sz : Nat) (x i : Opd) : R := onInt (evF e i) (fun _ z => nn z (fun i => idxS m n sz i (evF e x)) .no) .no
noncomputable def idaS (k sz i : Nat) (v : Value) : R :=
  onPtr v (fun a => onAddr a (fun b o => Bool.rec (motive := fun _ => R) .no (fN (fun o => .ok (.pointer (some ⟨b, o, none⟩)) m n Nat.zero Nat.zero) (Nat.add o (Nat.mul i sz))) (Nat.ble (Nat.succ i) k)) .no) .no
noncomputable def sIda (k sz : Nat) (x i : Opd) : R := onInt (evF e i) (fun _ z => nn z (fun i => idaS m n k sz i (evF e x)) .no) .no
noncomputable def sBuild (z : List Value) (ps : List (Nat × Nat × Opd)) : R := valO m n (aggO (fillA (parts3 e ps) z))
noncomputable def sExtr (i : Nat) (x : Opd) : R := valO m n (extrV i (ev e x))
noncomputable def sNilck (x : Opd) : R := valO m n (nilckV (ev e x))
noncomputable def sFunc (f : Nat) (a c : List Opd) : R := .ok (.func (.func f) (evs e a).toArray (evs e c).toArray) m n 0 0
noncomputable def sLen (s : Bool) (x : Opd) : R := Bool.rec (motive := fun _ => R) (onSlice (evF e x) (fun _ l _ => fN (fun l => .ok (.int .i64 (Int.ofNat l)) m n Nat.zero Nat.zero) l) .no) (valO m n (lenV true (ev e x))) s
noncomputable def sMx (x y : Opd) : R := valO m n (mxV (ev e x) (ev e y))
noncomputable def sSlc (sz : Nat) (x : Opd) (lo hi : Option Opd) : R := slcM m n sz (slcV sz (oev e lo) (oev e hi) (ev e x)) (ev e x)
noncomputable def sNew (c : List Value) : R := newb m n (.cells c 0 false true) ptrP
noncomputable def sBox (x : Opd) : R := newb m n (.cells (ev e x).cells.toList 0 false true) ptrP
noncomputable def sMkl (sz len : Nat) (z : List Value) (ps : List (Nat × Opd)) : R := mklC m n sz len (fillA (parts2 sz e ps) (reps z len))
noncomputable def sMake (sz bytes : Nat) (z : List Value) (l c : Opd) : R := makeV sz bytes z m n (natOf (ev e l)) (natOf (ev e c))
noncomputable def ldB (b o : Nat) (B : Option Blk) : R :=
  Option.rec (motive := fun _ => Nat → Nat → M → Nat → R) (fun _ _ _ _ => .no) (fun B => Blk.rec (motive := fun _ => Nat → Nat → M → Nat → R) (fun c _ _ _ b o m n => Option.rec (motive := fun _ => R) .no (fun v => .ok v m n (bit b) Nat.zero) (cget c o)) (fun _ _ _ _ _ => .no) B) B b o m n
noncomputable def sLd1 (x : Opd) : R := onPtr (evF e x) (fun a => onAddr a (fun b o => ldB m n b o (getb m n b)) .no) .no
noncomputable def sLdn (k : Nat) (x : Opd) : R := ldnV k m n (ev e x)
noncomputable def sSt (k : Nat) (x y : Opd) : R := stV k (ev e y).cells.toList m n (ev e x)
noncomputable def sApp (sz bytes : Nat) (x y : Opd) : R := appO sz bytes m n (ev e x) (ev e y) (shown m n sz (ev e x)) (shown m n sz (ev e y))
noncomputable def evsF (l : List Opd) : List Value := List.rec (motive := fun _ => List Value → List Value) (fun _ => []) (fun x _ r e => evF e x :: r e) l e
noncomputable def sCall (f : Nat) (args : List Opd) : R := cal f (evsF e args) m n
noncomputable def sCallv (x : Opd) (args : List Opd) : R := callV cal (evs e args) m n (ev e x)
end
abbrev S := Program → Cal → List Value → M → Nat → R
noncomputable def stepF (op : AOp) : S :=
  AOp.rec (motive := fun _ => S)
    (fun x _ _ e m n => sMov e m n x) (fun c a b _ _ e m n => sPick e m n c a b) (fun op t x y P _ e m n => sBin P e m n op t x y) (fun op x _ _ e m n => sUna e m n op x) (fun k x _ _ e m n => sConv e m n k x)
    (fun off x _ _ e m n => sFld e m n off x) (fun sz x i _ _ e m n => sIdx e m n sz x i) (fun k sz x i _ _ e m n => sIda e m n k sz x i) (fun z ps _ _ e m n => sBuild e m n z ps) (fun i x _ _ e m n => sExtr e m n i x)
    (fun x _ _ e m n => sNilck e m n x) (fun f a c _ _ e m n => sFunc e m n f a c) (fun s x _ _ e m n => sLen e m n s x) (fun x y _ _ e m n => sMx e m n x y) (fun sz x lo hi _ _ e m n => sSlc e m n sz x lo hi)
    (fun c _ _ _ m n => sNew m n c) (fun x _ _ e m n => sBox e m n x) (fun sz len z ps _ _ e m n => sMkl e m n sz len z ps) (fun sz bytes z l c _ _ e m n => sMake e m n sz bytes z l c) (fun x _ _ e m n => sLd1 e m n x)
    (fun k x _ _ e m n => sLdn e m n k x) (fun k x y _ _ e m n => sSt e m n k x y) (fun sz bytes x y _ _ e m n => sApp e m n sz bytes x y) (fun f args _ cal e m n => sCall cal e m n f args) (fun x args _ cal e m n => sCallv cal e m n x args)
    (fun op xs P _ e m n => valO m n (purV P op (evs e xs)))
    (fun op xs P _ e m n => mapV P op (evs e xs) m n)
    op
abbrev C := CR TrM
noncomputable def orR (f : Value → M → Nat → Nat → Nat → C) (x : R) : C := OR.rec (motive := fun _ => C) .no f x
noncomputable def masks {α : Type} (r w r' w' : Nat) (k : Nat → Nat → α) : α :=
  fN (fun r => fN (fun w => k r w) (Nat.lor w w')) (Nat.lor r r')
abbrev T := Program → Cal → List Value → M → Nat → Nat → Nat → C
noncomputable def kOp (ih : T) (P : Program) (cal : Cal) (e : List Value) (r w : Nat) (v : Value) (m : M) (n r' w' : Nat) : C := masks r w r' w' (fun r w => fN (fun n => ih P cal (v :: e) m n r w) n)
noncomputable def kEff (ih : T) (P : Program) (cal : Cal) (e : List Value) (r w : Nat) (_ : Value) (m : M) (n r' w' : Nat) : C := masks r w r' w' (fun r w => fN (fun n => ih P cal e m n r w) n)
noncomputable def aNop (_ : Nat) (ih : T) (P : Program) (cal : Cal) (e : List Value) (m : M) (n r w : Nat) : C := ih P cal e m n r w
noncomputable def aOp (o : AOp) (ih : T) (P : Program) (cal : Cal) (e : List Value) (m : M) (n r w : Nat) : C := orR (kOp ih P cal e r w) (stepF o P cal e m n)
noncomputable def aOpg (o : AOp) (gi : Nat) (gw : Bool) (ih : T) (P : Program) (cal : Cal) (e : List Value) (m : M) (n r w : Nat) : C := Bool.rec (motive := fun _ => C) (ih P cal (undef :: e) m n r w) (aOp o ih P cal e m n r w) (wantB gw (lget e gi))
noncomputable def aEff (o : AOp) (ih : T) (P : Program) (cal : Cal) (e : List Value) (m : M) (n r w : Nat) : C := orR (kEff ih P cal e r w) (stepF o P cal e m n)
noncomputable def aEffg (o : AOp) (gi : Nat) (gw : Bool) (ih : T) (P : Program) (cal : Cal) (e : List Value) (m : M) (n r w : Nat) : C := Bool.rec (motive := fun _ => C) (ih P cal e m n r w) (aEff o ih P cal e m n r w) (wantB gw (lget e gi))
noncomputable def aOne (i : AI) : T → T := AI.rec (motive := fun _ => T → T) aNop aOp aOpg aEff aEffg i
noncomputable def aEnd : T := fun _ _ e m n r w => .ok .norm e m n r w
noncomputable def opsF (l : List AI) : T := List.rec (motive := fun _ => T) aEnd (fun i _ ih => aOne i ih) l
abbrev Rc := AC → List Value → M → Nat → C
abbrev EF := Nat → Option AFn
noncomputable def addF (r w : Nat) (x : C) : C := CR.rec (motive := fun _ => C) .no (fun X e m n r' w' => masks r w r' w' (fun r w => .ok X e m n r w)) x
noncomputable def seqK (rec : Rc) (b : AC) (X : AX) (e : List Value) (m : M) (n r w : Nat) : C :=
  AX.rec (motive := fun _ => C) (addF r w (rec b e m n)) (fun i => .ok (.exit i) e m n r w) (fun v => .ok (.ret v) e m n r w) X
abbrev X4 := Program → EF → (Nat → List Value → M → Nat → R) → Rc → List Value → M → Nat → C
noncomputable def cSkip : X4 := fun _ _ _ _ e m n => .ok .norm e m n Nat.zero Nat.zero
noncomputable def calF (E : EF) (Y : Cal) (rec : Rc) : Cal := callA E Y rec
noncomputable def cReg (l : List AI) : X4 := fun P E Y rec e m n => opsF l P (calF E Y rec) e m n Nat.zero Nat.zero
noncomputable def cRegD (l : List AI) (bs : List Nat) : X4 := fun P E Y rec e m n => opsD P (callA E Y rec) l bs 0 [] e m n 0 0
noncomputable def crR (f : AX → List Value → M → Nat → Nat → Nat → C) (x : C) : C := CR.rec (motive := fun _ => C) .no f x
noncomputable def cSeq (a b : AC) : X4 := fun _ _ _ rec e m n => crR (seqK rec b) (rec a e m n)
noncomputable def cCond (x : Opd) (a b : AC) : X4 := fun _ _ _ rec e m n => onBool (evF e x) (rec a e m n) (rec b e m n) .no
noncomputable def cBlock (id : Nat) (_ : List (List Nat)) (b : AC) : X4 := fun _ _ _ rec e m n => crR (onBlock id) (rec b e m n)
noncomputable def cLoop (sh : List (List Nat)) (b : AC) : X4 := fun _ _ _ rec e m n => crR (seqK rec (.loop sh b)) (rec b e m n)
noncomputable def cPre (sel : List Nat) (d : Nat) (c : AC) : X4 := fun _ _ _ rec e m n => rec c (fixE sel d e) m n
noncomputable def cPost (c : AC) (sel : List Nat) (d : Nat) : X4 := fun _ _ _ rec e m n => crR (onPost sel d) (rec c e m n)
noncomputable def cExit (id : Nat) : X4 := fun _ _ _ _ e m n => .ok (.exit id) e m n Nat.zero Nat.zero
noncomputable def cRet (rs : List ROp) : X4 := fun _ _ _ _ e m n => onRet e m n (resA e m n rs)
noncomputable def codeF (c : AC) : X4 := AC.casesOn (motive := fun _ => X4) c cSkip cReg cRegD cSeq cCond cBlock cLoop cPre cPost cExit cRet
noncomputable def execFast (P : Program) (E : EF) (Y : Cal) (k : Nat) : Rc :=
  Nat.rec (motive := fun _ => Rc) (fun _ _ _ _ => .no) (fun _ ih c => codeF c P E Y ih) k
noncomputable def treeOf (l : List (Nat × AFn)) : Tr AFn := List.rec (motive := fun _ => Tr AFn) .nil (fun p _ t => Tr.set 8 t p.1 p.2) l
noncomputable def lookT (t : Tr AFn) (f : Nat) : Option AFn := Bool.rec (motive := fun _ => Option AFn) none (Tr.get 8 t f) (Nat.ble (Nat.succ f) 256)
theorem lookT_eq : ∀ (l : List (Nat × AFn)), (l.all fun p => Nat.blt p.1 256) = true → ∀ f, f < 256 → Tr.get 8 (treeOf l) f = look l f
  | [], _, f, hf => by
    show Tr.get 8 .nil f = none
    have : ∀ (d : Nat) (f : Nat), Tr.get d (.nil : Tr AFn) f = none := by
      intro d
      induction d with
      | zero => intro f; rfl
      | succ d ih =>
        intro f
        rw [Tr.get_succ]
        split <;> exact ih _
    exact this 8 f
  | p :: l, h, f, hf => by
    simp only [List.all_cons, Bool.and_eq_true] at h
    have hp : p.1 < 2 ^ 8 := by simpa using h.1
    show Tr.get 8 (Tr.set 8 (treeOf l) p.1 p.2) f = Bool.rec (motive := fun _ => Option AFn) (look l f) (some p.2) (Nat.beq p.1 f)
    rw [Tr.get_set 8 _ _ _ _ hp hf, lookT_eq l h.2 f hf]
    cases hb : Nat.beq p.1 f
    · rw [if_neg (by intro e; subst e; simp at hb)]
    · rw [if_pos (Nat.eq_of_beq_eq_true hb).symm]
theorem look_big : ∀ (l : List (Nat × AFn)), (l.all fun p => Nat.blt p.1 256) = true → ∀ f, 256 ≤ f → look l f = none
  | [], _, f, _ => rfl
  | p :: l, h, f, hf => by
    simp only [List.all_cons, Bool.and_eq_true] at h
    have hp : p.1 < 256 := by simpa using h.1
    show Bool.rec (motive := fun _ => Option AFn) (look l f) (some p.2) (Nat.beq p.1 f) = none
    cases hb : Nat.beq p.1 f
    · exact look_big l h.2 f hf
    · have := Nat.eq_of_beq_eq_true hb; omega
theorem lookT_look {l : List (Nat × AFn)} (h : (l.all fun p => Nat.blt p.1 256) = true) : lookT (treeOf l) = look l := by
  funext f
  show Bool.rec (motive := fun _ => Option AFn) none (Tr.get 8 (treeOf l) f) (Nat.blt f 256) = look l f
  cases hb : Nat.blt f 256
  · have : ¬ f < 256 := fun hlt => by
      rw [show Nat.blt f 256 = true from Nat.ble_eq_true_of_le hlt] at hb; cases hb
    rw [look_big l h f (by omega)]
  · have : f < 256 := by simpa using hb
    exact lookT_eq l h f this
noncomputable def call0F (P : Program) (t : Tr AFn) (Y : Cal) (k f : Nat) (args : List Value) : R := callA (lookT t) Y (execFast P (lookT t) Y k) f args m0 0
end Go.Am.Fast
namespace Go.Am
open Go
def FM := Nat → Option Blk
instance : AMem FM where
  get m b := m b
  put m b x := fun j => if j = b then x else m j
  lim _ _ := true
  get_put m i j x _ := rfl
  get_lim _ _ _ _ := rfl
  lim_put _ _ _ _ := rfl
section
variable {μ : Type} [AMem μ] {P : Program} {E : Nat → Option AFn} {Y : Nat → List Value → μ → Nat → OR μ} {k : Nat} {e : List Value} {m : μ} {n r w : Nat}
theorem crRec_mk (X : AX) (f : AX → List Value → μ → Nat → Nat → Nat → CR μ) : crRec (.ok X e m n r w) f = f X e m n r w := rfl
theorem onNorm_norm (f : List Value → μ → Nat → CR μ) : onNorm f .norm e m n r w = addRW r w (f e m n) := rfl
theorem addRW_mk (X : AX) (r' w' : Nat) : addRW r w (.ok X e m n r' w') = .ok X e m n (Nat.lor r r') (Nat.lor w w') := rfl
theorem onRet_mk (vs : List Value) (r : Nat) : onRet e m n (some (vs, r)) = .ok (.ret (retV vs)) e m n r 0 := rfl
variable {rec : Nat → List Value → μ → Nat → OR μ}
theorem o_nil : opsA P rec [] e m n r w = .ok .norm e m n r w := by show doneA e m n r w = _; rw [doneA, forceN_eq, forceN_eq]
theorem s_mov (x : Opd) : stepA P rec e m n (.mov x) = .ok (ev e x) m n 0 0 := rfl
theorem s_pick (c a b : Opd) : stepA P rec e m n (.pick c a b) = valO m n (pickV (ev e a) (ev e b) (ev e c)) := rfl
theorem s_bin (op : BinOp) (t : Nat) (x y : Opd) : stepA P rec e m n (.bin op t x y) = valO m n (binV P op t (ev e x) (ev e y)) := rfl
theorem s_una (op : UnOp) (x : Opd) : stepA P rec e m n (.una op x) = valO m n (unaV op (ev e x)) := rfl
theorem s_conv (q : IntKind) (x : Opd) : stepA P rec e m n (.conv q x) = valO m n (convV q (ev e x)) := rfl
theorem s_fld (off : Nat) (x : Opd) : stepA P rec e m n (.fld off x) = valO m n (fldV off (ev e x)) := rfl
theorem s_idx (sz : Nat) (x i : Opd) : stepA P rec e m n (.idx sz x i) = valO m n (obind (fun i => idxV sz i (ev e x)) (natOf (ev e i))) := rfl
theorem s_ida (c sz : Nat) (x i : Opd) : stepA P rec e m n (.ida c sz x i) = valO m n (obind (fun i => idaV c sz i (ev e x)) (natOf (ev e i))) := rfl
theorem s_build (z : List Value) (ps : List (Nat × Nat × Opd)) : stepA P rec e m n (.build z ps) = valO m n (aggO (fillA (parts3 e ps) z)) := rfl
theorem s_extr (i : Nat) (x : Opd) : stepA P rec e m n (.extr i x) = valO m n (extrV i (ev e x)) := rfl
theorem s_nilck (x : Opd) : stepA P rec e m n (.nilck x) = valO m n (nilckV (ev e x)) := rfl
theorem s_func (f : Nat) (a c : List Opd) : stepA P rec e m n (.func f a c) = .ok (.func (.func f) (evs e a).toArray (evs e c).toArray) m n 0 0 := rfl
theorem s_len (s : Bool) (x : Opd) : stepA P rec e m n (.len s x) = valO m n (lenV s (ev e x)) := rfl
theorem s_mx (x y : Opd) : stepA P rec e m n (.mx x y) = valO m n (mxV (ev e x) (ev e y)) := rfl
theorem s_slc (sz : Nat) (x : Opd) (lo hi : Option Opd) : stepA P rec e m n (.slc sz x lo hi) = slcM m n sz (slcV sz (oev e lo) (oev e hi) (ev e x)) (ev e x) := rfl
theorem s_new (c : List Value) : stepA P rec e m n (.new c) = newb m n (.cells c 0 false true) ptrP := rfl
theorem s_box (x : Opd) : stepA P rec e m n (.box x) = newb m n (.cells (ev e x).cells.toList 0 false true) ptrP := rfl
theorem s_mkl (sz len : Nat) (z : List Value) (ps : List (Nat × Opd)) : stepA P rec e m n (.mkl sz len z ps) = mklC m n sz len (fillA (parts2 sz e ps) (reps z len)) := rfl
theorem s_make (sz bytes : Nat) (z : List Value) (l c : Opd) : stepA P rec e m n (.make sz bytes z l c) = makeV sz bytes z m n (natOf (ev e l)) (natOf (ev e c)) := rfl
theorem s_ld1 (x : Opd) : stepA P rec e m n (.ld1 x) = ld1V m n (ev e x) := rfl
theorem s_ldn (c : Nat) (x : Opd) : stepA P rec e m n (.ldn c x) = ldnV c m n (ev e x) := rfl
theorem s_st (c : Nat) (x y : Opd) : stepA P rec e m n (.st c x y) = stV c (ev e y).cells.toList m n (ev e x) := rfl
theorem s_app (sz bytes : Nat) (x y : Opd) : stepA P rec e m n (.app sz bytes x y) = appO sz bytes m n (ev e x) (ev e y) (shown m n sz (ev e x)) (shown m n sz (ev e y)) := rfl
theorem s_call (f : Nat) (args : List Opd) : stepA P rec e m n (.call f args) = rec f (evs e args) m n := rfl
theorem s_callv (x : Opd) (args : List Opd) : stepA P rec e m n (.callv x args) = callV rec (evs e args) m n (ev e x) := rfl
theorem ev_v (i : Nat) : ev e (.v i) = lget e i := rfl
theorem ev_c (x : Value) : ev e (.c x) = x := rfl
theorem lget_z (a : Value) (l : List Value) : lget (a :: l) 0 = a := rfl
theorem lget_s (a : Value) (l : List Value) (i : Nat) : lget (a :: l) (i + 1) = lget l i := rfl
theorem evs_nil : evs e [] = [] := rfl
theorem evs_cons (x : Opd) (l : List Opd) : evs e (x :: l) = ev e x :: evs e l := rfl
theorem lmap_nil (t : List Value) : lmap e [] t = t := rfl
theorem lmap_cons (i : Nat) (s : List Nat) (t : List Value) : lmap e (i :: s) t = lget e i :: lmap e s t := rfl
theorem ldrop_z (l : List Value) : ldrop l 0 = l := by cases l <;> rfl
theorem ldrop_s (a : Value) (l : List Value) (i : Nat) : ldrop (a :: l) (i + 1) = ldrop l i := rfl
theorem fixE_mk (sel : List Nat) (d : Nat) : fixE sel d e = lmap e sel (ldrop e d) := rfl
theorem valO_some (v : Value) : valO m n (some v) = .ok v m n 0 0 := rfl
theorem bin_int (op : BinOp) (t : Nat) (q : IntKind) (a b : Int) : binV P op t (.int q a) (.int q b) = intBin op q a b := by
  show cond (decide (q = q)) (intBin op q a b) none = _; simp
theorem i_add (q : IntKind) (a b : Int) : intBin .add q a b = some (.int q (q.wrap (a + b))) := by show some (Value.int q (wrapF q (Int.add a b))) = _; rw [wrapF_eq]; rfl
theorem i_sub (q : IntKind) (a b : Int) : intBin .sub q a b = some (.int q (q.wrap (a - b))) := by show some (Value.int q (wrapF q (Int.sub a b))) = _; rw [wrapF_eq]; rfl
theorem i_mul (q : IntKind) (a b : Int) : intBin .mul q a b = some (.int q (q.wrap (a * b))) := by show some (Value.int q (wrapF q (Int.mul a b))) = _; rw [wrapF_eq]; rfl
theorem i_quo (q : IntKind) (a b : Int) : intBin .quo q a b = if b = 0 then none else some (.int q (q.wrap (a.tdiv b))) := by show cond (eqB b 0) none (some (Value.int q (wrapF q (a.tdiv b)))) = _; rw [wrapF_eq, eqB_eq]; by_cases h : b = 0 <;> simp [h]
theorem i_rem (q : IntKind) (a b : Int) : intBin .rem q a b = if b = 0 then none else some (.int q (a.tmod b)) := by show cond (eqB b 0) none (some (Value.int q (a.tmod b))) = _; rw [eqB_eq]; by_cases h : b = 0 <;> simp [h]
theorem i_eql (q : IntKind) (a b : Int) : intBin .eql q a b = some (.bool (decide (a = b))) := by show some (Value.bool (eqB a b)) = _; rw [eqB_eq]
theorem i_neq (q : IntKind) (a b : Int) : intBin .neq q a b = some (.bool (!decide (a = b))) := by show some (Value.bool (!eqB a b)) = _; rw [eqB_eq]
theorem i_lss (q : IntKind) (a b : Int) : intBin .lss q a b = some (.bool (decide (a < b))) := by show some (Value.bool (ltB a b)) = _; rw [ltB_eq]
theorem i_gtr (q : IntKind) (a b : Int) : intBin .gtr q a b = some (.bool (decide (b < a))) := by show some (Value.bool (ltB b a)) = _; rw [ltB_eq]
theorem i_leq (q : IntKind) (a b : Int) : intBin .leq q a b = some (.bool (decide (a ≤ b))) := by show some (Value.bool (!ltB b a)) = _; rw [ltB_eq, dec_le]
theorem i_geq (q : IntKind) (a b : Int) : intBin .geq q a b = some (.bool (decide (b ≤ a))) := by show some (Value.bool (!ltB a b)) = _; rw [ltB_eq, dec_le]
theorem pick_mk (a b : Value) (t : Bool) : pickV a b (.bool t) = some (cond t a b) := rfl
theorem wantB_mk (w t : Bool) : wantB w (.bool t) = cond w t (!t) := rfl
theorem fld_mk (off b o : Nat) : fldV off (.pointer (some ⟨b, o, none⟩)) = some (.pointer (some ⟨b, o + off, none⟩)) := rfl
theorem nilck_mk (a : Addr) : nilckV (.pointer (some a)) = some (.pointer (some a)) := rfl
theorem una_not (t : Bool) : unaV .not (.bool t) = some (.bool (!t)) := rfl
theorem res_nil : resA e m n [] = some ([], 0) := rfl
theorem res_cons (x : ROp) (l : List ROp) : resA e m n (x :: l) = Option.rec (motive := fun _ => Option (List Value × Nat)) none (fun p => resO e m n p.1 p.2 x) (resA e m n l) := rfl
theorem resO_v (vs : List Value) (r i : Nat) : resO e m n vs r (.v i) = some (lget e i :: vs, r) := rfl
theorem retV_one (v : Value) : retV [v] = v := rfl
end
end Go.Am
namespace Go.Am.V
open Go Go.Am Go.Am.Fast

section
variable {α β : Type}
noncomputable def pget (l : List α) : Nat → Option α := List.rec (motive := fun _ => Nat → Option α) (fun _ => none) (fun a _ ih i => Nat.rec (motive := fun _ => Option α) (some a) (fun j _ => ih j) i) l
noncomputable def pdrop (l : List α) : Nat → List α := List.rec (motive := fun _ => Nat → List α) (fun _ => []) (fun a l ih i => Nat.rec (motive := fun _ => List α) (a :: l) (fun j _ => ih j) i) l
noncomputable def pcons (x : α) (l : Option (List α)) : Option (List α) := Option.rec (motive := fun _ => Option (List α)) none (fun l => some (x :: l)) l
noncomputable def ptake (l : List α) : Nat → Option (List α) :=
  List.rec (motive := fun _ => Nat → Option (List α)) (fun n => Nat.rec (motive := fun _ => Option (List α)) (some []) (fun _ _ => none) n)
    (fun a _ ih i => Nat.rec (motive := fun _ => Option (List α)) (some []) (fun j _ => pcons a (ih j)) i) l
noncomputable def pat (c : List α) (off n : Nat) : Option (List α) := ptake (pdrop c off) n
noncomputable def pcover (vs : List α) : List α → Option (List α) :=
  List.rec (motive := fun _ => List α → Option (List α)) (fun c => some c)
    (fun v _ ih c => List.rec (motive := fun _ => Option (List α)) none (fun _ c _ => pcons v (ih c)) c) vs
noncomputable def pset (c : List α) : Nat → List α → Option (List α) :=
  List.rec (motive := fun _ => Nat → List α → Option (List α)) (fun i vs => Nat.rec (motive := fun _ => Option (List α)) (pcover vs []) (fun _ _ => none) i)
    (fun x c ih i vs => Nat.rec (motive := fun _ => Option (List α)) (pcover vs (x :: c)) (fun j _ => pcons x (ih j vs)) i) c
noncomputable def plen (l : List α) : Nat := List.rec (motive := fun _ => Nat) 0 (fun _ _ n => Nat.succ n) l
noncomputable def papp (a b : List α) : List α := List.rec (motive := fun _ => List α) b (fun x _ r => x :: r) a
noncomputable def pmap (f : α → β) (a : List α) : List β := List.rec (motive := fun _ => List β) [] (fun x _ r => f x :: r) a
noncomputable def preps (z : List α) (n : Nat) : List α := Nat.rec (motive := fun _ => List α) [] (fun _ l => papp z l) n
theorem pmap_eq (f : α → β) (a : List α) : pmap f a = a.map f := by
  induction a with
  | nil => rfl
  | cons x a ih => show f x :: pmap f a = _; rw [ih]; rfl
theorem papp_eq (a b : List α) : papp a b = a ++ b := by
  induction a with
  | nil => rfl
  | cons x a ih => show x :: papp a b = _; rw [ih]; rfl
variable (f : α → β)
theorem plen_map (l : List α) : plen (l.map f) = plen l := by
  induction l with
  | nil => rfl
  | cons x l ih => show Nat.succ (plen (l.map f)) = Nat.succ (plen l); rw [ih]
theorem pget_map (l : List α) (i : Nat) : pget (l.map f) i = (pget l i).map f := by
  induction l generalizing i with
  | nil => rfl
  | cons x l ih => cases i with
    | zero => rfl
    | succ i => exact ih i
theorem pdrop_map (l : List α) (i : Nat) : pdrop (l.map f) i = (pdrop l i).map f := by
  induction l generalizing i with
  | nil => rfl
  | cons x l ih => cases i with
    | zero => rfl
    | succ i => exact ih i
theorem pcons_map (x : α) (l : Option (List α)) : pcons (f x) (l.map (List.map f)) = (pcons x l).map (List.map f) := by cases l <;> rfl
theorem ptake_map (l : List α) (i : Nat) : ptake (l.map f) i = (ptake l i).map (List.map f) := by
  induction l generalizing i with
  | nil => cases i <;> rfl
  | cons x l ih => cases i with
    | zero => rfl
    | succ i =>
      show pcons (f x) (ptake (l.map f) i) = (pcons x (ptake l i)).map (List.map f)
      rw [ih, pcons_map]
theorem pat_map (c : List α) (o n : Nat) : pat (c.map f) o n = (pat c o n).map (List.map f) := by
  show ptake (pdrop (c.map f) o) n = _; rw [pdrop_map, ptake_map]; rfl
theorem pcover_map (vs c : List α) : pcover (vs.map f) (c.map f) = (pcover vs c).map (List.map f) := by
  induction vs generalizing c with
  | nil => rfl
  | cons v vs ih => cases c with
    | nil => rfl
    | cons x c =>
      show pcons (f v) (pcover (vs.map f) (c.map f)) = (pcons v (pcover vs c)).map (List.map f)
      rw [ih, pcons_map]
theorem pset_map (c : List α) (i : Nat) (vs : List α) : pset (c.map f) i (vs.map f) = (pset c i vs).map (List.map f) := by
  induction c generalizing i with
  | nil => cases i with
    | zero => exact pcover_map f vs []
    | succ i => rfl
  | cons x c ih => cases i with
    | zero => exact pcover_map f vs (x :: c)
    | succ i =>
      show pcons (f x) (pset (c.map f) i (vs.map f)) = (pcons x (pset c i vs)).map (List.map f)
      rw [ih, pcons_map]
theorem papp_map (a b : List α) : papp (a.map f) (b.map f) = (papp a b).map f := by rw [papp_eq, papp_eq, List.map_append]
theorem preps_map (z : List α) (n : Nat) : preps (z.map f) n = (preps z n).map f := by
  induction n with
  | zero => rfl
  | succ n ih => show papp (z.map f) (preps (z.map f) n) = (papp z (preps z n)).map f; rw [ih, papp_map]
end

inductive FV where
  | i (z : Int)
  | b (t : Bool)
  | p (b o : Nat)
  | s (b o l c : Nat)
  | o (v : Value)
noncomputable def toV (v : FV) : Value := FV.rec (motive := fun _ => Value) (fun z => .int .i64 z) (fun t => .bool t) (fun b o => .pointer (some ⟨b, o, none⟩)) (fun b o l c => .slice (some ⟨b, o, none⟩) l c) (fun v => v) v
noncomputable def ofInt (k : IntKind) (z : Int) : FV := IntKind.rec (motive := fun _ => Int → FV) (fun z => .o (.int .i8 z)) (fun z => .o (.int .i16 z)) (fun z => .o (.int .i32 z)) (fun z => .i z) (fun z => .o (.int .u8 z)) (fun z => .o (.int .u16 z)) (fun z => .o (.int .u32 z)) (fun z => .o (.int .u64 z)) k z
noncomputable def ofPtr (a : Option Addr) : FV := Option.rec (motive := fun _ => FV) (.o (.pointer none)) (fun a => Addr.rec (motive := fun _ => FV) (fun b o s => Option.rec (motive := fun _ => Nat → Nat → FV) (fun b o => .p b o) (fun s b o => .o (.pointer (some ⟨b, o, some s⟩))) s b o) a) a
noncomputable def ofSl (a : Option Addr) (l c : Nat) : FV := Option.rec (motive := fun _ => Nat → Nat → FV) (fun l c => .o (.slice none l c)) (fun a l c => Addr.rec (motive := fun _ => FV) (fun b o s => Option.rec (motive := fun _ => Nat → Nat → Nat → Nat → FV) (fun b o l c => .s b o l c) (fun s b o l c => .o (.slice (some ⟨b, o, some s⟩) l c)) s b o l c) a) a l c
noncomputable def ofV (v : Value) : FV :=
  Value.casesOn (motive_1 := fun _ => FV) v (fun b => .b b) ofInt (fun k b => .o (.float k b)) (fun k a b => .o (.complex k a b)) (fun s => .o (.string s)) ofPtr ofSl (fun r => .o (.map r)) (fun r => .o (.chan r)) (fun f a c => .o (.func f a c)) (.o .nilFunc) (fun t v => .o (.iface t v)) (.o .nilIface) (fun c => .o (.agg c)) (fun c => .o (.tuple c))
theorem toV_ofV (v : Value) : toV (ofV v) = v := by
  cases v
  case int k z => cases k <;> rfl
  case pointer a => rcases a with _ | ⟨b, o, _ | s⟩ <;> rfl
  case slice a l c => rcases a with _ | ⟨b, o, _ | s⟩ <;> rfl
  all_goals rfl
theorem toV_ofVs (l : List Value) : (l.map ofV).map toV = l := by
  rw [List.map_map]
  have : toV ∘ ofV = id := funext toV_ofV
  rw [this, List.map_id]
section
variable {α : Type}
noncomputable def onI (v : FV) (k : Int → α) (d : α) : α := FV.rec (motive := fun _ => (Int → α) → α → α) (fun z k _ => k z) (fun _ _ d => d) (fun _ _ _ d => d) (fun _ _ _ _ _ d => d) (fun _ _ d => d) v k d
noncomputable def onB (v : FV) (a b d : α) : α := FV.rec (motive := fun _ => α → α → α → α) (fun _ _ _ d => d) (fun t a b _ => Bool.rec (motive := fun _ => α) b a t) (fun _ _ _ _ d => d) (fun _ _ _ _ _ _ d => d) (fun _ _ _ d => d) v a b d
noncomputable def onP (v : FV) (k : Nat → Nat → α) (d : α) : α := FV.rec (motive := fun _ => (Nat → Nat → α) → α → α) (fun _ _ d => d) (fun _ _ d => d) (fun b o k _ => k b o) (fun _ _ _ _ _ d => d) (fun _ _ d => d) v k d
noncomputable def onS (v : FV) (k : Nat → Nat → Nat → Nat → α) (d : α) : α := FV.rec (motive := fun _ => (Nat → Nat → Nat → Nat → α) → α → α) (fun _ _ d => d) (fun _ _ d => d) (fun _ _ _ d => d) (fun b o l c k _ => k b o l c) (fun _ _ d => d) v k d
noncomputable def fF (k : FV → α) (v : FV) : α := FV.rec (motive := fun _ => α) (fI fun z => k (.i z)) (fB fun t => k (.b t)) (fun b o => fN (fun b => fN (fun o => k (.p b o)) o) b) (fun b o l c => fN (fun b => fN (fun o => fN (fun l => fN (fun c => k (.s b o l c)) c) l) o) b) (fun v => k (.o v)) v
theorem fF_eq (k : FV → α) (v : FV) : fF k v = k v := by
  cases v with
  | i z => exact fI_eq (fun z => k (.i z)) z
  | b t => exact fB_eq (fun t => k (.b t)) t
  | p b o => show fN (fun b => fN (fun o => k (.p b o)) o) b = _; rw [fN_eq, fN_eq]
  | s b o l c => show fN (fun b => fN (fun o => fN (fun l => fN (fun c => k (.s b o l c)) c) l) o) b = _; rw [fN_eq, fN_eq, fN_eq, fN_eq]
  | o v => rfl
end

structure FBlk where
  c : List FV
  sz : Nat
  opn : Bool
  wr : Bool
noncomputable def toB (x : FBlk) : Blk := FBlk.rec (motive := fun _ => Blk) (fun c sz opn wr => .cells (c.map toV) sz opn wr) x
abbrev FTr := List (Option FBlk)
noncomputable def oflat (x : Option (Option FBlk)) : Option FBlk := Option.rec (motive := fun _ => Option FBlk) none (fun x => x) x
noncomputable def gb (m : FTr) (n b : Nat) : Option FBlk := Bool.rec (motive := fun _ => Option FBlk) none (oflat (pget m (Nat.sub (Nat.pred n) b))) (Nat.ble (Nat.succ b) n)
noncomputable def absM (m : FTr) (n : Nat) : FM := fun b => (gb m n b).map toB
noncomputable def lset (m : FTr) (x : Option FBlk) (i : Nat) : Option FTr :=
  List.rec (motive := fun _ => Nat → Option FTr) (fun _ => none) (fun a t ih i => Nat.rec (motive := fun _ => Option FTr) (some (x :: t)) (fun j _ => Option.rec (motive := fun _ => Option FTr) none (fun t => some (a :: t)) (ih j)) i) m i
theorem lset_get {x : Option FBlk} : ∀ {m m' : FTr} {i : Nat}, lset m x i = some m' → ∀ j, pget m' j = if j = i then some x else pget m j
  | [], m', i, h, j => by cases h
  | a :: t, m', 0, h, j => by
    have h : some (x :: t) = some m' := h
    injection h with h; subst h
    cases j with
    | zero => rfl
    | succ j => rfl
  | a :: t, m', i + 1, h, j => by
    have h : Option.rec (motive := fun _ => Option FTr) none (fun t => some (a :: t)) (lset t x i) = some m' := h
    cases hl : lset t x i with
    | none => rw [hl] at h; cases h
    | some t' =>
      rw [hl] at h
      injection h with h; subst h
      cases j with
      | zero => rfl
      | succ j =>
        show pget t' j = if j + 1 = i + 1 then some x else pget t j
        rw [lset_get hl j]
        by_cases e : j = i
        · rw [if_pos e, if_pos (by omega)]
        · rw [if_neg e, if_neg (by omega)]
theorem gb_eq (m : FTr) (n b : Nat) : getb (absM m n) n b = (gb m n b).map toB := by
  show cond (Nat.blt b n) ((gb m n b).map toB) none = (gb m n b).map toB
  show cond (Nat.blt b n) ((Bool.rec (motive := fun _ => Option FBlk) none (oflat (pget m (Nat.sub (Nat.pred n) b))) (Nat.blt b n)).map toB) none = (Bool.rec (motive := fun _ => Option FBlk) none (oflat (pget m (Nat.sub (Nat.pred n) b))) (Nat.blt b n)).map toB
  cases Nat.blt b n <;> rfl
theorem gb_lt {m : FTr} {n b : Nat} {x : FBlk} (h : gb m n b = some x) : b < n := by
  have h : Bool.rec (motive := fun _ => Option FBlk) none (oflat (pget m (Nat.sub (Nat.pred n) b))) (Nat.ble (Nat.succ b) n) = some x := h
  cases hb : Nat.ble (Nat.succ b) n
  · rw [hb] at h; cases h
  · exact Nat.le_of_ble_eq_true hb
theorem gb_lt' {m : FTr} {n b : Nat} (h : b < n) : gb m n b = oflat (pget m (n - 1 - b)) := by
  show Bool.rec (motive := fun _ => Option FBlk) none (oflat (pget m (n - 1 - b))) (Nat.ble (Nat.succ b) n) = _
  rw [Nat.ble_eq_true_of_le h]
theorem gb_ge {m : FTr} {n b : Nat} (h : n ≤ b) : gb m n b = none := by
  show Bool.rec (motive := fun _ => Option FBlk) none (oflat (pget m (n - 1 - b))) (Nat.ble (Nat.succ b) n) = _
  cases hb : Nat.ble (Nat.succ b) n
  · rfl
  · have := Nat.le_of_ble_eq_true hb; omega
theorem absM_new {m : FTr} {n : Nat} {x : Option FBlk} : absM (x :: m) (Nat.succ n) = AMem.put (absM m n) n (x.map toB) := by
  funext j
  show (gb (x :: m) (n + 1) j).map toB = if j = n then x.map toB else (gb m n j).map toB
  by_cases e : j = n
  · subst e
    rw [if_pos rfl, gb_lt' (by omega)]
    have : j + 1 - 1 - j = 0 := by omega
    rw [this]; rfl
  · rw [if_neg e]
    by_cases h : j < n
    · rw [gb_lt' (by omega), gb_lt' h]
      have : n + 1 - 1 - j = (n - 1 - j) + 1 := by omega
      rw [this]; rfl
    · rw [gb_ge (by omega), gb_ge (by omega)]
noncomputable def tset (m : FTr) (n b : Nat) (x : Option FBlk) : Option FTr := lset m x (Nat.sub (Nat.pred n) b)
theorem absM_set {m m' : FTr} {n b : Nat} {x : Option FBlk} (hb : b < n) (h : tset m n b x = some m') : absM m' n = AMem.put (absM m n) b (x.map toB) := by
  funext j
  show (gb m' n j).map toB = if j = b then x.map toB else (gb m n j).map toB
  by_cases hj : j < n
  · rw [gb_lt' hj, lset_get h]
    by_cases e : j = b
    · subst e; rw [if_pos (show n - 1 - j = Nat.sub (Nat.pred n) j from rfl), if_pos rfl]; rfl
    · rw [if_neg e, if_neg (by show ¬ (n - 1 - j = n - 1 - b); omega), gb_lt' hj]
  · rw [gb_ge (by omega), if_neg (by omega), gb_ge (by omega)]

inductive FR where
  | no
  | pv (v : FV)
  | rd (v : FV) (b : Nat)
  | ok (v : FV) (m : FTr) (n r w : Nat)
def FSim (m : FTr) (n : Nat) (x : FR) (y : OR FM) : Prop :=
  match x with
  | .no => True
  | .pv v => y = .ok (toV v) (absM m n) n 0 0
  | .rd v b => y = .ok (toV v) (absM m n) n (bit b) 0
  | .ok v m' n' r w => y = .ok (toV v) (absM m' n') n' r w
theorem fsim_no {m : FTr} {n : Nat} {y : OR FM} : FSim m n .no y := trivial
abbrev FCal := Nat → List FV → FTr → Nat → FR
noncomputable def gl (l : List FV) : Nat → FV := List.rec (motive := fun _ => Nat → FV) (fun _ => .o undef) (fun a _ ih i => Nat.rec (motive := fun _ => FV) a (fun j _ => ih j) i) l
theorem gl_eq (l : List FV) (i : Nat) : toV (gl l i) = lget (l.map toV) i := by
  induction l generalizing i with
  | nil => rfl
  | cons x l ih => cases i with
    | zero => rfl
    | succ i => exact ih i
noncomputable def gv (e : List FV) (x : Opd) : FV := Opd.rec (motive := fun _ => List FV → FV) (fun i e => gl e i) (fun v _ => ofV v) x e
theorem gv_eq (e : List FV) (x : Opd) : toV (gv e x) = ev (e.map toV) x := by
  cases x with
  | v i => exact gl_eq e i
  | c v => exact toV_ofV v
noncomputable def gvs (e : List FV) (l : List Opd) : List FV := List.rec (motive := fun _ => List FV) [] (fun x _ r => gv e x :: r) l
theorem gvs_eq (e : List FV) (l : List Opd) : (gvs e l).map toV = evs (e.map toV) l := by
  induction l with
  | nil => rfl
  | cons x l ih => show toV (gv e x) :: (gvs e l).map toV = ev (e.map toV) x :: evs (e.map toV) l; rw [ih, gv_eq]
noncomputable def rO (x : Option Value) : FR := Option.rec (motive := fun _ => FR) .no (fun v => fF FR.pv (ofV v)) x
theorem rO_sim {m : FTr} {n : Nat} {x y : Option Value} (h : x = y) : FSim m n (rO x) (valO (absM m n) n y) := by
  subst h
  cases x with
  | none => trivial
  | some v =>
    show FSim m n (fF FR.pv (ofV v)) _
    rw [fF_eq]
    show _ = OR.ok (toV (ofV v)) (absM m n) n 0 0
    rw [toV_ofV]; rfl
noncomputable def pI (z : Int) : FR := fI (fun z => .pv (.i z)) z
noncomputable def pB (t : Bool) : FR := fB (fun t => .pv (.b t)) t
noncomputable def pW' (z : Int) : FR := Bool.rec (motive := fun _ => FR) (pI (IntKind.i64.wrap z)) (.pv (.i z)) (in64 z)
noncomputable def pW (z : Int) : FR := fI pW' z
theorem pI_eq (z : Int) : pI z = .pv (.i z) := fI_eq _ _
theorem pB_eq (t : Bool) : pB t = .pv (.b t) := fB_eq _ _
theorem pW_eq (z : Int) : pW z = .pv (.i (wrapF .i64 z)) := by
  show fI pW' z = _
  rw [fI_eq]
  show Bool.rec (motive := fun _ => FR) (pI (IntKind.i64.wrap z)) (.pv (.i z)) (in64 z) = _
  have h : in64 z = inI64 z := by cases z <;> rfl
  rw [h, pI_eq]
  simp only [wrapF]
  cases inI64 z <;> rfl
noncomputable def jAdd (a b : Int) : FR := pW (iAdd a b)
noncomputable def jSub (a b : Int) : FR := pW (iSub a b)
noncomputable def jMul (a b : Int) : FR := pW (iMul a b)
noncomputable def jQuo (a b : Int) : FR := Bool.rec (motive := fun _ => FR) (pW (iQuo a b)) .no (iEq b (Int.ofNat Nat.zero))
noncomputable def jRem (a b : Int) : FR := Bool.rec (motive := fun _ => FR) (pI (iRem a b)) .no (iEq b (Int.ofNat Nat.zero))
noncomputable def jEql (a b : Int) : FR := pB (iEq a b)
noncomputable def jNeq (a b : Int) : FR := pB (Bool.not (iEq a b))
noncomputable def jLss (a b : Int) : FR := pB (iLt a b)
noncomputable def jLeq (a b : Int) : FR := pB (Bool.not (iLt b a))
noncomputable def jGtr (a b : Int) : FR := pB (iLt b a)
noncomputable def jGeq (a b : Int) : FR := pB (Bool.not (iLt a b))
def jNo (_ _ : Int) : FR := .no
noncomputable def jOp (op : BinOp) : Int → Int → FR := BinOp.rec (motive := fun _ => Int → Int → FR) jAdd jSub jMul jQuo jRem jNo jNo jNo jNo jNo jNo jEql jNeq jLss jLeq jGtr jGeq op
theorem jOp_sim {m : FTr} {n : Nat} (op : BinOp) (a b : Int) : FSim m n (jOp op a b) (valO (absM m n) n (intBin op .i64 a b)) := by
  cases op
  case add => show FSim m n (pW (iAdd a b)) _; rw [pW_eq, iAdd_eq]; rfl
  case sub => show FSim m n (pW (iSub a b)) _; rw [pW_eq, iSub_eq]; rfl
  case mul => show FSim m n (pW (iMul a b)) _; rw [pW_eq, iMul_eq]; rfl
  case quo =>
    show FSim m n (Bool.rec (motive := fun _ => FR) (pW (iQuo a b)) .no (iEq b 0)) (valO (absM m n) n (cond (eqB b 0) none (some (.int .i64 (wrapF .i64 (a.tdiv b))))))
    rw [iEq_eq, pW_eq, iQuo_eq]
    cases eqB b 0 <;> first | rfl | trivial
  case rem =>
    show FSim m n (Bool.rec (motive := fun _ => FR) (pI (iRem a b)) .no (iEq b 0)) (valO (absM m n) n (cond (eqB b 0) none (some (.int .i64 (a.tmod b)))))
    rw [iEq_eq, pI_eq, iRem_eq]
    cases eqB b 0 <;> first | rfl | trivial
  case eql => show FSim m n (pB (iEq a b)) _; rw [pB_eq, iEq_eq]; rfl
  case neq => show FSim m n (pB (Bool.not (iEq a b))) _; rw [pB_eq, iEq_eq]; rfl
  case lss => show FSim m n (pB (iLt a b)) _; rw [pB_eq, iLt_eq]; rfl
  case leq => show FSim m n (pB (Bool.not (iLt b a))) _; rw [pB_eq, iLt_eq]; rfl
  case gtr => show FSim m n (pB (iLt b a)) _; rw [pB_eq, iLt_eq]; rfl
  case geq => show FSim m n (pB (Bool.not (iLt a b))) _; rw [pB_eq, iLt_eq]; rfl
  all_goals trivial
end Go.Am.V
namespace Go.Am.V
open Go Go.Am Go.Am.Fast

inductive FS where
  | mk (f : FCal → List FV → FTr → Nat → FR)
noncomputable def FS.run (s : FS) : FCal → List FV → FTr → Nat → FR := FS.rec (motive := fun _ => FCal → List FV → FTr → Nat → FR) (fun f => f) s
section
variable (P : Program)
noncomputable def uMov (x : Opd) : FS := .mk fun _ e _ _ => fF FR.pv (gv e x)
noncomputable def uPick (c a b : Opd) : FS := .mk fun _ e _ _ => onB (gv e c) (fF FR.pv (gv e a)) (fF FR.pv (gv e b)) .no
noncomputable def slow (op : BinOp) (t : Nat) (x y : FV) : FR := rO (binV P op t (toV x) (toV y))
noncomputable def binRun (f : Int → Int → FR) (op : BinOp) (t : Nat) (x y : Opd) : FS := .mk fun _ e _ _ =>
  onI (gv e x) (fun a => onI (gv e y) (fun b => f a b) (slow P op t (gv e x) (gv e y))) (slow P op t (gv e x) (gv e y))
noncomputable def uBin (op : BinOp) (t : Nat) (x y : Opd) : FS :=
  BinOp.rec (motive := fun _ => Program → Nat → Opd → Opd → FS) (fun P => binRun P jAdd .add) (fun P => binRun P jSub .sub) (fun P => binRun P jMul .mul) (fun P => binRun P jQuo .quo) (fun P => binRun P jRem .rem)
    (fun P => binRun P jNo .and) (fun P => binRun P jNo .or) (fun P => binRun P jNo .xor) (fun P => binRun P jNo .shl) (fun P => binRun P jNo .shr) (fun P => binRun P jNo .andNot)
    (fun P => binRun P jEql .eql) (fun P => binRun P jNeq .neq) (fun P => binRun P jLss .lss) (fun P => binRun P jLeq .leq) (fun P => binRun P jGtr .gtr) (fun P => binRun P jGeq .geq) op P t x y
theorem uBin_eq (op : BinOp) (t : Nat) (x y : Opd) : uBin P op t x y = binRun P (jOp op) op t x y := by cases op <;> rfl
noncomputable def uUna (op : UnOp) (x : Opd) : FS := .mk fun _ e _ _ => rO (unaV op (toV (gv e x)))
noncomputable def uNot (x : Opd) : FS := .mk fun _ e _ _ => onB (gv e x) (.pv (.b false)) (.pv (.b true)) .no
noncomputable def uUn (op : UnOp) (x : Opd) : FS := UnOp.rec (motive := fun _ => Opd → FS) (uUna .neg) (uUna .xor) uNot (uUna .plus) op x
noncomputable def uConv (k : IntKind) (x : Opd) : FS := .mk fun _ e _ _ => rO (convV k (toV (gv e x)))
noncomputable def uFld (off : Nat) (x : Opd) : FS := .mk fun _ e _ _ => onP (gv e x) (fun b o => fN (fun o => .pv (.p b o)) (Nat.add o off)) .no
noncomputable def fnn {α : Type} (z : Int) (k : Nat → α) (d : α) : α := Int.rec (motive := fun _ => (Nat → α) → α → α) (fun a k _ => k a) (fun _ _ d => d) z k d
noncomputable def idxF (sz i : Nat) (v : FV) : FR := onS v (fun b o l _ => Bool.rec (motive := fun _ => FR) .no (fN (fun o => .pv (.p b o)) (Nat.add o (Nat.mul i sz))) (Nat.ble (Nat.succ i) l)) .no
noncomputable def uIdx (sz : Nat) (x i : Opd) : FS := .mk fun _ e _ _ => onI (gv e i) (fun z => fnn z (fun i => idxF sz i (gv e x)) .no) (rO (obind (fun i => idxV sz i (toV (gv e x))) (natOf (toV (gv e i)))))
noncomputable def idaF (k sz i : Nat) (v : FV) : FR := onP v (fun b o => Bool.rec (motive := fun _ => FR) .no (fN (fun o => .pv (.p b o)) (Nat.add o (Nat.mul i sz))) (Nat.ble (Nat.succ i) k)) .no
noncomputable def uIda (k sz : Nat) (x i : Opd) : FS := .mk fun _ e _ _ => onI (gv e i) (fun z => fnn z (fun i => idaF k sz i (gv e x)) .no) (rO (obind (fun i => idaV k sz i (toV (gv e x))) (natOf (toV (gv e i)))))
noncomputable def uBuild (z : List Value) (ps : List (Nat × Nat × Opd)) : FS := .mk fun _ e _ _ => rO (aggO (fillA (parts3 (e.map toV) ps) z))
noncomputable def uExtr (i : Nat) (x : Opd) : FS := .mk fun _ e _ _ => rO (extrV i (toV (gv e x)))
noncomputable def uNilck (x : Opd) : FS := .mk fun _ e _ _ => onP (gv e x) (fun b o => .pv (.p b o)) .no
noncomputable def uFunc (f : Nat) (a c : List Opd) : FS := .mk fun _ e _ _ => .pv (.o (.func (.func f) ((gvs e a).map toV).toArray ((gvs e c).map toV).toArray))
noncomputable def uLen (s : Bool) (x : Opd) : FS := Bool.rec (motive := fun _ => Opd → FS) (fun x => .mk fun _ e _ _ => onS (gv e x) (fun _ _ l _ => .pv (.i (.ofNat l))) (rO (lenV false (toV (gv e x))))) (fun x => .mk fun _ e _ _ => rO (lenV true (toV (gv e x)))) s x
noncomputable def uMx (x y : Opd) : FS := .mk fun _ e _ _ => onI (gv e x) (fun a => onI (gv e y) (fun b => Bool.rec (motive := fun _ => FR) (.pv (.i a)) (.pv (.i b)) (iLt a b)) .no) .no
noncomputable def goev (e : List FV) (x : Option Opd) : Option Value := Option.rec (motive := fun _ => Option Value) none (fun x => some (toV (gv e x))) x
noncomputable def fszOk (sz : Nat) (x : Option FBlk) : Bool := Option.rec (motive := fun _ => Bool) false (fun x => FBlk.rec (motive := fun _ => Bool) (fun _ s _ _ => Nat.beq s sz) x) x
noncomputable def slcF (m : FTr) (n sz : Nat) (v : Option Value) (x : FV) : FR :=
  FV.rec (motive := fun _ => FR) (fun _ => rO v) (fun _ => rO v) (fun _ _ => rO v)
    (fun b _ _ c => Bool.rec (motive := fun _ => FR) (rO v) (Bool.rec (motive := fun _ => FR) .no (Option.rec (motive := fun _ => FR) .no (fun v => FR.rd (ofV v) b) v) (fszOk sz (gb m n b))) (Nat.beq c UNK))
    (fun y => onSlice y (fun a _ _ => Option.rec (motive := fun _ => FR) (rO v) (fun _ => .no) a) (rO v)) x
noncomputable def uSlc (sz : Nat) (x : Opd) (lo hi : Option Opd) : FS := .mk fun _ e m n => slcF m n sz (slcV sz (goev e lo) (goev e hi) (toV (gv e x))) (gv e x)

noncomputable def fnew (m : FTr) (n : Nat) (B : FBlk) (v : Nat → FV) : FR := .ok (v n) (some B :: m) (Nat.succ n) Nat.zero (bit n)
noncomputable def cellsF (v : FV) : List FV := FV.rec (motive := fun _ => List FV) (fun z => [.i z]) (fun t => [.b t]) (fun b o => [.p b o]) (fun b o l c => [.s b o l c]) (fun v => pmap ofV v.cells.toList) v
noncomputable def uNew (c : List Value) : FS := .mk fun _ _ m n => fnew m n ⟨pmap ofV c, 0, false, true⟩ fun n => .p n 0
noncomputable def uBox (x : Opd) : FS := .mk fun _ e m n => fnew m n ⟨cellsF (gv e x), 0, false, true⟩ fun n => .p n 0
noncomputable def mklF (m : FTr) (n sz len : Nat) (c : Option (List Value)) : FR := Option.rec (motive := fun _ => FR) .no (fun c => fnew m n ⟨pmap ofV c, sz, false, true⟩ fun n => .s n 0 len len) c
noncomputable def uMkl (sz len : Nat) (z : List Value) (ps : List (Nat × Opd)) : FS := .mk fun _ e m n => mklF m n sz len (fillA (parts2 sz (e.map toV) ps) (reps z len))
noncomputable def makeF (m : FTr) (n sz bytes : Nat) (z : List Value) (l c : Nat) : FR :=
  Bool.rec (motive := fun _ => FR) .no (fnew m n ⟨preps (pmap ofV z) c, sz, false, true⟩ fun n => .s n 0 l c) (Nat.ble l c && Nat.ble (Nat.mul c bytes) 281474976710656 && Nat.ble c 1099511627776)
noncomputable def uMake (sz bytes : Nat) (z : List Value) (l c : Opd) : FS := .mk fun _ e m n => onI (gv e l) (fun l => onI (gv e c) (fun c => fnn l (fun l => fnn c (fun c => makeF m n sz bytes z l c) .no) .no) .no) .no
noncomputable def fcells {α : Type} (x : Option FBlk) (k : List FV → α) (d : α) : α := Option.rec (motive := fun _ => α) d (fun x => FBlk.rec (motive := fun _ => α) (fun c _ _ _ => k c) x) x
noncomputable def rdO (b : Nat) (x : Option FV) : FR := Option.rec (motive := fun _ => FR) .no (fun v => .rd v b) x
noncomputable def uLd1 (x : Opd) : FS := .mk fun _ e m n => onP (gv e x) (fun b o => fcells (gb m n b) (fun c => rdO b (pget c o)) .no) .no
noncomputable def aggF (x : Option (List FV)) : Option FV := Option.rec (motive := fun _ => Option FV) none (fun c => some (.o (.agg (c.map toV).toArray))) x
noncomputable def uLdn (k : Nat) (x : Opd) : FS := .mk fun _ e m n => onP (gv e x) (fun b o => fcells (gb m n b) (fun c => rdO b (aggF (pat c o k))) .no) .no
noncomputable def oneF (v : FV) : Bool := FV.rec (motive := fun _ => Bool) (fun _ => true) (fun _ => true) (fun _ _ => true) (fun _ _ _ _ => true) one v
noncomputable def allOne (l : List FV) : Bool := List.rec (motive := fun _ => Bool) true (fun v _ r => Bool.rec (motive := fun _ => Bool) false r (oneF v)) l
noncomputable def putF (m : FTr) (b sz : Nat) (opn : Bool) (n : Nat) (v : FV) (r : Nat) (c : Option (List FV)) : FR := Option.rec (motive := fun _ => FR) .no (fun c => Option.rec (motive := fun _ => FR) .no (fun m => .ok v m n r (bit b)) (tset m n b (some ⟨c, sz, opn, true⟩))) c
noncomputable def stF (m : FTr) (n b o : Nat) (vs : List FV) (x : Option FBlk) : FR :=
  Option.rec (motive := fun _ => FR) .no (fun x => FBlk.rec (motive := fun _ => FR) (fun c sz opn wr => Bool.rec (motive := fun _ => FR) .no (putF m b sz opn n (.o undef) (bit b) (pset c o vs)) wr) x) x
noncomputable def uSt (k : Nat) (x y : Opd) : FS := .mk fun _ e m n => onP (gv e x) (fun b o => Bool.rec (motive := fun _ => FR) .no (stF m n b o (cellsF (gv e y)) (gb m n b)) (Nat.beq (plen (cellsF (gv e y))) k && allOne (cellsF (gv e y)))) .no
noncomputable def shownF (m : FTr) (n sz : Nat) (v : FV) : Option (List FV × Nat) :=
  FV.rec (motive := fun _ => Option (List FV × Nat)) (fun _ => none) (fun _ => none) (fun _ _ => none)
    (fun b o l _ => Bool.rec (motive := fun _ => Option (List FV × Nat)) (Option.rec (motive := fun _ => Option (List FV × Nat)) none (fun x => FBlk.rec (motive := fun _ => Option (List FV × Nat)) (fun c s _ _ => Bool.rec (motive := fun _ => Option (List FV × Nat)) none (Option.rec (motive := fun _ => Option (List FV × Nat)) none (fun x => some (x, bit b)) (pat c o (Nat.mul l sz))) (Nat.beq s sz)) x) (gb m n b)) (some ([], 0)) (Nat.beq l 0))
    (fun v => onSlice v (fun a l c => Option.rec (motive := fun _ => Option (List FV × Nat)) (Bool.rec (motive := fun _ => Option (List FV × Nat)) none (some ([], 0)) (Nat.beq l 0 && Nat.beq c 0)) (fun _ => none) a) none) v
noncomputable def fappN (m : FTr) (n sz len : Nat) (c : List FV) (r : Nat) : FR := .ok (.s n 0 len UNK) (some ⟨c, sz, true, true⟩ :: m) (Nat.succ n) r (bit n)
noncomputable def fappU (m : FTr) (n sz len : Nat) (c : List FV) (r bx : Nat) (x : Option FBlk) : FR :=
  Option.rec (motive := fun _ => FR) .no (fun x => FBlk.rec (motive := fun _ => FR) (fun _ s opn wr => Bool.rec (motive := fun _ => FR) .no (Option.rec (motive := fun _ => FR) .no (fun m => .ok (.s n 0 len UNK) (some ⟨c, sz, true, true⟩ :: m) (Nat.succ n) r (Nat.lor (bit bx) (bit n))) (tset m n bx none)) (Nat.beq s sz && opn && wr)) x) x
noncomputable def fappR (m : FTr) (n sz lx len cx : Nat) (b : List FV) (r bx ox : Nat) (x : Option FBlk) : FR :=
  Option.rec (motive := fun _ => FR) .no (fun x => FBlk.rec (motive := fun _ => FR) (fun c s opn wr => Bool.rec (motive := fun _ => FR) .no (putF m bx s opn n (.s bx ox len cx) r (pset c (Nat.add ox (Nat.mul lx sz)) b)) wr) x) x
noncomputable def appS (m : FTr) (n sz lx ly cx : Nat) (a b : List FV) (r bx ox : Nat) : FR :=
  Bool.rec (motive := fun _ => FR) (Bool.rec (motive := fun _ => FR) (Bool.rec (motive := fun _ => FR) (fappN m n sz (Nat.add lx ly) (papp a b) r) (fappR m n sz lx (Nat.add lx ly) cx b r bx ox (gb m n bx)) (Nat.ble (Nat.add lx ly) cx)) (fappU m n sz (Nat.add lx ly) (papp a b) r bx (gb m n bx)) (Nat.beq cx UNK)) .no (Nat.beq cx VAG)
noncomputable def lenF (y : FV) : Nat := FV.rec (motive := fun _ => Nat) (fun _ => 0) (fun _ => 0) (fun _ _ => 0) (fun _ _ l _ => l) (fun v => onSlice v (fun _ l _ => l) 0) y
noncomputable def appX (sz bytes : Nat) (m : FTr) (n : Nat) (x : FV) (ly : Nat) (a : List FV) (ra : Nat) (b : List FV) (rb : Nat) : FR :=
  FV.rec (motive := fun _ => FR) (fun _ => .no) (fun _ => .no) (fun _ _ => .no)
    (fun bx ox lx cx => Bool.rec (motive := fun _ => FR) .no (appS m n sz lx ly cx a b (Nat.lor ra rb) bx ox) (allOne b && Nat.blt 0 sz && Nat.blt 0 bytes && Nat.ble (Nat.mul (Nat.add lx ly) bytes) 140737488355328))
    (fun _ => Bool.rec (motive := fun _ => FR) .no (Bool.rec (motive := fun _ => FR) (fappN m n sz (Nat.add 0 ly) (papp a b) (Nat.lor ra rb)) (.ok (.o (.slice none 0 0)) m n (Nat.lor ra rb) 0) (Nat.beq ly 0)) (allOne b && Nat.blt 0 sz && Nat.blt 0 bytes && Nat.ble (Nat.mul (Nat.add 0 ly) bytes) 140737488355328)) x
noncomputable def appF (sz bytes : Nat) (m : FTr) (n : Nat) (x y : FV) (a b : Option (List FV × Nat)) : FR :=
  Option.rec (motive := fun _ => FR) .no (fun a => Option.rec (motive := fun _ => FR) .no (fun b => appX sz bytes m n x (lenF y) a.1 a.2 b.1 b.2) b) a
noncomputable def uApp (sz bytes : Nat) (x y : Opd) : FS := .mk fun _ e m n => appF sz bytes m n (gv e x) (gv e y) (shownF m n sz (gv e x)) (shownF m n sz (gv e y))

noncomputable def fL {α : Type} (l : List FV) (k : List FV → α) : α := List.rec (motive := fun _ => (List FV → α) → α) (fun k => k []) (fun v _ ih k => fF (fun v => ih fun t => k (v :: t)) v) l k
theorem fL_eq {α : Type} (l : List FV) (k : List FV → α) : fL l k = k l := by
  induction l generalizing k with
  | nil => rfl
  | cons v l ih => show fF (fun v => fL l fun t => k (v :: t)) v = _; rw [fF_eq, ih]

noncomputable def callvF (cal : FCal) (args : List FV) (m : FTr) (n : Nat) (v : Value) : FR :=
  match v with
  | .func (.func f) a c => cal f (pmap ofV a.toList ++ args ++ pmap ofV c.toList) m n
  | _ => .no
noncomputable def uCallv (x : Opd) (args : List Opd) : FS := .mk fun cal e m n => callvF cal (gvs e args) m n (toV (gv e x))
noncomputable def cOp (op : AOp) : FS :=
  AOp.rec (motive := fun _ => Program → FS)
    (fun x _ => uMov x) (fun c a b _ => uPick c a b) (fun op t x y P => uBin P op t x y) (fun op x _ => uUn op x) (fun k x _ => uConv k x)
    (fun off x _ => uFld off x) (fun sz x i _ => uIdx sz x i) (fun k sz x i _ => uIda k sz x i) (fun z ps _ => uBuild z ps) (fun i x _ => uExtr i x)
    (fun x _ => uNilck x) (fun f a c _ => uFunc f a c) (fun s x _ => uLen s x) (fun x y _ => uMx x y) (fun sz x lo hi _ => uSlc sz x lo hi)
    (fun c _ => uNew c) (fun x _ => uBox x) (fun sz len z ps _ => uMkl sz len z ps) (fun sz bytes z l c _ => uMake sz bytes z l c) (fun x _ => uLd1 x)
    (fun k x _ => uLdn k x) (fun k x y _ => uSt k x y) (fun sz bytes x y _ => uApp sz bytes x y) (fun f args _ => .mk fun cal e m n => fL (gvs e args) fun l => cal f l m n) (fun x args _ => uCallv x args)
    (fun op xs P => .mk fun _ e _ _ => rO (purV P op ((gvs e xs).map toV)))
    (fun _ _ _ => .mk fun _ _ _ _ => .no)
    op P
end

def CalSim (cal : FCal) (calA : Nat → List Value → FM → Nat → OR FM) : Prop := ∀ f args m n, FSim m n (cal f args m n) (calA f (args.map toV) (absM m n) n)
section
variable {P : Program} {m : FTr} {n : Nat}
theorem slow_sim {op : BinOp} {t : Nat} {x y : FV} {x' y' : Value} (hx : toV x = x') (hy : toV y = y') : FSim m n (slow P op t x y) (valO (absM m n) n (binV P op t x' y')) := by
  subst hx; subst hy; exact rO_sim rfl
theorem cellsF_eq (v : FV) : (cellsF v).map toV = (toV v).cells.toList := by
  cases v with
  | o v => show (pmap ofV v.cells.toList).map toV = _; rw [pmap_eq, toV_ofVs]; rfl
  | _ => rfl
theorem fnew_sim {B : FBlk} {B' : Blk} {v : Nat → FV} {v' : Nat → Value} (hB : toB B = B') (hv : ∀ n, toV (v n) = v' n) : FSim m n (fnew m n B v) (newb (absM m n) n B' v') := by
  subst hB
  show OR.ok (v' n) (AMem.put (absM m n) n (some (toB B))) (Nat.succ n) 0 (bit n) = OR.ok (toV (v n)) (absM (some B :: m) (Nat.succ n)) (Nat.succ n) 0 (bit n)
  rw [absM_new, hv]; rfl
theorem goev_eq (e : List FV) (x : Option Opd) : goev e x = oev (e.map toV) x := by
  cases x with
  | none => rfl
  | some x => show some (toV (gv e x)) = some (ev (e.map toV) x); rw [gv_eq]
theorem allOne_eq (l : List FV) : allOne l = (l.map toV).all one := by
  induction l with
  | nil => rfl
  | cons v l ih =>
    show Bool.rec (motive := fun _ => Bool) false (allOne l) (oneF v) = (one (toV v) && (l.map toV).all one)
    have : oneF v = one (toV v) := by cases v <;> rfl
    rw [this, ih]
    cases one (toV v) <;> rfl
theorem shownF_eq (m : FTr) (n sz : Nat) (v : FV) : (shownF m n sz v).map (fun p => (p.1.map toV, p.2)) = shown (absM m n) n sz (toV v) ∨ shownF m n sz v = none := by
  cases v with
  | s b o l c =>
    left
    show (Bool.rec (motive := fun _ => Option (List FV × Nat)) _ _ (Nat.beq l 0) : Option (List FV × Nat)).map _ = cond (Nat.beq l 0) (some ([], 0)) (shownB sz o l b (getb (absM m n) n b))
    cases Nat.beq l 0
    · rw [gb_eq]
      show (Option.rec (motive := fun _ => Option (List FV × Nat)) _ _ (gb m n b) : Option (List FV × Nat)).map _ = shownB sz o l b ((gb m n b).map toB)
      cases gb m n b with
      | none => rfl
      | some x =>
        obtain ⟨c, s, opn, wr⟩ := x
        show (Bool.rec (motive := fun _ => Option (List FV × Nat)) none (Option.rec (motive := fun _ => Option (List FV × Nat)) none (fun x => some (x, bit b)) (pat c o (Nat.mul l sz))) (Nat.beq s sz) : Option (List FV × Nat)).map _ = cond (Nat.beq s sz) (Option.rec (motive := fun _ => Option (List Value × Nat)) none (fun x => some (x, bit b)) (pat (c.map toV) o (Nat.mul l sz))) none
        rw [pat_map]
        cases Nat.beq s sz
        · rfl
        · cases pat c o (Nat.mul l sz) <;> rfl
    · rfl
  | o v =>
    cases v
    case slice a l c =>
      cases a with
      | none =>
        show (Bool.rec (motive := fun _ => Option (List FV × Nat)) none (some ([], 0)) (Nat.beq l 0 && Nat.beq c 0) : Option (List FV × Nat)).map _ = _ ∨ (Bool.rec (motive := fun _ => Option (List FV × Nat)) none (some ([], 0)) (Nat.beq l 0 && Nat.beq c 0) : Option (List FV × Nat)) = none
        cases hb : (Nat.beq l 0 && Nat.beq c 0)
        · right; rfl
        · left
          rw [Bool.and_eq_true] at hb
          obtain rfl := Nat.eq_of_beq_eq_true hb.1
          obtain rfl := Nat.eq_of_beq_eq_true hb.2
          rfl
      | some a => right; rfl
    all_goals (right; rfl)
  | _ => right; rfl
theorem appX_nil {sz bytes : Nat} {v : Value} {ly ra rb : Nat} {a b : List FV} (hv : shownF m n sz (.o v) = some (a, ra)) : v = .slice none 0 0 ∧ a = [] ∧ ra = 0 := by
  cases v
  case slice q l c =>
    cases q with
    | none =>
      have hv : (Bool.rec (motive := fun _ => Option (List FV × Nat)) none (some ([], 0)) (Nat.beq l 0 && Nat.beq c 0) : Option (List FV × Nat)) = some (a, ra) := hv
      cases hb : (Nat.beq l 0 && Nat.beq c 0)
      · rw [hb] at hv; cases hv
      · rw [hb] at hv
        rw [Bool.and_eq_true] at hb
        obtain rfl := Nat.eq_of_beq_eq_true hb.1
        obtain rfl := Nat.eq_of_beq_eq_true hb.2
        injection hv with hv; injection hv with h1 h2
        exact ⟨rfl, h1.symm, h2.symm⟩
    | some q => cases hv
  all_goals cases hv
theorem putF_sim {b sz : Nat} {opn : Bool} {v : FV} {v' : Value} {r : Nat} {c : Option (List FV)} {c' : Option (List Value)} (hs : b < n) (hv : toV v = v') (hc : c' = c.map (List.map toV)) :
    FSim m n (putF m b sz opn n v r c) (putC (absM m n) n b sz opn v' r c') := by
  subst hc; subst hv
  cases c with
  | none => trivial
  | some c =>
    show FSim m n (Option.rec (motive := fun _ => FR) .no (fun m => .ok v m n r (bit b)) (tset m n b (some ⟨c, sz, opn, true⟩))) _
    cases ht : tset m n b (some ⟨c, sz, opn, true⟩) with
    | none => exact fsim_no
    | some m' =>
      show _ = OR.ok (toV v) (absM m' n) n r (bit b)
      rw [absM_set hs ht]; rfl
theorem map_papp (a b : List FV) : (papp a b).map toV = a.map toV ++ b.map toV := by rw [papp_eq, List.map_append]
theorem fappN_sim {sz len r : Nat} {c : List FV} {c' : List Value} (hc : c.map toV = c') : FSim m n (fappN m n sz len c r) (appN (absM m n) n sz len c' r) := by
  subst hc
  show OR.ok (slcP 0 len UNK n) (AMem.put (absM m n) n (some (.cells (c.map toV) sz true true))) (Nat.succ n) r (bit n) = OR.ok _ (absM (some ⟨c, sz, true, true⟩ :: m) (Nat.succ n)) (Nat.succ n) r (bit n)
  rw [absM_new]; rfl
theorem appS_sim {sz lx ly cx r bx ox : Nat} {a b : List FV} : FSim m n (appS m n sz lx ly cx a b r bx ox) (appG (absM m n) n sz lx ly cx (a.map toV) (b.map toV) r (some ⟨bx, ox, none⟩)) := by
  show FSim m n (Bool.rec (motive := fun _ => FR) _ .no (Nat.beq cx VAG)) (cond (Nat.beq cx VAG) .no (cond (Nat.beq cx UNK) (appU (absM m n) n sz (Nat.add lx ly) (a.map toV ++ b.map toV) r ⟨bx, ox, none⟩ (getb (absM m n) n bx)) (cond (Nat.ble (Nat.add lx ly) cx) (appR (absM m n) n sz lx (Nat.add lx ly) cx (b.map toV) r bx ox (getb (absM m n) n bx)) (appN (absM m n) n sz (Nat.add lx ly) (a.map toV ++ b.map toV) r))))
  cases Nat.beq cx VAG
  · show FSim m n (Bool.rec (motive := fun _ => FR) _ _ (Nat.beq cx UNK)) _
    cases Nat.beq cx UNK
    · show FSim m n (Bool.rec (motive := fun _ => FR) _ _ (Nat.ble (Nat.add lx ly) cx)) (cond (Nat.ble (Nat.add lx ly) cx) _ _)
      cases Nat.ble (Nat.add lx ly) cx
      · exact fappN_sim (map_papp a b)
      · show FSim m n (fappR m n sz lx (Nat.add lx ly) cx b r bx ox (gb m n bx)) (appR (absM m n) n sz lx (Nat.add lx ly) cx (b.map toV) r bx ox (getb (absM m n) n bx))
        rw [gb_eq]
        cases hg : gb m n bx with
        | none => trivial
        | some x =>
          obtain ⟨c, s, opn, wr⟩ := x
          cases wr
          · trivial
          · exact putF_sim (gb_lt hg) rfl (pset_map toV c _ b)
    · show FSim m n (fappU m n sz (Nat.add lx ly) (papp a b) r bx (gb m n bx)) (appU (absM m n) n sz (Nat.add lx ly) (a.map toV ++ b.map toV) r ⟨bx, ox, none⟩ (getb (absM m n) n bx))
      rw [gb_eq]
      cases hg : gb m n bx with
      | none => trivial
      | some x =>
        obtain ⟨c, s, opn, wr⟩ := x
        show FSim m n (Bool.rec (motive := fun _ => FR) .no _ (Nat.beq s sz && opn && wr)) _
        cases hs : (Nat.beq s sz && opn && wr)
        · trivial
        · simp only [Bool.and_eq_true] at hs
          obtain ⟨⟨h2, rfl⟩, rfl⟩ := hs
          show FSim m n (Option.rec (motive := fun _ => FR) .no (fun m => .ok (.s n 0 (Nat.add lx ly) UNK) (some ⟨papp a b, sz, true, true⟩ :: m) (Nat.succ n) r (Nat.lor (bit bx) (bit n))) (tset m n bx none)) _
          cases ht : tset m n bx none with
          | none => exact fsim_no
          | some m' =>
            show appU (absM m n) n sz (Nat.add lx ly) (a.map toV ++ b.map toV) r ⟨bx, ox, none⟩ (some (.cells (c.map toV) s true true)) = OR.ok _ (absM (some ⟨papp a b, sz, true, true⟩ :: m') (Nat.succ n)) (Nat.succ n) r _
            rw [absM_new, absM_set (gb_lt hg) ht]
            have e : (some (⟨papp a b, sz, true, true⟩ : FBlk)).map toB = some (.cells (a.map toV ++ b.map toV) sz true true) := by
              show some (Blk.cells ((papp a b).map toV) sz true true) = _; rw [map_papp]
            rw [e]
            show cond (AMem.lim (absM m n) n && Nat.beq s sz) _ _ = _
            rw [h2]; rfl
  · trivial
theorem appF_sim {sz bytes : Nat} {x y : FV} : FSim m n (appF sz bytes m n x y (shownF m n sz x) (shownF m n sz y)) (appO sz bytes (absM m n) n (toV x) (toV y) (shown (absM m n) n sz (toV x)) (shown (absM m n) n sz (toV y))) := by
  cases hx : shownF m n sz x with
  | none => trivial
  | some pa =>
    cases hy : shownF m n sz y with
    | none => trivial
    | some pb =>
      obtain ⟨a, ra⟩ := pa
      obtain ⟨b, rb⟩ := pb
      have ex := (shownF_eq m n sz x).resolve_right (by rw [hx]; simp)
      have ey := (shownF_eq m n sz y).resolve_right (by rw [hy]; simp)
      rw [hx] at ex; rw [hy] at ey
      rw [← ex, ← ey]
      show FSim m n (appX sz bytes m n x (lenF y) a ra b rb) (appV sz bytes (absM m n) n (a.map toV, ra) (b.map toV, rb) (toV x) (toV y))
      have hys : ∃ ay cy, toV y = .slice ay (lenF y) cy := by
        cases y with
        | s b' o l c => exact ⟨_, _, rfl⟩
        | o v => obtain ⟨rfl, _, _⟩ := appX_nil (sz := sz) (bytes := 0) (ly := 0) (rb := 0) (b := []) hy; exact ⟨_, _, rfl⟩
        | i z => cases hy
        | b z => cases hy
        | p z o => cases hy
      obtain ⟨ay, cy, hys⟩ := hys
      rw [hys]
      cases x with
      | s bx ox lx cx =>
        show FSim m n (Bool.rec (motive := fun _ => FR) .no _ (allOne b && Nat.blt 0 sz && Nat.blt 0 bytes && Nat.ble (Nat.mul (Nat.add lx (lenF y)) bytes) 140737488355328)) (cond ((b.map toV).all one && Nat.blt 0 sz && Nat.blt 0 bytes && Nat.ble (Nat.mul (Nat.add lx (lenF y)) bytes) 140737488355328) _ _)
        rw [allOne_eq]
        cases ((b.map toV).all one && Nat.blt 0 sz && Nat.blt 0 bytes && Nat.ble (Nat.mul (Nat.add lx (lenF y)) bytes) 140737488355328)
        · trivial
        · exact appS_sim
      | o v =>
        obtain ⟨rfl, rfl, rfl⟩ := appX_nil (sz := sz) (bytes := 0) (ly := 0) (rb := 0) (b := []) hx
        show FSim m n (Bool.rec (motive := fun _ => FR) .no _ (allOne b && Nat.blt 0 sz && Nat.blt 0 bytes && Nat.ble (Nat.mul (Nat.add 0 (lenF y)) bytes) 140737488355328)) (cond ((b.map toV).all one && Nat.blt 0 sz && Nat.blt 0 bytes && Nat.ble (Nat.mul (Nat.add 0 (lenF y)) bytes) 140737488355328) (cond (Nat.beq (lenF y) 0) (.ok (.slice none 0 0) (absM m n) n (Nat.lor 0 rb) 0) (appN (absM m n) n sz (Nat.add 0 (lenF y)) ([] ++ b.map toV) (Nat.lor 0 rb))) .no)
        rw [allOne_eq]
        cases ((b.map toV).all one && Nat.blt 0 sz && Nat.blt 0 bytes && Nat.ble (Nat.mul (Nat.add 0 (lenF y)) bytes) 140737488355328)
        · trivial
        · show FSim m n (Bool.rec (motive := fun _ => FR) _ _ (Nat.beq (lenF y) 0)) (cond (Nat.beq (lenF y) 0) _ _)
          cases Nat.beq (lenF y) 0
          · exact fappN_sim rfl
          · rfl
      | i z => cases hx
      | b z => cases hx
      | p z o => cases hx
theorem slcF_sim {sz : Nat} {v : Option Value} {x : FV} : FSim m n (slcF m n sz v x) (slcM (absM m n) n sz v (toV x)) := by
  cases x with
  | s b o l c =>
    show FSim m n (Bool.rec (motive := fun _ => FR) _ _ (Nat.beq c UNK)) (cond (Nat.beq c UNK) (cond (szOk sz (getb (absM m n) n b)) (valR (absM m n) n b v) .no) (valO (absM m n) n v))
    cases Nat.beq c UNK
    · exact rO_sim rfl
    · have hz : szOk sz (getb (absM m n) n b) = fszOk sz (gb m n b) := by
        rw [gb_eq]
        cases gb m n b <;> rfl
      rw [hz]
      show FSim m n (Bool.rec (motive := fun _ => FR) .no _ (fszOk sz (gb m n b))) (cond (fszOk sz (gb m n b)) _ _)
      cases fszOk sz (gb m n b)
      · trivial
      · cases v with
        | none => trivial
        | some v => show _ = OR.ok (toV (ofV v)) (absM m n) n (bit b) 0; rw [toV_ofV]; rfl
  | o y =>
    cases y
    case slice a l c =>
      cases a with
      | none => exact rO_sim rfl
      | some a => trivial
    all_goals exact rO_sim rfl
  | _ => exact rO_sim rfl

theorem cOp_sim {cal : FCal} {calA : Nat → List Value → FM → Nat → OR FM} (hcal : CalSim cal calA) (e : List FV) (m : FTr) (n : Nat) (o : AOp) : FSim m n ((cOp P o).run cal e m n) (stepA P calA (e.map toV) (absM m n) n o) := by
  have hnn : ∀ {α : Type} (z : Int) (k : Nat → α) (d : α), (∀ a, z ≠ .ofNat a) → fnn z k d = d := by
    intro α z k d h; cases z <;> first | rfl | exact absurd rfl (h _)
  cases o
  case mov x =>
    show FSim m n (fF FR.pv (gv e x)) (.ok (ev (e.map toV) x) (absM m n) n 0 0)
    rw [fF_eq, ← gv_eq]; rfl
  case pick c a b =>
    show FSim m n (onB (gv e c) (fF FR.pv (gv e a)) (fF FR.pv (gv e b)) .no) (valO (absM m n) n (pickV (ev (e.map toV) a) (ev (e.map toV) b) (ev (e.map toV) c)))
    rw [← gv_eq, ← gv_eq, ← gv_eq, fF_eq, fF_eq]
    cases gv e c with
    | b t => cases t <;> rfl
    | _ => trivial
  case bin op t x y =>
    show FSim m n ((uBin P op t x y).run cal e m n) (valO (absM m n) n (binV P op t (ev (e.map toV) x) (ev (e.map toV) y)))
    rw [uBin_eq, ← gv_eq, ← gv_eq]
    show FSim m n (onI (gv e x) (fun a => onI (gv e y) (fun b => jOp op a b) (slow P op t (gv e x) (gv e y))) (slow P op t (gv e x) (gv e y))) _
    cases gv e x with
    | i a =>
      cases gv e y with
      | i b =>
        show FSim m n (jOp op a b) (valO (absM m n) n (cond (decide (IntKind.i64 = IntKind.i64)) (intBin op .i64 a b) none))
        rw [decide_eq_true rfl]
        exact jOp_sim op a b
      | b t' => show FSim m n (slow P op t (.i a) (.b t')) _; exact slow_sim rfl rfl
      | p b' o => show FSim m n (slow P op t (.i a) (.p b' o)) _; exact slow_sim rfl rfl
      | s b' o l c => show FSim m n (slow P op t (.i a) (.s b' o l c)) _; exact slow_sim rfl rfl
      | o v => show FSim m n (slow P op t (.i a) (.o v)) _; exact slow_sim rfl rfl
    | _ => exact slow_sim rfl rfl
  case una op x =>
    cases op
    case not =>
      show FSim m n (onB (gv e x) (.pv (.b false)) (.pv (.b true)) .no) (valO (absM m n) n (unaV .not (ev (e.map toV) x)))
      rw [← gv_eq]
      cases gv e x with
      | b t => cases t <;> rfl
      | _ => trivial
    case neg => show FSim m n (rO (unaV .neg (toV (gv e x)))) (valO (absM m n) n (unaV .neg (ev (e.map toV) x))); rw [gv_eq]; exact rO_sim rfl
    case xor => show FSim m n (rO (unaV .xor (toV (gv e x)))) (valO (absM m n) n (unaV .xor (ev (e.map toV) x))); rw [gv_eq]; exact rO_sim rfl
    case plus => show FSim m n (rO (unaV .plus (toV (gv e x)))) (valO (absM m n) n (unaV .plus (ev (e.map toV) x))); rw [gv_eq]; exact rO_sim rfl
  case conv k x =>
    show FSim m n (rO (convV k (toV (gv e x)))) (valO (absM m n) n (convV k (ev (e.map toV) x)))
    rw [gv_eq]; exact rO_sim rfl
  case fld off x =>
    show FSim m n (onP (gv e x) (fun b o => fN (fun o => .pv (.p b o)) (Nat.add o off)) .no) (valO (absM m n) n (fldV off (ev (e.map toV) x)))
    rw [← gv_eq]
    cases gv e x with
    | p b o => show FSim m n (fN (fun o => .pv (.p b o)) (Nat.add o off)) _; rw [fN_eq]; rfl
    | _ => trivial
  case idx sz x i =>
    show FSim m n (onI (gv e i) (fun z => fnn z (fun i => idxF sz i (gv e x)) .no) (rO (obind (fun i => idxV sz i (toV (gv e x))) (natOf (toV (gv e i)))))) (valO (absM m n) n (obind (fun i => idxV sz i (ev (e.map toV) x)) (natOf (ev (e.map toV) i))))
    rw [← gv_eq, ← gv_eq]
    cases gv e i with
    | i z =>
      cases z with
      | ofNat i =>
        show FSim m n (idxF sz i (gv e x)) (valO (absM m n) n (idxV sz i (toV (gv e x))))
        cases gv e x with
        | s b o l c =>
          show FSim m n (Bool.rec (motive := fun _ => FR) .no (fN (fun o => .pv (.p b o)) (Nat.add o (Nat.mul i sz))) (Nat.blt i l)) (valO (absM m n) n (cond (Nat.blt i l) _ _))
          rw [fN_eq]
          cases Nat.blt i l
          · trivial
          · rfl
        | _ => trivial
      | negSucc i => trivial
    | b t => show FSim m n (rO (obind (fun i => idxV sz i (toV (gv e x))) (natOf (toV (FV.b t))))) _; exact rO_sim rfl
    | p b o => show FSim m n (rO (obind (fun i => idxV sz i (toV (gv e x))) (natOf (toV (FV.p b o))))) _; exact rO_sim rfl
    | s b o l c => show FSim m n (rO (obind (fun i => idxV sz i (toV (gv e x))) (natOf (toV (FV.s b o l c))))) _; exact rO_sim rfl
    | o v => show FSim m n (rO (obind (fun i => idxV sz i (toV (gv e x))) (natOf (toV (FV.o v))))) _; exact rO_sim rfl
  case ida k sz x i =>
    show FSim m n (onI (gv e i) (fun z => fnn z (fun i => idaF k sz i (gv e x)) .no) (rO (obind (fun i => idaV k sz i (toV (gv e x))) (natOf (toV (gv e i)))))) (valO (absM m n) n (obind (fun i => idaV k sz i (ev (e.map toV) x)) (natOf (ev (e.map toV) i))))
    rw [← gv_eq, ← gv_eq]
    cases gv e i with
    | i z =>
      cases z with
      | ofNat i =>
        show FSim m n (idaF k sz i (gv e x)) (valO (absM m n) n (idaV k sz i (toV (gv e x))))
        cases gv e x with
        | p b o =>
          show FSim m n (Bool.rec (motive := fun _ => FR) .no (fN (fun o => .pv (.p b o)) (Nat.add o (Nat.mul i sz))) (Nat.blt i k)) (valO (absM m n) n (cond (Nat.blt i k) _ _))
          rw [fN_eq]
          cases Nat.blt i k
          · trivial
          · rfl
        | _ => trivial
      | negSucc i => trivial
    | b t => show FSim m n (rO (obind (fun i => idaV k sz i (toV (gv e x))) (natOf (toV (FV.b t))))) _; exact rO_sim rfl
    | p b o => show FSim m n (rO (obind (fun i => idaV k sz i (toV (gv e x))) (natOf (toV (FV.p b o))))) _; exact rO_sim rfl
    | s b o l c => show FSim m n (rO (obind (fun i => idaV k sz i (toV (gv e x))) (natOf (toV (FV.s b o l c))))) _; exact rO_sim rfl
    | o v => show FSim m n (rO (obind (fun i => idaV k sz i (toV (gv e x))) (natOf (toV (FV.o v))))) _; exact rO_sim rfl
  case build z ps => exact rO_sim rfl
  case extr i x =>
    show FSim m n (rO (extrV i (toV (gv e x)))) (valO (absM m n) n (extrV i (ev (e.map toV) x)))
    rw [gv_eq]; exact rO_sim rfl
  case nilck x =>
    show FSim m n (onP (gv e x) (fun b o => .pv (.p b o)) .no) (valO (absM m n) n (nilckV (ev (e.map toV) x)))
    rw [← gv_eq]
    cases gv e x with
    | p b o => rfl
    | _ => trivial
  case func f a c =>
    show FSim m n (.pv (.o (.func (.func f) ((gvs e a).map toV).toArray ((gvs e c).map toV).toArray))) (.ok (.func (.func f) (evs (e.map toV) a).toArray (evs (e.map toV) c).toArray) (absM m n) n 0 0)
    rw [gvs_eq, gvs_eq]; rfl
  case len s x =>
    cases s
    · show FSim m n (onS (gv e x) (fun _ _ l _ => .pv (.i (.ofNat l))) (rO (lenV false (toV (gv e x))))) (valO (absM m n) n (lenV false (ev (e.map toV) x)))
      rw [← gv_eq]
      cases gv e x with
      | s b o l c => rfl
      | i z => show FSim m n (rO (lenV false (toV (.i z)))) _; exact rO_sim rfl
      | b z => show FSim m n (rO (lenV false (toV (.b z)))) _; exact rO_sim rfl
      | p b o => show FSim m n (rO (lenV false (toV (.p b o)))) _; exact rO_sim rfl
      | o v => show FSim m n (rO (lenV false (toV (.o v)))) _; exact rO_sim rfl
    · show FSim m n (rO (lenV true (toV (gv e x)))) (valO (absM m n) n (lenV true (ev (e.map toV) x)))
      rw [← gv_eq]
      exact rO_sim rfl
  case mx x y =>
    show FSim m n (onI (gv e x) (fun a => onI (gv e y) (fun b => Bool.rec (motive := fun _ => FR) (.pv (.i a)) (.pv (.i b)) (iLt a b)) .no) .no) (valO (absM m n) n (mxV (ev (e.map toV) x) (ev (e.map toV) y)))
    rw [← gv_eq, ← gv_eq]
    cases gv e x with
    | i a =>
      cases gv e y with
      | i b =>
        show FSim m n (Bool.rec (motive := fun _ => FR) (.pv (.i a)) (.pv (.i b)) (iLt a b)) (valO (absM m n) n (some (.int .i64 (cond (ltB a b) b a))))
        rw [iLt_eq]
        cases ltB a b <;> rfl
      | _ => trivial
    | _ => trivial
  case slc sz x lo hi =>
    show FSim m n (slcF m n sz (slcV sz (goev e lo) (goev e hi) (toV (gv e x))) (gv e x)) (slcM (absM m n) n sz (slcV sz (oev (e.map toV) lo) (oev (e.map toV) hi) (ev (e.map toV) x)) (ev (e.map toV) x))
    rw [goev_eq, goev_eq, ← gv_eq]
    exact slcF_sim
  case new c =>
    refine fnew_sim (B := ⟨pmap ofV c, 0, false, true⟩) (v := fun n => .p n 0) (v' := ptrP) (B' := .cells c 0 false true) ?_ fun _ => rfl
    show Blk.cells ((pmap ofV c).map toV) 0 false true = _
    rw [pmap_eq, toV_ofVs]
  case box x =>
    refine fnew_sim (B := ⟨cellsF (gv e x), 0, false, true⟩) (v := fun n => .p n 0) (v' := ptrP) (B' := .cells (ev (e.map toV) x).cells.toList 0 false true) ?_ fun _ => rfl
    show Blk.cells ((cellsF (gv e x)).map toV) 0 false true = _
    rw [cellsF_eq, gv_eq]
  case mkl sz len z ps =>
    show FSim m n (mklF m n sz len (fillA (parts2 sz (e.map toV) ps) (reps z len))) (mklC (absM m n) n sz len (fillA (parts2 sz (e.map toV) ps) (reps z len)))
    cases fillA (parts2 sz (e.map toV) ps) (reps z len) with
    | none => trivial
    | some c =>
      refine fnew_sim (B := ⟨pmap ofV c, sz, false, true⟩) (v := fun n => .s n 0 len len) (v' := slcP 0 len len) (B' := .cells c sz false true) ?_ fun _ => rfl
      show Blk.cells ((pmap ofV c).map toV) sz false true = _
      rw [pmap_eq, toV_ofVs]
  case make sz bytes z l c =>
    show FSim m n (onI (gv e l) (fun l => onI (gv e c) (fun c => fnn l (fun l => fnn c (fun c => makeF m n sz bytes z l c) .no) .no) .no) .no) (makeV sz bytes z (absM m n) n (natOf (ev (e.map toV) l)) (natOf (ev (e.map toV) c)))
    rw [← gv_eq, ← gv_eq]
    cases gv e l with
    | i l =>
      cases gv e c with
      | i c =>
        cases l with
        | ofNat l =>
          cases c with
          | ofNat c =>
            show FSim m n (Bool.rec (motive := fun _ => FR) .no (fnew m n ⟨preps (pmap ofV z) c, sz, false, true⟩ fun n => .s n 0 l c) (Nat.ble l c && Nat.ble (Nat.mul c bytes) 281474976710656 && Nat.ble c 1099511627776)) (cond (Nat.ble l c && Nat.ble (Nat.mul c bytes) 281474976710656 && Nat.ble c 1099511627776) (newb (absM m n) n (.cells (reps z c) sz false true) (slcP 0 l c)) .no)
            cases (Nat.ble l c && Nat.ble (Nat.mul c bytes) 281474976710656 && Nat.ble c 1099511627776)
            · trivial
            · refine fnew_sim (B := ⟨preps (pmap ofV z) c, sz, false, true⟩) (v := fun n => .s n 0 l c) (v' := slcP 0 l c) (B' := .cells (reps z c) sz false true) ?_ fun _ => rfl
              show Blk.cells ((preps (pmap ofV z) c).map toV) sz false true = _
              rw [← preps_map, pmap_eq, toV_ofVs]
              congr 1
              induction c with
              | zero => rfl
              | succ c ih => show papp z (preps z c) = z ++ reps z c; rw [papp_eq, ih]
          | negSucc c => trivial
        | negSucc l => trivial
      | _ => trivial
    | _ => trivial
  case ld1 x =>
    show FSim m n (onP (gv e x) (fun b o => fcells (gb m n b) (fun c => rdO b (pget c o)) .no) .no) (ld1V (absM m n) n (ev (e.map toV) x))
    rw [← gv_eq]
    cases gv e x with
    | p b o =>
      show FSim m n (fcells (gb m n b) (fun c => rdO b (pget c o)) .no) (withCells (getb (absM m n) n b) fun c => valR (absM m n) n b (cget c o))
      rw [gb_eq]
      cases gb m n b with
      | none => trivial
      | some x =>
        obtain ⟨c, sz, opn, wr⟩ := x
        show FSim m n (rdO b (pget c o)) (valR (absM m n) n b (pget (c.map toV) o))
        rw [pget_map]
        cases pget c o with
        | none => trivial
        | some v => rfl
    | _ => trivial
  case ldn k x =>
    show FSim m n (onP (gv e x) (fun b o => fcells (gb m n b) (fun c => rdO b (aggF (pat c o k))) .no) .no) (ldnV k (absM m n) n (ev (e.map toV) x))
    rw [← gv_eq]
    cases gv e x with
    | p b o =>
      show FSim m n (fcells (gb m n b) (fun c => rdO b (aggF (pat c o k))) .no) (withCells (getb (absM m n) n b) fun c => valR (absM m n) n b (aggO (cellsAt c o k)))
      rw [gb_eq]
      cases gb m n b with
      | none => trivial
      | some x =>
        obtain ⟨c, sz, opn, wr⟩ := x
        show FSim m n (rdO b (aggF (pat c o k))) (valR (absM m n) n b (aggO (pat (c.map toV) o k)))
        rw [pat_map]
        cases pat c o k with
        | none => trivial
        | some v => rfl
    | _ => trivial
  case st k x y =>
    show FSim m n (onP (gv e x) (fun b o => Bool.rec (motive := fun _ => FR) .no (stF m n b o (cellsF (gv e y)) (gb m n b)) (Nat.beq (plen (cellsF (gv e y))) k && allOne (cellsF (gv e y)))) .no) (stV k (ev (e.map toV) y).cells.toList (absM m n) n (ev (e.map toV) x))
    rw [← gv_eq, ← gv_eq, ← cellsF_eq]
    cases gv e x with
    | p b o =>
      show FSim m n (Bool.rec (motive := fun _ => FR) .no (stF m n b o (cellsF (gv e y)) (gb m n b)) (Nat.beq (plen (cellsF (gv e y))) k && allOne (cellsF (gv e y)))) (cond (Nat.beq (plen ((cellsF (gv e y)).map toV)) k && ((cellsF (gv e y)).map toV).all one) (stC (absM m n) n b o ((cellsF (gv e y)).map toV) (getb (absM m n) n b)) .no)
      rw [plen_map, allOne_eq]
      cases (Nat.beq (plen (cellsF (gv e y))) k && ((cellsF (gv e y)).map toV).all one)
      · trivial
      · show FSim m n (stF m n b o (cellsF (gv e y)) (gb m n b)) (stC (absM m n) n b o ((cellsF (gv e y)).map toV) (getb (absM m n) n b))
        rw [gb_eq]
        cases hg : gb m n b with
        | none => trivial
        | some x =>
          obtain ⟨c, sz, opn, wr⟩ := x
          cases wr
          · trivial
          · exact putF_sim (gb_lt hg) rfl (pset_map toV c _ _)
    | _ => trivial
  case app sz bytes x y =>
    show FSim m n (appF sz bytes m n (gv e x) (gv e y) (shownF m n sz (gv e x)) (shownF m n sz (gv e y))) (appO sz bytes (absM m n) n (ev (e.map toV) x) (ev (e.map toV) y) (shown (absM m n) n sz (ev (e.map toV) x)) (shown (absM m n) n sz (ev (e.map toV) y)))
    rw [← gv_eq, ← gv_eq]
    exact appF_sim
  case call f args =>
    show FSim m n (fL (gvs e args) fun l => cal f l m n) (calA f (evs (e.map toV) args) (absM m n) n)
    rw [← gvs_eq, fL_eq]
    exact hcal f _ m n
  case mp op xs => exact trivial
  case pur op xs =>
    show FSim m n (rO (purV P op ((gvs e xs).map toV))) (valO (absM m n) n (purV P op (evs (e.map toV) xs)))
    rw [← gvs_eq]; exact rO_sim rfl
  case callv x args =>
    show FSim m n (callvF cal (gvs e args) m n (toV (gv e x))) (callV calA (evs (e.map toV) args) (absM m n) n (ev (e.map toV) x))
    rw [gv_eq, ← gvs_eq]
    generalize ev (e.map toV) x = v
    unfold callvF
    split
    · rename_i f a c
      have := hcal f (pmap ofV a.toList ++ gvs e args ++ pmap ofV c.toList) m n
      rw [List.map_append, List.map_append, pmap_eq, pmap_eq, toV_ofVs, toV_ofVs] at this
      rw [pmap_eq, pmap_eq]
      exact this
    · trivial
end
end Go.Am.V
