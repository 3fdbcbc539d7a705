/- The abstract machine 'Am': a compact code, an abstract memory, and a deterministic interpreter. Nothing is proved here. -/
import Derived.Calls
set_option linter.unusedVariables false
set_option linter.unusedSimpArgs false
set_option linter.unusedSectionVars false
namespace Go.Am
open Go

/-! ### the memory -/
inductive Blk where
  | cells (c : List Value) (sz : Nat) (opn wr : Bool)

/-- memories: blocks by their numbers; 'lim': the numbers that may be used -/
class AMem (μ : Type) where
  get : μ → Nat → Option Blk
  put : μ → Nat → Option Blk → μ
  lim : μ → Nat → Bool
  get_put : ∀ m i j x, lim m i = true → get (put m i x) j = if j = i then x else get m j
  get_lim : ∀ m i x, get m i = some x → lim m i = true
  lim_put : ∀ m i j x, lim (put m i x) j = lim m j

/-! ### numbers, compared by the kernel's own means -/
def nonneg : Int → Bool
  | .ofNat _ => true
  | .negSucc _ => false
def ltB : Int → Int → Bool
  | .ofNat a, .ofNat b => Nat.blt a b
  | .ofNat _, .negSucc _ => false
  | .negSucc _, .ofNat _ => true
  | .negSucc a, .negSucc b => Nat.blt b a
def eqB : Int → Int → Bool
  | .ofNat a, .ofNat b => Nat.beq a b
  | .negSucc a, .negSucc b => Nat.beq a b
  | .ofNat _, .negSucc _ => false
  | .negSucc _, .ofNat _ => false
def inI64 : Int → Bool
  | .ofNat a => Nat.blt a 9223372036854775808
  | .negSucc a => Nat.blt a 9223372036854775808
def wrapF (k : IntKind) (n : Int) : Int :=
  match k with
  | .i64 => cond (inI64 n) n (k.wrap n)
  | _ => k.wrap n
/-- 'k n', with 'n' worked out first -/
def forceN {α : Type} (n : Nat) (k : Nat → α) : α := match n with | 0 => k 0 | m + 1 => k (m + 1)

/-! ### values -/
/-- an unknown capacity -/
def UNK : Nat := 4611686018427387904
/-- an empty slice of which no more is known -/
def VAG : Nat := 4611686018427387905
def bit (n : Nat) : Nat := Nat.shiftLeft 1 n

def flat : Value → Bool
  | .bool _ | .int _ _ | .float _ _ | .string _ | .pointer none | .slice none 0 0 | .map none | .nilFunc | .nilIface => true
  | _ => false
def addrFree : Value → Bool
  | .agg cs => cs.toList.all flat
  | .tuple cs => cs.toList.all flat
  | .func (.func _) a c => a.toList.isEmpty && c.toList.isEmpty
  | v => flat v
/-- a value that one cell holds -/
def one : Value → Bool
  | .agg _ | .tuple _ => false
  | _ => true

/-- equality of plain values: says 'true' of equal ones alone -/
def veqF : Value → Value → Bool
  | .bool a, .bool b => a == b
  | .int k a, .int k' b => k == k' && a == b
  | .string a, .string b => a.data.toList == b.data.toList
  | .pointer none, .pointer none => true
  | .slice none 0 0, .slice none 0 0 => true
  | .map none, .map none => true
  | .nilFunc, .nilFunc => true
  | .nilIface, .nilIface => true
  | .func (.func f) a c, .func (.func g) a' c' => f == g && a.toList.isEmpty && c.toList.isEmpty && a'.toList.isEmpty && c'.toList.isEmpty
  | _, _ => false
def veqL : List Value → List Value → Bool
  | [], [] => true
  | a :: as, b :: bs => veqF a b && veqL as bs
  | _, _ => false
def veq : Value → Value → Bool
  | .agg a, .agg b => veqL a.toList b.toList
  | .tuple a, .tuple b => veqL a.toList b.toList
  | a, b => veqF a b

/-! ### lists by position -/
noncomputable def lget (l : List Value) : Nat → Value :=
  List.rec (motive := fun _ => Nat → Value) (fun _ => undef) (fun a _ ih i => Nat.rec (motive := fun _ => Value) a (fun j _ => ih j) i) l
noncomputable def ldrop (l : List Value) : Nat → List Value :=
  List.rec (motive := fun _ => Nat → List Value) (fun _ => []) (fun a l ih i => Nat.rec (motive := fun _ => List Value) (a :: l) (fun j _ => ih j) i) l
/-- the cell at a place -/
noncomputable def cget (l : List Value) : Nat → Option Value :=
  List.rec (motive := fun _ => Nat → Option Value) (fun _ => none) (fun a _ ih i => Nat.rec (motive := fun _ => Option Value) (some a) (fun j _ => ih j) i) l
noncomputable def ocons (x : Value) (l : Option (List Value)) : Option (List Value) := Option.rec (motive := fun _ => Option (List Value)) none (fun l => some (x :: l)) l
/-- the first n cells, where there are as many -/
noncomputable def ctake (l : List Value) : Nat → Option (List Value) :=
  List.rec (motive := fun _ => Nat → Option (List Value)) (fun n => Nat.rec (motive := fun _ => Option (List Value)) (some []) (fun _ _ => none) n)
    (fun a _ ih i => Nat.rec (motive := fun _ => Option (List Value)) (some []) (fun j _ => ocons a (ih j)) i) l
noncomputable def cellsAt (c : List Value) (off n : Nat) : Option (List Value) := ctake (ldrop c off) n
/-- the first cells replaced -/
noncomputable def cover (vs : List Value) : List Value → Option (List Value) :=
  List.rec (motive := fun _ => List Value → Option (List Value)) (fun c => some c)
    (fun v _ ih c => List.rec (motive := fun _ => Option (List Value)) none (fun _ c _ => ocons v (ih c)) c) vs
noncomputable def setCells (c : List Value) : Nat → List Value → Option (List Value) :=
  List.rec (motive := fun _ => Nat → List Value → Option (List Value)) (fun i vs => Nat.rec (motive := fun _ => Option (List Value)) (cover vs []) (fun _ _ => none) i)
    (fun x c ih i vs => Nat.rec (motive := fun _ => Option (List Value)) (cover vs (x :: c)) (fun j _ => ocons x (ih j vs)) i) c
noncomputable def llen (l : List Value) : Nat := List.rec (motive := fun _ => Nat) 0 (fun _ _ n => Nat.succ n) l
noncomputable def lmap (e : List Value) (sel : List Nat) (t : List Value) : List Value := List.rec (motive := fun _ => List Value) t (fun i _ r => lget e i :: r) sel

/-! ### the code -/
inductive Opd where
  | v (i : Nat)
  | c (x : Value)

inductive AOp where
  | mov (x : Opd)
  | pick (c a b : Opd)
  | bin (op : BinOp) (t : Nat) (x y : Opd)
  | una (op : UnOp) (x : Opd)
  | conv (k : IntKind) (x : Opd)
  | fld (off : Nat) (x : Opd)
  | idx (sz : Nat) (x i : Opd)
  | ida (n sz : Nat) (x i : Opd)
  | build (zero : List Value) (parts : List (Nat × Nat × Opd))
  | extr (i : Nat) (x : Opd)
  | nilck (x : Opd)
  | func (fn : Nat) (first cap : List Opd)
  | len (s : Bool) (x : Opd)
  | mx (x y : Opd)
  | slc (sz : Nat) (x : Opd) (lo hi : Option Opd)
  | new (cells : List Value)
  | box (x : Opd)
  | mkl (sz len : Nat) (zero : List Value) (parts : List (Nat × Opd))
  | make (sz bytes : Nat) (zero : List Value) (l c : Opd)
  | ld1 (x : Opd)
  | ldn (n : Nat) (x : Opd)
  | st (n : Nat) (x y : Opd)
  | app (sz bytes : Nat) (x y : Opd)
  | call (f : Nat) (args : List Opd)
  | callv (x : Opd) (args : List Opd)

/-- an operation of a region: a move that only gives a value one more name · an operation whose value is kept (under a guard) · one without a value -/
inductive AI where
  | nop (i : Nat)
  | op (o : AOp)
  | opg (o : AOp) (gi : Nat) (gw : Bool)
  | eff (o : AOp)
  | effg (o : AOp) (gi : Nat) (gw : Bool)

/-- what a return hands back -/
inductive ROp where
  | v (i : Nat)
  | cell (i : Nat)
  | cells (i n : Nat)

inductive AC where
  | skip
  | reg (l : List AI)
  | regD (l : List AI) (before : List Nat)
  | seq (a b : AC)
  | cond (x : Opd) (a b : AC)
  | block (id : Nat) (sh : List (List Nat)) (b : AC)
  | loop (sh : List (List Nat)) (b : AC)
  | pre (sel : List Nat) (d : Nat) (c : AC)
  | post (c : AC) (sel : List Nat) (d : Nat)
  | exit (id : Nat)
  | ret (rs : List ROp)

/-! ### results -/
inductive AX where
  | norm
  | exit (id : Nat)
  | ret (v : Value)

/-- what an operation gives: its value, the memory, the next number, what was read, what was written -/
inductive OR (μ : Type) where
  | no
  | ok (v : Value) (m : μ) (n r w : Nat)

inductive CR (μ : Type) where
  | no
  | ok (x : AX) (e : List Value) (m : μ) (n r w : Nat)

section
variable {μ : Type} [AMem μ] (P : Program)

noncomputable def ev (e : List Value) : Opd → Value
  | .v i => lget e i
  | .c x => x

/-- a computation that asks for the program alone -/
def pureRun {α : Type} : Sem α → Option α
  | .pure a => some a
  | .program k => pureRun (k P)
  | _ => none

def intBin (op : BinOp) (k : IntKind) (a b : Int) : Option Value :=
  match op with
  | .add => some (.int k (wrapF k (Int.add a b)))
  | .sub => some (.int k (wrapF k (Int.sub a b)))
  | .mul => some (.int k (wrapF k (Int.mul a b)))
  | .quo => cond (eqB b 0) none (some (.int k (wrapF k (a.tdiv b))))
  | .rem => cond (eqB b 0) none (some (.int k (a.tmod b)))
  | .eql => some (.bool (eqB a b))
  | .neq => some (.bool (!eqB a b))
  | .lss => some (.bool (ltB a b))
  | .leq => some (.bool (!ltB b a))
  | .gtr => some (.bool (ltB b a))
  | .geq => some (.bool (!ltB a b))
  | _ => none

def nilBin (op : BinOp) (isNil : Bool) : Option Value :=
  match op with
  | .eql => some (.bool isNil)
  | .neq => some (.bool (!isNil))
  | _ => none

def isSliceT (t : Nat) : Bool := match P.underlying t with | some (.slice _) => true | _ => false
def isPtrT (t : Nat) : Bool := match P.underlying t with | some (.pointer _) => true | _ => false
def flatO : Option Value → Option Value
  | some v => cond (flat v) (some v) none
  | none => none
def notIface : Value → Bool
  | .nilIface => false
  | _ => true
def binV (op : BinOp) (t : Nat) (x y : Value) : Option Value :=
  match x, y with
  | .int k a, .int k' b => cond (decide (k = k')) (intBin op k a b) none
  | .slice a _ _, .slice none 0 0 => cond (isSliceT P t) (nilBin op a.isNone) none
  | .pointer a, .pointer none => cond (isPtrT P t) (nilBin op a.isNone) none
  | x, y => cond (addrFree x && addrFree y && notIface x) (flatO (pureRun P (do eqGuard op t (.tmp 0) (.tmp 0) x y; binOp op t x y))) none

def unaV (op : UnOp) (x : Value) : Option Value :=
  match op, x with
  | .not, .bool b => some (.bool (!b))
  | .neg, .int k n => some (.int k (wrapF k (Int.sub 0 n)))
  | _, _ => none

noncomputable def fillA (ps : List (Nat × Nat × Value)) : List Value → Option (List Value) :=
  List.rec (motive := fun _ => List Value → Option (List Value)) (fun c => some c)
    (fun p _ ih c => cond (Nat.beq (llen p.2.2.cells.toList) p.2.1) (Option.rec (motive := fun _ => Option (List Value)) none ih (setCells c p.1 p.2.2.cells.toList)) none) ps

def optInt (d : Nat) : Option Value → Option Nat
  | none => some d
  | some (.int _ (.ofNat n)) => some n
  | some _ => none

/-! ### operations that touch no memory: on values -/
def pickV (a b : Value) : Value → Option Value
  | .bool t => some (cond t a b)
  | _ => none
def convV (k : IntKind) : Value → Option Value
  | .int _ n => some (.int k (wrapF k n))
  | _ => none
def fldV (off : Nat) : Value → Option Value
  | .pointer (some ⟨b, o, none⟩) => some (.pointer (some ⟨b, Nat.add o off, none⟩))
  | _ => none
def natOf : Value → Option Nat
  | .int _ (.ofNat i) => some i
  | _ => none
def idxV (sz : Nat) (i : Nat) : Value → Option Value
  | .slice (some ⟨b, o, none⟩) len _ => cond (Nat.blt i len) (some (.pointer (some ⟨b, Nat.add o (Nat.mul i sz), none⟩))) none
  | _ => none
def idaV (n sz : Nat) (i : Nat) : Value → Option Value
  | .pointer (some ⟨b, o, none⟩) => cond (Nat.blt i n) (some (.pointer (some ⟨b, Nat.add o (Nat.mul i sz), none⟩))) none
  | _ => none
noncomputable def extrV (i : Nat) : Value → Option Value
  | .tuple vs => cget vs.toList i
  | _ => none
def nilckV : Value → Option Value
  | .pointer (some a) => some (.pointer (some a))
  | _ => none
def lenV (str : Bool) : Value → Option Value
  | .slice _ n _ => cond str none (some (.int .i64 (.ofNat n)))
  | .string s => cond str (some (.int .i64 (.ofNat s.size))) none
  | _ => none
def mxV : Value → Value → Option Value
  | .int k a, .int _ b => some (.int k (cond (ltB a b) b a))
  | _, _ => none
def slcA (sz l h len cap : Nat) : Option Addr → Option Value
  | some ⟨b, o, none⟩ => cond (Nat.beq cap VAG) (some (.slice (some ⟨b, o, none⟩) 0 VAG))
      (cond (Nat.beq cap UNK)
        (cond (Nat.blt l len || Nat.beq l 0) (some (.slice (some ⟨b, Nat.add o (Nat.mul l sz), none⟩) (Nat.sub h l) UNK)) (some (.slice (some ⟨b, o, none⟩) 0 VAG)))
        (cond (Nat.blt cap UNK) (cond (Nat.blt l cap || Nat.beq l 0) (some (.slice (some ⟨b, Nat.add o (Nat.mul l sz), none⟩) (Nat.sub h l) (Nat.sub cap l))) (some (.slice (some ⟨b, o, none⟩) 0 VAG))) none))
  | none => cond (Nat.beq len 0 && Nat.beq cap 0) (some (.slice none 0 0)) none
  | _ => none
def slcV (sz : Nat) (lo hi : Option Value) : Value → Option Value
  | .slice a len cap => match optInt 0 lo, optInt len hi with
    | some l, some h => cond (Nat.ble l h && Nat.ble h len) (slcA sz l h len cap a) none
    | _, _ => none
  | _ => none
def aggO : Option (List Value) → Option Value
  | some c => some (.agg c.toArray)
  | none => none
noncomputable def obind (f : Nat → Option Value) (x : Option Nat) : Option Value := Option.rec (motive := fun _ => Option Value) none f x

def getb (m : μ) (n b : Nat) : Option Blk := cond (Nat.blt b n) (AMem.get m b) none
def newb (m : μ) (n : Nat) (B : Blk) (v : Nat → Value) : OR μ :=
  cond (AMem.lim m n) (.ok (v n) (AMem.put m n (some B)) (Nat.succ n) 0 (bit n)) .no
def slcP (o l c b : Nat) : Value := .slice (some ⟨b, o, none⟩) l c
def ptrP (b : Nat) : Value := .pointer (some ⟨b, 0, none⟩)
def valO (m : μ) (n : Nat) : Option Value → OR μ
  | some v => .ok v m n 0 0
  | none => .no
def valR (m : μ) (n b : Nat) : Option Value → OR μ
  | some v => .ok v m n (bit b) 0
  | none => .no
noncomputable def withCells (B : Option Blk) (f : List Value → OR μ) : OR μ := Option.rec (motive := fun _ => OR μ) .no (fun B => Blk.rec (motive := fun _ => OR μ) (fun c _ _ _ => f c) B) B
def szOk (sz : Nat) : Option Blk → Bool
  | some (.cells _ s _ _) => Nat.beq s sz
  | none => false
/-- a part of a slice; where its capacity is not known its block is looked at -/
def slcM (m : μ) (n sz : Nat) (v : Option Value) : Value → OR μ
  | .slice (some ⟨b, _, none⟩) _ c => cond (Nat.beq c UNK) (cond (szOk sz (getb m n b)) (valR m n b v) .no) (valO m n v)
  | _ => valO m n v
noncomputable def ld1V (m : μ) (n : Nat) : Value → OR μ
  | .pointer (some ⟨b, o, none⟩) => withCells (getb m n b) fun c => valR m n b (cget c o)
  | _ => .no
noncomputable def ldnV (k : Nat) (m : μ) (n : Nat) : Value → OR μ
  | .pointer (some ⟨b, o, none⟩) => withCells (getb m n b) fun c => valR m n b (aggO (cellsAt c o k))
  | _ => .no
def putC (m : μ) (n b sz : Nat) (opn : Bool) (v : Value) (r : Nat) : Option (List Value) → OR μ
  | some c => .ok v (AMem.put m b (some (.cells c sz opn true))) n r (bit b)
  | none => .no
noncomputable def stC (m : μ) (n b o : Nat) (vs : List Value) : Option Blk → OR μ
  | some (.cells c sz opn true) => putC m n b sz opn undef (bit b) (setCells c o vs)
  | _ => .no
noncomputable def stV (k : Nat) (vs : List Value) (m : μ) (n : Nat) : Value → OR μ
  | .pointer (some ⟨b, o, none⟩) => cond (Nat.beq (llen vs) k && vs.all one) (stC m n b o vs (getb m n b)) .no
  | _ => .no
def mklC (m : μ) (n sz len : Nat) : Option (List Value) → OR μ
  | some c => newb m n (.cells c sz false true) (slcP 0 len len)
  | none => .no
noncomputable def reps (z : List Value) (n : Nat) : List Value := Nat.rec (motive := fun _ => List Value) [] (fun _ l => z ++ l) n
noncomputable def makeV (sz bytes : Nat) (z : List Value) (m : μ) (n : Nat) : Option Nat → Option Nat → OR μ
  | some l, some c => cond (Nat.ble l c && Nat.ble (Nat.mul c bytes) 281474976710656 && Nat.ble c 1099511627776) (newb m n (.cells (reps z c) sz false true) (slcP 0 l c)) .no
  | _, _ => .no
/-- the cells that a slice shows, and its block -/
noncomputable def shownB (sz o l b : Nat) : Option Blk → Option (List Value × Nat)
  | some (.cells c s _ _) => cond (Nat.beq s sz) (Option.rec (motive := fun _ => Option (List Value × Nat)) none (fun x => some (x, bit b)) (cellsAt c o (Nat.mul l sz))) none
  | none => none
noncomputable def shown (m : μ) (n sz : Nat) : Value → Option (List Value × Nat)
  | .slice none 0 0 => some ([], 0)
  | .slice (some ⟨b, o, none⟩) l _ => cond (Nat.beq l 0) (some ([], 0)) (shownB sz o l b (getb m n b))
  | _ => none
/-- an append that makes a new block -/
def appN (m : μ) (n sz len : Nat) (c : List Value) (r : Nat) : OR μ :=
  cond (AMem.lim m n) (.ok (slcP 0 len UNK n) (AMem.put m n (some (.cells c sz true true))) (Nat.succ n) r (bit n)) .no
/-- an append to a slice whose capacity is not known: the old block ends -/
def appU (m : μ) (n sz len : Nat) (c : List Value) (r : Nat) (ax : Addr) : Option Blk → OR μ
  | some (.cells _ s true true) => cond (AMem.lim m n && Nat.beq s sz)
      (.ok (slcP 0 len UNK n) (AMem.put (AMem.put m ax.block none) n (some (.cells c sz true true))) (Nat.succ n) r (Nat.lor (bit ax.block) (bit n))) .no
  | _ => .no
/-- an append within the capacity -/
noncomputable def appR (m : μ) (n sz lx len cx : Nat) (b : List Value) (r : Nat) (bx ox : Nat) : Option Blk → OR μ
  | some (.cells c s opn true) => putC m n bx s opn (slcP ox len cx bx) r (setCells c (Nat.add ox (Nat.mul lx sz)) b)
  | _ => .no
noncomputable def appG (m : μ) (n sz lx ly cx : Nat) (a b : List Value) (r : Nat) : Option Addr → OR μ
  | none => cond (Nat.beq ly 0) (.ok (.slice none 0 0) m n r 0) (appN m n sz (Nat.add lx ly) (a ++ b) r)
  | some ⟨bx, ox, none⟩ => cond (Nat.beq cx VAG) .no (cond (Nat.beq cx UNK) (appU m n sz (Nat.add lx ly) (a ++ b) r ⟨bx, ox, none⟩ (getb m n bx))
      (cond (Nat.ble (Nat.add lx ly) cx) (appR m n sz lx (Nat.add lx ly) cx b r bx ox (getb m n bx)) (appN m n sz (Nat.add lx ly) (a ++ b) r)))
  | _ => .no
noncomputable def appV (sz bytes : Nat) (m : μ) (n : Nat) (a : List Value × Nat) (b : List Value × Nat) : Value → Value → OR μ
  | .slice ax lx cx, .slice _ ly _ =>
    cond (b.1.all one && Nat.blt 0 sz && Nat.blt 0 bytes && Nat.ble (Nat.mul (Nat.add lx ly) bytes) 140737488355328)
      (appG m n sz lx ly cx a.1 b.1 (Nat.lor a.2 b.2) ax) .no
  | _, _ => .no
noncomputable def appO (sz bytes : Nat) (m : μ) (n : Nat) (x y : Value) : Option (List Value × Nat) → Option (List Value × Nat) → OR μ
  | some a, some b => appV sz bytes m n a b x y
  | _, _ => .no

/-- one operation; 'rec': the call of a function -/
def callV (rec : Nat → List Value → μ → Nat → OR μ) (args : List Value) (m : μ) (n : Nat) : Value → OR μ
  | .func (.func f) a c => rec f (a.toList ++ args ++ c.toList) m n
  | _ => .no
noncomputable def evs (e : List Value) (l : List Opd) : List Value := List.rec (motive := fun _ => List Value) [] (fun x _ r => ev e x :: r) l
noncomputable def parts3 (e : List Value) (l : List (Nat × Nat × Opd)) : List (Nat × Nat × Value) := List.rec (motive := fun _ => List (Nat × Nat × Value)) [] (fun p _ r => (p.1, p.2.1, ev e p.2.2) :: r) l
noncomputable def parts2 (sz : Nat) (e : List Value) (l : List (Nat × Opd)) : List (Nat × Nat × Value) := List.rec (motive := fun _ => List (Nat × Nat × Value)) [] (fun p _ r => (Nat.mul p.1 sz, sz, ev e p.2) :: r) l
noncomputable def oev (e : List Value) (x : Option Opd) : Option Value := Option.rec (motive := fun _ => Option Value) none (fun x => some (ev e x)) x

noncomputable def stepA (rec : Nat → List Value → μ → Nat → OR μ) (e : List Value) (m : μ) (n : Nat) (op : AOp) : OR μ :=
  AOp.rec (motive := fun _ => OR μ)
    (fun x => .ok (ev e x) m n 0 0)
    (fun c a b => valO m n (pickV (ev e a) (ev e b) (ev e c)))
    (fun op t x y => valO m n (binV P op t (ev e x) (ev e y)))
    (fun op x => valO m n (unaV op (ev e x)))
    (fun k x => valO m n (convV k (ev e x)))
    (fun off x => valO m n (fldV off (ev e x)))
    (fun sz x i => valO m n (obind (fun i => idxV sz i (ev e x)) (natOf (ev e i))))
    (fun k sz x i => valO m n (obind (fun i => idaV k sz i (ev e x)) (natOf (ev e i))))
    (fun z ps => valO m n (aggO (fillA (parts3 e ps) z)))
    (fun i x => valO m n (extrV i (ev e x)))
    (fun x => valO m n (nilckV (ev e x)))
    (fun f a c => .ok (.func (.func f) (evs e a).toArray (evs e c).toArray) m n 0 0)
    (fun s x => valO m n (lenV s (ev e x)))
    (fun x y => valO m n (mxV (ev e x) (ev e y)))
    (fun sz x lo hi => slcM m n sz (slcV sz (oev e lo) (oev e hi) (ev e x)) (ev e x))
    (fun c => newb m n (.cells c 0 false true) ptrP)
    (fun x => newb m n (.cells (ev e x).cells.toList 0 false true) ptrP)
    (fun sz len z ps => mklC m n sz len (fillA (parts2 sz e ps) (reps z len)))
    (fun sz bytes z l c => makeV sz bytes z m n (natOf (ev e l)) (natOf (ev e c)))
    (fun x => ld1V m n (ev e x))
    (fun k x => ldnV k m n (ev e x))
    (fun k x y => stV k (ev e y).cells.toList m n (ev e x))
    (fun sz bytes x y => appO sz bytes m n (ev e x) (ev e y) (shown m n sz (ev e x)) (shown m n sz (ev e y)))
    (fun f args => rec f (evs e args) m n)
    (fun x args => callV rec (evs e args) m n (ev e x))
    op

/-- is the operation carried out? -/
def wantB (w : Bool) : Value → Bool
  | .bool b => cond w b (!b)
  | _ => false
noncomputable def orRec (x : OR μ) (f : Value → μ → Nat → Nat → Nat → CR μ) : CR μ := OR.rec (motive := fun _ => CR μ) .no f x
def doneA (e : List Value) (m : μ) (n r w : Nat) : CR μ := forceN r fun r => forceN w fun w => .ok .norm e m n r w
noncomputable def opsA (rec : Nat → List Value → μ → Nat → OR μ) (l : List AI) : List Value → μ → Nat → Nat → Nat → CR μ :=
  List.rec (motive := fun _ => List Value → μ → Nat → Nat → Nat → CR μ) doneA
    (fun i _ ih e m n r w => AI.rec (motive := fun _ => CR μ)
      (fun _ => ih e m n r w)
      (fun o => orRec (stepA P rec e m n o) fun v m n r' w' => ih (v :: e) m n (Nat.lor r r') (Nat.lor w w'))
      (fun o gi gw => cond (wantB gw (lget e gi)) (orRec (stepA P rec e m n o) fun v m n r' w' => ih (v :: e) m n (Nat.lor r r') (Nat.lor w w')) (ih (undef :: e) m n r w))
      (fun o => orRec (stepA P rec e m n o) fun _ m n r' w' => ih e m n (Nat.lor r r') (Nat.lor w w'))
      (fun o gi gw => cond (wantB gw (lget e gi)) (orRec (stepA P rec e m n o) fun _ m n r' w' => ih e m n (Nat.lor r r') (Nat.lor w w')) (ih e m n r w))
      i) l

/-- do two operations that are not ordered touch nothing of each other's? 'done': those before, each with its number, what it read and wrote -/
def apart (bef r w : Nat) : List (Nat × Nat × Nat) → Bool
  | [] => true
  | (i, r', w') :: l => (Nat.testBit bef i || (Nat.beq (Nat.land w (Nat.lor r' w')) 0 && Nat.beq (Nat.land w' r) 0)) && apart bef r w l

/-- the operands of an operation -/
def opds : AOp → List Opd
  | .mov x | .una _ x | .conv _ x | .fld _ x | .extr _ x | .nilck x | .len _ x | .box x | .ld1 x | .ldn _ x => [x]
  | .pick a b c => [a, b, c]
  | .bin _ _ x y | .idx _ x y | .ida _ _ x y | .mx x y | .make _ _ _ x y | .st _ x y | .app _ _ x y => [x, y]
  | .build _ ps => ps.map fun p => p.2.2
  | .mkl _ _ _ ps => ps.map fun p => p.2
  | .func _ a c => a ++ c
  | .slc _ x lo hi => x :: (lo.toList ++ hi.toList)
  | .new _ => []
  | .call _ as => as
  | .callv x as => x :: as
/-- does a value name blocks below n alone? -/
def belowF (n : Nat) : Value → Bool
  | .pointer (some a) => Nat.blt a.block n
  | .slice (some a) _ _ => Nat.blt a.block n
  | v => flat v
def below1 (n : Nat) : Value → Bool
  | .agg cs => cs.toList.all (belowF n)
  | v => belowF n v
def belowV (n : Nat) : Value → Bool
  | .agg cs => cs.toList.all (belowF n)
  | .tuple cs => cs.toList.all (below1 n)
  | .func (.func _) a c => a.toList.all (below1 n) && c.toList.all (below1 n)
  | v => belowF n v
noncomputable def belowOps (n : Nat) (e : List Value) (o : AOp) : Bool := (opds o).all fun x => belowV n (ev e x)

noncomputable def okD (bef k : Nat) (done : List (Nat × Nat × Nat)) (x : OR μ) (f : Value → μ → Nat → Nat → Nat → List (Nat × Nat × Nat) → CR μ) : CR μ :=
  orRec x fun v m n r w => forceN r fun r => forceN w fun w => cond (Nat.beq (Nat.lor r w) 0) (f v m n r w done) (cond (apart bef r w done) (f v m n r w ((k, r, w) :: done)) .no)
noncomputable def stepD (rec : Nat → List Value → μ → Nat → OR μ) (e : List Value) (m : μ) (n : Nat) (o : AOp) : OR μ := cond (belowOps n e o) (stepA P rec e m n o) .no
noncomputable def opsD (rec : Nat → List Value → μ → Nat → OR μ) (l : List AI) : List Nat → Nat → List (Nat × Nat × Nat) → List Value → μ → Nat → Nat → Nat → CR μ :=
  List.rec (motive := fun _ => List Nat → Nat → List (Nat × Nat × Nat) → List Value → μ → Nat → Nat → Nat → CR μ) (fun _ _ _ => doneA)
    (fun i _ ih bs k done e m n r w => AI.rec (motive := fun _ => CR μ)
      (fun _ => ih bs.tail (Nat.succ k) done e m n r w)
      (fun o => okD (bs.headD 0) k done (stepD P rec e m n o) fun v m n r' w' done => ih bs.tail (Nat.succ k) done (v :: e) m n (Nat.lor r r') (Nat.lor w w'))
      (fun o gi gw => cond (wantB gw (lget e gi)) (okD (bs.headD 0) k done (stepD P rec e m n o) fun v m n r' w' done => ih bs.tail (Nat.succ k) done (v :: e) m n (Nat.lor r r') (Nat.lor w w')) (ih bs.tail (Nat.succ k) done (undef :: e) m n r w))
      (fun o => okD (bs.headD 0) k done (stepD P rec e m n o) fun _ m n r' w' done => ih bs.tail (Nat.succ k) done e m n (Nat.lor r r') (Nat.lor w w'))
      (fun o gi gw => cond (wantB gw (lget e gi)) (okD (bs.headD 0) k done (stepD P rec e m n o) fun _ m n r' w' done => ih bs.tail (Nat.succ k) done e m n (Nat.lor r r') (Nat.lor w w')) (ih bs.tail (Nat.succ k) done e m n r w))
      i) l

/-- what a return hands back, and what it reads -/
noncomputable def resC (vs : List Value) (r b : Nat) (f : List Value → Option Value) (B : Option Blk) : Option (List Value × Nat) :=
  Option.rec (motive := fun _ => Option (List Value × Nat)) none (fun B => Blk.rec (motive := fun _ => Option (List Value × Nat)) (fun c _ _ _ => Option.rec (motive := fun _ => Option (List Value × Nat)) none (fun v => some (v :: vs, Nat.lor r (bit b))) (f c)) B) B
noncomputable def resP (m : μ) (n : Nat) (vs : List Value) (r : Nat) (f : Nat → List Value → Option Value) : Value → Option (List Value × Nat)
  | .pointer (some ⟨b, o, none⟩) => resC vs r b (f o) (getb m n b)
  | _ => none
noncomputable def resO (e : List Value) (m : μ) (n : Nat) (vs : List Value) (r : Nat) : ROp → Option (List Value × Nat)
  | .v i => some (lget e i :: vs, r)
  | .cell i => resP m n vs r (fun o c => cget c o) (lget e i)
  | .cells i k => resP m n vs r (fun o c => aggO (cellsAt c o k)) (lget e i)
noncomputable def resA (e : List Value) (m : μ) (n : Nat) (l : List ROp) : Option (List Value × Nat) :=
  List.rec (motive := fun _ => Option (List Value × Nat)) (some ([], 0))
    (fun x _ ih => Option.rec (motive := fun _ => Option (List Value × Nat)) none (fun p => resO e m n p.1 p.2 x) ih) l

def retV : List Value → Value
  | [v] => v
  | l => .tuple l.toArray

/-- a function: what it hands back where its code ends by itself; its code -/
structure AFn where
  na : Nat
  endrs : List ROp
  code : AC

/-- at a return: where the value bears no address and nothing that was there was written, what was made is forgotten -/
def leaveA (m0 : μ) (n0 : Nat) (v : Value) (m : μ) (n r w : Nat) : OR μ :=
  cond (addrFree v && Nat.beq (Nat.mod w (bit n0)) 0) (forceN (Nat.mod r (bit n0)) fun r => .ok v m0 n0 r 0) (.ok v m n r w)

noncomputable def fixE (sel : List Nat) (d : Nat) (e : List Value) : List Value := lmap e sel (ldrop e d)

def leaveO (m0 : μ) (n0 : Nat) (m : μ) (n r w : Nat) : Option (List Value × Nat) → OR μ
  | some (vs, r') => leaveA m0 n0 (retV vs) m n (Nat.lor r r') w
  | none => .no
noncomputable def leaveX (fn : AFn) (m0 : μ) (n0 : Nat) (e : List Value) (m : μ) (n r w : Nat) : AX → OR μ
  | .norm => leaveO m0 n0 m n r w (resA e m n fn.endrs)
  | .ret v => leaveA m0 n0 v m n r w
  | .exit _ => .no
noncomputable def callF (rec : AC → List Value → μ → Nat → CR μ) (args : List Value) (m : μ) (n : Nat) (fn : AFn) : OR μ :=
  cond (Nat.beq (llen args) fn.na) (CR.rec (motive := fun _ => OR μ) .no (fun x e m' n' r w => leaveX fn m n e m' n' r w x) (rec fn.code args m n)) .no
/-- the call of a function -/
noncomputable def callA (E : Nat → Option AFn) (Y : Nat → List Value → μ → Nat → OR μ) (rec : AC → List Value → μ → Nat → CR μ) (f : Nat) (args : List Value) (m : μ) (n : Nat) : OR μ :=
  Option.rec (motive := fun _ => OR μ) (Y f args m n) (callF rec args m n) (E f)

noncomputable def crRec (x : CR μ) (f : AX → List Value → μ → Nat → Nat → Nat → CR μ) : CR μ := CR.rec (motive := fun _ => CR μ) .no f x
def addRW (r w : Nat) : CR μ → CR μ
  | .ok x e m n r' w' => .ok x e m n (Nat.lor r r') (Nat.lor w w')
  | .no => .no
def onNorm (f : List Value → μ → Nat → CR μ) (x : AX) (e : List Value) (m : μ) (n r w : Nat) : CR μ :=
  match x with
  | .norm => addRW r w (f e m n)
  | x => .ok x e m n r w
def onCond (a b : CR μ) : Value → CR μ
  | .bool t => cond t a b
  | _ => .no
def onBlock (id : Nat) (x : AX) (e : List Value) (m : μ) (n r w : Nat) : CR μ :=
  match x with
  | .exit i => cond (Nat.beq i id) (.ok .norm e m n r w) (.ok (.exit i) e m n r w)
  | x => .ok x e m n r w
noncomputable def onPost (sel : List Nat) (d : Nat) (x : AX) (e : List Value) (m : μ) (n r w : Nat) : CR μ :=
  match x with
  | .norm => .ok .norm (fixE sel d e) m n r w
  | x => .ok x e m n r w
def onRet (e : List Value) (m : μ) (n : Nat) : Option (List Value × Nat) → CR μ
  | some (vs, r) => .ok (.ret (retV vs)) e m n r 0
  | none => .no

noncomputable def execF (E : Nat → Option AFn) (Y : Nat → List Value → μ → Nat → OR μ) (rec : AC → List Value → μ → Nat → CR μ) (c : AC) (e : List Value) (m : μ) (n : Nat) : CR μ :=
  AC.casesOn (motive := fun _ => CR μ) c
    (.ok .norm e m n 0 0)
    (fun l => opsA P (callA E Y rec) l e m n 0 0)
    (fun l bs => opsD P (callA E Y rec) l bs 0 [] e m n 0 0)
    (fun a b => crRec (rec a e m n) (onNorm (rec b)))
    (fun x a b => onCond (rec a e m n) (rec b e m n) (ev e x))
    (fun id _ b => crRec (rec b e m n) (onBlock id))
    (fun sh b => crRec (rec b e m n) (onNorm (rec (.loop sh b))))
    (fun sel d c => rec c (fixE sel d e) m n)
    (fun c sel d => crRec (rec c e m n) (onPost sel d))
    (fun id => .ok (.exit id) e m n 0 0)
    (fun rs => onRet e m n (resA e m n rs))

noncomputable def exec (E : Nat → Option AFn) (Y : Nat → List Value → μ → Nat → OR μ) (k : Nat) : AC → List Value → μ → Nat → CR μ :=
  Nat.rec (motive := fun _ => AC → List Value → μ → Nat → CR μ) (fun _ _ _ _ => .no) (fun _ ih => execF P E Y ih) k
end

end Go.Am
