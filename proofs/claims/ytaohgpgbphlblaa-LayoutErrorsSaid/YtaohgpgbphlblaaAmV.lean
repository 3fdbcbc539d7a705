/- A second form of the abstract machine, which the kernel evaluates fast: few kinds of values, codes compiled to closures. Whatever it gives the abstract machine gives. -/
import Derived.Test.YtaohgpgbphlblaaAmFast
import Derived.Test.YtaohgpgbphlblaaAmSym
set_option linter.unusedVariables false
set_option linter.unusedSimpArgs false
set_option linter.unusedSectionVars false
namespace Go.Am.V
open Go Go.Am Go.Am.Fast

/-! ### lists -/
section
variable {α β : Type}
noncomputable def pget (l : List α) : Nat → Option α := List.rec (motive := fun _ => Nat → Option α) (fun _ => none) (fun a _ ih i => Nat.rec (motive := fun _ => Option α) (some a) (fun j _ => ih j) i) l
noncomputable def pdrop (l : List α) : Nat → List α := List.rec (motive := fun _ => Nat → List α) (fun _ => []) (fun a l ih i => Nat.rec (motive := fun _ => List α) (a :: l) (fun j _ => ih j) i) l
noncomputable def pcons (x : α) (l : Option (List α)) : Option (List α) := Option.rec (motive := fun _ => Option (List α)) none (fun l => some (x :: l)) l
noncomputable def ptake (l : List α) : Nat → Option (List α) :=
  List.rec (motive := fun _ => Nat → Option (List α)) (fun n => Nat.rec (motive := fun _ => Option (List α)) (some []) (fun _ _ => none) n)
    (fun a _ ih i => Nat.rec (motive := fun _ => Option (List α)) (some []) (fun j _ => pcons a (ih j)) i) l
noncomputable def pat (c : List α) (off n : Nat) : Option (List α) := ptake (pdrop c off) n
noncomputable def pcover (vs : List α) : List α → Option (List α) :=
  List.rec (motive := fun _ => List α → Option (List α)) (fun c => some c)
    (fun v _ ih c => List.rec (motive := fun _ => Option (List α)) none (fun _ c _ => pcons v (ih c)) c) vs
noncomputable def pset (c : List α) : Nat → List α → Option (List α) :=
  List.rec (motive := fun _ => Nat → List α → Option (List α)) (fun i vs => Nat.rec (motive := fun _ => Option (List α)) (pcover vs []) (fun _ _ => none) i)
    (fun x c ih i vs => Nat.rec (motive := fun _ => Option (List α)) (pcover vs (x :: c)) (fun j _ => pcons x (ih j vs)) i) c
noncomputable def plen (l : List α) : Nat := List.rec (motive := fun _ => Nat) 0 (fun _ _ n => Nat.succ n) l
noncomputable def papp (a b : List α) : List α := List.rec (motive := fun _ => List α) b (fun x _ r => x :: r) a
noncomputable def pmap (f : α → β) (a : List α) : List β := List.rec (motive := fun _ => List β) [] (fun x _ r => f x :: r) a
noncomputable def preps (z : List α) (n : Nat) : List α := Nat.rec (motive := fun _ => List α) [] (fun _ l => papp z l) n
theorem pmap_eq (f : α → β) (a : List α) : pmap f a = a.map f := by
  induction a with
  | nil => rfl
  | cons x a ih => show f x :: pmap f a = _; rw [ih]; rfl
theorem papp_eq (a b : List α) : papp a b = a ++ b := by
  induction a with
  | nil => rfl
  | cons x a ih => show x :: papp a b = _; rw [ih]; rfl
variable (f : α → β)
theorem plen_map (l : List α) : plen (l.map f) = plen l := by
  induction l with
  | nil => rfl
  | cons x l ih => show Nat.succ (plen (l.map f)) = Nat.succ (plen l); rw [ih]
theorem pget_map (l : List α) (i : Nat) : pget (l.map f) i = (pget l i).map f := by
  induction l generalizing i with
  | nil => rfl
  | cons x l ih => cases i with
    | zero => rfl
    | succ i => exact ih i
theorem pdrop_map (l : List α) (i : Nat) : pdrop (l.map f) i = (pdrop l i).map f := by
  induction l generalizing i with
  | nil => rfl
  | cons x l ih => cases i with
    | zero => rfl
    | succ i => exact ih i
theorem pcons_map (x : α) (l : Option (List α)) : pcons (f x) (l.map (List.map f)) = (pcons x l).map (List.map f) := by cases l <;> rfl
theorem ptake_map (l : List α) (i : Nat) : ptake (l.map f) i = (ptake l i).map (List.map f) := by
  induction l generalizing i with
  | nil => cases i <;> rfl
  | cons x l ih => cases i with
    | zero => rfl
    | succ i =>
      show pcons (f x) (ptake (l.map f) i) = (pcons x (ptake l i)).map (List.map f)
      rw [ih, pcons_map]
theorem pat_map (c : List α) (o n : Nat) : pat (c.map f) o n = (pat c o n).map (List.map f) := by
  show ptake (pdrop (c.map f) o) n = _; rw [pdrop_map, ptake_map]; rfl
theorem pcover_map (vs c : List α) : pcover (vs.map f) (c.map f) = (pcover vs c).map (List.map f) := by
  induction vs generalizing c with
  | nil => rfl
  | cons v vs ih => cases c with
    | nil => rfl
    | cons x c =>
      show pcons (f v) (pcover (vs.map f) (c.map f)) = (pcons v (pcover vs c)).map (List.map f)
      rw [ih, pcons_map]
theorem pset_map (c : List α) (i : Nat) (vs : List α) : pset (c.map f) i (vs.map f) = (pset c i vs).map (List.map f) := by
  induction c generalizing i with
  | nil => cases i with
    | zero => exact pcover_map f vs []
    | succ i => rfl
  | cons x c ih => cases i with
    | zero => exact pcover_map f vs (x :: c)
    | succ i =>
      show pcons (f x) (pset (c.map f) i (vs.map f)) = (pcons x (pset c i vs)).map (List.map f)
      rw [ih, pcons_map]
theorem papp_map (a b : List α) : papp (a.map f) (b.map f) = (papp a b).map f := by rw [papp_eq, papp_eq, List.map_append]
theorem preps_map (z : List α) (n : Nat) : preps (z.map f) n = (preps z n).map f := by
  induction n with
  | zero => rfl
  | succ n ih => show papp (z.map f) (preps (z.map f) n) = (papp z (preps z n)).map f; rw [ih, papp_map]
end

/-! ### values -/
inductive FV where
  | i (z : Int)
  | b (t : Bool)
  | p (b o : Nat)
  | s (b o l c : Nat)
  | o (v : Value)
noncomputable def toV (v : FV) : Value := FV.rec (motive := fun _ => Value) (fun z => .int .i64 z) (fun t => .bool t) (fun b o => .pointer (some ⟨b, o, none⟩)) (fun b o l c => .slice (some ⟨b, o, none⟩) l c) (fun v => v) v
noncomputable def ofInt (k : IntKind) (z : Int) : FV := IntKind.rec (motive := fun _ => Int → FV) (fun z => .o (.int .i8 z)) (fun z => .o (.int .i16 z)) (fun z => .o (.int .i32 z)) (fun z => .i z) (fun z => .o (.int .u8 z)) (fun z => .o (.int .u16 z)) (fun z => .o (.int .u32 z)) (fun z => .o (.int .u64 z)) k z
noncomputable def ofPtr (a : Option Addr) : FV := Option.rec (motive := fun _ => FV) (.o (.pointer none)) (fun a => Addr.rec (motive := fun _ => FV) (fun b o s => Option.rec (motive := fun _ => Nat → Nat → FV) (fun b o => .p b o) (fun s b o => .o (.pointer (some ⟨b, o, some s⟩))) s b o) a) a
noncomputable def ofSl (a : Option Addr) (l c : Nat) : FV := Option.rec (motive := fun _ => Nat → Nat → FV) (fun l c => .o (.slice none l c)) (fun a l c => Addr.rec (motive := fun _ => FV) (fun b o s => Option.rec (motive := fun _ => Nat → Nat → Nat → Nat → FV) (fun b o l c => .s b o l c) (fun s b o l c => .o (.slice (some ⟨b, o, some s⟩) l c)) s b o l c) a) a l c
noncomputable def ofV (v : Value) : FV :=
  Value.casesOn (motive_1 := fun _ => FV) v (fun b => .b b) ofInt (fun k b => .o (.float k b)) (fun k a b => .o (.complex k a b)) (fun s => .o (.string s)) ofPtr ofSl (fun r => .o (.map r)) (fun r => .o (.chan r)) (fun f a c => .o (.func f a c)) (.o .nilFunc) (fun t v => .o (.iface t v)) (.o .nilIface) (fun c => .o (.agg c)) (fun c => .o (.tuple c))
theorem toV_ofV (v : Value) : toV (ofV v) = v := by
  cases v
  case int k z => cases k <;> rfl
  case pointer a => rcases a with _ | ⟨b, o, _ | s⟩ <;> rfl
  case slice a l c => rcases a with _ | ⟨b, o, _ | s⟩ <;> rfl
  all_goals rfl
theorem toV_ofVs (l : List Value) : (l.map ofV).map toV = l := by
  rw [List.map_map]
  have : toV ∘ ofV = id := funext toV_ofV
  rw [this, List.map_id]
section
variable {α : Type}
noncomputable def onI (v : FV) (k : Int → α) (d : α) : α := FV.rec (motive := fun _ => (Int → α) → α → α) (fun z k _ => k z) (fun _ _ d => d) (fun _ _ _ d => d) (fun _ _ _ _ _ d => d) (fun _ _ d => d) v k d
noncomputable def onB (v : FV) (a b d : α) : α := FV.rec (motive := fun _ => α → α → α → α) (fun _ _ _ d => d) (fun t a b _ => Bool.rec (motive := fun _ => α) b a t) (fun _ _ _ _ d => d) (fun _ _ _ _ _ _ d => d) (fun _ _ _ d => d) v a b d
noncomputable def onP (v : FV) (k : Nat → Nat → α) (d : α) : α := FV.rec (motive := fun _ => (Nat → Nat → α) → α → α) (fun _ _ d => d) (fun _ _ d => d) (fun b o k _ => k b o) (fun _ _ _ _ _ d => d) (fun _ _ d => d) v k d
noncomputable def onS (v : FV) (k : Nat → Nat → Nat → Nat → α) (d : α) : α := FV.rec (motive := fun _ => (Nat → Nat → Nat → Nat → α) → α → α) (fun _ _ d => d) (fun _ _ d => d) (fun _ _ _ d => d) (fun b o l c k _ => k b o l c) (fun _ _ d => d) v k d
/-- 'k v', v worked out, its numbers too -/
noncomputable def fF (k : FV → α) (v : FV) : α := FV.rec (motive := fun _ => α) (fI fun z => k (.i z)) (fB fun t => k (.b t)) (fun b o => fN (fun b => fN (fun o => k (.p b o)) o) b) (fun b o l c => fN (fun b => fN (fun o => fN (fun l => fN (fun c => k (.s b o l c)) c) l) o) b) (fun v => k (.o v)) v
theorem fF_eq (k : FV → α) (v : FV) : fF k v = k v := by
  cases v with
  | i z => exact fI_eq (fun z => k (.i z)) z
  | b t => exact fB_eq (fun t => k (.b t)) t
  | p b o => show fN (fun b => fN (fun o => k (.p b o)) o) b = _; rw [fN_eq, fN_eq]
  | s b o l c => show fN (fun b => fN (fun o => fN (fun l => fN (fun c => k (.s b o l c)) c) l) o) b = _; rw [fN_eq, fN_eq, fN_eq, fN_eq]
  | o v => rfl
end

/-! ### memory -/
structure FBlk where
  c : List FV
  sz : Nat
  opn : Bool
  wr : Bool
noncomputable def toB (x : FBlk) : Blk := FBlk.rec (motive := fun _ => Blk) (fun c sz opn wr => .cells (c.map toV) sz opn wr) x
/-- blocks, the newest first; the block of number b lies at place n - 1 - b, where n is the next number -/
abbrev FTr := List (Option FBlk)
noncomputable def oflat (x : Option (Option FBlk)) : Option FBlk := Option.rec (motive := fun _ => Option FBlk) none (fun x => x) x
noncomputable def gb (m : FTr) (n b : Nat) : Option FBlk := Bool.rec (motive := fun _ => Option FBlk) none (oflat (pget m (Nat.sub (Nat.pred n) b))) (Nat.ble (Nat.succ b) n)
noncomputable def absM (m : FTr) (n : Nat) : FM := fun b => (gb m n b).map toB
noncomputable def lset (m : FTr) (x : Option FBlk) (i : Nat) : Option FTr :=
  List.rec (motive := fun _ => Nat → Option FTr) (fun _ => none) (fun a t ih i => Nat.rec (motive := fun _ => Option FTr) (some (x :: t)) (fun j _ => Option.rec (motive := fun _ => Option FTr) none (fun t => some (a :: t)) (ih j)) i) m i
theorem lset_get {x : Option FBlk} : ∀ {m m' : FTr} {i : Nat}, lset m x i = some m' → ∀ j, pget m' j = if j = i then some x else pget m j
  | [], m', i, h, j => by cases h
  | a :: t, m', 0, h, j => by
    have h : some (x :: t) = some m' := h
    injection h with h; subst h
    cases j with
    | zero => rfl
    | succ j => rfl
  | a :: t, m', i + 1, h, j => by
    have h : Option.rec (motive := fun _ => Option FTr) none (fun t => some (a :: t)) (lset t x i) = some m' := h
    cases hl : lset t x i with
    | none => rw [hl] at h; cases h
    | some t' =>
      rw [hl] at h
      injection h with h; subst h
      cases j with
      | zero => rfl
      | succ j =>
        show pget t' j = if j + 1 = i + 1 then some x else pget t j
        rw [lset_get hl j]
        by_cases e : j = i
        · rw [if_pos e, if_pos (by omega)]
        · rw [if_neg e, if_neg (by omega)]
theorem gb_eq (m : FTr) (n b : Nat) : getb (absM m n) n b = (gb m n b).map toB := by
  show cond (Nat.blt b n) ((gb m n b).map toB) none = (gb m n b).map toB
  show cond (Nat.blt b n) ((Bool.rec (motive := fun _ => Option FBlk) none (oflat (pget m (Nat.sub (Nat.pred n) b))) (Nat.blt b n)).map toB) none = (Bool.rec (motive := fun _ => Option FBlk) none (oflat (pget m (Nat.sub (Nat.pred n) b))) (Nat.blt b n)).map toB
  cases Nat.blt b n <;> rfl
theorem gb_lt {m : FTr} {n b : Nat} {x : FBlk} (h : gb m n b = some x) : b < n := by
  have h : Bool.rec (motive := fun _ => Option FBlk) none (oflat (pget m (Nat.sub (Nat.pred n) b))) (Nat.ble (Nat.succ b) n) = some x := h
  cases hb : Nat.ble (Nat.succ b) n
  · rw [hb] at h; cases h
  · exact Nat.le_of_ble_eq_true hb
theorem gb_lt' {m : FTr} {n b : Nat} (h : b < n) : gb m n b = oflat (pget m (n - 1 - b)) := by
  show Bool.rec (motive := fun _ => Option FBlk) none (oflat (pget m (n - 1 - b))) (Nat.ble (Nat.succ b) n) = _
  rw [Nat.ble_eq_true_of_le h]
theorem gb_ge {m : FTr} {n b : Nat} (h : n ≤ b) : gb m n b = none := by
  show Bool.rec (motive := fun _ => Option FBlk) none (oflat (pget m (n - 1 - b))) (Nat.ble (Nat.succ b) n) = _
  cases hb : Nat.ble (Nat.succ b) n
  · rfl
  · have := Nat.le_of_ble_eq_true hb; omega
theorem absM_new {m : FTr} {n : Nat} {x : Option FBlk} : absM (x :: m) (Nat.succ n) = AMem.put (absM m n) n (x.map toB) := by
  funext j
  show (gb (x :: m) (n + 1) j).map toB = if j = n then x.map toB else (gb m n j).map toB
  by_cases e : j = n
  · subst e
    rw [if_pos rfl, gb_lt' (by omega)]
    have : j + 1 - 1 - j = 0 := by omega
    rw [this]; rfl
  · rw [if_neg e]
    by_cases h : j < n
    · rw [gb_lt' (by omega), gb_lt' h]
      have : n + 1 - 1 - j = (n - 1 - j) + 1 := by omega
      rw [this]; rfl
    · rw [gb_ge (by omega), gb_ge (by omega)]
noncomputable def tset (m : FTr) (n b : Nat) (x : Option FBlk) : Option FTr := lset m x (Nat.sub (Nat.pred n) b)
theorem absM_set {m m' : FTr} {n b : Nat} {x : Option FBlk} (hb : b < n) (h : tset m n b x = some m') : absM m' n = AMem.put (absM m n) b (x.map toB) := by
  funext j
  show (gb m' n j).map toB = if j = b then x.map toB else (gb m n j).map toB
  by_cases hj : j < n
  · rw [gb_lt' hj, lset_get h]
    by_cases e : j = b
    · subst e; rw [if_pos (show n - 1 - j = Nat.sub (Nat.pred n) j from rfl), if_pos rfl]; rfl
    · rw [if_neg e, if_neg (by show ¬ (n - 1 - j = n - 1 - b); omega), gb_lt' hj]
  · rw [gb_ge (by omega), if_neg (by omega), gb_ge (by omega)]

/-! ### results -/
inductive FR where
  | no
  | pv (v : FV)
  | rd (v : FV) (b : Nat)
  | ok (v : FV) (m : FTr) (n r w : Nat)
def FSim (m : FTr) (n : Nat) (x : FR) (y : OR FM) : Prop :=
  match x with
  | .no => True
  | .pv v => y = .ok (toV v) (absM m n) n 0 0
  | .rd v b => y = .ok (toV v) (absM m n) n (bit b) 0
  | .ok v m' n' r w => y = .ok (toV v) (absM m' n') n' r w
theorem fsim_no {m : FTr} {n : Nat} {y : OR FM} : FSim m n .no y := trivial
abbrev FCal := Nat → List FV → FTr → Nat → FR
noncomputable def gl (l : List FV) : Nat → FV := List.rec (motive := fun _ => Nat → FV) (fun _ => .o undef) (fun a _ ih i => Nat.rec (motive := fun _ => FV) a (fun j _ => ih j) i) l
theorem gl_eq (l : List FV) (i : Nat) : toV (gl l i) = lget (l.map toV) i := by
  induction l generalizing i with
  | nil => rfl
  | cons x l ih => cases i with
    | zero => rfl
    | succ i => exact ih i
noncomputable def gv (e : List FV) (x : Opd) : FV := Opd.rec (motive := fun _ => List FV → FV) (fun i e => gl e i) (fun v _ => ofV v) x e
theorem gv_eq (e : List FV) (x : Opd) : toV (gv e x) = ev (e.map toV) x := by
  cases x with
  | v i => exact gl_eq e i
  | c v => exact toV_ofV v
noncomputable def gvs (e : List FV) (l : List Opd) : List FV := List.rec (motive := fun _ => List FV) [] (fun x _ r => gv e x :: r) l
theorem gvs_eq (e : List FV) (l : List Opd) : (gvs e l).map toV = evs (e.map toV) l := by
  induction l with
  | nil => rfl
  | cons x l ih => show toV (gv e x) :: (gvs e l).map toV = ev (e.map toV) x :: evs (e.map toV) l; rw [ih, gv_eq]
/-- a plain value -/
noncomputable def rO (x : Option Value) : FR := Option.rec (motive := fun _ => FR) .no (fun v => fF FR.pv (ofV v)) x
theorem rO_sim {m : FTr} {n : Nat} {x y : Option Value} (h : x = y) : FSim m n (rO x) (valO (absM m n) n y) := by
  subst h
  cases x with
  | none => trivial
  | some v =>
    show FSim m n (fF FR.pv (ofV v)) _
    rw [fF_eq]
    show _ = OR.ok (toV (ofV v)) (absM m n) n 0 0
    rw [toV_ofV]; rfl
theorem pv_sim {m : FTr} {n : Nat} {v : FV} {y : OR FM} (h : y = .ok (toV v) (absM m n) n 0 0) : FSim m n (.pv v) y := h

theorem onI_ne {α : Type} {v : FV} {k : Int → α} {d : α} (h : ∀ z, v ≠ .i z) : onI v k d = d := by cases v <;> first | rfl | exact absurd rfl (h _)
theorem onB_ne {α : Type} {v : FV} {a b d : α} (h : ∀ z, v ≠ .b z) : onB v a b d = d := by cases v <;> first | rfl | exact absurd rfl (h _)
theorem onP_ne {α : Type} {v : FV} {k : Nat → Nat → α} {d : α} (h : ∀ b o, v ≠ .p b o) : onP v k d = d := by cases v <;> first | rfl | exact absurd rfl (h _ _)
theorem onS_ne {α : Type} {v : FV} {k : Nat → Nat → Nat → Nat → α} {d : α} (h : ∀ b o l c, v ≠ .s b o l c) : onS v k d = d := by cases v <;> first | rfl | exact absurd rfl (h _ _ _ _)

/-! ### integers -/
noncomputable def pI (z : Int) : FR := fI (fun z => .pv (.i z)) z
noncomputable def pB (t : Bool) : FR := fB (fun t => .pv (.b t)) t
noncomputable def pW' (z : Int) : FR := Bool.rec (motive := fun _ => FR) (pI (IntKind.i64.wrap z)) (.pv (.i z)) (in64 z)
noncomputable def pW (z : Int) : FR := fI pW' z
theorem pI_eq (z : Int) : pI z = .pv (.i z) := fI_eq _ _
theorem pB_eq (t : Bool) : pB t = .pv (.b t) := fB_eq _ _
theorem pW_eq (z : Int) : pW z = .pv (.i (wrapF .i64 z)) := by
  show fI pW' z = _
  rw [fI_eq]
  show Bool.rec (motive := fun _ => FR) (pI (IntKind.i64.wrap z)) (.pv (.i z)) (in64 z) = _
  have h : in64 z = inI64 z := by cases z <;> rfl
  rw [h, pI_eq]
  simp only [wrapF]
  cases inI64 z <;> rfl
noncomputable def jAdd (a b : Int) : FR := pW (iAdd a b)
noncomputable def jSub (a b : Int) : FR := pW (iSub a b)
noncomputable def jMul (a b : Int) : FR := pW (iMul a b)
noncomputable def jQuo (a b : Int) : FR := Bool.rec (motive := fun _ => FR) (pW (iQuo a b)) .no (iEq b (Int.ofNat Nat.zero))
noncomputable def jRem (a b : Int) : FR := Bool.rec (motive := fun _ => FR) (pI (iRem a b)) .no (iEq b (Int.ofNat Nat.zero))
noncomputable def jEql (a b : Int) : FR := pB (iEq a b)
noncomputable def jNeq (a b : Int) : FR := pB (Bool.not (iEq a b))
noncomputable def jLss (a b : Int) : FR := pB (iLt a b)
noncomputable def jLeq (a b : Int) : FR := pB (Bool.not (iLt b a))
noncomputable def jGtr (a b : Int) : FR := pB (iLt b a)
noncomputable def jGeq (a b : Int) : FR := pB (Bool.not (iLt a b))
def jNo (_ _ : Int) : FR := .no
noncomputable def jOp (op : BinOp) : Int → Int → FR := BinOp.rec (motive := fun _ => Int → Int → FR) jAdd jSub jMul jQuo jRem jNo jNo jNo jNo jNo jNo jEql jNeq jLss jLeq jGtr jGeq op
theorem jOp_sim {m : FTr} {n : Nat} (op : BinOp) (a b : Int) : FSim m n (jOp op a b) (valO (absM m n) n (intBin op .i64 a b)) := by
  cases op
  case add => show FSim m n (pW (iAdd a b)) _; rw [pW_eq, iAdd_eq]; rfl
  case sub => show FSim m n (pW (iSub a b)) _; rw [pW_eq, iSub_eq]; rfl
  case mul => show FSim m n (pW (iMul a b)) _; rw [pW_eq, iMul_eq]; rfl
  case quo =>
    show FSim m n (Bool.rec (motive := fun _ => FR) (pW (iQuo a b)) .no (iEq b 0)) (valO (absM m n) n (cond (eqB b 0) none (some (.int .i64 (wrapF .i64 (a.tdiv b))))))
    rw [iEq_eq, pW_eq, iQuo_eq]
    cases eqB b 0 <;> first | rfl | trivial
  case rem =>
    show FSim m n (Bool.rec (motive := fun _ => FR) (pI (iRem a b)) .no (iEq b 0)) (valO (absM m n) n (cond (eqB b 0) none (some (.int .i64 (a.tmod b)))))
    rw [iEq_eq, pI_eq, iRem_eq]
    cases eqB b 0 <;> first | rfl | trivial
  case eql => show FSim m n (pB (iEq a b)) _; rw [pB_eq, iEq_eq]; rfl
  case neq => show FSim m n (pB (Bool.not (iEq a b))) _; rw [pB_eq, iEq_eq]; rfl
  case lss => show FSim m n (pB (iLt a b)) _; rw [pB_eq, iLt_eq]; rfl
  case leq => show FSim m n (pB (Bool.not (iLt b a))) _; rw [pB_eq, iLt_eq]; rfl
  case gtr => show FSim m n (pB (iLt b a)) _; rw [pB_eq, iLt_eq]; rfl
  case geq => show FSim m n (pB (Bool.not (iLt a b))) _; rw [pB_eq, iLt_eq]; rfl
  all_goals trivial
end Go.Am.V
