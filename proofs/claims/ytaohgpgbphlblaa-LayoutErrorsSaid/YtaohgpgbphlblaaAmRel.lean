/- The relation between the abstract machine's state and the model's. -/
import Derived.Test.YtaohgpgbphlblaaAmDef
import Derived.Below
import Derived.WalkKit
set_option linter.unusedVariables false
set_option linter.unusedSimpArgs false
set_option linter.unusedSectionVars false
namespace Go.Am
open Go Go.RowKit

structure Place where
  blk : Nat
  base : Nat
  cap : Nat
  sz : Nat

abbrev Ren := Nat → Option Place

inductive VRel (ρ : Ren) : Value → Value → Prop where
  | flat {v : Value} (h : flat v = true) : VRel ρ v v
  | ptr {b o : Nat} {p : Place} (h : ρ b = some p) : VRel ρ (.pointer (some ⟨b, o, none⟩)) (.pointer (some ⟨p.blk, p.base + o, none⟩))
  | slice {b o n c c' : Nat} {p : Place} (h : ρ b = some p) (hn : n ≤ c') (hu : c = UNK → o + c' * p.sz = p.cap) (hk : c ≠ UNK → c' = c) (hv : c ≠ VAG) :
      VRel ρ (.slice (some ⟨b, o, none⟩) n c) (.slice (some ⟨p.blk, p.base + o, none⟩) n c')
  | vag {b o c' : Nat} {a' : Addr} : VRel ρ (.slice (some ⟨b, o, none⟩) 0 VAG) (.slice (some a') 0 c')
  | func {f : Nat} {a a' c c' : Array Value} (h1 : a.size = a'.size) (h2 : ∀ (i : Nat) x y, a[i]? = some x → a'[i]? = some y → VRel ρ x y)
      (h3 : c.size = c'.size) (h4 : ∀ (i : Nat) x y, c[i]? = some x → c'[i]? = some y → VRel ρ x y) : VRel ρ (.func (.func f) a c) (.func (.func f) a' c')
  | agg {a a' : Array Value} (h1 : a.size = a'.size) (h2 : ∀ (i : Nat) x y, a[i]? = some x → a'[i]? = some y → VRel ρ x y) : VRel ρ (.agg a) (.agg a')
  | tuple {a a' : Array Value} (h1 : a.size = a'.size) (h2 : ∀ (i : Nat) x y, a[i]? = some x → a'[i]? = some y → VRel ρ x y) : VRel ρ (.tuple a) (.tuple a')

def Ren.le (ρ ρ' : Ren) : Prop := ∀ b p, ρ b = some p → ρ' b = some p
theorem Ren.le_refl (ρ : Ren) : ρ.le ρ := fun _ _ h => h
theorem Ren.le_trans {a b c : Ren} (h : a.le b) (k : b.le c) : a.le c := fun x p e => k x p (h x p e)

theorem VRel.mono {ρ ρ' : Ren} (hl : ρ.le ρ') {v v' : Value} (h : VRel ρ v v') : VRel ρ' v v' := by
  induction h with
  | flat h => exact .flat h
  | ptr h => exact .ptr (hl _ _ h)
  | slice h hn hu hk hv => exact .slice (hl _ _ h) hn hu hk hv
  | vag => exact .vag
  | func h1 _ h3 _ i1 i2 => exact .func h1 i1 h3 i2
  | agg h1 _ ih => exact .agg h1 ih
  | tuple h1 _ ih => exact .tuple h1 ih

/-- lists, element by element -/
def LRel (ρ : Ren) (l l' : List Value) : Prop := l.length = l'.length ∧ ∀ (i : Nat) x y, l[i]? = some x → l'[i]? = some y → VRel ρ x y
theorem LRel.mono {ρ ρ' : Ren} (hl : ρ.le ρ') {l l' : List Value} (h : LRel ρ l l') : LRel ρ' l l' := ⟨h.1, fun i x y a b => (h.2 i x y a b).mono hl⟩
theorem LRel.nil (ρ : Ren) : LRel ρ [] [] := ⟨rfl, fun i x y h => by simp at h⟩
theorem LRel.cons {ρ : Ren} {x y : Value} {l l' : List Value} (h : VRel ρ x y) (hl : LRel ρ l l') : LRel ρ (x :: l) (y :: l') :=
  ⟨by simp [hl.1], fun i a b ha hb => by
    cases i with
    | zero => simp at ha hb; subst ha; subst hb; exact h
    | succ i => simp at ha hb; exact hl.2 i a b ha hb⟩
theorem LRel.head {ρ : Ren} {x y : Value} {l l' : List Value} (h : LRel ρ (x :: l) (y :: l')) : VRel ρ x y ∧ LRel ρ l l' :=
  ⟨h.2 0 x y rfl rfl, by simpa using h.1, fun i a b ha hb => h.2 (i + 1) a b (by simpa using ha) (by simpa using hb)⟩
theorem LRel.cases {ρ : Ren} {P : List Value → List Value → Prop} {l l' : List Value} (h : LRel ρ l l') (h0 : P [] []) (h1 : ∀ x y l l', VRel ρ x y → LRel ρ l l' → P (x :: l) (y :: l')) : P l l' := by
  cases l with
  | nil => cases l' with
    | nil => exact h0
    | cons y l' => have := h.1; simp at this
  | cons x l => cases l' with
    | nil => have := h.1; simp at this
    | cons y l' => exact h1 x y l l' h.head.1 h.head.2
theorem LRel.induct {ρ : Ren} {P : List Value → List Value → Prop} (h0 : P [] []) (h1 : ∀ x y l l', VRel ρ x y → LRel ρ l l' → P l l' → P (x :: l) (y :: l')) :
    ∀ {l l' : List Value}, LRel ρ l l' → P l l'
  | [], [], _ => h0
  | [], _ :: _, h => by have := h.1; simp at this
  | _ :: _, [], h => by have := h.1; simp at this
  | _ :: _, _ :: _, h => h1 _ _ _ _ h.head.1 h.head.2 (LRel.induct h0 h1 h.head.2)
theorem LRel.append {ρ : Ren} {a a' b b' : List Value} (h : LRel ρ a a') (k : LRel ρ b b') : LRel ρ (a ++ b) (a' ++ b') := by
  exact LRel.induct (P := fun a a' => LRel ρ (a ++ b) (a' ++ b')) k (fun x y l l' hx _ ih => .cons hx ih) h
theorem LRel.get {ρ : Ren} {l l' : List Value} (h : LRel ρ l l') {i : Nat} {x : Value} (hx : l[i]? = some x) : ∃ y, l'[i]? = some y ∧ VRel ρ x y := by
  have hi : i < l.length := (List.getElem?_eq_some_iff.1 hx).1
  have hi' : i < l'.length := by rw [← h.1]; exact hi
  exact ⟨l'[i], List.getElem?_eq_getElem hi', h.2 i _ _ hx (List.getElem?_eq_getElem hi')⟩
theorem LRel.agg {ρ : Ren} {l l' : List Value} (h : LRel ρ l l') : VRel ρ (.agg l.toArray) (.agg l'.toArray) :=
  .agg (by simp [h.1]) fun i x y hx hy => h.2 i x y (by simpa using hx) (by simpa using hy)
theorem LRel.tuple {ρ : Ren} {l l' : List Value} (h : LRel ρ l l') : VRel ρ (.tuple l.toArray) (.tuple l'.toArray) :=
  .tuple (by simp [h.1]) fun i x y hx hy => h.2 i x y (by simpa using hx) (by simpa using hy)
theorem LRel.of_array {ρ : Ren} {a a' : Array Value} (h1 : a.size = a'.size) (h2 : ∀ (i : Nat) x y, a[i]? = some x → a'[i]? = some y → VRel ρ x y) : LRel ρ a.toList a'.toList :=
  ⟨by simpa using h1, fun i x y hx hy => h2 i x y (by simpa using hx) (by simpa using hy)⟩
theorem VRel.undef (ρ : Ren) : VRel ρ undef undef := .tuple rfl fun i x y h => by simp at h
theorem VRel.bool (ρ : Ren) (b : Bool) : VRel ρ (.bool b) (.bool b) := .flat rfl
theorem VRel.int (ρ : Ren) (k : IntKind) (b : Int) : VRel ρ (.int k b) (.int k b) := .flat rfl

theorem VRel.cells {ρ : Ren} {v v' : Value} (h : VRel ρ v v') : LRel ρ v.cells.toList v'.cells.toList := by
  cases h with
  | flat h =>
    cases v with
    | agg a => simp [Am.flat] at h
    | _ => exact .cons (.flat h) (.nil ρ)
  | ptr h => exact .cons (.ptr h) (.nil ρ)
  | slice h a b c d => exact .cons (.slice h a b c d) (.nil ρ)
  | vag => exact .cons .vag (.nil ρ)
  | func a b c d => exact .cons (.func a b c d) (.nil ρ)
  | agg a b => exact LRel.of_array a b
  | tuple a b => exact .cons (.tuple a b) (.nil ρ)

theorem VRel.flat_eq {ρ : Ren} {v v' : Value} (h : VRel ρ v v') (hf : Am.flat v = true) : v' = v := by
  cases h <;> simp_all [Am.flat]

theorem VRel.flats_eq {ρ : Ren} {a a' : Array Value} (h1 : a.size = a'.size) (h2 : ∀ (i : Nat) x y, a[i]? = some x → a'[i]? = some y → VRel ρ x y) (hf : a.toList.all Am.flat = true) : a' = a := by
  apply Array.ext h1.symm
  intro i hi hi'
  have hx : a[i]? = some a[i] := Array.getElem?_eq_getElem hi'
  have hy : a'[i]? = some a'[i] := Array.getElem?_eq_getElem hi
  refine (h2 i _ _ hx hy).flat_eq ?_
  rw [List.all_eq_true] at hf
  exact hf _ (by simp)

theorem VRel.free_eq {ρ : Ren} {v v' : Value} (h : VRel ρ v v') (hf : addrFree v = true) : v' = v := by
  cases h with
  | flat _ => rfl
  | ptr _ => simp [addrFree, Am.flat] at hf
  | slice _ _ _ _ _ => simp [addrFree, Am.flat] at hf
  | vag => simp [addrFree, Am.flat] at hf
  | func h1 h2 h3 h4 =>
    rename_i f a a' c c'
    have ha : a = #[] := by
      cases a with | mk l => cases l with
        | nil => rfl
        | cons x l => simp [addrFree] at hf
    have hc : c = #[] := by
      subst ha
      cases c with | mk l => cases l with
        | nil => rfl
        | cons x l => simp [addrFree] at hf
    subst ha; subst hc
    have e1 : a' = #[] := by simpa using h1.symm
    have e2 : c' = #[] := by simpa using h3.symm
    rw [e1, e2]
  | agg h1 h2 => exact congrArg _ (VRel.flats_eq h1 h2 (by simpa [addrFree] using hf))
  | tuple h1 h2 => exact congrArg _ (VRel.flats_eq h1 h2 (by simpa [addrFree] using hf))

theorem VRel.one {ρ : Ren} {v v' : Value} (h : VRel ρ v v') (ho : Am.one v = true) : v'.oneCell' = true := by
  cases h with
  | flat h => cases v <;> simp_all [Am.one, Value.oneCell', Am.flat]
  | ptr h => rfl
  | slice h a b c d => rfl
  | vag => rfl
  | func a b c d => rfl
  | agg a b => simp [Am.one] at ho
  | tuple a b => simp [Am.one] at ho

/-! ### memory -/
/-- a block and its place -/
def BRel (ρ : Ren) (w : World) (B : Nat) (p : Place) : Blk → Prop
  | .cells c sz opn wr => p.sz = sz ∧ ∃ cc e fz, w.heap[p.blk]? = some (.cells cc e fz) ∧
      (∀ (i : Nat) x, c[i]? = some x → ∃ y, cc[p.base + i]? = some y ∧ VRel ρ x y) ∧ (wr = true → B ≤ p.blk ∧ fz = (0, 0)) ∧ (opn = true → p.base + p.cap ≤ cc.size) ∧ p.base + c.length ≤ cc.size
def Blk.wr : Blk → Bool
  | .cells _ _ _ wr => wr

structure MRel (ρ : Ren) (V : Nat → Option Blk) (w : World) (B : Nat) : Prop where
  blk : ∀ b p O, ρ b = some p → V b = some O → BRel ρ w B p O
  excl : ∀ b1 b2 p1 p2 O1 O2, ρ b1 = some p1 → ρ b2 = some p2 → V b1 = some O1 → V b2 = some O2 → b1 ≠ b2 → O1.wr = true → p1.blk ≠ p2.blk
  fresh : ∀ b p, ρ b = some p → p.blk < w.heap.size
  le : B ≤ w.heap.size

theorem BRel.mono {ρ ρ' : Ren} (hl : ρ.le ρ') {w w' : World} {B : Nat} {p : Place} {O : Blk} (h : BRel ρ w B p O) (hw : w'.heap[p.blk]? = w.heap[p.blk]?) : BRel ρ' w' B p O := by
  cases O with | cells c sz opn wr =>
  obtain ⟨h1, cc, e, fz, h2, h3, h4⟩ := h
  exact ⟨h1, cc, e, fz, hw.trans h2, fun i x hx => let ⟨y, a, b⟩ := h3 i x hx; ⟨y, a, b.mono hl⟩, h4⟩

def upd {μ : Type} [AMem μ] (V : Nat → Option Blk) (W : Nat) (m : μ) : Nat → Option Blk := fun b => if W.testBit b then AMem.get m b else V b
def Agree {μ : Type} [AMem μ] (V : Nat → Option Blk) (m : μ) (n F : Nat) : Prop := ∀ b, b < n → F.testBit b = true → V b = AMem.get m b

/-- what an action leaves: more places, for numbers from n to n' alone; the memory; old memory -/
structure Post {μ : Type} [AMem μ] (ρ : Ren) (V : Nat → Option Blk) (w : World) (B n : Nat) (m' : μ) (n' W : Nat) (ρ' : Ren) (w' : World) : Prop where
  le : ρ.le ρ'
  dom : ∀ b p, ρ' b = some p → ρ b = some p ∨ (n ≤ b ∧ b < n')
  mrel : MRel ρ' (upd V W m') w' B
  below : Below B w w'
  num : n ≤ n'
  frame : ∀ k, k < w.heap.size → (∀ b p, ρ b = some p → W.testBit b = true → p.blk ≠ k) → w'.heap[k]? = w.heap[k]?
  newp : ∀ b p, ρ' b = some p → ρ b = some p ∨ w.heap.size ≤ p.blk ∨ ∃ b0 p0, ρ b0 = some p0 ∧ W.testBit b0 = true ∧ p0.blk = p.blk
  wold : ∀ b, W.testBit b = true → (∃ p, ρ' b = some p) ∧ (b < n → ∃ O, V b = some O ∧ O.wr = true)

/-- no number from n on has a place -/
def Free (ρ : Ren) (n : Nat) : Prop := ∀ b, n ≤ b → ρ b = none

theorem bit_test (n b : Nat) : (bit n).testBit b = decide (n = b) := by
  unfold bit; show (1 <<< n).testBit b = _
  rw [Nat.one_shiftLeft, Nat.testBit_two_pow]
theorem lor_test (a c b : Nat) : (Nat.lor a c).testBit b = (a.testBit b || c.testBit b) := Nat.testBit_or ..
theorem upd_zero {μ : Type} [AMem μ] (V : Nat → Option Blk) (m : μ) : upd V 0 m = V := by funext b; simp [upd]

end Go.Am
