/- Memories as trees, for the kernel; tables of functions; a call from an empty memory. -/
import Derived.Test.YtaohgpgbphlblaaAmDraw5
import Derived.RowKit3
set_option linter.unusedVariables false
set_option linter.unusedSimpArgs false
set_option linter.unusedSectionVars false
namespace Go.Am
open Go Go.RowKit
inductive Tr (α : Type) where
  | nil
  | leaf (a : α)
  | node (l r : Tr α)
noncomputable def Tr.lo {α : Type} (t : Tr α) : Tr α := Tr.rec (motive := fun _ => Tr α) .nil (fun _ => .nil) (fun l _ _ _ => l) t
noncomputable def Tr.hi {α : Type} (t : Tr α) : Tr α := Tr.rec (motive := fun _ => Tr α) .nil (fun _ => .nil) (fun _ r _ _ => r) t
noncomputable def Tr.val {α : Type} (t : Tr α) : Option α := Tr.rec (motive := fun _ => Option α) none (fun a => some a) (fun _ _ _ _ => none) t
noncomputable def Tr.get {α : Type} (d : Nat) : Tr α → Nat → Option α :=
  Nat.rec (motive := fun _ => Tr α → Nat → Option α) (fun t _ => t.val)
    (fun _ ih t i => Bool.rec (motive := fun _ => Option α) (ih t.hi (Nat.div i 2)) (ih t.lo (Nat.div i 2)) (Nat.beq (Nat.mod i 2) 0)) d
noncomputable def Tr.set {α : Type} (d : Nat) : Tr α → Nat → α → Tr α :=
  Nat.rec (motive := fun _ => Tr α → Nat → α → Tr α) (fun _ _ a => .leaf a)
    (fun _ ih t i a => Bool.rec (motive := fun _ => Tr α) (.node t.lo (ih t.hi (Nat.div i 2) a)) (.node (ih t.lo (Nat.div i 2) a) t.hi) (Nat.beq (Nat.mod i 2) 0)) d
theorem Tr.get_succ {α : Type} (d : Nat) (t : Tr α) (i : Nat) : Tr.get (d + 1) t i = if i % 2 = 0 then Tr.get d t.lo (i / 2) else Tr.get d t.hi (i / 2) := by
  show Bool.rec (motive := fun _ => Option α) (Tr.get d t.hi (i / 2)) (Tr.get d t.lo (i / 2)) (Nat.beq (i % 2) 0) = _
  cases h : Nat.beq (i % 2) 0
  · rw [if_neg (by intro e; rw [e] at h; simp at h)]
  · rw [if_pos (Nat.eq_of_beq_eq_true h)]
theorem Tr.set_succ {α : Type} (d : Nat) (t : Tr α) (i : Nat) (a : α) : Tr.set (d + 1) t i a = if i % 2 = 0 then .node (Tr.set d t.lo (i / 2) a) t.hi else .node t.lo (Tr.set d t.hi (i / 2) a) := by
  show Bool.rec (motive := fun _ => Tr α) (.node t.lo (Tr.set d t.hi (i / 2) a)) (.node (Tr.set d t.lo (i / 2) a) t.hi) (Nat.beq (i % 2) 0) = _
  cases h : Nat.beq (i % 2) 0
  · rw [if_neg (by intro e; rw [e] at h; simp at h)]
  · rw [if_pos (Nat.eq_of_beq_eq_true h)]
theorem Tr.get_set {α : Type} : ∀ (d : Nat) (t : Tr α) (i j : Nat) (a : α), i < 2 ^ d → j < 2 ^ d → Tr.get d (Tr.set d t i a) j = if j = i then some a else Tr.get d t j
  | 0, t, i, j, a, hi, hj => by
    have : j = i := by simp at hi hj; omega
    rw [if_pos this]; rfl
  | d + 1, t, i, j, a, hi, hj => by
    have h2 : 2 ^ (d + 1) = 2 * 2 ^ d := by rw [Nat.pow_succ]; omega
    rw [Tr.get_succ, Tr.set_succ, Tr.get_succ]
    have ih := fun t => Tr.get_set d t (i / 2) (j / 2) a (by omega) (by omega)
    by_cases ei : i % 2 = 0 <;> by_cases ej : j % 2 = 0
    · rw [if_pos ei, if_pos ej, if_pos ej]
      show Tr.get d (Tr.set d t.lo (i / 2) a) (j / 2) = _
      rw [ih]
      by_cases e : j = i
      · rw [if_pos e, if_pos (by omega)]
      · rw [if_neg e, if_neg (by omega)]
    · rw [if_pos ei, if_neg ej, if_neg ej, if_neg (by omega)]; rfl
    · rw [if_neg ei, if_pos ej, if_pos ej, if_neg (by omega)]; rfl
    · rw [if_neg ei, if_neg ej, if_neg ej]
      show Tr.get d (Tr.set d t.hi (i / 2) a) (j / 2) = _
      rw [ih]
      by_cases e : j = i
      · rw [if_pos e, if_pos (by omega)]
      · rw [if_neg e, if_neg (by omega)]

def TrM := Tr (Option Blk)
def flatO2 : Option (Option Blk) → Option Blk
  | some x => x
  | none => none
noncomputable instance : AMem TrM where
  get t b := cond (Nat.blt b 1024) (flatO2 (Tr.get 10 t b)) none
  put t b x := Tr.set 10 t b x
  lim _ b := Nat.blt b 1024
  get_put m i j x h := by
    have hi : i < 2 ^ 10 := by simpa using h
    cases hj : Nat.blt j 1024
    · simp only [cond_false]
      rw [if_neg]
      intro e; subst e; rw [h] at hj; cases hj
    · have hj' : j < 2 ^ 10 := by simpa using hj
      simp only [cond_true]
      have := Tr.get_set 10 m i j x hi hj'
      rw [this]
      by_cases e : j = i
      · rw [if_pos e, if_pos e]; rfl
      · rw [if_neg e, if_neg e]
  get_lim m i x h := by
    cases hj : Nat.blt i 1024
    · rw [hj] at h; cases h
    · rfl
  lim_put _ _ _ _ := rfl
def m0 : TrM := Tr.nil

/-- a table of functions -/
noncomputable def look (l : List (Nat × AFn)) (f : Nat) : Option AFn := List.rec (motive := fun _ => Option AFn) none (fun p _ r => Bool.rec (motive := fun _ => Option AFn) r (some p.2) (Nat.beq p.1 f)) l
inductive Good (P : Program) : List (Nat × AFn) → Prop where
  | nil : Good P []
  | cons {f : Nat} {fn : Func} {af : AFn} {l : List (Nat × AFn)} (h : P.funcs[f]? = some fn) (hc : chkFn P fn af = true) (hl : Good P l) : Good P ((f, af) :: l)
theorem Good.look {P : Program} {l : List (Nat × AFn)} (h : Good P l) : ∀ f af, Am.look l f = some af → ∃ fn, P.funcs[f]? = some fn ∧ chkFn P fn af = true := by
  induction h with
  | nil => intro f af h; cases h
  | @cons g fn ag l h hc hl ih =>
    intro f af he
    replace he : Bool.rec (motive := fun _ => Option AFn) (Am.look l f) (some ag) (Nat.beq g f) = some af := he
    cases hb : Nat.beq g f
    · rw [hb] at he; exact ih f af he
    · rw [hb] at he
      have he : ag = af := by injection he
      subst he
      have := Nat.eq_of_beq_eq_true hb
      subst this
      exact ⟨fn, h, hc⟩

/-- a call from an empty memory -/
noncomputable def call0 (P : Program) (tab : List (Nat × AFn)) (Y : Nat → List Value → TrM → Nat → OR TrM) (k f : Nat) (args : List Value) : OR TrM := callA (look tab) Y (exec P (look tab) Y k) f args m0 0
/-- no function besides the table's -/
def noY : Nat → List Value → TrM → Nat → OR TrM := fun _ _ _ _ => .no
theorem noY_loc : CallLoc noY := fun _ _ _ _ _ _ _ _ _ h => nomatch h
theorem noY_sim {P : Program} : CallSim P noY := fun _ _ _ _ _ _ _ _ _ h => nomatch h
def gaveTrue : OR TrM → Bool
  | .ok (.bool b) _ _ _ _ => b
  | _ => false
def gaveBool : OR TrM → Option Bool
  | .ok (.bool b) _ _ _ _ => some b
  | _ => none
theorem gaveTrue_ok {x : OR TrM} (h : gaveTrue x = true) : ∃ m n r w, x = .ok (.bool true) m n r w := by
  unfold gaveTrue at h
  split at h
  · subst h; exact ⟨_, _, _, _, rfl⟩
  · cases h

theorem mrel_none (w : World) : MRel (fun _ => none) (fun _ => none) w w.heap.size := ⟨fun b p O h => (nomatch h), fun b1 b2 p1 p2 O1 O2 h => (nomatch h), fun b p h => (nomatch h), Nat.le_refl _⟩

theorem top {P : Program} (hmix : P.follows .mixedOrders = true) {tab : List (Nat × AFn)} (hg : Good P tab) {Y : Nat → List Value → TrM → Nat → OR TrM} (hY : CallLoc Y) (hYs : CallSim P Y) {k f : Nat} {args : List Value} (ha : args.all flat = true) (h : gaveTrue (call0 P tab Y k f args) = true) (w : World) :
    Calls P f args.toArray w fun e w' => e = .returned (.bool true) ∧ Below w.heap.size w w' := by
  obtain ⟨m, n, r, wm, h⟩ := gaveTrue_ok h
  have hsim := call_sim (μ := TrM) hY hYs hg.look (code_sim hmix draw_sim hY hYs hg.look k).1
  obtain ⟨_, hc⟩ := hsim f args m0 0 (.bool true) m n r wm h (fun _ => none) (fun _ => none) w w.heap.size (Nat.lor r wm) args.toArray (flats_rel _ ha) (Sub.refl _) (fun b hb => by omega) (mrel_none w) (fun _ _ => rfl)
  refine hc.mono fun e w' hh => ?_
  obtain ⟨ρ', v', rfl, hv, hp⟩ := hh
  rw [hv.flat_eq rfl]
  exact ⟨rfl, hp.below⟩
end Go.Am
