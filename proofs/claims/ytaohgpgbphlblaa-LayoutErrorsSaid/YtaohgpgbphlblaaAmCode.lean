/- The check of an abstract code against the model's own. -/
import Derived.Test.YtaohgpgbphlblaaAmLoc
set_option linter.unusedVariables false
set_option linter.unusedSimpArgs false
set_option linter.unusedSectionVars false
namespace Go.Am
open Go Go.RowKit

/-! ### names -/
def remN (d : Nat) (Γ : Ctx) : Ctx := Γ.map fun l => l.filter fun t => !Nat.beq t d
def addN (d : Nat) : Ctx → Nat → Ctx
  | [], _ => []
  | l :: Γ, 0 => (d :: l) :: Γ
  | l :: Γ, i + 1 => l :: addN d Γ i
def fixC (sel : List Nat) (d : Nat) (Γ : Ctx) : Ctx := sel.map (fun i => (Γ[i]?).getD []) ++ Γ.drop d
def leC : Ctx → Ctx → Bool
  | [], _ => true
  | l :: ls, r :: rs => l.all (fun t => r.any (Nat.beq t)) && leC ls rs
  | _ :: _, [] => false
def meetC : Ctx → Ctx → Ctx
  | l :: ls, r :: rs => l.filter (fun t => r.any (Nat.beq t)) :: meetC ls rs
  | _, _ => []
def meetO : Option Ctx → Option Ctx → Option Ctx
  | some a, some b => some (meetC a b)
  | some a, none => some a
  | none, b => b
def lookC : List (Nat × Ctx) → Nat → Option Ctx
  | [], _ => none
  | (i, Γ) :: l, id => cond (Nat.beq i id) (some Γ) (lookC l id)

theorem any_beq {l : List Nat} {t : Nat} : l.any (Nat.beq t) = true ↔ t ∈ l := by
  rw [List.any_eq_true]
  exact ⟨fun ⟨x, hx, h⟩ => by rw [Nat.eq_of_beq_eq_true h]; exact hx, fun h => ⟨t, h, by simp⟩⟩
theorem named_iff {Γ : Ctx} {i t : Nat} : named Γ i t = true ↔ ∃ l, Γ[i]? = some l ∧ t ∈ l := by
  unfold named
  split
  · rename_i l hl; rw [any_beq, hl]; exact ⟨fun h => ⟨l, rfl, h⟩, fun ⟨l', h1, h2⟩ => by injection h1 with h1; subst h1; exact h2⟩
  · rename_i hl; rw [hl]; simp
theorem named_rem {d : Nat} {Γ : Ctx} {i t : Nat} (h : named (remN d Γ) i t = true) : named Γ i t = true ∧ t ≠ d := by
  obtain ⟨l, h1, h2⟩ := named_iff.1 h
  simp only [remN, List.getElem?_map, Option.map_eq_some_iff] at h1
  obtain ⟨l', h1, rfl⟩ := h1
  rw [List.mem_filter] at h2
  exact ⟨named_iff.2 ⟨l', h1, h2.1⟩, by intro e; subst e; simp at h2⟩
theorem named_add {d : Nat} : ∀ {Γ : Ctx} {i j t : Nat}, named (addN d Γ i) j t = true → named Γ j t = true ∨ (j = i ∧ t = d)
  | [], _, _, _, h => by simp [addN, named] at h
  | l :: Γ, 0, j, t, h => by
    obtain ⟨l', h1, h2⟩ := named_iff.1 h
    cases j with
    | zero =>
      have h1 : some (d :: l) = some l' := h1
      injection h1 with h1; subst h1
      rcases List.mem_cons.1 h2 with rfl | h2
      · exact .inr ⟨rfl, rfl⟩
      · exact .inl (named_iff.2 ⟨l, rfl, h2⟩)
    | succ j => exact .inl (named_iff.2 ⟨l', h1, h2⟩)
  | l :: Γ, i + 1, j, t, h => by
    cases j with
    | zero => exact .inl h
    | succ j =>
      rcases named_add (Γ := Γ) (i := i) (j := j) (t := t) h with h | ⟨rfl, rfl⟩
      · exact .inl h
      · exact .inr ⟨rfl, rfl⟩
theorem named_le : ∀ {Γ Γ' : Ctx} {i t : Nat}, leC Γ Γ' = true → named Γ i t = true → named Γ' i t = true
  | [], _, _, _, _, h => by simp [named] at h
  | l :: ls, [], _, _, h, _ => by cases h
  | l :: ls, r :: rs, i, t, h, hn => by
    simp only [leC, Bool.and_eq_true, List.all_eq_true] at h
    cases i with
    | zero =>
      have hn : l.any (Nat.beq t) = true := hn
      exact h.1 t (any_beq.1 hn)
    | succ i => exact named_le (i := i) h.2 hn
theorem named_meet : ∀ {Γ Γ' : Ctx} {i t : Nat}, named (meetC Γ Γ') i t = true → named Γ i t = true ∧ named Γ' i t = true
  | [], _, _, _, h => by simp [meetC, named] at h
  | _ :: _, [], _, _, h => by simp [meetC, named] at h
  | l :: ls, r :: rs, i, t, h => by
    cases i with
    | zero =>
      obtain ⟨l', h1, h2⟩ := named_iff.1 h
      have h1 : some (l.filter fun t => r.any (Nat.beq t)) = some l' := h1
      injection h1 with h1; subst h1
      rw [List.mem_filter] at h2
      exact ⟨named_iff.2 ⟨l, rfl, h2.1⟩, named_iff.2 ⟨r, rfl, any_beq.1 h2.2⟩⟩
    | succ i => exact named_meet (i := i) h

section
variable {ρ : Ren} {Γ : Ctx} {e : List Value} {tmps : Array Value}
theorem EnvRel.push (h : EnvRel ρ Γ e tmps) {d : Nat} {v v' : Value} (hv : VRel ρ v v') (hd : d < tmps.size) : EnvRel ρ ([d] :: remN d Γ) (v :: e) (tmps.setIfInBounds d v') := by
  intro i t hn
  cases i with
  | zero =>
    have : t = d := by
      obtain ⟨l, h1, h2⟩ := named_iff.1 hn
      have h1 : some [d] = some l := h1
      injection h1 with h1; subst h1; simpa using h2
    subst this
    exact ⟨v, v', rfl, by simp [hd], hv⟩
  | succ i =>
    obtain ⟨h1, h2⟩ := named_rem (i := i) hn
    obtain ⟨x, y, a, b, c⟩ := h i t h1
    exact ⟨x, y, by simpa using a, by rw [Array.getElem?_setIfInBounds, if_neg (fun e => h2 e.symm)]; exact b, c⟩
theorem EnvRel.alias (h : EnvRel ρ Γ e tmps) {i t d : Nat} (hn : named Γ i t = true) (hd : d < tmps.size) : EnvRel ρ (addN d (remN d Γ) i) e (tmps.setIfInBounds d (tmps.getD t undef)) := by
  intro j s hs
  rcases named_add hs with hs | ⟨rfl, rfl⟩
  · obtain ⟨h1, h2⟩ := named_rem hs
    obtain ⟨x, y, a, b, c⟩ := h j s h1
    exact ⟨x, y, a, by rw [Array.getElem?_setIfInBounds, if_neg (fun e => h2 e.symm)]; exact b, c⟩
  · obtain ⟨x, y, a, b, c⟩ := h j t hn
    exact ⟨x, y, a, by rw [Array.getElem?_setIfInBounds_self_of_lt hd, Array.getD_eq_getD_getElem?, b]; rfl, c⟩
theorem EnvRel.le {Γ' : Ctx} (h : EnvRel ρ Γ e tmps) (hl : leC Γ' Γ = true) : EnvRel ρ Γ' e tmps := fun i t hn => h i t (named_le hl hn)
theorem EnvRel.fix (h : EnvRel ρ Γ e tmps) (sel : List Nat) (d : Nat) : EnvRel ρ (fixC sel d Γ) (fixE sel d e) tmps := by
  intro i t hn
  obtain ⟨l, h1, h2⟩ := named_iff.1 hn
  unfold fixE
  rw [lmap_eq, ldrop_eq]
  unfold fixC at h1
  rw [List.getElem?_append] at h1
  split at h1
  · rename_i hi
    have hi : i < sel.length := by simpa using hi
    simp only [List.getElem?_map, List.getElem?_eq_getElem hi, Option.map_some] at h1
    injection h1 with h1
    cases hg : Γ[sel[i]]? with
    | none => rw [hg] at h1; simp at h1; subst h1; simp at h2
    | some l' =>
      rw [hg] at h1; simp at h1; subst h1
      obtain ⟨x, y, a, b, c⟩ := h sel[i] t (named_iff.2 ⟨l', hg, h2⟩)
      refine ⟨x, y, ?_, b, c⟩
      rw [List.getElem?_append_left (by simpa using hi)]
      simp only [List.getElem?_map, List.getElem?_eq_getElem hi, Option.map_some, lget_eq, a]; rfl
  · rename_i hi
    have hi : sel.length ≤ i := by simpa using hi
    simp only [List.length_map, List.getElem?_drop] at h1
    obtain ⟨x, y, a, b, c⟩ := h _ t (named_iff.2 ⟨l, h1, h2⟩)
    exact ⟨x, y, by rw [List.getElem?_append_right (by simpa using hi)]; simpa using a, b, c⟩
end

/-! ### the check of a code -/
section
variable (P : Program) (nt : Nat) (res : Array ResultVar)
def chkAI (ops : Array Oper) (Γ : Ctx) (o : Oper) : AI → Option Ctx
  | .nop i => match o.guard, o.dst, o.op with
    | none, some d, .move (.tmp t) => cond (named Γ i t && Nat.blt d nt) (some (addN d (remN d Γ) i)) none
    | none, some d, .assign (.tmp t) => cond (named Γ i t && Nat.blt d nt) (some (addN d (remN d Γ) i)) none
    | _, _, _ => none
  | .op x => match o.guard, o.dst with
    | none, some d => cond (chkOp P Γ o.op x && Nat.blt d nt) (some ([d] :: remN d Γ)) none
    | _, _ => none
  | .opg x gi gw => match o.guard, o.dst with
    | some (j, w), some d => match (ops[j]?).bind (·.dst) with
      | some g => cond (chkOp P Γ o.op x && Nat.blt d nt && w == gw && named Γ gi g) (some ([d] :: remN d Γ)) none
      | none => none
    | _, _ => none
  | .eff x => match o.guard, o.dst with
    | none, none => cond (chkOp P Γ o.op x) (some Γ) none
    | _, _ => none
  | .effg x gi gw => match o.guard, o.dst with
    | some (j, w), none => match (ops[j]?).bind (·.dst) with
      | some g => cond (chkOp P Γ o.op x && w == gw && named Γ gi g) (some Γ) none
      | none => none
    | _, _ => none

def chkOps (ops : Array Oper) : List Oper → Ctx → List AI → Option Ctx
  | [], Γ, [] => some Γ
  | o :: os, Γ, i :: is => match chkAI P nt ops Γ o i with
    | some Γ => chkOps ops os Γ is
    | none => none
  | _, _, _ => none

def resOk (Γ : Ctx) : List ResultVar → List ROp → Bool
  | [], [] => true
  | .tmp t :: as, .v i :: bs => named Γ i t && resOk Γ as bs
  | .cell a t :: as, .cell i :: bs => named Γ i a && (isAggB P t == some false) && resOk Γ as bs
  | .cell a t :: as, .cells i n :: bs => named Γ i a && (isAggB P t == some true) && isSz P t n && resOk Γ as bs
  | _, _ => false

/-- the operations that stand before each, by the edges that always bind -/
def befOf (acc : List Nat) : List Edge → Nat
  | [] => 0
  | e :: es => cond (Region.binds .any e) (Nat.lor (Nat.lor (bit e.on) (acc.getD e.on 0)) (befOf acc es)) (befOf acc es)
def befs (acc : List Nat) : List Oper → List Nat
  | [] => acc
  | o :: os => forceN (befOf acc o.after.toList) fun b => befs (acc ++ [b]) os
/-- the temporaries that an operation looks at: its operands, its guard -/
def looks (ops : Array Oper) (o : Oper) : List Nat :=
  (o.op.operands.toList.filterMap fun | .tmp t => some t | _ => none) ++ (match o.guard with | some (g, _) => ((ops[g]?).bind (·.dst)).toList | none => [])
def tmpApart (ops : Array Oper) (x y : Oper) : Bool :=
  (match x.dst with | some d => !((looks ops y).any (Nat.beq d)) && (match y.dst with | some d' => !(Nat.beq d' d) | none => true) | none => true) &&
  (match y.dst with | some d => !((looks ops x).any (Nat.beq d)) | none => true)
def pairsOk (ops : Array Oper) (y : Oper) (b : Nat) : List Oper → Nat → Bool
  | [], _ => true
  | x :: xs, i => (Nat.testBit b i || tmpApart ops x y) && pairsOk ops y b xs (i + 1)
def ordersOk (ops : Array Oper) (done : List Oper) : List Oper → List Nat → Nat → Bool
  | [], [], _ => true
  | y :: ys, b :: bs, k => (y.after.toList.all fun e => !(Region.binds .any e) || Nat.blt e.on k) && (match y.op with | .select _ _ => false | _ => true) && pairsOk ops y b done 0 && ordersOk ops (done ++ [y]) ys bs (k + 1)
  | _, _, _ => false
def eqNats : List Nat → List Nat → Bool
  | [], [] => true
  | a :: as, b :: bs => Nat.beq a b && eqNats as bs
  | _, _ => false
def orderOk (ops : Array Oper) (bs : List Nat) : Bool := eqNats (befs [] ops.toList) bs && ordersOk ops [] ops.toList bs 0

def postC (sel : List Nat) (d : Nat) : Option (Option Ctx) → Option (Option Ctx)
  | some (some Γ) => some (some (fixC sel d Γ))
  | r => r
def chk : List (Nat × Ctx) → Ctx → Code → AC → Option (Option Ctx)
  | ctx, Γ, c, .pre sel d x => chk ctx (fixC sel d Γ) c x
  | ctx, Γ, c, .post x sel d => postC sel d (chk ctx Γ c x)
  | _, Γ, .skip, .skip => some (some Γ)
  | _, Γ, .region _ ops false, .reg l => (chkOps P nt ops ops.toList Γ l).map some
  | _, Γ, .region _ ops true, .regD l bs => cond (orderOk ops bs) ((chkOps P nt ops ops.toList Γ l).map some) none
  | ctx, Γ, .seq a b, .seq x y => match chk ctx Γ a x with
    | some (some Γ) => chk ctx Γ b y
    | _ => none
  | ctx, Γ, .cond c a b, .cond c' x y => cond (opdOk Γ c c') (match chk ctx Γ a x, chk ctx Γ b y with
    | some r, some s => some (meetO r s)
    | _, _ => none) none
  | ctx, Γ, .block id b, .block id' Γt x => cond (Nat.beq id id') (match chk ((id, Γt) :: ctx) Γ b x with
    | some none => some (some Γt)
    | some (some Γb) => cond (leC Γt Γb) (some (some Γt)) none
    | none => none) none
  | ctx, Γ, .loop b, .loop Γh x => cond (leC Γh Γ) (match chk ctx Γh b x with
    | some none => some none
    | some (some Γb) => cond (leC Γh Γb) (some none) none
    | none => none) none
  | ctx, Γ, .exit id, .exit id' => cond (Nat.beq id id') (match lookC ctx id with
    | some Γt => cond (leC Γt Γ) (some none) none
    | none => none) none
  | _, Γ, .ret, .ret rs => cond (resOk P Γ res.toList rs) (some none) none
  | _, _, _, _ => none

def argC (n : Nat) : Ctx := (List.range n).map fun i => [i]
def chkFn (fn : Func) (f : AFn) : Bool := match fn.body with
  | some c => fn.name != "runtime.NumGoroutine" && decide (f.na ≤ fn.ntmps) && (match chk P fn.ntmps fn.results [] (argC f.na) c f.code with
    | some none => true
    | some (some Γ) => resOk P Γ fn.results.toList f.endrs
    | none => false)
  | none => false
end
end Go.Am
