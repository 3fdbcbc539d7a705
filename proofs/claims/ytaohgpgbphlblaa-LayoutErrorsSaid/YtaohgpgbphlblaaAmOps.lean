/- The operations of the abstract machine that touch no memory are sound. -/
import Derived.Test.YtaohgpgbphlblaaAmRel
set_option linter.unusedVariables false
set_option linter.unusedSimpArgs false
set_option linter.unusedSectionVars false
namespace Go.Am
open Go Go.RowKit

/-! ### lists -/
theorem lget_eq (l : List Value) (i : Nat) : lget l i = (l[i]?).getD undef := by
  induction l generalizing i with
  | nil => rfl
  | cons a l ih => cases i with
    | zero => rfl
    | succ i => exact (ih i).trans (by simp)
theorem cget_eq (l : List Value) (i : Nat) : cget l i = l[i]? := by
  induction l generalizing i with
  | nil => rfl
  | cons a l ih => cases i with
    | zero => rfl
    | succ i => exact (ih i).trans (by simp)
theorem ldrop_eq (l : List Value) (i : Nat) : ldrop l i = l.drop i := by
  induction l generalizing i with
  | nil => simp; rfl
  | cons a l ih => cases i with
    | zero => rfl
    | succ i => exact (ih i).trans (by simp)
theorem llen_eq (l : List Value) : llen l = l.length := by
  induction l with
  | nil => rfl
  | cons a l ih => show Nat.succ (llen l) = _; rw [ih]; rfl
theorem ctake_eq (l : List Value) (n : Nat) : ctake l n = if n ≤ l.length then some (l.take n) else none := by
  induction l generalizing n with
  | nil => cases n with
    | zero => rfl
    | succ n => rfl
  | cons a l ih => cases n with
    | zero => rfl
    | succ n =>
      show ocons a (ctake l n) = _
      rw [ih]
      by_cases h : n ≤ l.length
      · simp [h, ocons]
      · simp [h, ocons]
theorem cellsAt_some {c : List Value} {o n : Nat} {l : List Value} (h : cellsAt c o n = some l) : o + n ≤ c.length + (if n = 0 then o else 0) ∧ l.length = n ∧ ∀ j, j < n → l[j]? = c[o + j]? := by
  unfold cellsAt at h
  rw [ctake_eq, ldrop_eq] at h
  split at h
  · rename_i hn
    injection h with h; subst h
    simp at hn
    refine ⟨by split <;> omega, by simp; omega, fun j hj => ?_⟩
    rw [List.getElem?_take, if_pos hj, List.getElem?_drop]
  · cases h
theorem cover_eq (vs c : List Value) : cover vs c = if vs.length ≤ c.length then some (vs ++ c.drop vs.length) else none := by
  induction vs generalizing c with
  | nil => simp; rfl
  | cons v vs ih => cases c with
    | nil => rfl
    | cons x c =>
      show ocons v (cover vs c) = _
      rw [ih]
      by_cases h : vs.length ≤ c.length <;> simp [h, ocons]
theorem setCells_eq (c : List Value) (i : Nat) (vs : List Value) : setCells c i vs = if i + vs.length ≤ c.length then some (c.take i ++ vs ++ c.drop (i + vs.length)) else none := by
  induction c generalizing i with
  | nil => cases i with
    | zero => show cover vs [] = _; rw [cover_eq]; simp
    | succ i => show none = _; simp
  | cons x c ih => cases i with
    | zero => show cover vs (x :: c) = _; rw [cover_eq]; simp
    | succ i =>
      show ocons x (setCells c i vs) = _
      rw [ih]
      have e : i + 1 + vs.length = i + vs.length + 1 := by omega
      by_cases h : i + vs.length ≤ c.length
      · simp [h, ocons, e]
      · simp [h, ocons, e]
theorem setCells_get {c d : List Value} {i : Nat} {vs : List Value} (h : setCells c i vs = some d) :
    i + vs.length ≤ c.length ∧ d.length = c.length ∧ ∀ j, d[j]? = if i ≤ j ∧ j < i + vs.length then vs[j - i]? else c[j]? := by
  rw [setCells_eq] at h
  split at h
  · rename_i hl
    injection h with h; subst h
    refine ⟨hl, by simp; omega, fun j => ?_⟩
    rw [List.append_assoc, List.getElem?_append]
    by_cases h1 : j < i
    · have : (c.take i).length = i := by simp; omega
      rw [if_pos (by omega), if_neg (by omega), List.getElem?_take, if_pos h1]
    · have h2 : (c.take i).length = i := by simp; omega
      rw [if_neg (by omega), h2, List.getElem?_append]
      by_cases h3 : j < i + vs.length
      · rw [if_pos (by omega), if_pos ⟨by omega, h3⟩]
      · rw [if_neg (by omega), if_neg (by omega), List.getElem?_drop]
        congr 1; omega
  · cases h
theorem evs_eq (e : List Value) (l : List Opd) : evs e l = l.map (ev e) := by
  induction l with
  | nil => rfl
  | cons a l ih => show ev e a :: evs e l = _; rw [ih]; rfl
theorem lmap_eq (e : List Value) (sel : List Nat) (t : List Value) : lmap e sel t = sel.map (lget e) ++ t := by
  induction sel with
  | nil => rfl
  | cons a l ih => show lget e a :: lmap e l t = _; rw [ih]; rfl
theorem reps_eq (z : List Value) (n : Nat) : reps z n = (List.replicate n z).flatten := by
  induction n with
  | zero => rfl
  | succ n ih => show z ++ reps z n = _; rw [ih]; rfl

/-! ### numbers -/
theorem ltB_eq (a b : Int) : ltB a b = decide (a < b) := by
  cases a <;> cases b <;> simp only [ltB] <;> rw [Bool.eq_iff_iff] <;> simp [Nat.blt_eq] <;> omega
theorem eqB_eq (a b : Int) : eqB a b = decide (a = b) := by
  cases a <;> cases b <;> simp only [eqB] <;> rw [Bool.eq_iff_iff] <;> simp <;> omega
theorem wrap_id_i64 {n : Int} (h : -9223372036854775808 ≤ n) (h' : n < 9223372036854775808) : IntKind.i64.wrap n = n := by
  simp [IntKind.wrap, IntKind.signed, IntKind.bits]
  split <;> omega
theorem wrapF_eq (k : IntKind) (n : Int) : wrapF k n = k.wrap n := by
  cases k <;> simp only [wrapF]
  cases h : inI64 n
  · rfl
  · have : -9223372036854775808 ≤ n ∧ n < 9223372036854775808 := by
      cases n <;> simp [inI64, Nat.blt_eq] at h <;> simp only [Int.ofNat_eq_natCast, Int.negSucc_eq] <;> omega
    exact (wrap_id_i64 this.1 this.2).symm
theorem forceN_eq {α : Type} (n : Nat) (k : Nat → α) : forceN n k = k n := by cases n <;> rfl

/-! ### plain values -/
theorem veqF_eq {a b : Value} (h : veqF a b = true) : a = b ∧ addrFree a = true := by
  unfold veqF at h
  split at h
  · simp at h; subst h; exact ⟨rfl, rfl⟩
  · simp at h; obtain ⟨rfl, rfl⟩ := h; exact ⟨rfl, rfl⟩
  · simp at h
    rename_i a b
    have : a = b := by
      cases a with | mk a => cases b with | mk b => exact congrArg _ (Array.ext' (by simpa using h))
    subst this; exact ⟨rfl, rfl⟩
  · exact ⟨rfl, rfl⟩
  · exact ⟨rfl, rfl⟩
  · exact ⟨rfl, rfl⟩
  · exact ⟨rfl, rfl⟩
  · exact ⟨rfl, rfl⟩
  · rename_i f a c g a' c'
    simp at h
    obtain ⟨⟨⟨⟨h1, h2⟩, h3⟩, h4⟩, h5⟩ := h
    subst h1
    subst h2; subst h3; subst h4; subst h5
    exact ⟨rfl, rfl⟩
  · cases h

theorem addrFree_rel (ρ : Ren) {v : Value} (h : addrFree v = true) : VRel ρ v v := by
  have arr : ∀ {a : Array Value}, a.toList.all flat = true → ∀ (i : Nat) x y, a[i]? = some x → a[i]? = some y → VRel ρ x y := by
    intro a ha i x y hx hy
    rw [hx] at hy; injection hy with hy; subst hy
    rw [List.all_eq_true] at ha
    exact .flat (ha x (by have := Array.mem_of_getElem? hx; simpa using this))
  cases v with
  | agg a => exact .agg rfl (arr (by simpa [addrFree] using h))
  | tuple a => exact .tuple rfl (arr (by simpa [addrFree] using h))
  | func fn a c =>
    cases fn <;> simp [addrFree, flat] at h
    obtain ⟨h1, h2⟩ := h
    subst h1; subst h2
    exact .func rfl (fun i x y h => by simp at h) rfl (fun i x y h => by simp at h)
  | _ => exact .flat (by simpa [addrFree] using h)

theorem veqF_flat {a b : Value} (h : veqF a b = true) (hf : flat a = true ∨ True) : a = b := (veqF_eq h).1

theorem veq_eq {a b : Value} (h : veq a b = true) : a = b := by
  have hl : ∀ {x y : List Value}, veqL x y = true → x = y := by
    intro x
    induction x with
    | nil => intro y h; cases y with
      | nil => rfl
      | cons => simp [veqL] at h
    | cons x l ih => intro y h; cases y with
      | nil => simp [veqL] at h
      | cons y l' => simp [veqL] at h; rw [(veqF_eq h.1).1, ih h.2]
  unfold veq at h
  split at h
  · exact congrArg _ (Array.ext' (hl h))
  · exact congrArg _ (Array.ext' (hl h))
  · exact (veqF_eq h).1

end Go.Am
