/- Chapter 05: the contract of shape.element for the fast machine. -/
import Derived.Test.YtjnplnkbjmfgpaaAmV4
import Derived.Test.YtjnplnkbjmfgpaaAmY5
set_option linter.unusedVariables false
set_option linter.unusedSimpArgs false
set_option linter.unusedSectionVars false
namespace Go.Am.V
open Go Go.Am Go.Am.Fast
noncomputable def fints (l : List FV) : Option (List Int) := List.rec (motive := fun _ => Option (List Int)) (some []) (fun v _ ih => onI v (fun z => Option.rec (motive := fun _ => Option (List Int)) none (fun l => some (z :: l)) ih) none) l
theorem fints_eq : ∀ {l : List FV} {zs : List Int}, fints l = some zs → intsV (l.map toV) = some zs
  | [], zs, h => h
  | v :: l, zs, h => by
    cases v with
    | i z =>
      replace h : Option.rec (motive := fun _ => Option (List Int)) none (fun l => some (z :: l)) (fints l) = some zs := h
      cases hl : fints l with
      | none => rw [hl] at h; cases h
      | some ys =>
        rw [hl] at h
        injection h with h
        show consI (.int .i64 z) (intsV (l.map toV)) = _
        rw [fints_eq hl, ← h]; rfl
    | _ => cases h
noncomputable def Yf5 : FCal := fun f args m n =>
  Bool.rec (motive := fun _ => FR) .no
    (List.rec (motive := fun _ => FR) .no (fun a t _ => List.rec (motive := fun _ => FR) .no (fun sv t2 _ => List.rec (motive := fun _ => FR)
      (match toV a with
        | .agg cs => Option.rec (motive := fun _ => FR) .no (fun p => Option.rec (motive := fun _ => FR) .no (fun q => Option.rec (motive := fun _ => FR) .no (fun zs => Bool.rec (motive := fun _ => FR) .no (fI (fun z => .ok (.i z) m n q.2 0) (foldE p zs)) (Nat.blt (List.rec (motive := fun _ => Nat) 0 (fun _ _ n => Nat.succ n) zs) 1000)) (fints q.1)) (shownF m n 1 sv)) (primeOf cs.toList)
        | _ => .no) (fun _ _ _ => .no) t2) t) args) (Nat.beq f 37)
theorem Yf5_sim : CalSim Yf5 Y5 := by
  intro f args m n
  show FSim m n (Bool.rec (motive := fun _ => FR) .no _ (Nat.beq f 37)) (cond (Nat.beq f 37) (elemY (absM m n) n (args.map toV)) .no)
  cases Nat.beq f 37
  · trivial
  rcases args with _ | ⟨a, _ | ⟨sv, _ | ⟨x, t⟩⟩⟩
  · trivial
  · trivial
  · show FSim m n (match toV a with
        | .agg cs => _
        | _ => FR.no) (elemY (absM m n) n [toV a, toV sv])
    generalize toV a = va
    split
    · rename_i cs
      show FSim m n _ (elemP (absM m n) n (toV sv) (primeOf cs.toList))
      cases primeOf cs.toList with
      | none => trivial
      | some p =>
        cases hs : shownF m n 1 sv with
        | none => exact fsim_no
        | some q =>
          have he := (shownF_eq m n 1 sv).resolve_right (by rw [hs]; simp)
          rw [hs] at he
          show FSim m n (Option.rec (motive := fun _ => FR) .no _ (fints q.1)) (elemR (absM m n) n p (shown (absM m n) n 1 (toV sv)))
          rw [← he]
          cases hf : fints q.1 with
          | none => exact fsim_no
          | some zs =>
            show FSim m n _ (elemI (absM m n) n p q.2 (intsV (q.1.map toV)))
            rw [fints_eq hf]
            show FSim m n (Bool.rec (motive := fun _ => FR) .no (fI (fun z => .ok (.i z) m n q.2 0) (foldE p zs)) (Nat.blt (List.rec (motive := fun _ => Nat) 0 (fun _ _ n => Nat.succ n) zs) 1000)) (cond (Nat.blt (List.rec (motive := fun _ => Nat) 0 (fun _ _ n => Nat.succ n) zs) 1000) _ _)
            rw [fI_eq]
            cases Nat.blt (List.rec (motive := fun _ => Nat) 0 (fun _ _ n => Nat.succ n) zs) 1000
            · trivial
            · rfl
    · trivial
  · trivial
end Go.Am.V
