/- The machine and its runs, part Bf: Am41pf. -/
import Derived.Test.YtjhomcflchfamaaDoorBa
set_option linter.unusedVariables false
set_option linter.unusedSimpArgs false
set_option linter.unusedSectionVars false
namespace Go.Am.C41
open Go Go.Am
def cmd9 (x : Cmd × Value) : List Value := x.1.cells x.2
theorem cmd9_len (x : Cmd × Value) : (cmd9 x).length = 9 := rfl
def cmds9 (l : List (Cmd × Value)) : List Value := (l.map cmd9).flatten
theorem cmds9_len : ∀ l : List (Cmd × Value), (cmds9 l).length = l.length * 9
  | [] => rfl
  | x :: l => by
    show (cmd9 x ++ cmds9 l).length = _
    rw [List.length_append, cmd9_len, cmds9_len l, List.length_cons]; omega
theorem cmds9_get : ∀ (l : List (Cmd × Value)) (i k : Nat), k < 9 → (cmds9 l)[i * 9 + k]? = (l[i]?).bind fun x => (cmd9 x)[k]?
  | [], i, k, _ => by simp [cmds9]
  | x :: l, 0, k, h => by
    show (cmd9 x ++ cmds9 l)[0 * 9 + k]? = _
    rw [Nat.zero_mul, Nat.zero_add, List.getElem?_append_left (by rw [cmd9_len]; exact h)]; rfl
  | x :: l, i + 1, k, h => by
    show (cmd9 x ++ cmds9 l)[(i + 1) * 9 + k]? = _
    rw [List.getElem?_append_right (by rw [cmd9_len]; omega), cmd9_len, show (i + 1) * 9 + k - 9 = i * 9 + k by omega, cmds9_get l i k h]; rfl
theorem cmds9_ext {a : List Value} {l : List (Cmd × Value)} (hl : a.length = l.length * 9) (h : ∀ i k, k < 9 → i < l.length → a[i * 9 + k]? = (l[i]?).bind fun x => (cmd9 x)[k]?) : a = cmds9 l := by
  apply List.ext_getElem?
  intro j
  rcases Nat.lt_or_ge j (l.length * 9) with hj | hj
  · have e : j = (j / 9) * 9 + j % 9 := by omega
    rw [e, h (j / 9) (j % 9) (Nat.mod_lt _ (by omega)) (by omega), cmds9_get l _ _ (Nat.mod_lt _ (by omega))]
  · rw [List.getElem?_eq_none (by omega), List.getElem?_eq_none (by rw [cmds9_len]; omega)]
def Own9 (M : FM) (P : Nat → Prop) (v : Value) (l : List (Cmd × Value)) : Prop :=
  (l = [] ∧ v = .slice none 0 0) ∨ (l = [] ∧ ∃ b, v = .slice (some ⟨b, 0, none⟩) 0 0 ∧ P b ∧ M b = some (.cells [] 9 false true)) ∨ (l ≠ [] ∧ ∃ b, v = .slice (some ⟨b, 0, none⟩) l.length UNK ∧ P b ∧ M b = some (.cells (cmds9 l) 9 true true))
theorem Own9.frame {M M' : FM} {P P' : Nat → Prop} {v : Value} {l : List (Cmd × Value)} (h : Own9 M P v l) (ht : ∀ b, P b → P' b ∧ M' b = M b) : Own9 M' P' v l := by
  rcases h with h | ⟨h1, b, h2, h3, h4⟩ | ⟨h1, b, h2, h3, h4⟩
  · exact .inl h
  · exact .inr (.inl ⟨h1, b, h2, (ht b h3).1, (ht b h3).2.trans h4⟩)
  · exact .inr (.inr ⟨h1, b, h2, (ht b h3).1, (ht b h3).2.trans h4⟩)
theorem app_own9 {M : FM} {P : Nat → Prop} {N : Nat} {v : Value} {l l2 : List (Cmd × Value)} (h : Own9 M P v l) (hP : ∀ b, P b → b < N) (ya : Option Addr) (yc r2 : Nat) (ho : (cmds9 l2).all Am.one = true) (hs : l.length + l2.length ≤ 1000) :
    Rt (appO 9 104 M N v (.slice ya l2.length yc) (shown M N 9 v) (some (cmds9 l2, r2))) fun v' M' N' w => N ≤ N' ∧ N' ≤ N + 1 ∧ Own9 M' (fun b => (P b ∨ b = N) ∧ b < N') v' (l ++ l2) ∧ (∀ b, b ≠ N → ¬ P b → M' b = M b) ∧ (∀ j, j ≤ N → (∀ b, P b → j ≤ b) → Nat.mod w (bit j) = 0) := by
  have hone : ∀ r : Nat, ((cmds9 l2, r).1.all Am.one) = true := fun _ => ho
  have hnew : ∀ (r : Nat) (a : List (Cmd × Value)), a ++ l2 ≠ [] → cmds9 a ++ cmds9 l2 = cmds9 (a ++ l2) := fun r a _ => by simp [cmds9]
  rcases h with ⟨rfl, rfl⟩ | ⟨rfl, b, rfl, hb, hM⟩ | ⟨hne, b, rfl, hb, hM⟩
  · rw [shown_nil, appO_mk, appV_mk, hone, blt_true (show 0 < 9 by omega), blt_true (show 0 < 104 by omega), ble_true (show (0 + l2.length) * 104 ≤ 140737488355328 by simp at hs; omega)]
    by_cases hz : l2 = []
    · subst hz
      exact ⟨Nat.le_refl _, Nat.le_succ _, .inl ⟨rfl, rfl⟩, fun _ _ _ => rfl, fun j _ _ => Nat.zero_mod _⟩
    · have hp : 0 < l2.length := List.length_pos_iff.2 hz
      rw [appG_nil hp]
      exact ⟨Nat.le_succ _, Nat.le_refl _, .inr (.inr ⟨hz, N, by rw [Nat.zero_add, List.nil_append], ⟨.inr rfl, by omega⟩, fput_same _ _ _⟩), fun b hb _ => fput_ne _ _ _ _ hb, fun j hj _ => frz_bit hj⟩
  · rw [shown_zero, appO_mk, appV_mk, hone, blt_true (show 0 < 9 by omega), blt_true (show 0 < 104 by omega), ble_true (show (0 + l2.length) * 104 ≤ 140737488355328 by simp at hs; omega)]
    show Rt (cond (Nat.ble (Nat.add 0 l2.length) 0) (appR M N 9 0 (0 + l2.length) 0 (cmds9 l2) (Nat.lor 0 r2) b 0 (getb M N b)) (appN M N 9 (0 + l2.length) ([] ++ cmds9 l2) (Nat.lor 0 r2))) _
    by_cases hz : l2 = []
    · subst hz
      show Rt (appR M N 9 0 (0 + 0) 0 [] (Nat.lor 0 r2) b 0 (getb M N b)) _
      rw [getb_lt (hP b hb), hM]
      show Rt (putC M N b 9 false (slcP 0 (0 + 0) 0 b) (Nat.lor 0 r2) (setCells [] (Nat.add 0 (Nat.mul 0 9)) [])) _
      exact ⟨Nat.le_refl _, Nat.le_succ _, .inr (.inl ⟨rfl, b, rfl, ⟨.inl hb, hP b hb⟩, fput_same _ _ _⟩), fun k _ hk => fput_ne _ _ _ _ (by rintro rfl; exact hk hb), fun j hj h => frz_bit (h b hb)⟩
    · have hp : 0 < l2.length := List.length_pos_iff.2 hz
      have hle : Nat.ble (Nat.add 0 l2.length) 0 = false := by
        cases hq : Nat.ble (Nat.add 0 l2.length) 0
        · rfl
        · have : 0 + l2.length ≤ 0 := Nat.le_of_ble_eq_true hq
          omega
      rw [hle, cond_false, Nat.zero_add, List.nil_append]
      exact ⟨Nat.le_succ _, Nat.le_refl _, .inr (.inr ⟨hz, N, rfl, ⟨.inr rfl, by omega⟩, fput_same _ _ _⟩), fun k hk _ => fput_ne _ _ _ _ hk, fun j hj _ => frz_bit hj⟩
  · have hp : 0 < l.length := List.length_pos_iff.2 hne
    rw [shown_pos hp, getb_lt (hP b hb), hM, shownB_mk, Nat.beq_refl, cellsAt_mk, ldrop_z, cells_all (cmds9_len l).symm]
    show Rt (appO 9 104 M N _ _ (some (cmds9 l, bit b)) _) _
    rw [appO_mk, appV_mk, hone, blt_true (show 0 < 9 by omega), blt_true (show 0 < 104 by omega), ble_true (show (l.length + l2.length) * 104 ≤ 140737488355328 by omega), appG_unk, getb_lt (hP b hb), hM, appU_mk]
    have hnl : l ++ l2 ≠ [] := by simp [hne]
    refine ⟨Nat.le_succ _, Nat.le_refl _, .inr (.inr ⟨hnl, N, by rw [List.length_append], ⟨.inr rfl, by omega⟩, ?_⟩), fun k hk hk2 => ?_, fun j hj h => ?_⟩
    · rw [← hnew 0 l hnl]; exact fput_same _ _ _
    · rw [fput_ne _ _ _ _ hk, fput_ne _ _ _ _ (by rintro rfl; exact hk2 hb)]
    · rw [frz_iff]; exact ⟨frz_bit (h b hb), frz_bit hj⟩
theorem Own9.len {M : FM} {P : Nat → Prop} {v : Value} {l : List (Cmd × Value)} (h : Own9 M P v l) : lenV false v = some (.int .i64 (l.length : Int)) := by
  rcases h with ⟨rfl, rfl⟩ | ⟨rfl, b, rfl, _⟩ | ⟨_, b, rfl, _⟩ <;> rfl
theorem Own9.one {M : FM} {P : Nat → Prop} {v : Value} {l : List (Cmd × Value)} (h : Own9 M P v l) : Am.one v = true := by
  rcases h with ⟨rfl, rfl⟩ | ⟨rfl, b, rfl, _⟩ | ⟨_, b, rfl, _⟩ <;> rfl
theorem Own9.bel {M : FM} {P : Nat → Prop} {v : Value} {l : List (Cmd × Value)} (h : Own9 M P v l) (k : Nat) (hk : ∀ b, P b → b < k) : belowV k v = true := by
  rcases h with ⟨rfl, rfl⟩ | ⟨rfl, b, rfl, hb, _⟩ | ⟨_, b, rfl, hb, _⟩
  · rfl
  · exact blt_true (hk b hb)
  · exact blt_true (hk b hb)
end Go.Am.C41
