/- The machine and its runs, part Bx: Am41qa. -/
import Derived.Test.YtjhomcflchfamaaDoorZ
import Derived.Test.YtjhomcflchfamaaDoorBa
set_option linter.unusedVariables false
set_option linter.unusedSimpArgs false
set_option linter.unusedSectionVars false
namespace Go.Am.C41
open Go Go.Am
def OrdV (v K : QV) : Prop := v.map (·.1) = (K.filter fun x => !x.2).map (·.1)
def finK (K : QV) (t : Int) : QV := K.map fun x => (x.1, x.2 || decide (x.1.tag = t))
theorem tags_map {v w : QV} (h : v.map (·.1) = w.map (·.1)) : tagsV v = tagsV w := by
  have e : ∀ u : QV, tagsV u = (u.map (·.1)).map Cmd.tag := fun u => by rw [tagsV, List.map_map]; rfl
  rw [e, e, h]
theorem finK_tags (K : QV) (t : Int) : tagsV (finK K t) = tagsV K := tags_map (by rw [finK, List.map_map]; rfl)
theorem finK_len (K : QV) (t : Int) : (finK K t).length = K.length := List.length_map ..
theorem ord_rem {v K : QV} (h : OrdV v K) (t : Int) : OrdV (remV v t) (finK K t) := by
  have e1 : (remV v t).map (·.1) = (v.map (·.1)).filter fun c => decide (c.tag ≠ t) := by
    rw [remV, List.filter_map]; rfl
  have e2 : ((finK K t).filter fun x => !x.2).map (·.1) = ((K.filter fun x => !x.2).map (·.1)).filter fun c => decide (c.tag ≠ t) := by
    rw [finK, List.filter_map, List.filter_map, List.map_map, List.filter_filter]
    congr 1
    refine List.filter_congr fun x _ => ?_
    show (!(x.2 || decide (x.1.tag = t))) = (decide (x.1.tag ≠ t) && !x.2)
    cases x.2 <;> by_cases e : x.1.tag = t <;> simp [e]
  rw [OrdV, e1, e2, h]
theorem ord_start {v K : QV} (h : OrdV v K) (t : Int) : OrdV (startV v t) K := by
  rw [OrdV, ← h, startV, List.map_map]
  refine List.map_congr_left fun x _ => ?_
  show (if x.1.tag = t then (x.1, true) else x).1 = x.1
  split <;> rfl
theorem ord_split : ∀ (K : QV) (a : List Cmd) (x : Cmd) (b : List Cmd), (K.filter fun x => !x.2).map (·.1) = a ++ x :: b → (tagsV K).Nodup → ∀ (i : Nat) (hi : i < K.length), K[i].1.tag = x.tag → K[i].1 = x ∧ ∀ (k : Nat) (hk : k < i), (K[k]'(by omega)).2 = false → (K[k]'(by omega)).1 ∈ a
  | [], a, x, b, h, hn, i, hi, he => by simp at hi
  | y :: K, a, x, b, h, hn, i, hi, he => by
    have hn1 : y.1.tag ∉ tagsV K ∧ (tagsV K).Nodup := List.nodup_cons.1 hn
    obtain ⟨hn1, hn2⟩ := hn1
    have hin : ∀ a' : List Cmd, (K.filter fun x => !x.2).map (·.1) = a' ++ x :: b → x.tag ∈ tagsV K := fun a' e => by
      have hx : x ∈ (K.filter fun x => !x.2).map (·.1) := by rw [e]; simp
      obtain ⟨z, hz, rfl⟩ := List.mem_map.1 hx
      exact List.mem_map.2 ⟨z, (List.mem_filter.1 hz).1, rfl⟩
    cases hy : y.2 with
    | true =>
      have h' : (K.filter fun x => !x.2).map (·.1) = a ++ x :: b := by
        rw [List.filter_cons, hy] at h; exact h
      cases i with
      | zero => exact absurd (hin a h') (by rw [← he]; exact hn1)
      | succ i =>
        obtain ⟨h1, h2⟩ := ord_split K a x b h' hn2 i (by simpa using hi) he
        refine ⟨h1, fun k hk hf => ?_⟩
        cases k with
        | zero => rw [show ((y :: K)[0]).2 = y.2 from rfl, hy] at hf; cases hf
        | succ k => exact h2 k (by omega) hf
    | false =>
      have h' : y.1 :: (K.filter fun x => !x.2).map (·.1) = a ++ x :: b := by
        rw [List.filter_cons, hy] at h; exact h
      cases a with
      | nil =>
        injection h' with h1 h2
        cases i with
        | zero => exact ⟨h1, fun k hk => by omega⟩
        | succ i =>
          refine absurd ?_ hn1
          rw [h1, ← he]
          exact List.mem_map.2 ⟨_, List.getElem_mem (by simpa using hi), rfl⟩
      | cons a0 a =>
        injection h' with h1 h2
        cases i with
        | zero => exact absurd (hin a h2) (by rw [← he]; exact hn1)
        | succ i =>
          obtain ⟨h3, h4⟩ := ord_split K a x b h2 hn2 i (by simpa using hi) he
          refine ⟨h3, fun k hk hf => ?_⟩
          cases k with
          | zero => rw [← h1]; exact List.mem_cons_self ..
          | succ k => exact List.mem_cons_of_mem _ (h4 k (by omega) hf)
theorem ord_elig {v K : QV} (h : OrdV v K) (hn : (tagsV K).Nodup) {t : Int} (ht : t ∈ eligL v) {i : Nat} (hi : i < K.length) (he : K[i].1.tag = t) (k : Nat) (hk : k < i) (hf : (K[k]'(by omega)).2 = false) : befB (K[k]'(by omega)).1 K[i].1 = false := by
  obtain ⟨a, x, b, rfl, h1, h2, h3⟩ := (elig_iff _ _).1 ht
  rw [OrdV, List.map_append, List.map_cons] at h
  obtain ⟨e1, e2⟩ := ord_split K _ _ _ h.symm hn i hi (he.trans h1.symm)
  obtain ⟨y, hy, e3⟩ := List.mem_map.1 (e2 k hk hf)
  rw [e1, ← e3]
  exact h3 y hy
theorem started_fin {v : QV} {t : Int} (h : t ∈ startedL v) : remEV v t true = 0 := by
  rw [startedL_eq] at h
  obtain ⟨x, hx, rfl⟩ := List.mem_map.1 h
  obtain ⟨h1, h2⟩ := List.mem_filter.1 hx
  rw [remEV, if_pos (show x.1.tag ∈ tagsV v from List.mem_map.2 ⟨x, h1, rfl⟩), if_pos (show flT v x.1.tag = true from List.any_eq_true.2 ⟨x, h1, by simpa using h2⟩)]
theorem elig_start {v : QV} {t : Int} (h : t ∈ eligL v) : startEV v t = 0 := by
  obtain ⟨a, x, b, rfl, h1, _⟩ := (elig_iff _ _).1 h
  rw [startEV, if_pos (show t ∈ tagsV (a ++ x :: b) from List.mem_map.2 ⟨x, by simp, h1⟩), if_pos h]
theorem wrap_u8 {q : Nat} (h : q < 256) : IntKind.u8.wrap (q : Int) = (q : Int) := by
  show ((q : Int) % 256) = _
  omega
theorem conv_u8i {q : Nat} (h : q < 256) : convV .i64 (.int .u8 (q : Int)) = some (.int .i64 (q : Int)) := by
  show some (Value.int .i64 (wrapF .i64 (q : Int))) = _
  rw [wrapF_eq, wrap_small (by omega) (by omega)]
theorem rem8_u8 {q : Nat} : intBin .rem .u8 (q : Int) 8 = some (.int .u8 ((q % 8 : Nat) : Int)) := by
  rw [i_rem, if_neg (by decide)]; rfl
theorem rem2_u8 {q : Nat} : intBin .rem .u8 (q : Int) 2 = some (.int .u8 ((q % 2 : Nat) : Int)) := by
  rw [i_rem, if_neg (by decide)]; rfl
theorem quo2_u8 {q : Nat} (h : q < 256) : intBin .quo .u8 (q : Int) 2 = some (.int .u8 ((q / 2 : Nat) : Int)) := by
  rw [i_quo, if_neg (by decide), show (q : Int).tdiv 2 = ((q / 2 : Nat) : Int) from rfl, wrap_u8 (by omega)]
end Go.Am.C41
