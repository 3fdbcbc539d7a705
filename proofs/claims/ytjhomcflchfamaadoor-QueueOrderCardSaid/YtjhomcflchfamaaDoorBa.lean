/- The machine and its runs, part Ba: Am41pa. -/
import Derived.Test.YtjhomcflchfamaaDoorB15
set_option linter.unusedVariables false
set_option linter.unusedSimpArgs false
set_option linter.unusedSectionVars false
namespace Go.Am.C41
open Go Go.Am
theorem pick_fl (v : QV) : ∀ {j}, j ≤ v.length → pick (flV v) (tagsV v) j = ((v.take j).filter (·.2)).map fun x => x.1.tag
  | 0, _ => by simp [pick]
  | j + 1, h => by
    have hj : j < v.length := by omega
    rw [pick, pick_fl v (by omega), flV_eq hj, List.take_add_one, List.getElem?_eq_getElem hj, Option.toList_some, List.filter_append, List.map_append]
    congr 1
    cases h2 : v[j].2
    · simp [h2]
    · simp [h2, tagsV, hj]
theorem startedL_eq (v : QV) : startedL v = (v.filter (·.2)).map fun x => x.1.tag := by
  rw [startedL, pick_fl v (Nat.le_refl _), List.take_length]
theorem split_at {v : QV} {i : Nat} (h : i < v.length) : v = v.take i ++ v[i] :: v.drop (i + 1) := by
  rw [← List.drop_eq_getElem_cons h, List.take_append_drop]
theorem elig_iff (v : QV) (t : Int) : t ∈ eligL v ↔ ∃ a x b, v = a ++ x :: b ∧ x.1.tag = t ∧ x.2 = false ∧ ∀ y ∈ a, befB y.1 x.1 = false := by
  rw [eligL, mem_pick (by rw [tagsV_len]; exact Nat.le_refl _)]
  constructor
  · rintro ⟨i, hi, h1, h2, h3⟩
    rw [eligV, Bool.and_eq_true, flV_eq h1, cmV_eq h1] at h2
    obtain ⟨h4, h5⟩ := h2
    refine ⟨v.take i, v[i], v.drop (i + 1), split_at h1, by simpa [tagsV] using h3, by simpa using h4, fun y hy => ?_⟩
    obtain ⟨k, hk, rfl⟩ := List.mem_iff_getElem.1 hy
    rw [List.length_take] at hk
    have h6 : ((List.range i).any fun k => befB (cmV v k) v[i].1) = false := by simpa using h5
    rw [← Bool.not_eq_true, List.any_eq_true] at h6
    rw [List.getElem_take]
    cases hb : befB v[k].1 v[i].1
    · rfl
    · exact absurd ⟨k, List.mem_range.2 (by omega), by rw [cmV_eq (by omega)]; exact hb⟩ h6
  · rintro ⟨a, x, b, rfl, h1, h2, h3⟩
    have hl : a.length < (a ++ x :: b).length := by simp
    have hx : (a ++ x :: b)[a.length] = x := by simp
    refine ⟨a.length, by rw [tagsV_len]; exact hl, hl, ?_, by simp [tagsV, h1]⟩
    rw [eligV, flV_eq hl, cmV_eq hl, hx, h2]
    have : ((List.range a.length).any fun k => befB (cmV (a ++ x :: b) k) x.1) = false := by
      rw [← Bool.not_eq_true, List.any_eq_true]
      rintro ⟨k, hk, hp⟩
      have hk := List.mem_range.1 hk
      rw [cmV_eq (by omega), List.getElem_append_left hk] at hp
      rw [h3 _ (List.getElem_mem hk)] at hp
      cases hp
    rw [this]; rfl
theorem live_v {v : QV} (h : v ≠ []) (hs : startedL v = []) : eligL v ≠ [] := by
  cases v with
  | nil => exact absurd rfl h
  | cons x b =>
    have hx : x.2 = false := by
      rw [startedL_eq, List.filter_cons] at hs
      cases h2 : x.2
      · rfl
      · rw [h2] at hs; simp at hs
    exact List.ne_nil_of_mem ((elig_iff _ _).2 ⟨[], x, b, rfl, rfl, hx, fun y hy => by cases hy⟩)
theorem elig_rem {v : QV} {t u : Int} (h : t ∈ eligL v) (hne : t ≠ u) : t ∈ eligL (remV v u) := by
  obtain ⟨a, x, b, rfl, h1, h2, h3⟩ := (elig_iff _ _).1 h
  refine (elig_iff _ _).2 ⟨remV a u, x, remV b u, ?_, h1, h2, fun y hy => h3 y (List.mem_filter.1 hy).1⟩
  rw [remV, List.filter_append, List.filter_cons, if_pos (by rw [h1]; exact decide_eq_true hne)]; rfl
theorem started_rem {v : QV} {t : Int} (h : flT v t = false) : startedL (remV v t) = startedL v := by
  rw [startedL_eq, startedL_eq, remV, List.filter_filter]
  congr 1
  refine List.filter_congr fun x hx => ?_
  cases h2 : x.2
  · rfl
  · rw [Bool.true_and]
    refine decide_eq_true fun e => ?_
    have : flT v t = true := List.any_eq_true.2 ⟨x, hx, by simp [e, h2]⟩
    rw [h] at this; cases this
theorem rem_len {v : QV} (hn : (tagsV v).Nodup) {t : Int} (ht : t ∈ tagsV v) : (remV v t).length + 1 = v.length := by
  obtain ⟨x, hx, rfl⟩ := List.mem_map.1 ht
  obtain ⟨i, hi, rfl⟩ := List.mem_iff_getElem.1 hx
  rw [remV, filter_one _ v i hi fun j hj => ?_]
  · rw [List.length_append, List.length_take, List.length_drop]; omega
  · show decide (v[j].1.tag ≠ v[i].1.tag) = _
    by_cases e : j = i
    · subst e; simp
    · rw [decide_eq_true (show v[j].1.tag ≠ v[i].1.tag from fun e2 => ?_)]
      · simp [e]
      · have hj' : j < (tagsV v).length := by rw [tagsV_len]; exact hj
        have hi' : i < (tagsV v).length := by rw [tagsV_len]; exact hi
        have hp := List.pairwise_iff_getElem.1 hn
        have e3 : (tagsV v)[j] = (tagsV v)[i] := by simp only [tagsV, List.getElem_map]; exact e2
        rcases Nat.lt_or_gt_of_ne e with h | h
        · exact hp j i hj' hi' h e3
        · exact hp i j hi' hj' h e3.symm
def InvV (v : QV) : Prop := v.Pairwise fun a b => b.2 = true → befB a.1 b.1 = false
theorem inv_sub {v : QV} (h : InvV v) (c : Cmd) : InvV (v ++ [(c, false)]) := by
  rw [InvV, List.pairwise_append]
  exact ⟨h, by simp, fun a _ b hb hf => by obtain rfl := List.mem_singleton.1 hb; cases hf⟩
theorem inv_rem {v : QV} (h : InvV v) (t : Int) : InvV (remV v t) := h.sublist List.filter_sublist
theorem start_none {a : QV} {t : Int} (h : ∀ y ∈ a, y.1.tag ≠ t) : startV a t = a := by
  rw [startV]
  exact (List.map_congr_left (g := id) fun y hy => if_neg (h y hy)).trans (List.map_id a)
theorem start_split {a b : QV} {x : Cmd × Bool} (hn : (tagsV (a ++ x :: b)).Nodup) : startV (a ++ x :: b) x.1.tag = a ++ (x.1, true) :: b := by
  have hnt : ∀ y, y ∈ a ∨ y ∈ b → y.1.tag ≠ x.1.tag := fun y hy e => by
    have hn' : ((tagsV a) ++ x.1.tag :: tagsV b).Nodup := by simpa [tagsV] using hn
    rw [List.nodup_append] at hn'
    obtain ⟨_, n2, n3⟩ := hn'
    rcases hy with hy | hy
    · exact n3 y.1.tag (List.mem_map.2 ⟨y, hy, rfl⟩) x.1.tag (by simp) e
    · exact (List.nodup_cons.1 n2).1 (by rw [← e]; exact List.mem_map.2 ⟨y, hy, rfl⟩)
  have h1 : startV (a ++ x :: b) x.1.tag = startV a x.1.tag ++ (if x.1.tag = x.1.tag then (x.1, true) else x) :: startV b x.1.tag := by
    rw [startV, List.map_append, List.map_cons]; rfl
  rw [h1, if_pos rfl, start_none fun y hy => hnt y (.inl hy), start_none fun y hy => hnt y (.inr hy)]
theorem inv_start {v : QV} (h : InvV v) (hn : (tagsV v).Nodup) {t : Int} (ht : t ∈ eligL v) : InvV (startV v t) := by
  obtain ⟨a, x, b, rfl, h1, h2, h3⟩ := (elig_iff _ _).1 ht
  subst h1
  rw [start_split hn]
  rw [InvV, List.pairwise_append, List.pairwise_cons] at h ⊢
  obtain ⟨p1, ⟨p2, p3⟩, p4⟩ := h
  refine ⟨p1, ⟨fun y hy hf => p2 y hy hf, p3⟩, fun y hy z hz hf => ?_⟩
  rcases List.mem_cons.1 hz with rfl | hz
  · exact h3 y hy
  · exact p4 y hy z (List.mem_cons_of_mem _ hz) hf
theorem inv_step {v : QV} (h : InvV v) (hn : (tagsV v).Nodup) (a : Act) : InvV (stepV v a) := by
  rw [stepV]
  split
  · split
    · exact inv_sub h _
    · exact h
  · split
    · split
      · rename_i h1
        refine inv_start h hn ?_
        rw [startEV] at h1
        split at h1
        · split at h1
          · assumption
          · cases h1
        · cases h1
      · exact h
    · split
      · split
        · exact inv_rem h _
        · exact h
      · split
        · split
          · exact inv_rem h _
          · exact h
        · exact h
theorem started_pair {v : QV} (h : InvV v) : (v.filter (·.2)).Pairwise fun a b => befB a.1 b.1 = false := by
  have h1 : (v.filter (·.2)).Pairwise fun a b => b.2 = true → befB a.1 b.1 = false := List.Pairwise.sublist List.filter_sublist h
  rw [List.pairwise_iff_getElem] at h1 ⊢
  intro i j hi hj hij
  exact h1 i j hi hj hij (List.mem_filter.1 (List.getElem_mem hj)).2
end Go.Am.C41
