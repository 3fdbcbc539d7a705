/- A region whose operations go in any order that its edges allow: the edges, and two renamings at once. -/
import Derived.Test.YtaohgpgbphlblaaAmDraw2
set_option linter.unusedVariables false
set_option linter.unusedSimpArgs false
set_option linter.unusedSectionVars false
namespace Go.Am
open Go Go.RowKit

/-! ### the edges -/
theorem eqNats_eq : ∀ {a b : List Nat}, eqNats a b = true → a = b
  | [], [], _ => rfl
  | [], _ :: _, h => by cases h
  | _ :: _, [], h => by cases h
  | a :: as, b :: bs, h => by
    simp only [eqNats, Bool.and_eq_true] at h
    rw [Nat.eq_of_beq_eq_true h.1, eqNats_eq h.2]
theorem befOf_spec {acc : List Nat} {i : Nat} : ∀ {es : List Edge}, (befOf acc es).testBit i = true → ∃ e ∈ es, Region.binds .any e = true ∧ (i = e.on ∨ (acc.getD e.on 0).testBit i = true)
  | [], h => by simp [befOf] at h
  | e :: es, h => by
    simp only [befOf] at h
    cases hb : Region.binds .any e
    · rw [hb, cond_false] at h
      obtain ⟨e', h1, h2⟩ := befOf_spec h
      exact ⟨e', List.mem_cons_of_mem _ h1, h2⟩
    · rw [hb, cond_true, lor_test, lor_test, bit_test, Bool.or_eq_true, Bool.or_eq_true] at h
      rcases h with (h | h) | h
      · exact ⟨e, List.mem_cons_self .., hb, .inl (of_decide_eq_true h).symm⟩
      · exact ⟨e, List.mem_cons_self .., hb, .inr h⟩
      · obtain ⟨e', h1, h2⟩ := befOf_spec h
        exact ⟨e', List.mem_cons_of_mem _ h1, h2⟩
theorem befs_cons (acc : List Nat) (o : Oper) (os : List Oper) : befs acc (o :: os) = befs (acc ++ [befOf acc o.after.toList]) os := by
  simp only [befs, forceN_eq]
theorem befs_old : ∀ (os : List Oper) (acc : List Nat) (j : Nat), j < acc.length → (befs acc os).getD j 0 = acc.getD j 0
  | [], acc, j, _ => rfl
  | o :: os, acc, j, h => by
    rw [befs_cons, befs_old os _ j (by simp; omega)]
    simp only [List.getD_eq_getElem?_getD]
    rw [List.getElem?_append_left h]
theorem befs_spec : ∀ (os : List Oper) (acc : List Nat) (j i : Nat) (o : Oper), acc.length ≤ j → os[j - acc.length]? = some o → (∀ e ∈ o.after.toList, Region.binds .any e = true → e.on < j) → ((befs acc os).getD j 0).testBit i = true →
    ∃ e ∈ o.after.toList, Region.binds .any e = true ∧ (i = e.on ∨ ((befs acc os).getD e.on 0).testBit i = true)
  | [], acc, j, i, o, h, ho, _, _ => by simp at ho
  | o' :: os, acc, j, i, o, h, ho, hb, hi => by
    rw [befs_cons] at hi ⊢
    by_cases e : j = acc.length
    · subst e
      rw [Nat.sub_self] at ho
      have ho : o' = o := by simpa using ho
      subst ho
      rw [befs_old os _ _ (by simp)] at hi
      have hi : (befOf acc o'.after.toList).testBit i = true := by simpa using hi
      obtain ⟨e, h1, h2, h3⟩ := befOf_spec hi
      refine ⟨e, h1, h2, ?_⟩
      rcases h3 with h3 | h3
      · exact .inl h3
      · refine .inr ?_
        have hlt := hb e h1 h2
        rw [befs_old os _ _ (by simp; omega)]
        simp only [List.getD_eq_getElem?_getD] at h3 ⊢
        rw [List.getElem?_append_left hlt]
        exact h3
    · refine befs_spec os _ j i o (by simp; omega) ?_ hb hi
      have : j - acc.length = (j - (acc.length + 1)) + 1 := by omega
      rw [this] at ho
      simpa using ho

theorem pairsOk_spec {ops : Array Oper} {y : Oper} {b : Nat} : ∀ {xs : List Oper} {i : Nat}, pairsOk ops y b xs i = true → ∀ (j : Nat) x, xs[j]? = some x → b.testBit (i + j) = true ∨ tmpApart ops x y = true
  | [], i, _, j, x, hx => by simp at hx
  | x' :: xs, i, h, j, x, hx => by
    simp only [pairsOk, Bool.and_eq_true, Bool.or_eq_true] at h
    cases j with
    | zero =>
      have hx : x' = x := by simpa using hx
      subst hx; exact h.1
    | succ j =>
      have := pairsOk_spec h.2 j x (by simpa using hx)
      rwa [show i + 1 + j = i + (j + 1) by omega] at this
theorem ordersOk_spec {ops : Array Oper} : ∀ {os : List Oper} {done : List Oper} {bs : List Nat} {k : Nat}, done.length = k → ordersOk ops done os bs k = true → ∀ (j : Nat) y, os[j]? = some y →
    (∀ e ∈ y.after.toList, Region.binds .any e = true → e.on < k + j) ∧ ∀ (i : Nat) x, i < k + j → (done ++ os)[i]? = some x → (bs.getD j 0).testBit i = true ∨ tmpApart ops x y = true
  | [], done, bs, k, _, _, j, y, hy => by simp at hy
  | o :: os, done, [], k, _, h, j, y, hy => by simp [ordersOk] at h
  | o :: os, done, b :: bs, k, hk, h, j, y, hy => by
    simp only [ordersOk, Bool.and_eq_true, List.all_eq_true] at h
    cases j with
    | zero =>
      have hy : o = y := by simpa using hy
      subst hy
      refine ⟨fun e he hb => ?_, fun i x hi hx => ?_⟩
      · have := h.1.1.1 e he
        rw [hb] at this
        simpa using this
      · have hx : done[i]? = some x := by rwa [List.getElem?_append_left (by omega)] at hx
        have := pairsOk_spec h.1.2 i x hx
        rw [Nat.zero_add] at this
        simpa using this
    | succ j =>
      have := ordersOk_spec (done := done ++ [o]) (k := k + 1) (by simp [hk]) h.2 j y (by simpa using hy)
      rw [show k + 1 + j = k + (j + 1) by omega] at this
      refine ⟨this.1, fun i x hi hx => ?_⟩
      have := this.2 i x hi (by simpa using hx)
      simpa using this

/-- what 'orderOk' says -/
structure Ordered (ops : Array Oper) (bs : List Nat) : Prop where
  back : ∀ (j : Nat) o, ops[j]? = some o → ∀ e ∈ o.after.toList, Region.binds .any e = true → e.on < j
  tmp : ∀ (i j : Nat) x y, i < j → ops[i]? = some x → ops[j]? = some y → (bs.getD j 0).testBit i = true ∨ tmpApart ops x y = true
  bef : ∀ (j i : Nat) o, ops[j]? = some o → (bs.getD j 0).testBit i = true → ∃ e ∈ o.after.toList, Region.binds .any e = true ∧ (i = e.on ∨ (bs.getD e.on 0).testBit i = true)
theorem ordered_of {ops : Array Oper} {bs : List Nat} (h : orderOk ops bs = true) : Ordered ops bs := by
  unfold orderOk at h
  rw [Bool.and_eq_true] at h
  have e := eqNats_eq h.1
  have hs := ordersOk_spec (done := []) (k := 0) rfl h.2
  have hback : ∀ (j : Nat) o, ops[j]? = some o → ∀ e ∈ o.after.toList, Region.binds .any e = true → e.on < j := by
    intro j o ho e he hb
    have := (hs j o (by simpa using ho)).1 e he hb
    omega
  refine ⟨hback, fun i j x y hij hx hy => ?_, fun j i o ho hi => ?_⟩
  · exact (hs j y (by simpa using hy)).2 i x (by omega) (by simpa using hx)
  · subst e
    exact befs_spec ops.toList [] j i o (Nat.zero_le _) (by simpa using ho) (hback j o ho) hi
/-- what is closed under the edges is closed under all that stands before -/
theorem Ordered.closed {ops : Array Oper} {bs : List Nat} (h : Ordered ops bs) {S : Nat → Prop} (hS : ∀ (j : Nat) o, ops[j]? = some o → S j → ∀ e ∈ o.after.toList, Region.binds .any e = true → S e.on) :
    ∀ (j : Nat) o, ops[j]? = some o → (∀ e ∈ o.after.toList, Region.binds .any e = true → S e.on) → ∀ i, (bs.getD j 0).testBit i = true → S i := by
  intro j
  induction j using Nat.strongRecOn with
  | ind j ih =>
    intro o ho he i hi
    obtain ⟨e, h1, h2, h3⟩ := h.bef j i o ho hi
    have hlt := h.back j o ho e h1 h2
    rcases h3 with rfl | h3
    · exact he e h1 h2
    · have hj : j < ops.size := (Array.getElem?_eq_some_iff.1 ho).1
      have ho' : ops[e.on]? = some ops[e.on] := Array.getElem?_eq_getElem (by omega)
      exact ih e.on hlt _ ho' (hS e.on _ ho' (he e h1 h2)) i h3
theorem apart_tmp {ops : Array Oper} {x y : Oper} (h : tmpApart ops x y = true) : (∀ d, x.dst = some d → d ∉ looks ops y ∧ y.dst ≠ some d) ∧ ∀ d, y.dst = some d → d ∉ looks ops x := by
  unfold tmpApart at h
  rw [Bool.and_eq_true] at h
  refine ⟨fun d hd => ?_, fun d hd => ?_⟩
  · have h1 := h.1
    rw [hd] at h1
    simp only [Bool.and_eq_true] at h1
    refine ⟨fun hm => ?_, fun hy => ?_⟩
    · have := any_beq.2 hm
      rw [this] at h1; simp at h1
    · have h2 := h1.2
      rw [hy] at h2; simp at h2
  · have h1 := h.2
    rw [hd] at h1
    simp only at h1
    intro hm
    rw [any_beq.2 hm] at h1; simp at h1

/-! ### two renamings -/
def meet (ρ σ : Ren) : Ren := fun b => match σ b with | none => none | some _ => ρ b
theorem meet_some {ρ σ : Ren} {b : Nat} {p : Place} (h : meet ρ σ b = some p) : ρ b = some p ∧ ∃ q, σ b = some q := by
  unfold meet at h
  split at h
  · cases h
  · exact ⟨h, _, ‹_›⟩
theorem meet_of {ρ σ : Ren} {b : Nat} {p q : Place} (h : ρ b = some p) (k : σ b = some q) : meet ρ σ b = some p := by
  unfold meet; rw [k]; exact h
theorem VRel.meet {ρ σ : Ren} {x y : Value} (h : VRel ρ x y) : ∀ {z : Value}, VRel σ x z → VRel (meet ρ σ) x y := by
  induction h with
  | flat h => exact fun _ => .flat h
  | ptr h =>
    intro z k
    cases k with
    | flat k => simp [Am.flat] at k
    | ptr k => exact .ptr (meet_of h k)
  | slice h hn hu hk hv =>
    intro z k
    cases k with
    | flat k => simp [Am.flat] at k
    | slice k _ _ _ _ => exact .slice (meet_of h k) hn hu hk hv
    | vag => exact absurd rfl hv
  | vag =>
    intro z k
    cases k with
    | flat k => simp [Am.flat] at k
    | slice k _ _ _ hv => exact absurd rfl hv
    | vag => exact .vag
  | func h1 _ h3 _ i1 i2 =>
    intro z k
    cases k with
    | flat k => simp [Am.flat] at k
    | func k1 k2 k3 k4 =>
      refine .func h1 (fun i x y hx hy => ?_) h3 (fun i x y hx hy => ?_)
      · have hi := (Array.getElem?_eq_some_iff.1 hx).1
        exact i1 i x y hx hy (k2 i x _ hx (Array.getElem?_eq_getElem (k1 ▸ hi)))
      · have hi := (Array.getElem?_eq_some_iff.1 hx).1
        exact i2 i x y hx hy (k4 i x _ hx (Array.getElem?_eq_getElem (k3 ▸ hi)))
  | agg h1 _ ih =>
    intro z k
    cases k with
    | flat k => simp [Am.flat] at k
    | agg k1 k2 =>
      refine .agg h1 fun i x y hx hy => ?_
      have hi := (Array.getElem?_eq_some_iff.1 hx).1
      exact ih i x y hx hy (k2 i x _ hx (Array.getElem?_eq_getElem (k1 ▸ hi)))
  | tuple h1 _ ih =>
    intro z k
    cases k with
    | flat k => simp [Am.flat] at k
    | tuple k1 k2 =>
      refine .tuple h1 fun i x y hx hy => ?_
      have hi := (Array.getElem?_eq_some_iff.1 hx).1
      exact ih i x y hx hy (k2 i x _ hx (Array.getElem?_eq_getElem (k1 ▸ hi)))
theorem BRel.meet {ρ σ : Ren} {w w2 : World} {B : Nat} {p q : Place} {O : Blk} (h : BRel ρ w B p O) (k : BRel σ w2 B q O) : BRel (meet ρ σ) w B p O := by
  cases O with | cells c sz opn wr =>
  obtain ⟨h1, cc, e, fz, h2, h3, h4⟩ := h
  obtain ⟨_, cc2, _, _, _, k3, _⟩ := k
  exact ⟨h1, cc, e, fz, h2, fun i x hx => let ⟨y, a, b⟩ := h3 i x hx; let ⟨_, _, d⟩ := k3 i x hx; ⟨y, a, b.meet d⟩, h4⟩
theorem TRel.meet {ρ σ : Ren} {Γ : Ctx} {e : List Value} {t : Nat} {oy oz : Option Value} (h : TRel ρ Γ e t oy) (k : TRel σ Γ e t oz) : TRel (meet ρ σ) Γ e t oy := by
  intro i hn
  obtain ⟨x, y, a, b, c⟩ := h i hn
  obtain ⟨x', z, a', b', c'⟩ := k i hn
  rw [a] at a'; injection a' with a'; subst a'
  exact ⟨x, y, a, b, c.meet c'⟩
end Go.Am
