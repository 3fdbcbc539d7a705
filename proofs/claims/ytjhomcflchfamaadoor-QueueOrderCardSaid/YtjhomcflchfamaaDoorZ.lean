/- The machine and its runs: more of the parts above. -/
import Derived.Test.YtjhomcflchfamaaDoorB15
set_option linter.unusedVariables false
set_option linter.unusedSimpArgs false
set_option linter.unusedSectionVars false
namespace Go.Am
open Go
section
variable {μ : Type} [AMem μ] {P : Program} {rec : Nat → List Value → μ → Nat → OR μ}
end
section
variable {μ : Type} [AMem μ] {P : Program} {E : Nat → Option AFn} {Y : Nat → List Value → μ → Nat → OR μ} {e : List Value} {m : μ} {n : Nat}
end
end Go.Am
namespace Go.Am
open Go
theorem wrap_small {z : Int} (h : -9223372036854775808 ≤ z) (h' : z < 9223372036854775808) : IntKind.i64.wrap z = z := wrap_id_i64 h h'
end Go.Am
namespace Go.Am
open Go
end Go.Am
namespace Go.Am
open Go Go.RowKit Go.ChangeShapes
theorem vals_ent {w : World} {sv : Value} {vs : List Value} (h : ValsW w sv vs) (hf : ∀ x ∈ vs, flat x = true) (i : Nat) : ∃ (o : Option Ent) (v : Value), (∀ ρ : Ren, (∀ e, o = some e → ρ i = some e.p) → VRel ρ v sv) ∧ (∀ ρ e, o = some e → EntOk w ρ e) ∧
    ∀ (m : FM) (n : Nat), i < n → (∀ e, o = some e → m i = some (.cells e.cs e.p.sz false false)) → Sl m n v vs := by
  rcases h with ⟨rfl, rfl⟩ | ⟨a, c, rfl, rfl⟩ | ⟨blk, off, cap, cc, ty, fz, rfl, h0, h1, h2, h3, h4⟩
  · exact ⟨none, .slice none 0 0, fun ρ _ => .flat rfl, fun ρ e h => (by cases h), fun m n _ _ => .inl ⟨rfl, rfl⟩⟩
  · refine ⟨none, .slice (some ⟨0, 0, none⟩) 0 VAG, fun ρ _ => .vag, fun ρ e h => (by cases h), fun m n hi _ => .inr (.inr ⟨rfl, rfl, by omega⟩)⟩
  · refine ⟨some ⟨⟨blk, off, cap, 1⟩, vs⟩, .slice (some ⟨i, 0, none⟩) vs.length UNK, fun ρ hρ => ?_, fun ρ e he => ?_, fun m n hi hm => ?_⟩
    · exact VRel.slice (p := ⟨blk, off, cap, 1⟩) (hρ _ rfl) h1 (fun _ => by show 0 + cap * 1 = cap; omega) (fun h => absurd rfl h) (by decide)
    · injection he with he; subst he
      refine ⟨cc, ty, fz, h2, h3, fun j x hx => ?_⟩
      replace hx : vs[j]? = some x := hx
      have hj : j < vs.length := (List.getElem?_eq_some_iff.1 hx).1
      exact ⟨x, (h4 j hj).trans hx, .flat (hf x (List.mem_of_getElem? hx))⟩
    · exact .inr <| .inl ⟨i, 0, UNK, vs, false, false, rfl, hi, hm _ rfl, fun k x hx => by rw [Nat.zero_add]; exact hx⟩
theorem valsW_of_slice {α : Type} [Inhabited α] {w : World} {v : Value} {len : Nat} {F : α → Value} {R : α → Prop} (h : SliceW w 1 (fun l => ∃ x, R x ∧ l = [F x]) v len) : ∃ xs : List α, xs.length = len ∧ (∀ x ∈ xs, R x) ∧ ValsW w v (xs.map F) := by
  rcases h with ⟨rfl, rfl⟩ | ⟨a, c, rfl, rfl⟩ | ⟨blk, off, cap, cc, ty, fz, rfl, h0, h1, h2, h3, h4⟩
  · exact ⟨[], rfl, fun x hx => (by cases hx), .inl ⟨rfl, rfl⟩⟩
  · exact ⟨[], rfl, fun x hx => (by cases hx), .inr (.inl ⟨a, c, rfl, rfl⟩)⟩
  · have h5 : ∀ i, i < len → ∃ x : α, R x ∧ cc[off + i]? = some (F x) := fun i hi => by
      obtain ⟨l, hl, hj, x, hR, rfl⟩ := h4 i hi
      have := hj 0 (by omega)
      rw [Nat.mul_one, Nat.add_zero] at this
      exact ⟨x, hR, this⟩
    have h6 : ∃ f : Nat → α, ∀ i, i < len → R (f i) ∧ cc[off + i]? = some (F (f i)) :=
      ⟨fun i => if h : i < len then Classical.choose (h5 i h) else default, fun i hi => by
        simp only [dif_pos hi]
        exact Classical.choose_spec (h5 i hi)⟩
    obtain ⟨f, hf⟩ := h6
    have hl : ((List.range len).map f).length = len := by simp
    have hl2 : (((List.range len).map f).map F).length = len := by simp
    refine ⟨(List.range len).map f, hl, fun x hx => ?_, .inr (.inr ⟨blk, off, cap, cc, ty, fz, by rw [hl2], by rw [hl2]; exact h0, by rw [hl2]; exact h1, h2, by rw [hl2]; omega, fun i hi => ?_⟩)⟩
    · obtain ⟨i, hi, rfl⟩ := List.mem_map.1 hx
      exact (hf i (List.mem_range.1 hi)).1
    · rw [hl2] at hi
      rw [(hf i hi).2]; simp [hi]
theorem ints_of_trod {H : Type} {enc : TypeId × Value → H} {P : Program} {w : World} {held : Bool} {sp : Nat → Bool} {t e : Nat} {k : IntKind} {fuel : Nat} {cs : List Value} {x : DataW H × List MemPlace} (ht : P.underlying t = some (.slice e)) (he : P.underlying e = some (.int k)) (ce : P.cellsOf e = 1)
    (h : DataW.trod enc P w 0 sp held fuel t cs = some x) : ∃ (v : Value) (xs : List Int), cs = [v] ∧ xs.length ≤ maxLen ∧ (∀ x ∈ xs, (Lit.int k x).wf = true) ∧ ValsW w v (xs.map (Value.int k)) := by
  obtain ⟨v, len, rfl, hlen, hS⟩ := slice_of_trod ht ce (by omega) h
  obtain ⟨xs, h1, h2, h3⟩ := valsW_of_slice (F := Value.int k) (R := fun x => (Lit.int k x).wf = true) (hS.mono fun l hl ⟨n, y, hy⟩ => by
    obtain ⟨z, hz, _, hw⟩ := DataW.trod_int he hy
    exact ⟨z, hw, hz⟩)
  exact ⟨v, xs, rfl, by omega, h2, h3⟩
end Go.Am
namespace Go.Am.C41
open Go Go.Am Go.Am.V Go.RowKit Go.ChangeShapes
set_option maxRecDepth 100000
theorem u22 : PG.underlying 22 = some (.slice 29) := by kernel_rfl
theorem cmdsw_of_trod {H : Type} {enc : TypeId × Value → H} {w : World} {held : Bool} {sp : Nat → Bool} {fuel : Nat} {cs : List Value} {x : DataW H × List MemPlace} (h : DataW.trod enc PG w 0 sp held fuel 22 cs = some x) :
    ∃ v l, cs = [v] ∧ l.length ≤ maxLen ∧ CmdsW w v l := by
  obtain ⟨v, len, rfl, hlen, hS⟩ := slice_of_trod u22 c29 (by omega) h
  rcases hS with ⟨rfl, rfl⟩ | ⟨a, c, rfl, rfl⟩ | ⟨blk, off, cap, cc, ty, fz, rfl, h0, h1, h2, h3, h4⟩
  · exact ⟨_, [], rfl, Nat.zero_le _, .inl ⟨rfl, rfl⟩, fun c h => by cases h⟩
  · exact ⟨_, [], rfl, Nat.zero_le _, .inr (.inl ⟨a, c, rfl, rfl⟩), fun c h => by cases h⟩
  · have h5 : ∀ i, i < len → ∃ c : Cmd × Value, (∀ j, j < 9 → cc[off + i * 9 + j]? = (c.1.cells c.2)[j]?) ∧ c.1.Fit ∧ DatW w c.2 c.1.data := fun i hi => by
      obtain ⟨l, hl, hj, n, y, hy⟩ := h4 i hi
      obtain ⟨c, sv, rfl, hF, hD⟩ := cmd_of_trod hy
      exact ⟨(c, sv), hj, hF, hD⟩
    have h6 : ∃ f : Nat → Cmd × Value, ∀ i, i < len → (∀ j, j < 9 → cc[off + i * 9 + j]? = ((f i).1.cells (f i).2)[j]?) ∧ (f i).1.Fit ∧ DatW w (f i).2 (f i).1.data :=
      ⟨fun i => if h : i < len then Classical.choose (h5 i h) else (⟨0, 0, 0, false, ⟨#[]⟩, ⟨#[]⟩, 0, 0, []⟩, .bool false), fun i hi => by
        simp only [dif_pos hi]
        exact Classical.choose_spec (h5 i hi)⟩
    obtain ⟨f, hf⟩ := h6
    have hl := tbl_len len f
    have hat : ∀ i (h : i < (tbl len f).length), (tbl len f)[i] = f i := fun i h => by
      have := tbl_at f (show i < len by rw [hl] at h; exact h)
      rw [List.getElem?_eq_getElem h] at this
      exact Option.some.inj this
    refine ⟨_, tbl len f, rfl, by rw [hl]; exact hlen, .inr (.inr ⟨blk, off, cap, cc, ty, fz, by rw [hl], by rw [hl]; exact h0, by rw [hl]; exact h1, h2, by rw [hl]; exact h3, fun i hi => ?_⟩), fun c hc => ?_⟩
    · rw [hat i hi]; exact (hf i (by rw [hl] at hi; exact hi)).1
    · obtain ⟨i, hi, rfl⟩ := List.mem_iff_getElem.1 hc
      rw [hat i hi]; exact (hf i (by rw [hl] at hi; exact hi)).2
theorem cmdsw_flat (f : Nat → List Value) (hf : ∀ i, (f i).length = 9) : ∀ (n i : Nat), i < n → ctake (ldrop ((tbl n f).flatten) (0 + i * 9)) 9 = some (f i) := by
  have hl : ∀ n, (tbl n f).flatten.length = n * 9 := fun n => by
    induction n with
    | zero => rfl
    | succ n ih => rw [tbl, List.range_succ, List.map_append, List.flatten_append, List.length_append]; simp only [List.map_cons, List.map_nil, List.flatten_cons, List.flatten_nil, List.append_nil, hf]; rw [show (List.map f (List.range n)).flatten.length = n * 9 from ih]; omega
  intro n i hi
  rw [Nat.zero_add, ldrop_eq, ctake_eq, if_pos (by rw [List.length_drop, hl]; omega)]
  congr 1
  induction n with
  | zero => omega
  | succ n ih =>
    have e : (tbl (n + 1) f).flatten = (tbl n f).flatten ++ f n := by rw [tbl, List.range_succ, List.map_append, List.flatten_append]; simp [tbl]
    rw [e]
    rcases Nat.lt_or_ge i n with h | h
    · rw [List.drop_append_of_le_length (by rw [hl]; omega), List.take_append_of_le_length (by rw [List.length_drop, hl]; omega)]
      exact ih h
    · obtain rfl : i = n := by omega
      have hz : ((tbl i f).flatten ++ f i).drop (i * 9) = f i := by rw [← hl i, List.drop_left]
      rw [hz, List.take_of_length_le (by rw [hf]; exact Nat.le_refl _)]
theorem cmdsw_len (f : Nat → List Value) (hf : ∀ i, (f i).length = 9) (n : Nat) : (tbl n f).flatten.length = n * 9 := by
  induction n with
  | zero => rfl
  | succ n ih => rw [tbl, List.range_succ, List.map_append, List.flatten_append, List.length_append]; simp only [List.map_cons, List.map_nil, List.flatten_cons, List.flatten_nil, List.append_nil, hf]; rw [show (List.map f (List.range n)).flatten.length = n * 9 from ih]; omega
theorem cmdsw_ent {w : World} {sv : Value} {cs : List (Cmd × Value)} (h : CmdsW w sv cs) : ∃ (L : List (Option Ent)) (v : Value) (cs' : List (Cmd × Value)), L.length = 1 + cs.length ∧ cs'.length = cs.length ∧
    (∀ ρ : Ren, (∀ (i : Nat) e, L[i]? = some (some e) → ρ i = some e.p) → VRel ρ v sv ∧ ∀ (i : Nat) e, L[i]? = some (some e) → EntOk w ρ e) ∧
    ∀ (m : FM) (n : Nat), L.length ≤ n → (∀ (i : Nat) e, L[i]? = some (some e) → m i = some (.cells e.cs e.p.sz false false)) → RecsV recC m n v cs' := by
  obtain ⟨h, hall⟩ := h
  have hd : ∀ i, i < cs.length → ∃ (ov : Option Ent × Value), (∀ ρ : Ren, (∀ e, ov.1 = some e → ρ (1 + i) = some e.p) → VRel ρ ov.2 (at2CmdsW cs i)) ∧ (∀ ρ e, ov.1 = some e → EntOk w ρ e) ∧
      ∀ (m : FM) (n : Nat), 1 + i < n → (∀ e, ov.1 = some e → m (1 + i) = some (.cells e.cs e.p.sz false false)) → DatS m n ov.2 (at1CmdsW cs i).data := fun i hi => by
    have hm := hall _ (List.getElem_mem hi)
    have e1 : at1CmdsW cs i = cs[i].1 := by simp [at1CmdsW, hi]
    have e2 : at2CmdsW cs i = cs[i].2 := by simp [at2CmdsW, hi]
    rw [e1, e2]
    obtain ⟨o, v, k1, k2, k3⟩ := dat_ent hm.2 (1 + i)
    exact ⟨(o, v), k1, k2, k3⟩
  have hg : ∃ g : Nat → Option Ent × Value, ∀ i, i < cs.length → (∀ ρ : Ren, (∀ e, (g i).1 = some e → ρ (1 + i) = some e.p) → VRel ρ (g i).2 (at2CmdsW cs i)) ∧ (∀ ρ e, (g i).1 = some e → EntOk w ρ e) ∧
      ∀ (m : FM) (n : Nat), 1 + i < n → (∀ e, (g i).1 = some e → m (1 + i) = some (.cells e.cs e.p.sz false false)) → DatS m n (g i).2 (at1CmdsW cs i).data :=
    ⟨fun i => if h : i < cs.length then Classical.choose (hd i h) else (none, .bool false), fun i hi => by
      simp only [dif_pos hi]
      exact Classical.choose_spec (hd i hi)⟩
  obtain ⟨g, hg⟩ := hg
  have hlc := tbl_len cs.length (fun i => (at1CmdsW cs i, (g i).2))
  have hcm : ∀ i (h : i < (tbl cs.length (fun i => (at1CmdsW cs i, (g i).2))).length), (tbl cs.length (fun i => (at1CmdsW cs i, (g i).2)))[i] = (at1CmdsW cs i, (g i).2) := fun i h => by
    have := tbl_at (fun i => (at1CmdsW cs i, (g i).2)) (show i < cs.length by rw [hlc] at h; exact h)
    rw [List.getElem?_eq_getElem h] at this
    exact Option.some.inj this
  have hfit : ∀ i, i < cs.length → (at1CmdsW cs i).Fit := fun i hi => by
    rw [show at1CmdsW cs i = cs[i].1 by simp [at1CmdsW, hi]]
    exact (hall _ (List.getElem_mem hi)).1
  have build : ∀ (o : Option Ent) (v : Value),
      (∀ ρ : Ren, (∀ e, o = some e → ρ 0 = some e.p) → VRel ρ v sv) →
      (∀ ρ : Ren, (∀ i, i < cs.length → VRel ρ (g i).2 (at2CmdsW cs i)) → ∀ e, o = some e → EntOk w ρ e) →
      (∀ (m : FM) (n : Nat), 0 < n → (∀ e, o = some e → m 0 = some (.cells e.cs e.p.sz false false)) → ∃ a c, v = .slice a (tbl cs.length (fun i => (at1CmdsW cs i, (g i).2))).length c ∧ belowV n v = true ∧ (tbl cs.length (fun i => (at1CmdsW cs i, (g i).2)) = [] ∨ ∃ b o cells opn wr, a = some ⟨b, o, none⟩ ∧ b < n ∧ m b = some (.cells cells 9 opn wr) ∧ ∀ i (h : i < (tbl cs.length (fun i => (at1CmdsW cs i, (g i).2))).length), ctake (ldrop cells (o + i * 9)) 9 = some ((tbl cs.length (fun i => (at1CmdsW cs i, (g i).2)))[i].1.cells (tbl cs.length (fun i => (at1CmdsW cs i, (g i).2)))[i].2))) →
      ∃ (L : List (Option Ent)) (v : Value) (cs' : List (Cmd × Value)), L.length = 1 + cs.length ∧ cs'.length = cs.length ∧
        (∀ ρ : Ren, (∀ (i : Nat) e, L[i]? = some (some e) → ρ i = some e.p) → VRel ρ v sv ∧ ∀ (i : Nat) e, L[i]? = some (some e) → EntOk w ρ e) ∧
        ∀ (m : FM) (n : Nat), L.length ≤ n → (∀ (i : Nat) e, L[i]? = some (some e) → m i = some (.cells e.cs e.p.sz false false)) → RecsV recC m n v cs' := fun o v b1 b2 b3 => by
    have hL0 : (o :: tbl cs.length (fun i => (g i).1))[0]? = some o := rfl
    have hLs : ∀ i, i < cs.length → (o :: tbl cs.length (fun i => (g i).1))[1 + i]? = some (g i).1 := fun i hi => by
      rw [Nat.add_comm, List.getElem?_cons_succ]; exact tbl_at _ hi
    refine ⟨o :: tbl cs.length (fun i => (g i).1), v, tbl cs.length (fun i => (at1CmdsW cs i, (g i).2)), by rw [List.length_cons, tbl_len]; omega, hlc, fun ρ hρ => ?_, fun m n hn hm => ?_⟩
    · have hv : ∀ i, i < cs.length → VRel ρ (g i).2 (at2CmdsW cs i) := fun i hi => (hg i hi).1 ρ fun e he => hρ (1 + i) e (by rw [hLs i hi, he])
      refine ⟨b1 ρ fun e he => hρ 0 e (by rw [hL0, he]), fun i e he => ?_⟩
      match i with
      | 0 => rw [hL0] at he; injection he with he; exact b2 ρ hv e he
      | i + 1 =>
        rw [List.getElem?_cons_succ] at he
        have hi : i < cs.length := by have := (List.getElem?_eq_some_iff.1 he).1; rw [tbl_len] at this; exact this
        rw [tbl_at _ hi] at he
        injection he with he
        exact (hg i hi).2.1 ρ e he
    · rw [List.length_cons, tbl_len] at hn
      refine ⟨b3 m n (by omega) fun e he => hm 0 e (by rw [hL0, he]), fun c hc => ?_⟩
      obtain ⟨i, hi, rfl⟩ := List.mem_iff_getElem.1 hc
      rw [hcm i hi]
      have hi' : i < cs.length := by rw [hlc] at hi; exact hi
      exact ⟨hfit i hi', (hg i hi').2.2 m n (by omega) fun e he => hm (1 + i) e (by rw [hLs i hi', he])⟩
  rcases h with ⟨rfl, rfl⟩ | ⟨a, c, rfl, rfl⟩ | ⟨blk, off, cap, cc, ty, fz, rfl, h0, h1, h2, h3, h4⟩
  · exact build none (.slice none 0 0) (fun ρ _ => .flat rfl) (fun ρ _ e h => (by cases h)) fun m n hn _ => ⟨none, 0, rfl, rfl, .inl rfl⟩
  · exact build none (.slice (some ⟨0, 0, none⟩) 0 VAG) (fun ρ _ => .vag) (fun ρ _ e h => (by cases h)) fun m n hn _ => ⟨_, _, rfl, blt_true (show 0 < n from hn), .inl rfl⟩
  · have hcl : ∀ (f : Nat → Value) (i : Nat), ((at1CmdsW cs i).cells (f i)).length = 9 := fun f i => rfl
    have hfl := cmdsw_len (fun i => (at1CmdsW cs i).cells (g i).2) (hcl _) cs.length
    refine build (some ⟨⟨blk, off, cap * 9, 9⟩, (tbl cs.length (fun i => (at1CmdsW cs i).cells (g i).2)).flatten⟩) (.slice (some ⟨0, 0, none⟩) cs.length UNK) (fun ρ hρ => ?_) (fun ρ hv e he => ?_) fun m n hn hm => ?_
    · exact VRel.slice (p := ⟨blk, off, cap * 9, 9⟩) (hρ _ rfl) h1 (fun _ => by show 0 + cap * 9 = cap * 9; omega) (fun h => absurd rfl h) (by decide)
    · injection he with he; subst he
      refine ⟨cc, ty, fz, h2, by show off + (tbl cs.length (fun i => (at1CmdsW cs i).cells (g i).2)).flatten.length ≤ _; rw [hfl]; exact h3, fun j x hx => ?_⟩
      replace hx : ((tbl cs.length (fun i => (at1CmdsW cs i).cells (g i).2)).flatten)[j]? = some x := hx
      have hj : j < cs.length * 9 := by rw [← hfl]; exact (List.getElem?_eq_some_iff.1 hx).1
      have hq : j / 9 < cs.length := by omega
      have hr : j % 9 < 9 := Nat.mod_lt _ (by omega)
      have ht := cmdsw_flat (fun i => (at1CmdsW cs i).cells (g i).2) (hcl _) cs.length (j / 9) hq
      rw [Nat.zero_add, ldrop_eq, ctake_eq] at ht
      split at ht
      next =>
        injection ht with ht
        have hx2 : ((at1CmdsW cs (j / 9)).cells (g (j / 9)).2)[j % 9]? = some x := by
          rw [← ht, List.getElem?_take, if_pos hr, List.getElem?_drop, show j / 9 * 9 + j % 9 = j by omega]; exact hx
        have hc4 := h4 (j / 9) hq (j % 9) hr
        rw [show off + j / 9 * 9 + j % 9 = off + j by omega] at hc4
        have e1 : at1CmdsW cs (j / 9) = cs[j / 9].1 := by simp [at1CmdsW, hq]
        have e2 : at2CmdsW cs (j / 9) = cs[j / 9].2 := by simp [at2CmdsW, hq]
        rw [← e1, ← e2] at hc4
        have hrel : LRel ρ ((at1CmdsW cs (j / 9)).cells (g (j / 9)).2) ((at1CmdsW cs (j / 9)).cells (at2CmdsW cs (j / 9))) := .cons (.flat rfl) (.cons (.flat rfl) (.cons (.flat rfl) (.cons (.flat rfl) (.cons (.flat rfl) (.cons (.flat rfl) (.cons (.flat rfl) (.cons (.flat rfl) (.cons (hv _ hq) (.nil _)))))))))
        have hlt : j % 9 < ((at1CmdsW cs (j / 9)).cells (at2CmdsW cs (j / 9))).length := hr
        refine ⟨((at1CmdsW cs (j / 9)).cells (at2CmdsW cs (j / 9)))[j % 9], ?_, ?_⟩
        · show cc[off + j]? = _
          rw [hc4, List.getElem?_eq_getElem hlt]
        · exact hrel.2 (j % 9) x _ hx2 (List.getElem?_eq_getElem hlt)
      next => cases ht
    · refine ⟨_, _, by rw [hlc], blt_true (show 0 < n from hn), .inr ⟨0, 0, _, false, false, rfl, hn, hm _ rfl, fun i hi => ?_⟩⟩
      rw [hcm i hi]
      exact cmdsw_flat (fun i => (at1CmdsW cs i).cells (g i).2) (hcl _) cs.length i (by rw [hlc] at hi; exact hi)
end Go.Am.C41
