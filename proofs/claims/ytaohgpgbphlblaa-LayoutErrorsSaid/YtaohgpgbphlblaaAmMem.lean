/- The operations on memory are sound. -/
import Derived.Test.YtaohgpgbphlblaaAmPure
set_option linter.unusedVariables false
set_option linter.unusedSimpArgs false
set_option linter.unusedSectionVars false
namespace Go.Am
open Go Go.RowKit

/-! ### parts laid into cells -/
theorem foldSet (off : Nat) : ∀ (l : List Value) (i : Nat) (A : Array Value), off + i + l.length ≤ A.size →
    ((l.zipIdx i).foldl (fun cs (x : Value × Nat) => cs.setIfInBounds (off + x.2) x.1) A).toList = A.toList.take (off + i) ++ l ++ A.toList.drop (off + i + l.length)
  | [], i, A, _ => by simp
  | v :: l, i, A, h => by
    simp only [List.length_cons] at h
    rw [List.zipIdx_cons, List.foldl_cons, foldSet off l (i + 1) _ (by simp; omega)]
    simp only [Array.toList_setIfInBounds, List.length_cons]
    have e1 : off + (i + 1) = off + i + 1 := by omega
    have e2 : off + i + 1 + l.length = off + i + (l.length + 1) := by omega
    have hlt : off + i < A.toList.length := by simp; omega
    rw [e1, e2, List.drop_set_of_lt (by omega)]
    have : List.take (off + i + 1) (A.toList.set (off + i) v) = List.take (off + i) A.toList ++ [v] := by
      rw [List.take_add_one, List.take_set_of_le (Nat.le_refl _), List.getElem?_set_self hlt]; rfl
    rw [this]; simp

theorem fill_sound {ρ : Ren} {place : Nat → Option (Nat × Nat)} : ∀ (ps : List (Nat × Nat × Value)) (qs : List (Nat × Value)) (c d : List Value) (c' : Array Value),
    ps.length = qs.length → (∀ (k : Nat) p q, ps[k]? = some p → qs[k]? = some q → place q.1 = some (p.1, p.2.1) ∧ VRel ρ p.2.2 q.2) → LRel ρ c c'.toList → fillA ps c = some d →
    ∃ d', Instr.fill place c' qs = some d' ∧ LRel ρ d d'.toList
  | [], [], c, d, c', _, _, hc, h => by
    have h : some c = some d := h
    injection h with h; subst h
    exact ⟨c', rfl, hc⟩
  | [], _ :: _, _, _, _, h, _, _, _ => by simp at h
  | _ :: _, [], _, _, _, h, _, _, _ => by simp at h
  | (off, sz, v) :: ps, (i, v') :: qs, c, d, c', hl, hr, hc, h => by
    have h : cond (Nat.beq (llen v.cells.toList) sz) (Option.rec (motive := fun _ => Option (List Value)) none (fillA ps) (setCells c off v.cells.toList)) none = some d := h
    obtain ⟨hp, hv⟩ := hr 0 _ _ rfl rfl
    cases hb : Nat.beq (llen v.cells.toList) sz
    · simp [hb] at h
    · rw [hb, cond_true] at h
      have hb : v.cells.toList.length = sz := by rw [← llen_eq]; exact Nat.eq_of_beq_eq_true hb
      cases hs : setCells c off v.cells.toList with
      | none => rw [hs] at h; cases h
      | some c1 =>
        rw [hs] at h
        have h : fillA ps c1 = some d := h
        have hcl := hv.cells
        have hsz : v'.cells.size = sz := by have := hcl.1; simp at this hb; omega
        rw [setCells_eq] at hs
        split at hs
        · rename_i hle
          injection hs with hs
          have hcs : c'.size = c.length := by have := hc.1; simpa using this.symm
          have hle' : off + v'.cells.size ≤ c'.size := by simp at hb hle; omega
          have hfs := foldSet off v'.cells.toList 0 c' (by simpa using hle')
          have ih := fill_sound (ρ := ρ) (place := place) ps qs c1 d ((v'.cells.zipIdx).foldl (fun cs x => cs.setIfInBounds (off + x.2) x.1) c') (by simpa using hl)
            (fun k p q hp hq => hr (k + 1) p q (by simpa using hp) (by simpa using hq))
            (by
              have e : ((v'.cells.zipIdx).foldl (fun cs x => cs.setIfInBounds (off + x.2) x.1) c').toList = c'.toList.take off ++ v'.cells.toList ++ c'.toList.drop (off + v'.cells.toList.length) := by
                rw [← Array.foldl_toList, Array.toList_zipIdx]
                simpa using hfs
              rw [e, ← hs]
              have hl2 : v.cells.toList.length = v'.cells.toList.length := hcl.1
              refine .append (.append ⟨by simp; omega, fun j x y hx hy => ?_⟩ hcl) ⟨by simp at hl2 ⊢; omega, fun j x y hx hy => ?_⟩
              · rw [List.getElem?_take] at hx hy
                split at hx
                · rw [if_pos ‹_›] at hy; exact hc.2 j x y hx hy
                · cases hx
              · rw [List.getElem?_drop] at hx hy
                rw [← hl2] at hy
                exact hc.2 _ x y hx hy) h
          obtain ⟨d', h1, h2⟩ := ih
          refine ⟨d', ?_, h2⟩
          unfold Instr.fill
          simp only [hp]
          rw [if_neg (by simp [hsz]; omega)]
          exact h1
        · cases hs

section
variable {P : Program} {ρ : Ren} {Γ : Ctx} {e : List Value} {a : Act}
theorem partsOk_sound (he : EnvRel ρ Γ e a.tmps) {place : Nat → Option (Nat × Nat)} : ∀ {as : List (Nat × Operand)} {bs : List (Nat × Nat × Opd)}, partsOk Γ place as bs = true →
    (parts3 e bs).length = (as.map fun p => (p.1, a.eval p.2)).length ∧
    ∀ (k : Nat) p q, (parts3 e bs)[k]? = some p → (as.map fun p => (p.1, a.eval p.2))[k]? = some q → place q.1 = some (p.1, p.2.1) ∧ VRel ρ p.2.2 q.2
  | [], [], _ => ⟨rfl, fun k p q h => by simp [parts3] at h⟩
  | [], _ :: _, h => by cases h
  | _ :: _, [], h => by cases h
  | (i, x) :: as, (off, sz, y) :: bs, h => by
    simp only [partsOk, Bool.and_eq_true] at h
    obtain ⟨⟨h1, h2⟩, h3⟩ := h
    have ih := partsOk_sound he h3
    refine ⟨by show (parts3 e bs).length + 1 = _; rw [ih.1]; rfl, fun k p q hp hq => ?_⟩
    cases k with
    | zero =>
      have hp : some (off, sz, ev e y) = some p := hp
      have hq : some (i, a.eval x) = some q := hq
      injection hp with hp; injection hq with hq; subst hp; subst hq
      split at h1
      · simp at h1; rename_i hpl; refine ⟨?_, opd_sound he h2⟩; rw [hpl, h1.1, h1.2]
      · cases h1
    | succ k => exact ih.2 k p q hp hq
theorem parts2Ok_sound (he : EnvRel ρ Γ e a.tmps) (sz : Nat) : ∀ {as : List (Nat × Operand)} {bs : List (Nat × Opd)}, parts2Ok Γ as bs = true →
    (parts2 sz e bs).length = (as.map fun p => (p.1, a.eval p.2)).length ∧
    ∀ (k : Nat) p q, (parts2 sz e bs)[k]? = some p → (as.map fun p => (p.1, a.eval p.2))[k]? = some q → (fun i => some (i * sz, sz)) q.1 = some (p.1, p.2.1) ∧ VRel ρ p.2.2 q.2
  | [], [], _ => ⟨rfl, fun k p q h => by simp [parts2] at h⟩
  | [], _ :: _, h => by cases h
  | _ :: _, [], h => by cases h
  | (i, x) :: as, (j, y) :: bs, h => by
    simp only [parts2Ok, Bool.and_eq_true] at h
    obtain ⟨⟨h1, h2⟩, h3⟩ := h
    have h1 : i = j := by simpa using h1
    subst h1
    have ih := parts2Ok_sound he sz h3
    refine ⟨by show (parts2 sz e bs).length + 1 = _; rw [ih.1]; rfl, fun k p q hp hq => ?_⟩
    cases k with
    | zero =>
      have hp : some (i * sz, sz, ev e y) = some p := hp
      have hq : some (i, a.eval x) = some q := hq
      injection hp with hp; injection hq with hq; subst hp; subst hq
      exact ⟨rfl, opd_sound he h2⟩
    | succ k => exact ih.2 k p q hp hq
end

theorem flats_rel (ρ : Ren) {z : List Value} (h : z.all flat = true) : LRel ρ z z :=
  ⟨rfl, fun i x y hx hy => by
    rw [hx] at hy; injection hy with hy; subst hy
    rw [List.all_eq_true] at h
    exact .flat (h x (List.mem_of_getElem? hx))⟩

/-! ### slices of slices -/
theorem not_blt {a b : Nat} (h : Nat.blt a b = false) : ¬ a < b := by
  intro hh
  have : Nat.blt a b = true := by simpa [Nat.blt_eq] using hh
  rw [this] at h; cases h

/-- an optional bound: not there, and the default; or there -/
def BRelO (d l : Nat) (x' : Option Value) : Prop := (x' = none ∧ l = d) ∨ ∃ k, x' = some (.int k (Int.ofNat l))
theorem optInt_rel {ρ : Ren} {d l : Nat} {x x' : Option Value} (hx : (x = none ∧ x' = none) ∨ ∃ y y', x = some y ∧ x' = some y' ∧ VRel ρ y y') (h : optInt d x = some l) : BRelO d l x' := by
  rcases hx with ⟨rfl, rfl⟩ | ⟨y, y', rfl, rfl, hr⟩
  · injection h with h; exact .inl ⟨rfl, h.symm⟩
  · unfold optInt at h
    split at h
    · rename_i e; cases e
    · rename_i k n e; injection e with e; injection h with h; subst h; subst e
      exact .inr ⟨k, by rw [hr.flat_eq rfl]⟩
    · cases h

theorem run_bounds {P : Program} {w : World} {len cap l h : Nat} {lo' hi' : Option Value} (hlo : BRelO 0 l lo') (hhi : BRelO len h hi') (hl : l ≤ h) (hh : h ≤ cap) :
    (Instr.sliceBounds true len cap lo' hi' none).run P w = .ok (l, h, cap) w := by
  rcases hlo with ⟨rfl, rfl⟩ | ⟨k, rfl⟩ <;> rcases hhi with ⟨rfl, rfl⟩ | ⟨k', rfl⟩ <;> simp [Instr.sliceBounds, Instr.sliceBound, asIntOf, hl, hh]

theorem slcV_sound {P : Program} {w : World} {ρ : Ren} {t el sz : Nat} {ti : TypeInfo} {x x' v : Value} {lo hi lo' hi' : Option Value} (ht : P.underlying t = some (.slice el)) (hti : P.info? el = some ti) (hz : ti.size = sz)
    (hlo : (lo = none ∧ lo' = none) ∨ ∃ y y', lo = some y ∧ lo' = some y' ∧ VRel ρ y y') (hhi : (hi = none ∧ hi' = none) ∨ ∃ y y', hi = some y ∧ hi' = some y' ∧ VRel ρ y y')
    (hsz : ∀ b o n p, x = .slice (some ⟨b, o, none⟩) n UNK → ρ b = some p → p.sz = sz) (hx : VRel ρ x x') (h : slcV sz lo hi x = some v) : ∃ v', (Instr.sliceAt t x' lo' hi' none).run P w = .ok v' w ∧ VRel ρ v v' := by
  have go : ∀ (a : Option Addr) (len cap l h : Nat), l ≤ h → h ≤ len → len ≤ cap → optInt 0 lo = some l → optInt len hi = some h →
      (Instr.sliceAt t (.slice a len cap) lo' hi' none).run P w = .ok (.slice (if cap = l then a else a.map (·.add (l * sz))) (h - l) (cap - l)) w := by
    intro a len cap l h h1 h2 h3 h4 h5
    simp [Instr.sliceAt, run_underlying ht, Instr.slice, run_bounds (P := P) (w := w) (cap := cap) (optInt_rel hlo h4) (optInt_rel hhi h5) h1 (by omega), run_sizeOf hti, hz]
  unfold slcV at h
  split at h
  · rename_i a len cap
    split at h
    · rename_i l hh hlo1 hhi1
      cases hb : (Nat.ble l hh && Nat.ble hh len)
      · simp [hb] at h
      · simp only [hb, cond_true] at h
        simp only [Bool.and_eq_true, Nat.ble_eq] at hb
        obtain ⟨hb1, hb2⟩ := hb
        unfold slcA at h
        split at h
        · rename_i b o
          cases hvag : Nat.beq cap VAG
          · rw [hvag, cond_false] at h
            have hnv : cap ≠ VAG := by intro e; subst e; simp at hvag
            cases hx with
            | flat hf => simp [flat] at hf
            | vag => exact absurd rfl hnv
            | slice hp hn hu hk hv =>
              rename_i c' p
              refine ⟨_, go _ _ _ _ _ hb1 hb2 hn hlo1 hhi1, ?_⟩
              have moved : l < c' ∨ l = 0 → (if c' = l then (some ⟨p.blk, p.base + o, none⟩ : Option Addr) else (some (⟨p.blk, p.base + o, none⟩ : Addr)).map (·.add (l * sz))) = some ⟨p.blk, p.base + (o + l * sz), none⟩ := by
                intro hl
                by_cases e : c' = l
                · have e0 : l = 0 := by omega
                  rw [if_pos e, e0]; simp
                · rw [if_neg e]; simp only [Option.map_some, addr_add, Nat.add_assoc]
              cases hunk : Nat.beq cap UNK
              · rw [hunk, cond_false] at h
                have hnu : cap ≠ UNK := by intro e; subst e; simp at hunk
                have hc := hk hnu
                subst hc
                cases hcu : Nat.blt c' UNK
                · simp [hcu] at h
                rw [hcu, cond_true] at h
                have hcu : c' < UNK := by simpa [Nat.blt_eq] using hcu
                cases hlt : (Nat.blt l c' || Nat.beq l 0)
                · rw [hlt, cond_false] at h
                  injection h with h; subst h
                  simp only [Bool.or_eq_false_iff] at hlt
                  have h1 : ¬ l < c' := not_blt hlt.1
                  have e1 : hh - l = 0 := by omega
                  rw [e1]
                  split
                  · exact .vag
                  · simp only [Option.map_some, addr_add]; exact .vag
                · rw [hlt, cond_true] at h
                  injection h with h; subst h
                  rw [Bool.or_eq_true, Nat.blt_eq] at hlt
                  have hl0 : l < c' ∨ l = 0 := hlt.imp id (fun e => Nat.eq_of_beq_eq_true e)
                  rw [moved hl0]
                  refine .slice hp (show hh - l ≤ c' - l by omega) (fun e => ?_) (fun _ => rfl) (fun e => ?_)
                  rotate_left
                  · have e : c' - l = VAG := e
                    have : VAG = UNK + 1 := rfl
                    omega
                  have e : c' - l = UNK := e
                  omega
              · rw [hunk, cond_true] at h
                have hcu : cap = UNK := Nat.eq_of_beq_eq_true hunk
                cases hlt : (Nat.blt l len || Nat.beq l 0)
                · rw [hlt, cond_false] at h
                  injection h with h; subst h
                  simp only [Bool.or_eq_false_iff] at hlt
                  have h1 : ¬ l < len := not_blt hlt.1
                  have e1 : hh - l = 0 := by omega
                  rw [e1]
                  split
                  · exact .vag
                  · simp only [Option.map_some, addr_add]; exact .vag
                · rw [hlt, cond_true] at h
                  injection h with h; subst h
                  rw [Bool.or_eq_true, Nat.blt_eq] at hlt
                  have hl0 : l < c' ∨ l = 0 := by
                    rcases hlt with e | e
                    · left; omega
                    · right; exact Nat.eq_of_beq_eq_true e
                  rw [moved hl0]
                  refine .slice hp (show hh - l ≤ c' - l by omega) (fun _ => ?_) (fun e => absurd rfl e) (by decide)
                  have e3 := hu hcu
                  have e4 := hsz b o len p (by rw [hcu]) hp
                  show o + l * sz + (c' - l) * p.sz = p.cap
                  rw [e4] at e3 ⊢
                  rw [← e3, Nat.add_assoc, ← Nat.add_mul]
                  congr 2; omega
          · rw [hvag, cond_true] at h
            injection h with h; subst h
            have hcv : cap = VAG := Nat.eq_of_beq_eq_true hvag
            subst hcv
            cases hx with
            | flat hf => simp [flat] at hf
            | vag =>
              rename_i c' a'
              refine ⟨_, go _ _ _ _ _ hb1 hb2 (Nat.zero_le _) hlo1 hhi1, ?_⟩
              have e0 : hh - l = 0 := by omega
              rw [e0]; split
              · exact .vag
              · simp only [Option.map_some, addr_add]; exact .vag
            | slice hp hn hu hk hv =>
              exact absurd rfl hv
        · cases hb : (Nat.beq len 0 && Nat.beq cap 0)
          · simp [hb] at h
          · rw [hb, cond_true] at h
            injection h with h; subst h
            rw [Bool.and_eq_true] at hb
            have e1 : len = 0 := Nat.eq_of_beq_eq_true hb.1
            have e2 : cap = 0 := Nat.eq_of_beq_eq_true hb.2
            subst e1; subst e2
            have e := hx.flat_eq rfl
            subst e
            refine ⟨_, go _ _ _ _ _ hb1 hb2 (Nat.le_refl _) hlo1 hhi1, ?_⟩
            have e3 : hh = 0 := by omega
            have e4 : l = 0 := by omega
            subst e3; subst e4
            exact .flat rfl
        · cases h
    · cases h
  · cases h
end Go.Am
