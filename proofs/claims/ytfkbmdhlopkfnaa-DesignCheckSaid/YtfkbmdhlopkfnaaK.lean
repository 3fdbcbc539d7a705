/- The machine and its runs, part K: AmArgs Am07soc. -/
import Derived.Deep.Matrix
import Derived.Test.YtfkbmdhlopkfnaaZ
import Derived.Test.YtfkbmdhlopkfnaaB16
set_option linter.unusedVariables false
set_option linter.unusedSimpArgs false
set_option linter.unusedSectionVars false
namespace Go.Am
open Go Go.Am.V Go.RowKit
theorem Env.topW {P : Program} {tab : List (Nat × AFn)} {Y : Nat → List Value → FM → Nat → OR FM} {Yf : FCal} (h : Env P tab Y Yf) {f : Nat} {args : List Value} {m0 m : FM} {n0 n r wm : Nat} (hrun : callW P (look tab) Y f args m0 n0 = .ok (.bool true) m n r wm)
    {ρ : Ren} {w : World} {args' : Array Value} (ha : LRel ρ args args'.toList) (hm : MRel ρ m0 w w.heap.size) (hf : Free ρ n0) :
    Calls P f args' w fun e w' => e = .returned (.bool true) ∧ Below w.heap.size w w' := by
  obtain ⟨k, hk⟩ := call_rch f args m0 n0 _ _ _ _ _ hrun
  obtain ⟨_, hc⟩ := h.calls k f args m0 n0 (.bool true) m n r wm (hk k (Nat.le_refl _)) ρ m0 w w.heap.size (Nat.lor r wm) args' ha (Sub.refl _) (fun b hb _ => rfl) hm hf
  refine hc.mono fun e w' hh => ?_
  obtain ⟨ρ', v', rfl, hv, hp⟩ := hh
  rw [hv.flat_eq rfl]
  exact ⟨rfl, hp.below⟩
def IntsW (w : World) (v : Value) (xs : List Int) : Prop :=
  (v = .slice none 0 0 ∧ xs = []) ∨ (∃ a' c', v = .slice (some a') 0 c' ∧ xs = []) ∨ ∃ (blk off cap : Nat) (cc : Array Value) (e : TypeId) (fz : Nat × Nat), v = .slice (some ⟨blk, off, none⟩) xs.length cap ∧ 0 < xs.length ∧ w.heap[blk]? = some (.cells cc e fz) ∧ xs.length ≤ cap ∧ off + xs.length ≤ cc.size ∧ ∀ (i : Nat) x, xs[i]? = some x → cc[off + i]? = some (.int .i64 x)
def RowsW (w : World) (v : Value) (gs : List (List Int)) : Prop :=
  (v = .slice none 0 0 ∧ gs = []) ∨ (∃ a' c', v = .slice (some a') 0 c' ∧ gs = []) ∨ ∃ (blk off cap : Nat) (cc : Array Value) (e : TypeId) (fz : Nat × Nat) (vs : List Value), v = .slice (some ⟨blk, off, none⟩) vs.length cap ∧ w.heap[blk]? = some (.cells cc e fz) ∧ vs.length ≤ cap ∧ off + vs.length ≤ cc.size ∧ vs.length = gs.length ∧ (∀ (i : Nat) x, vs[i]? = some x → cc[off + i]? = some x) ∧ ∀ (i : Nat) x g, vs[i]? = some x → gs[i]? = some g → IntsW w x g
def plOf : Value → Option Place
  | .slice (some ⟨b, o, none⟩) (_ + 1) c => some ⟨b, o, c, 1⟩
  | _ => none
def fvOf (i : Nat) : Value → Value
  | .slice (some ⟨_, _, none⟩) (l + 1) _ => .slice (some ⟨i + 1, 0, none⟩) (l + 1) UNK
  | .slice (some _) 0 _ => .slice (some ⟨0, 0, none⟩) 0 VAG
  | v => v
theorem plOf_pos {b o l c : Nat} (h : 0 < l) : plOf (.slice (some ⟨b, o, none⟩) l c) = some ⟨b, o, c, 1⟩ := by
  cases l with
  | zero => omega
  | succ l => rfl
theorem fvOf_pos {i b o l c : Nat} (h : 0 < l) : fvOf i (.slice (some ⟨b, o, none⟩) l c) = .slice (some ⟨i + 1, 0, none⟩) l UNK := by
  cases l with
  | zero => omega
  | succ l => rfl
theorem fvOf_emp {i c : Nat} (a : Addr) : fvOf i (.slice (some a) 0 c) = .slice (some ⟨0, 0, none⟩) 0 VAG := by
  obtain ⟨b, o, sp⟩ := a
  cases sp <;> rfl
theorem plOf_emp {c : Nat} (a : Addr) : plOf (.slice (some a) 0 c) = none := by
  obtain ⟨b, o, sp⟩ := a
  cases sp <;> rfl
def rowsRen (p : Place) (vs : List Value) : Ren
  | 0 => some p
  | i + 1 => (vs[i]?).bind plOf
def rowsMem (vs : List Value) (gs : List (List Int)) : FM
  | 0 => some (.cells (vs.mapIdx fvOf) 1 false false)
  | i + 1 => (gs[i]?).map fun g => .cells (g.map (Value.int .i64)) 1 false false
theorem rows_world {w : World} {v : Value} {gs : List (List Int)} (h : RowsW w v gs) : ∃ (ρ : Ren) (m0 : FM) (n0 : Nat) (gv : Value), Rows m0 n0 gv gs ∧ VRel ρ gv v ∧ MRel ρ m0 w w.heap.size ∧ Free ρ n0 := by
  rcases h with ⟨rfl, rfl⟩ | ⟨a', c', rfl, rfl⟩ | ⟨blk, off, cap, cc, e, fz, vs, rfl, hh, hcap, hsz, hlen, hcells, hrows⟩
  · exact ⟨fun _ => none, FM0, 0, .slice none 0 0, ⟨[], .inl ⟨rfl, rfl⟩, rfl, fun i x g hx => by simp at hx⟩, .flat rfl, mrel_none w, fun _ _ => rfl⟩
  · exact ⟨fun _ => none, FM0, 1, .slice (some ⟨0, 0, none⟩) 0 VAG, ⟨[], .inr (.inr ⟨rfl, rfl, by omega⟩), rfl, fun i x g hx => by simp at hx⟩, .vag, mrel_none w, fun _ _ => rfl⟩
  have hlt : ∀ {b : Nat} {x}, w.heap[b]? = some x → b < w.heap.size := fun hb => (Array.getElem?_eq_some_iff.1 hb).1
  have hget : ∀ (i : Nat) x, (vs.mapIdx fvOf)[i]? = some x → ∃ y, vs[i]? = some y ∧ x = fvOf i y := fun i x hx => by
    rw [List.getElem?_mapIdx] at hx
    cases hy : vs[i]? with
    | none => rw [hy] at hx; cases hx
    | some y => rw [hy] at hx; injection hx with hx; exact ⟨y, rfl, hx.symm⟩
  have hg : ∀ (i : Nat) y, vs[i]? = some y → ∃ g, gs[i]? = some g ∧ IntsW w y g := fun i y hy => by
    have hi : i < gs.length := by have := (List.getElem?_eq_some_iff.1 hy).1; omega
    exact ⟨gs[i], List.getElem?_eq_getElem hi, hrows i y _ hy (List.getElem?_eq_getElem hi)⟩
  refine ⟨rowsRen ⟨blk, off, cap, 1⟩ vs, rowsMem vs gs, vs.length + 1, .slice (some ⟨0, 0, none⟩) vs.length UNK, ⟨vs.mapIdx fvOf, ?_, ?_, ?_⟩, ?_, ⟨?_, ?_, ?_, Nat.le_refl _⟩, ?_⟩
  · exact .inr <| .inl ⟨0, 0, UNK, vs.mapIdx fvOf, false, false, by rw [List.length_mapIdx], by omega, rfl, fun i x hx => by rw [Nat.zero_add]; exact hx⟩
  · rw [List.length_mapIdx]; exact hlen
  · intro i x g hx hgi
    obtain ⟨y, hy, rfl⟩ := hget i x hx
    rcases hrows i y g hy hgi with ⟨rfl, rfl⟩ | ⟨a', c', rfl, rfl⟩ | ⟨b, o, c, cc', e', fz', rfl, k0, k1, k2, k3, k4⟩
    · exact .inl ⟨rfl, rfl⟩
    · exact .inr (.inr ⟨fvOf_emp a', rfl, by omega⟩)
    · refine .inr <| .inl ⟨i + 1, 0, UNK, g.map (Value.int .i64), false, false, by rw [List.length_map]; exact fvOf_pos k0, ?_, ?_, fun j z hz => by rw [Nat.zero_add]; exact hz⟩
      · have := (List.getElem?_eq_some_iff.1 hy).1; omega
      · show (gs[i]?).map _ = _
        rw [hgi]; rfl
  · exact VRel.slice (ρ := rowsRen ⟨blk, off, cap, 1⟩ vs) (b := 0) (o := 0) (p := ⟨blk, off, cap, 1⟩) rfl hcap (fun _ => by show 0 + cap * 1 = cap; omega) (fun h => absurd rfl h) (by decide)
  · intro b p O hp hO
    cases b with
    | zero =>
      injection hp with hp; subst hp
      injection hO with hO; subst hO
      refine ⟨rfl, cc, e, fz, hh, ?_, fun h => absurd h (by decide), fun h => absurd h (by decide), by rw [List.length_mapIdx]; exact hsz⟩
      intro i x hx
      obtain ⟨y, hy, rfl⟩ := hget i x hx
      refine ⟨y, hcells i y hy, ?_⟩
      obtain ⟨g, hgi, hy2⟩ := hg i y hy
      rcases hy2 with ⟨rfl, rfl⟩ | ⟨a', c', rfl, rfl⟩ | ⟨b, o, c, cc', e', fz', rfl, k0, k1, k2, k3, k4⟩
      · exact .flat rfl
      · rw [fvOf_emp]; exact .vag
      · rw [fvOf_pos k0]
        exact VRel.slice (ρ := rowsRen ⟨blk, off, cap, 1⟩ vs) (b := i + 1) (o := 0) (p := ⟨b, o, c, 1⟩) (by show (vs[i]?).bind plOf = _; rw [hy]; exact plOf_pos k0) k2 (fun _ => by show 0 + c * 1 = c; omega) (fun h => absurd rfl h) (by decide)
    | succ i =>
      replace hp : (vs[i]?).bind plOf = some p := hp
      replace hO : (gs[i]?).map _ = some O := hO
      cases hy : vs[i]? with
      | none => rw [hy] at hp; cases hp
      | some y =>
        obtain ⟨g, hgi, hy2⟩ := hg i y hy
        rw [hy] at hp
        rw [hgi] at hO
        injection hO with hO; subst hO
        rcases hy2 with ⟨rfl, rfl⟩ | ⟨a', c', rfl, rfl⟩ | ⟨b, o, c, cc', e', fz', rfl, k0, k1, k2, k3, k4⟩
        · cases hp
        · replace hp : plOf (.slice (some a') 0 c') = some p := hp
          rw [plOf_emp] at hp; cases hp
        · replace hp : plOf (.slice (some ⟨b, o, none⟩) _ c) = some p := hp
          rw [plOf_pos k0] at hp
          injection hp with hp; subst hp
          refine ⟨rfl, cc', e', fz', k1, ?_, fun h => absurd h (by decide), fun h => absurd h (by decide), by rw [List.length_map]; exact k3⟩
          intro j x hx
          rw [List.getElem?_map] at hx
          cases hz : g[j]? with
          | none => rw [hz] at hx; cases hx
          | some z => rw [hz] at hx; injection hx with hx; subst hx; exact ⟨_, k4 j z hz, .flat rfl⟩
  · intro b1 b2 p1 p2 O1 O2 _ _ hO1 _ _ hw
    cases b1 with
    | zero => injection hO1 with hO1; subst hO1; cases hw
    | succ i =>
      replace hO1 : (gs[i]?).map _ = some O1 := hO1
      cases hgi : gs[i]? with
      | none => rw [hgi] at hO1; cases hO1
      | some g => rw [hgi] at hO1; injection hO1 with hO1; subst hO1; cases hw
  · intro b p hp
    cases b with
    | zero => injection hp with hp; subst hp; exact hlt hh
    | succ i =>
      replace hp : (vs[i]?).bind plOf = some p := hp
      cases hy : vs[i]? with
      | none => rw [hy] at hp; cases hp
      | some y =>
        obtain ⟨g, hgi, hy2⟩ := hg i y hy
        rw [hy] at hp
        rcases hy2 with ⟨rfl, rfl⟩ | ⟨a', c', rfl, rfl⟩ | ⟨b, o, c, cc', e', fz', rfl, k0, k1, k2, k3, k4⟩
        · cases hp
        · replace hp : plOf (.slice (some a') 0 c') = some p := hp
          rw [plOf_emp] at hp; cases hp
        · replace hp : plOf (.slice (some ⟨b, o, none⟩) _ c) = some p := hp
          rw [plOf_pos k0] at hp
          injection hp with hp; subst hp; exact hlt k1
  · intro b hb
    cases b with
    | zero => omega
    | succ i => show (vs[i]?).bind plOf = none; rw [List.getElem?_eq_none (by omega)]; rfl
end Go.Am
namespace Go.Am
open Go Go.RowKit Go.Deep Go.ChangeShapes
theorem cells_row {w : World} {a : Addr} {n : Nat} {f : Nat → Value} (h0 : 0 < n) (h : ∀ i, i < n → w.cell? (a.add i) = some (f i)) :
    ∃ (blk off : Nat) (cc : Array Value) (e : TypeId) (fz : Nat × Nat), a = ⟨blk, off, none⟩ ∧ w.heap[blk]? = some (.cells cc e fz) ∧ off + n ≤ cc.size ∧ ∀ i, i < n → cc[off + i]? = some (f i) := by
  obtain ⟨blk, off, spot⟩ := a
  have ha : ∀ i, (Addr.add ⟨blk, off, spot⟩ i).block = blk ∧ (Addr.add ⟨blk, off, spot⟩ i).off = off + i := fun i => by
    unfold Addr.add
    by_cases hi : i = 0
    · rw [if_pos hi, hi]; exact ⟨rfl, rfl⟩
    · rw [if_neg hi]; exact ⟨rfl, rfl⟩
  have hc := h 0 h0
  have hadd : Addr.add ⟨blk, off, spot⟩ 0 = ⟨blk, off, spot⟩ := by unfold Addr.add; rw [if_pos rfl]
  rw [hadd] at hc
  unfold World.cell? at hc
  split at hc
  · rename_i cc e fz hh
    replace hh : w.heap[blk]? = some (.cells cc e fz) := hh
    cases spot with
    | some s => simp at hc
    | none =>
      have hall : ∀ i, i < n → cc[off + i]? = some (f i) := fun i hi => by
        have hci := h i hi
        unfold World.cell? at hci
        rw [(ha i).1, hh, (ha i).2] at hci
        replace hci : (if (Addr.add ⟨blk, off, none⟩ i).spot.isSome then none else cc[off + i]?) = some (f i) := hci
        split at hci
        · cases hci
        · exact hci
      refine ⟨blk, off, cc, e, fz, rfl, hh, ?_, hall⟩
      have := (Array.getElem?_eq_some_iff.1 (hall (n - 1) (by omega))).1
      omega
  · cases hc
theorem rows_of_trod {H : Type} {enc : TypeId × Value → H} {P : Program} {w : World} {held : Bool} {t e q : TypeId} {fuel : Nat} {cs : List Value} {x : DataW H × List MemPlace} (ht : P.underlying t = some (.slice e)) (he : P.underlying e = some (.slice q)) (hq : P.underlying q = some (.int .i64))
    (ce : P.cellsOf e = 1) (cq : P.cellsOf q = 1) (h : DataW.trod enc P w 0 (fun _ => true) held fuel t cs = some x) : ∃ v gs, cs = [v] ∧ RowsW w v gs := by
  rcases open_int_rows ht he hq ce cq h with ⟨hcs, _⟩ | ⟨a, len, cap, A, L, C, Z, hcs, _, hl, hm, _, hrows⟩
  · exact ⟨_, [], hcs, .inl ⟨rfl, rfl⟩⟩
  · by_cases hlen : len = 0
    · subst hlen
      exact ⟨_, [], hcs, .inr (.inl ⟨a, cap, rfl, rfl⟩)⟩
    · obtain ⟨blk, off, cc, et, fz, rfl, hh, hsz, hcell⟩ := cells_row (n := cap) (f := fun r => .slice (A r) (L r) (C r)) (by omega) (fun r hr => (hrows r hr).1)
      have hvl : ((List.range len).map fun r => Value.slice (A r) (L r) (C r)).length = len := by simp
      refine ⟨_, (List.range len).map fun r => (Z r).take (L r), hcs, .inr (.inr ⟨blk, off, cap, cc, et, fz, (List.range len).map fun r => .slice (A r) (L r) (C r), by rw [hvl], hh, by rw [hvl]; exact hl, by rw [hvl]; omega, by simp, ?_, ?_⟩)⟩
      · intro i y hy
        rw [List.getElem?_map] at hy
        have hi : i < len := by
          rcases Nat.lt_or_ge i len with h | h
          · exact h
          · rw [List.getElem?_eq_none (by simpa using h)] at hy; cases hy
        rw [List.getElem?_range hi] at hy
        injection hy with hy; subst hy
        exact hcell i (by omega)
      · intro i y g hy hg
        have hi : i < len := by
          rcases Nat.lt_or_ge i len with h | h
          · exact h
          · rw [List.getElem?_map, List.getElem?_eq_none (by simpa using h)] at hy; cases hy
        rw [List.getElem?_map, List.getElem?_range hi] at hy hg
        injection hy with hy; subst hy
        injection hg with hg; subst hg
        obtain ⟨_, k1, k2, k3, k4, k5, k6⟩ := hrows i (by omega)
        cases hA : A i with
        | none =>
          have hC := k5 hA
          have hL : L i = 0 := by omega
          have hZ : Z i = [] := List.length_eq_zero_iff.1 (by omega)
          exact .inl ⟨by show Value.slice (A i) (L i) (C i) = _; rw [hA, hL, hC], by simp [hZ]⟩
        | some a' =>
          by_cases hL : L i = 0
          · exact .inr (.inl ⟨a', C i, by show Value.slice (A i) (L i) (C i) = _; rw [hA, hL], by simp [hL]⟩)
          · have h6 := (k6 a' hA).2
            obtain ⟨b2, o2, c2, e2, z2, rfl, hh2, hs2, hc2⟩ := cells_row (n := C i) (f := fun c => .int .i64 ((Z i).getD c 0)) (by omega) h6
            have hgl : ((Z i).take (L i)).length = L i := by rw [List.length_take]; omega
            refine .inr (.inr ⟨b2, o2, C i, c2, e2, z2, by show Value.slice (A i) (L i) (C i) = _; rw [hA, hgl], by rw [hgl]; omega, hh2, by rw [hgl]; omega, by rw [hgl]; omega, ?_⟩)
            intro j z hz
            replace hz : ((Z i).take (L i))[j]? = some z := hz
            have hj : j < L i := by have := (List.getElem?_eq_some_iff.1 hz).1; omega
            rw [hc2 j (by omega)]
            rw [List.getElem?_take, if_pos hj] at hz
            rw [List.getD, hz]; rfl
end Go.Am
namespace Go.Am.C07
open Go Go.Am Go.Am.V
set_option maxRecDepth 1000000
theorem designCheck_calls (D : Int) (v : Value) (gs : List (List Int)) (w : World) (h : RowsW w v gs) :
    Calls Proofs.Try.prog 4 #[.agg #[.int .i64 D, v]] w fun e w' => e = .returned (.bool true) ∧ RowKit.Below w.heap.size w w' := by
  obtain ⟨ρ, m0, n0, gv, hr, hv, hm, hf⟩ := rows_world h
  obtain ⟨r, hrun⟩ := designCheck_exec (E := look tabD) (Y := YD) enD.e4 enD.e15 enD.e16 enD.e17 enD.e26 awakeD (D := D) m0 n0 hr
  have hL : LRel ρ [.int .i64 D, gv] [.int .i64 D, v] := .cons (.flat rfl) (.cons hv (.nil ρ))
  exact Go.Am.Env.topW envD (args' := #[.agg #[.int .i64 D, v]]) hrun (.cons (.agg rfl fun i x y hx hy => hL.2 i x y (by simpa using hx) (by simpa using hy)) (.nil ρ)) hm hf
end Go.Am.C07
