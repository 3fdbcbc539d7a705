/- The machine and its runs, part 2: AmMem2 AmApp AmStep. -/
import Derived.Test.YtkadpnfidbgmmaaDoorB1
set_option linter.unusedVariables false
set_option linter.unusedSimpArgs false
set_option linter.unusedSectionVars false
namespace Go.Am
open Go Go.RowKit
section
variable {μ : Type} [AMem μ] {P : Program} {ρ : Ren} {V : Nat → Option Blk} {w : World} {B : Nat}

theorem heap_alloc (w : World) (o : Obj) : (w.alloc o).heap[w.heap.size]? = some o := by
  show (w.heap.push o)[w.heap.size]? = _; simp

/-- a new block -/
theorem Post.new {m : μ} {n n' : Nat} (hm : MRel ρ V w B) (hlim : AMem.lim m n = true) (hfree : Free ρ n) (O : Blk) (o : Obj) (cap : Nat)
    (hO : ∀ ρ' : Ren, ρ.le ρ' → BRel ρ' (w.alloc o) B ⟨w.heap.size, 0, cap, match O with | .cells _ sz _ _ => sz⟩ O) (hn : n' = n + 1) :
    ∃ ρ' : Ren, ρ' n = some ⟨w.heap.size, 0, cap, match O with | .cells _ sz _ _ => sz⟩ ∧ Post ρ V w B n (AMem.put m n (some O)) n' (bit n) ρ' (w.alloc o) := by
  subst hn
  have hle : Ren.le ρ (fun b => if b = n then some ⟨w.heap.size, 0, cap, match O with | .cells _ sz _ _ => sz⟩ else ρ b) := by
    intro b p h
    have : b ≠ n := by intro e; subst e; rw [hfree b (Nat.le_refl _)] at h; cases h
    simp [this, h]
  have hget : AMem.get (AMem.put m n (some O)) n = some O := by rw [AMem.get_put m n n _ hlim, if_pos rfl]
  refine ⟨fun b => if b = n then some ⟨w.heap.size, 0, cap, match O with | .cells _ sz _ _ => sz⟩ else ρ b, by simp, hle, ?_, ?_, ?_, Nat.le_succ _, fun k hk _ => Below.heap_alloc w o k hk, ?_, fun b hb => by
    rw [bit_test] at hb
    have hb : n = b := of_decide_eq_true hb
    subst hb
    exact ⟨⟨_, if_pos rfl⟩, fun h => absurd h (Nat.lt_irrefl _)⟩⟩
  · intro b p h
    by_cases e : b = n
    · subst e; exact .inr ⟨Nat.le_refl _, Nat.lt_succ_self _⟩
    · simp [e] at h; exact .inl h
  · refine ⟨?_, ?_, ?_, ?_⟩
    · intro b p O' hp hV
      by_cases e : b = n
      · subst e
        simp at hp; subst hp
        simp [upd, bit_test, hget] at hV; subst hV
        exact hO _ hle
      · simp [e] at hp
        have hne : ¬ n = b := fun h => e h.symm
        simp [upd, bit_test, hne] at hV
        have hlt := hm.fresh b p hp
        exact (hm.blk b p O' hp hV).mono hle (Below.heap_alloc w o p.blk hlt)
    · intro b1 b2 p1 p2 O1 O2 h1 h2 hV1 hV2 hne hw
      by_cases e1 : b1 = n
      · subst e1
        simp at h1; subst h1
        have e2 : ¬ b2 = b1 := fun h => hne h.symm
        simp [e2] at h2
        have := hm.fresh b2 p2 h2
        simp; omega
      · simp [e1] at h1
        have hne1 : ¬ n = b1 := fun h => e1 h.symm
        simp [upd, bit_test, hne1] at hV1
        by_cases e2 : b2 = n
        · subst e2
          simp at h2; subst h2
          have := hm.fresh b1 p1 h1
          simp; omega
        · simp [e2] at h2
          have hne2 : ¬ n = b2 := fun h => e2 h.symm
          simp [upd, bit_test, hne2] at hV2
          exact hm.excl b1 b2 p1 p2 O1 O2 h1 h2 hV1 hV2 hne hw
    · intro b p h
      by_cases e : b = n
      · subst e; simp at h; subst h; simp
      · simp [e] at h; have := hm.fresh b p h; simp; omega
    · have := hm.le; simp; omega
  · exact (Below.refl B w).alloc hm.le o
  · intro b p h
    by_cases e : b = n
    · subst e; simp at h; subst h; exact .inr (.inl (Nat.le_refl _))
    · simp [e] at h; exact .inl h

theorem getb_some {m : μ} {n b : Nat} {O : Blk} (h : getb m n b = some O) : b < n ∧ AMem.get m b = some O := by
  unfold getb at h
  cases hb : Nat.blt b n
  · simp [hb] at h
  · simp [hb] at h
    exact ⟨by simpa [Nat.blt_eq] using hb, h⟩

/-- the block behind a number that has a place -/
theorem at_block {m : μ} {n b F : Nat} {c : List Value} {sz : Nat} {opn wr : Bool} {p : Place} (hm : MRel ρ V w B) (hag : Agree V m n F) (hF : F.testBit b = true)
    (hg : getb m n b = some (.cells c sz opn wr)) (hp : ρ b = some p) : V b = some (.cells c sz opn wr) ∧ BRel ρ w B p (.cells c sz opn wr) := by
  obtain ⟨h1, h2⟩ := getb_some hg
  have hV := (hag b h1 hF).trans h2
  exact ⟨hV, hm.blk b p _ hp hV⟩

theorem brel_cell {c : List Value} {sz : Nat} {opn wr : Bool} {p : Place} (h : BRel ρ w B p (.cells c sz opn wr)) {o : Nat} {x : Value} (hx : c[o]? = some x) :
    ∃ y, w.cell? ⟨p.blk, p.base + o, none⟩ = some y ∧ VRel ρ x y := by
  obtain ⟨_, cc, e, fz, h2, h3, _⟩ := h
  obtain ⟨y, hy, hr⟩ := h3 o x hx
  exact ⟨y, by simp [World.cell?, h2, hy], hr⟩

theorem run_load_cell {a : Addr} {y : Value} (h : w.cell? a = some y) : (load a).run P w = .ok y w := by simp [h]

theorem ld1V_sound {m m' : μ} {n n' r wm t : Nat} {x x' v : Value} (hagg : isAggB P t = some false) (hm : MRel ρ V w B) (hx : VRel ρ x x') (h : ld1V m n x = .ok v m' n' r wm) (hag : Agree V m n (Nat.lor r wm)) :
    ∃ v', (Instr.loadAt t x').run P w = .ok v' w ∧ VRel ρ v v' ∧ m' = m ∧ n' = n ∧ wm = 0 := by
  unfold ld1V at h
  split at h
  · rename_i b o
    cases hg : getb m n b with
    | none => rw [hg] at h; cases h
    | some O =>
      cases O with | cells c sz opn wr =>
      rw [hg] at h
      have h : valR m n b (cget c o) = .ok v m' n' r wm := h
      rw [cget_eq] at h
      cases hc : c[o]? with
      | none => rw [hc] at h; cases h
      | some y =>
        rw [hc] at h
        have h : OR.ok y m n (bit b) 0 = .ok v m' n' r wm := h
        injection h with e1 e2 e3 e4 e5
        subst e1; subst e2; subst e3; subst e4; subst e5
        cases hx with
        | flat hf => simp [flat] at hf
        | ptr hp =>
          rename_i p
          obtain ⟨_, hb⟩ := at_block hm hag (by rw [lor_test, bit_test]; simp) hg hp
          obtain ⟨y', hy, hr⟩ := brel_cell hb hc
          exact ⟨y', by simp [Instr.loadAt, Instr.sureAddr, loadVar, run_isAgg hagg, hy], hr, rfl, rfl, rfl⟩
  · cases h

theorem aggO_some {l : Option (List Value)} {v : Value} (h : aggO l = some v) : ∃ c, l = some c ∧ v = .agg c.toArray := by
  unfold aggO at h; split at h
  · injection h with h; exact ⟨_, rfl, h.symm⟩
  · cases h

/-- the cells that stand behind an address -/
theorem brel_cells {c l : List Value} {sz o k : Nat} {opn wr : Bool} {p : Place} (h : BRel ρ w B p (.cells c sz opn wr)) (hl : cellsAt c o k = some l) :
    ∃ l', LRel ρ l l' ∧ l'.length = k ∧ ∀ j v, l'[j]? = some v → w.cell? (⟨p.blk, p.base + o, none⟩ : Addr) = w.cell? ⟨p.blk, p.base + o, none⟩ ∧ w.cell? ((⟨p.blk, p.base + o, none⟩ : Addr).add j) = some v := by
  obtain ⟨_, h2, h3⟩ := cellsAt_some hl
  have hex : ∀ j, j < k → ∃ y, w.cell? ⟨p.blk, p.base + (o + j), none⟩ = some y ∧ ∀ x, l[j]? = some x → VRel ρ x y := by
    intro j hj
    have hlj : j < l.length := by omega
    have hx : c[o + j]? = some l[j] := by rw [← h3 j hj]; exact List.getElem?_eq_getElem hlj
    obtain ⟨y, hy, hr⟩ := brel_cell h hx
    exact ⟨y, hy, fun x hx' => by rw [List.getElem?_eq_getElem hlj] at hx'; injection hx' with e; subst e; exact hr⟩
  refine ⟨(List.range k).map fun j => (w.cell? ⟨p.blk, p.base + (o + j), none⟩).getD undef, ⟨by simp [h2], fun j x y hx hy => ?_⟩, by simp, fun j v hv => ⟨rfl, ?_⟩⟩
  · have hj : j < k := by have := (List.getElem?_eq_some_iff.1 hx).1; omega
    obtain ⟨y', hy', hr⟩ := hex j hj
    simp [hj, hy'] at hy
    subst hy; exact hr x hx
  · have hj : j < k := by have := (List.getElem?_eq_some_iff.1 hv).1; simpa using this
    obtain ⟨y', hy', _⟩ := hex j hj
    simp [hj, hy'] at hv
    subst hv
    rw [addr_add, Nat.add_assoc]; exact hy'

theorem ldnV_sound {m m' : μ} {n n' r wm t k : Nat} {x x' v : Value} (hagg : isAggB P t = some true) (hsz : isSz P t k = true) (hm : MRel ρ V w B) (hx : VRel ρ x x') (h : ldnV k m n x = .ok v m' n' r wm) (hag : Agree V m n (Nat.lor r wm)) :
    ∃ v', (Instr.loadAt t x').run P w = .ok v' w ∧ VRel ρ v v' ∧ m' = m ∧ n' = n ∧ wm = 0 := by
  unfold ldnV at h
  split at h
  · rename_i b o
    cases hg : getb m n b with
    | none => rw [hg] at h; cases h
    | some O =>
      cases O with | cells c sz opn wr =>
      rw [hg] at h
      have h : valR m n b (aggO (cellsAt c o k)) = .ok v m' n' r wm := h
      cases hc : aggO (cellsAt c o k) with
      | none => rw [hc] at h; cases h
      | some y =>
        rw [hc] at h
        have h : OR.ok y m n (bit b) 0 = .ok v m' n' r wm := h
        injection h with e1 e2 e3 e4 e5
        subst e1; subst e2; subst e3; subst e4; subst e5
        obtain ⟨l, hl, rfl⟩ := aggO_some hc
        obtain ⟨ti, hti, hts⟩ := isSz_run hsz
        cases hx with
        | flat hf => simp [flat] at hf
        | ptr hp =>
          rename_i p
          obtain ⟨_, hb⟩ := at_block hm hag (by rw [lor_test, bit_test]; simp) hg hp
          obtain ⟨l', hr, hlen, hcell⟩ := brel_cells hb hl
          refine ⟨.agg l'.toArray, ?_, hr.agg, rfl, rfl, rfl⟩
          have := run_loadCells_list (P := P) w ⟨p.blk, p.base + o, none⟩ l' (fun j v hv => (hcell j v hv).2)
          rw [hlen] at this
          simp [Instr.loadAt, Instr.sureAddr, loadVar, run_isAgg hagg, run_sizeOf hti, hts, this]
  · cases h

/-- a write into a block of the machine's own -/
theorem Post.write {m : μ} {n b : Nat} {c c' : List Value} {sz : Nat} {opn : Bool} {p : Place} {w' : World} (hm : MRel ρ V w B) (hlim : AMem.lim m b = true) (hp : ρ b = some p) (hV : V b = some (.cells c sz opn true))
    (hb : BRel ρ w' B p (.cells c' sz opn true)) (hother : ∀ k, k ≠ p.blk → w'.heap[k]? = w.heap[k]?) (hos : w'.os = w.os) (htape : w'.tape = w.tape) (hout : w'.output = w.output) (hsize : w'.heap.size = w.heap.size) :
    Post ρ V w B n (AMem.put m b (some (.cells c' sz opn true))) n (bit b) ρ w' := by
  have hBp : B ≤ p.blk := by
    obtain ⟨_, _, _, _, _, _, h4, _⟩ := hb
    exact (h4 rfl).1
  refine ⟨ρ.le_refl, fun _ _ h => .inl h, ⟨?_, ?_, ?_, ?_⟩, ⟨hos, htape, hout, by omega, fun k hk => hother k (by omega)⟩, Nat.le_refl _, fun k _ hk => hother k (fun e => hk b p hp (by rw [bit_test]; simp) e.symm), fun _ _ h => .inl h, fun k hk => by
    rw [bit_test] at hk
    have hk : b = k := of_decide_eq_true hk
    subst hk
    exact ⟨⟨p, hp⟩, fun _ => ⟨_, hV, rfl⟩⟩⟩
  · intro b2 p2 O2 h2 hV2
    by_cases e : b2 = b
    · subst e
      rw [hp] at h2; injection h2 with h2; subst h2
      simp [upd, bit_test, AMem.get_put m b2 b2 _ hlim] at hV2
      subst hV2; exact hb
    · have hne : ¬ b = b2 := fun h => e h.symm
      simp [upd, bit_test, hne] at hV2
      have hx := hm.excl b b2 p p2 _ O2 hp h2 hV hV2 hne rfl
      exact (hm.blk b2 p2 O2 h2 hV2).mono ρ.le_refl (hother _ (fun h => hx h.symm))
  · intro b1 b2 p1 p2 O1 O2 h1 h2 hV1 hV2 hne hw
    have old : ∀ {b3 : Nat} {O3 : Blk}, upd V (bit b) (AMem.put m b (some (.cells c' sz opn true))) b3 = some O3 → ∃ O4, V b3 = some O4 ∧ O4.wr = O3.wr := by
      intro b3 O3 h
      by_cases e : b3 = b
      · subst e
        simp [upd, bit_test, AMem.get_put m b3 b3 _ hlim] at h
        subst h; exact ⟨_, hV, rfl⟩
      · have hne : ¬ b = b3 := fun h => e h.symm
        simp [upd, bit_test, hne] at h
        exact ⟨_, h, rfl⟩
    obtain ⟨O1', h1', e1⟩ := old hV1
    obtain ⟨O2', h2', e2⟩ := old hV2
    exact hm.excl b1 b2 p1 p2 O1' O2' h1 h2 h1' h2' hne (e1.trans hw)
  · intro b2 p2 h2; have := hm.fresh b2 p2 h2; omega
  · have := hm.le; omega

theorem setRow_other (w : World) (g : Nat) (c : Array Value) (k : Nat) (h : k ≠ g) : (w.setRow g c).heap[k]? = w.heap[k]? := by
  simp only [World.setRow, Array.getElem?_modify]; rw [if_neg (fun e => h e.symm)]
theorem setRow_size (w : World) (g : Nat) (c : Array Value) : (w.setRow g c).heap.size = w.heap.size := by simp [World.setRow]

/-- cells written into a block: what the block then is -/
theorem brel_set {c c' vs vs' : List Value} {sz o : Nat} {opn : Bool} {p : Place} (h : BRel ρ w B p (.cells c sz opn true)) (hs : setCells c o vs = some c') (hv : LRel ρ vs vs') (h1 : ∀ v ∈ vs', v.oneCell' = true) :
    ∃ w', (storeCells ⟨p.blk, p.base + o, none⟩ vs' 0).run P w = .ok () w' ∧ BRel ρ w' B p (.cells c' sz opn true) ∧ (∀ k, k ≠ p.blk → w'.heap[k]? = w.heap[k]?) ∧ w'.os = w.os ∧ w'.tape = w.tape ∧ w'.output = w.output ∧ w'.heap.size = w.heap.size := by
  obtain ⟨hsz, cc, e, fz, h2, h3, h4, h5, h6⟩ := h
  obtain ⟨hB, hfz⟩ := h4 rfl
  subst hfz
  obtain ⟨g1, g2, g3⟩ := setCells_get hs
  have hlen : vs.length = vs'.length := hv.1
  have hfit : p.base + o + 0 + vs'.length ≤ cc.size := by
    omega
  refine ⟨_, run_storeCells_at (P := P) p.blk (p.base + o) e vs' 0 cc w h2 hfit h1, ?_, fun k hk => setRow_other w _ _ k hk, rfl, rfl, rfl, setRow_size w _ _⟩
  refine ⟨hsz, _, e, (0, 0), setRow_heap w p.blk cc _ e (0, 0) h2, ?_, fun _ => ⟨hB, rfl⟩, fun ho => ?_, ?_⟩
  · intro i x hx
    rw [g3 i] at hx
    simp only [List.getElem?_toArray]
    have ht : (cc.toList.take (p.base + o + 0)).length = p.base + o := by simp; omega
    split at hx
    · rename_i hi
      obtain ⟨y, hy, hr⟩ := hv.get hx
      refine ⟨y, ?_, hr⟩
      rw [List.append_assoc, List.getElem?_append_right (by omega), ht, List.getElem?_append_left (by omega)]
      rw [← hy]; congr 1; omega
    · rename_i hi
      obtain ⟨y, hy, hr⟩ := h3 i x hx
      refine ⟨y, ?_, hr⟩
      rw [List.append_assoc]
      by_cases h0 : i < o
      · rw [List.getElem?_append_left (by omega), List.getElem?_take, if_pos (by omega)]; simpa using hy
      · rw [List.getElem?_append_right (by omega), ht, List.getElem?_append_right (by omega), List.getElem?_drop]
        rw [show p.base + o + 0 + vs'.length + (p.base + i - (p.base + o) - vs'.length) = p.base + i by omega]; simpa using hy
  · have := h5 ho
    simp; omega
  · simp; omega

theorem stV_sound {m m' : μ} {n n' r wm t k : Nat} {x x' y y' v : Value} (hsz : isSz P t k = true) (hm : MRel ρ V w B) (hx : VRel ρ x x') (hy : VRel ρ y y') (h : stV k y.cells.toList m n x = .ok v m' n' r wm) (hag : Agree V m n (Nat.lor r wm)) :
    v = undef ∧ ∃ w', (Instr.storeAt t x' y').run P w = .ok () w' ∧ Post ρ V w B n m' n' wm ρ w' := by
  unfold stV at h
  split at h
  · rename_i b o
    cases hc : (Nat.beq (llen y.cells.toList) k && y.cells.toList.all one)
    · rw [hc, cond_false] at h; cases h
    · rw [hc, cond_true] at h
      rw [Bool.and_eq_true] at hc
      unfold stC at h
      split at h
      · rename_i c sz opn hg
        unfold putC at h
        split at h
        · rename_i c' hs
          injection h with e1 e2 e3 e4 e5
          subst e1; subst e2; subst e3; subst e4; subst e5
          obtain ⟨ti, hti, hts⟩ := isSz_run hsz
          cases hx with
          | flat hf => simp [flat] at hf
          | ptr hp =>
            rename_i p
            obtain ⟨hV, hb⟩ := at_block hm hag (by rw [lor_test, bit_test]; simp) hg hp
            have hyc := hy.cells
            have hone : ∀ v ∈ y'.cells.toList, v.oneCell' = true := by
              intro v hv
              obtain ⟨j, hj, rfl⟩ := List.getElem_of_mem hv
              have hj' : j < y.cells.toList.length := by rw [hyc.1]; exact hj
              have := hyc.2 j _ _ (List.getElem?_eq_getElem hj') (List.getElem?_eq_getElem hj)
              refine this.one ?_
              have h2 := hc.2
              rw [List.all_eq_true] at h2
              exact h2 _ (List.getElem_mem hj')
            obtain ⟨w', hw, hb', ho, h1, h2, h3, h4⟩ := brel_set (P := P) hb hs hyc hone
            refine ⟨rfl, w', ?_, Post.write hm (AMem.get_lim _ _ _ (getb_some hg).2) hp hV hb' ho h1 h2 h3 h4⟩
            have hlen : y'.cells.size = k := by
              have e1 := Nat.eq_of_beq_eq_true hc.1
              rw [llen_eq] at e1
              have := hyc.1; simp at this e1; omega
            simp [Instr.storeAt, Instr.sureAddr, storeVar, run_sizeOf hti, hts, hlen, hw]
        · cases h
      · cases h
  · cases h
end
end Go.Am
namespace Go.Am
open Go Go.RowKit
section
variable {μ : Type} [AMem μ] {P : Program} {ρ : Ren} {V : Nat → Option Blk} {w : World} {B : Nat}

/-- a block of known cells -/
theorem newb_sound {m m' : μ} {n n' r wm sz : Nat} {c c' : List Value} {f : Nat → Value} {v : Value} {opn : Bool} (hm : MRel ρ V w B) (h : newb m n (.cells c sz opn true) f = .ok v m' n' r wm) (hfree : Free ρ n)
    (cap e : Nat) (hlen : c.length ≤ c'.length) (hr : ∀ (i : Nat) x, c[i]? = some x → ∃ y, c'[i]? = some y ∧ VRel ρ x y) (hcap : opn = true → cap ≤ c'.length) :
    v = f n ∧ ∃ ρ' : Ren, ρ' n = some ⟨w.heap.size, 0, cap, sz⟩ ∧ Post ρ V w B n m' n' wm ρ' (w.alloc (.cells c'.toArray e)) := by
  unfold newb at h
  cases hl : AMem.lim m n
  · rw [hl, cond_false] at h; cases h
  · rw [hl, cond_true] at h
    injection h with e1 e2 e3 e4 e5
    subst e1; subst e2; subst e3; subst e4; subst e5
    refine ⟨rfl, ?_⟩
    refine Post.new (n' := n + 1) hm hl hfree (.cells c sz opn true) (.cells c'.toArray e) cap (fun ρ' hle => ?_) rfl
    refine ⟨rfl, c'.toArray, e, (0, 0), heap_alloc w _, fun i x hx => ?_, fun _ => ⟨hm.le, rfl⟩, fun ho => ?_, ?_⟩
    · obtain ⟨y, hy, hv⟩ := hr i x hx
      exact ⟨y, by simpa using hy, hv.mono hle⟩
    · have := hcap ho; simp; omega
    · simp; omega

theorem LRel.getx {ρ : Ren} {c c' : List Value} (h : LRel ρ c c') : ∀ (i : Nat) x, c[i]? = some x → ∃ y, c'[i]? = some y ∧ VRel ρ x y := fun _ _ hx => h.get hx

/-- what a slice shows, on the model's side -/
theorem shown_sound {m : μ} {n sz F r len c' : Nat} {x : Value} {a' : Option Addr} {l : List Value} (hm : MRel ρ V w B) (hx : VRel ρ x (.slice a' len c')) (h : shown m n sz x = some (l, r)) (hag : Agree V m n F) (hF : ∀ b, r.testBit b = true → F.testBit b = true) :
    ∃ l', LRel ρ l l' ∧ l'.length = len * sz ∧ ∀ (size' : Nat) (w2 : World), size' = sz → w2.heap = w.heap → (Builtin.firstCells size' len (.slice a' len c')).run P w2 = .ok l'.toArray w2 := by
  unfold shown at h
  split at h
  · injection h with h; injection h with e1 e2; subst e1; subst e2
    have e := hx.flat_eq rfl
    injection e with e1 e2 e3; subst e1; subst e2; subst e3
    exact ⟨[], .nil ρ, by simp, fun _ w2 _ _ => by simp [Builtin.firstCells]⟩
  · rename_i b o ln c
    have hsh : len = ln ∧ (ln ≠ 0 → ∃ p, a' = some ⟨p.blk, p.base + o, none⟩ ∧ ρ b = some p) := by
      cases hx with
      | flat hf => simp [flat] at hf
      | slice hp _ _ _ _ => exact ⟨rfl, fun _ => ⟨_, rfl, hp⟩⟩
      | vag => exact ⟨rfl, fun h => absurd rfl h⟩
    obtain ⟨rfl, ho⟩ := hsh
    cases h0 : Nat.beq len 0
    · rw [h0, cond_false] at h
      have hne : len ≠ 0 := by intro e; subst e; simp at h0
      obtain ⟨p, rfl, hp⟩ := ho hne
      unfold shownB at h
      split at h
      · rename_i c1 s _ _ hg
        cases hs : Nat.beq s sz
        · rw [hs, cond_false] at h; cases h
        · rw [hs, cond_true] at h
          cases hc : cellsAt c1 o (Nat.mul len sz) with
          | none => rw [hc] at h; cases h
          | some l1 =>
            rw [hc] at h
            have h : some (l1, bit b) = some (l, r) := h
            injection h with h; injection h with e1 e2; subst e1; subst e2
            obtain ⟨_, hb⟩ := at_block hm hag (hF b (by rw [bit_test]; simp)) hg hp
            obtain ⟨l', hr, hl', hcell⟩ := brel_cells hb hc
            refine ⟨l', hr, hl', fun s2 w2 e hw => ?_⟩
            subst e
            refine run_firstCells_some w2 s2 len _ len c' l' hl' (fun j v hv => ?_)
            have := (hcell j v hv).2
            simpa [World.cell?, hw] using this
      · cases h
    · rw [h0, cond_true] at h
      injection h with h; injection h with e1 e2; subst e1; subst e2
      have h0 : len = 0 := Nat.eq_of_beq_eq_true h0
      subst h0
      exact ⟨[], .nil ρ, by simp, fun _ w2 _ _ => by cases a' <;> simp [Builtin.firstCells, loadCells, loadCellsFrom]⟩
  · cases h

theorem run_app_fit {t u e ty : Nat} {el : Nat} {i : TypeInfo} {a : Addr} {sLen sCap n xc : Nat} {xa : Option Addr} {news : List Value} {w' : World} (ht : P.underlying t = some (.slice e)) (hu : P.underlying u = some (.slice el)) (hi : P.info? e = some i)
    (hf : (Builtin.firstCells i.size n (.slice xa n xc)).run P w = .ok news.toArray w) (hroom : sLen + n ≤ sCap) (hst : (storeCells (a.add (sLen * i.size)) news).run P w = .ok () w') :
    (Builtin.append_ #[t, u] ty #[.slice (some a) sLen sCap, .slice xa n xc]).run P w = .ok (.slice (some a) (sLen + n) sCap) w' := by
  simp [Builtin.append_, run_underlying ht, run_underlying hu, sizeOf, typeInfo, hi, Builtin.lenOf, hroom, hf, hst]

theorem run_app_nil0 {t u e ty : Nat} {el : Nat} {i : TypeInfo} {xc : Nat} {xa : Option Addr} (ht : P.underlying t = some (.slice e)) (hu : P.underlying u = some (.slice el)) (hi : P.info? e = some i)
    (hf : (Builtin.firstCells i.size 0 (.slice xa 0 xc)).run P w = .ok #[] w) :
    (Builtin.append_ #[t, u] ty #[.slice none 0 0, .slice xa 0 xc]).run P w = .ok (.slice none 0 0) w := by
  simp [Builtin.append_, run_underlying ht, run_underlying hu, sizeOf, typeInfo, hi, Builtin.lenOf, hf]

theorem run_app_grow {t u e ty : Nat} {el : Nat} {i : TypeInfo} {z : Value} {base : Option Addr} {sLen sCap n xc : Nat} {xa : Option Addr} {olds news : List Value} (ht : P.underlying t = some (.slice e)) (hu : P.underlying u = some (.slice el)) (hi : P.info? e = some i) (hz : i.zero = some z)
    (hfo : (Builtin.firstCells i.size sLen (.slice base sLen sCap)).run P w.drew = .ok olds.toArray w.drew) (hf : (Builtin.firstCells i.size n (.slice xa n xc)).run P w.drew = .ok news.toArray w.drew) (hg : sCap < sLen + n) (hpos : 0 < i.bytes)
    (hb : (sLen + n) * i.bytes ≤ 140737488355328) :
    ∃ rest : List Value, rest.length = (grownCap w (sLen + n) sCap e - (sLen + n)) * z.cells.size ∧
    (Builtin.append_ #[t, u] ty #[.slice base sLen sCap, .slice xa n xc]).run P w =
      .ok (.slice (some ⟨w.heap.size, 0, none⟩) (sLen + n) (grownCap w (sLen + n) sCap e)) (w.drew.alloc (.cells (olds ++ news ++ rest).toArray e)) := by
  have hn : ¬ (sLen + n ≤ sCap) := by omega
  have hle : sLen + n ≤ 140737488355328 := Nat.le_trans (Nat.le_mul_of_pos_right _ hpos) hb
  have h63' : ¬ (9223372036854775807 < ((sLen : Int) + (n : Int))) := by omega
  have h48' : ¬ (281474976710656 < Builtin.nextslicecap (sLen + n) sCap * i.bytes) := by have := growslice_fits hg hb; omega
  refine ⟨(Builtin.zeroCells z.cells (grownCap w (sLen + n) sCap e - (sLen + n))).toList, by simp [Builtin.zeroCells], ?_⟩
  simp [Builtin.append_, run_underlying ht, run_underlying hu, sizeOf, typeInfo, zeroValue, hi, hz, Builtin.lenOf, hn, h63', h48', Question.forced, hf, hfo, newRow, grownCap]
  congr 2
  apply Array.ext'
  simp

/-- what a block becomes when it ends: nothing is said of it any more, and its row may be written beyond what it showed -/
theorem Post.appU {m : μ} {n b sz cap : Nat} {c' : List Value} {p : Place} {w' : World} {O0 : Blk} (hm : MRel ρ V w B) (hlim : AMem.lim m n = true) (hlimb : AMem.lim m b = true) (hbn : b < n) (hfree : Free ρ n) (hp : ρ b = some p) (hV : V b = some O0) (hwr : O0.wr = true)
    (hbase : B ≤ p.blk) (q : Place) (hq : q.sz = sz) (hqblk : q.blk = p.blk ∨ q.blk = w.heap.size) (hqlt : q.blk < w'.heap.size) (hcap : q.cap = cap)
    (hnew : ∀ ρ' : Ren, ρ.le ρ' → BRel ρ' w' B q (.cells c' sz true true)) (hother : ∀ k, k ≠ p.blk → k ≠ w.heap.size → w'.heap[k]? = w.heap[k]?) (hos : w'.os = w.os) (htape : w'.tape = w.tape) (hout : w'.output = w.output) (hsize : w.heap.size ≤ w'.heap.size) :
    ∃ ρ' : Ren, ρ' n = some q ∧ Post ρ V w B n (AMem.put (AMem.put m b none) n (some (.cells c' sz true true))) (n + 1) (Nat.lor (bit b) (bit n)) ρ' w' := by
  have hle : Ren.le ρ (fun k => if k = n then some q else ρ k) := by
    intro k p' h
    have : k ≠ n := by intro e; subst e; rw [hfree k (Nat.le_refl _)] at h; cases h
    simp [this, h]
  have hlim2 : AMem.lim (AMem.put m b none) n = true := by rw [AMem.lim_put]; exact hlim
  have up : ∀ k, upd V (Nat.lor (bit b) (bit n)) (AMem.put (AMem.put m b none) n (some (.cells c' sz true true))) k = if k = n then some (.cells c' sz true true) else if k = b then none else V k := by
    intro k
    unfold upd
    rw [lor_test, bit_test, bit_test, AMem.get_put _ _ _ _ hlim2, AMem.get_put _ _ _ _ hlimb]
    by_cases e1 : k = n
    · subst e1; simp
    · have e1' : ¬ n = k := fun h => e1 h.symm
      by_cases e2 : k = b
      · subst e2; simp [e1]
      · have e2' : ¬ b = k := fun h => e2 h.symm
        simp [e1, e1', e2, e2']
  refine ⟨_, by simp, hle, ?_, ⟨?_, ?_, ?_, ?_⟩, ⟨hos, htape, hout, hsize, fun k hk => hother k (by omega) (by have := hm.le; omega)⟩, Nat.le_succ _, fun k hk1 hk => hother k (fun e => hk b p hp (by rw [lor_test, bit_test]; simp) e.symm) (by omega), ?_, fun k hk => by
    rw [lor_test, bit_test, bit_test, Bool.or_eq_true] at hk
    rcases hk with hk | hk
    · have hk : b = k := of_decide_eq_true hk
      subst hk
      exact ⟨⟨p, hle b p hp⟩, fun _ => ⟨_, hV, hwr⟩⟩
    · have hk : n = k := of_decide_eq_true hk
      subst hk
      exact ⟨⟨q, if_pos rfl⟩, fun h => absurd h (Nat.lt_irrefl _)⟩⟩
  · intro k p' h
    by_cases e : k = n
    · subst e; exact .inr ⟨Nat.le_refl _, Nat.lt_succ_self _⟩
    · simp [e] at h; exact .inl h
  · intro k p' O hk hO
    rw [up] at hO
    by_cases e1 : k = n
    · subst e1
      simp at hk hO; subst hk; subst hO
      exact hnew _ hle
    · simp [e1] at hk hO
      obtain ⟨e2, hO⟩ := hO
      have hx := hm.excl b k p p' O0 O hp hk hV hO (fun h => e2 h.symm) hwr
      have hf := hm.fresh k p' hk
      exact (hm.blk k p' O hk hO).mono hle (hother _ (fun h => hx h.symm) (by omega))
  · intro b1 b2 p1 p2 O1 O2 h1 h2 hV1 hV2 hne hw
    rw [up] at hV1 hV2
    by_cases e1 : b1 = n
    · subst e1
      simp at h1; subst h1
      have e2 : ¬ b2 = b1 := fun h => hne h.symm
      simp [e2] at h2 hV2
      have hx := hm.excl b b2 p p2 O0 O2 hp h2 hV hV2.2 (fun h => hV2.1 h.symm) hwr
      have hf := hm.fresh b2 p2 h2
      rcases hqblk with h | h
      · rw [h]; exact hx
      · omega
    · simp [e1] at h1 hV1
      by_cases e2 : b2 = n
      · subst e2
        simp at h2; subst h2
        have hx := hm.excl b b1 p p1 O0 O1 hp h1 hV hV1.2 (fun h => hV1.1 h.symm) hwr
        have hf := hm.fresh b1 p1 h1
        rcases hqblk with h | h
        · rw [h]; exact fun e => hx e.symm
        · omega
      · simp [e2] at h2 hV2
        exact hm.excl b1 b2 p1 p2 O1 O2 h1 h2 hV1.2 hV2.2 hne hw
  · intro k p' h
    by_cases e : k = n
    · subst e; simp at h; subst h; exact hqlt
    · simp [e] at h; have := hm.fresh k p' h; omega
  · have := hm.le; omega
  · intro k p' h
    by_cases e : k = n
    · subst e; simp at h; subst h
      rcases hqblk with h | h
      · exact .inr (.inr ⟨b, p, hp, by rw [lor_test, bit_test]; simp, h.symm⟩)
      · exact .inr (.inl (by omega))
    · simp [e] at h; exact .inl h

theorem slice_shape {a : Option Addr} {l c : Nat} {x' : Value} (h : VRel ρ (.slice a l c) x') : ∃ a' c', x' = .slice a' l c' := by cases h <;> exact ⟨_, _, rfl⟩

theorem MRel.drew (hm : MRel ρ V w B) : MRel ρ V w.drew B := ⟨fun b p O h1 h2 => by
    have := hm.blk b p O h1 h2
    exact this.mono ρ.le_refl rfl, hm.excl, hm.fresh, hm.le⟩

theorem Post.of_drew {m' : μ} {n n' W : Nat} {ρ' : Ren} {w' : World} (h : Post ρ V w.drew B n m' n' W ρ' w') : Post ρ V w B n m' n' W ρ' w' :=
  ⟨h.le, h.dom, h.mrel, ⟨h.below.os, h.below.tape, h.below.output, h.below.size, h.below.block⟩, h.num, h.frame, h.newp, h.wold⟩

/-- append where a new block is made -/
theorem appN_sound {m m' : μ} {n n' r r0 wm sz lx ly : Nat} {t u e el ty : Nat} {ti : TypeInfo} {z : Value} {c c' : List Value} {v : Value} {base xa : Option Addr} {sCap xc : Nat} {olds news : List Value}
    (hm : MRel ρ V w B) (h : appN m n sz (Nat.add lx ly) c r0 = .ok v m' n' r wm) (hfree : Free ρ n) (ht : P.underlying t = some (.slice e)) (hu : P.underlying u = some (.slice el)) (hi : P.info? e = some ti) (hz : ti.zero = some z) (hsz : ti.size = sz) (hzs : z.cells.size = sz)
    (hc : c' = olds ++ news) (hr : LRel ρ c c') (hlen : c'.length = (lx + ly) * sz)
    (hfo : (Builtin.firstCells ti.size lx (.slice base lx sCap)).run P w.drew = .ok olds.toArray w.drew) (hf : (Builtin.firstCells ti.size ly (.slice xa ly xc)).run P w.drew = .ok news.toArray w.drew) (hg : sCap < lx + ly) (hpos : 0 < ti.bytes) (hb : (lx + ly) * ti.bytes ≤ 140737488355328) :
    ∃ v' w' ρ', (Builtin.append_ #[t, u] ty #[.slice base lx sCap, .slice xa ly xc]).run P w = .ok v' w' ∧ VRel ρ' v v' ∧ Post ρ V w B n m' n' wm ρ' w' := by
  obtain ⟨rest, hrest, hrun⟩ := run_app_grow (P := P) (w := w) (ty := ty) ht hu hi hz hfo hf hg hpos hb
  unfold appN at h
  cases hl : AMem.lim m n
  · rw [hl, cond_false] at h; cases h
  · rw [hl, cond_true] at h
    injection h with e1 e2 e3 e4 e5
    subst e1; subst e2; subst e3; subst e4; subst e5
    have hge : lx + ly ≤ grownCap w (lx + ly) sCap e := grownCap_ge w _ _ _
    have hcl : (olds ++ news ++ rest).length = grownCap w (lx + ly) sCap e * sz := by
      rw [List.length_append, ← hc, hlen, hrest, hzs, ← Nat.add_mul]; congr 1; omega
    obtain ⟨ρ', hn, hpost⟩ := Post.new (n' := n + 1) (hm.drew) hl hfree (.cells c sz true true) (.cells (olds ++ news ++ rest).toArray e) (grownCap w (lx + ly) sCap e * sz) (fun ρ' hle => by
      refine ⟨rfl, _, e, (0, 0), heap_alloc w.drew _, fun i x hx => ?_, fun _ => ⟨hm.le, rfl⟩, fun _ => ?_, ?_⟩
      · obtain ⟨y, hy, hv⟩ := hr.get hx
        refine ⟨y, ?_, hv.mono hle⟩
        rw [hc] at hy
        have hi := (List.getElem?_eq_some_iff.1 hy).1
        simp only [Nat.zero_add, List.getElem?_toArray]
        rw [List.getElem?_append_left hi]; exact hy
      · show 0 + grownCap w (lx + ly) sCap e * sz ≤ (olds ++ news ++ rest).toArray.size
        simp only [List.size_toArray, hcl]; omega
      · show 0 + c.length ≤ (olds ++ news ++ rest).toArray.size
        have h1 := hr.1; rw [hc] at h1
        simp only [List.size_toArray, List.length_append] at h1 ⊢; omega) rfl
    refine ⟨_, _, ρ', hrun, ?_, hpost.of_drew⟩
    show VRel ρ' (.slice (some ⟨n, 0, none⟩) (lx + ly) UNK) _
    exact VRel.slice (p := ⟨w.heap.size, 0, grownCap w (lx + ly) sCap e * sz, sz⟩) hn hge (fun _ => by simp) (fun h => absurd rfl h) (by decide)

theorem cells_cut {c a : List Value} {o k : Nat} (h : cellsAt c o k = some a) : ∀ i, i < k → a[i]? = c[o + i]? := (cellsAt_some h).2.2

/-- append to a slice whose capacity is not known -/
theorem appU_sound {m m' : μ} {n n' r r0 wm sz lx ly ox bx : Nat} {t u e el ty : Nat} {ti : TypeInfo} {z : Value} {a a' b b' : List Value} {v : Value} {p : Place} {xa : Option Addr} {c' xc F : Nat}
    (hm : MRel ρ V w B) (h : appU m n sz (Nat.add lx ly) (a ++ b) r0 ⟨bx, ox, none⟩ (getb m n bx) = .ok v m' n' r wm) (hag : Agree V m n F) (hF : F.testBit bx = true) (hfree : Free ρ n)
    (ht : P.underlying t = some (.slice e)) (hu : P.underlying u = some (.slice el)) (hi : P.info? e = some ti) (hz : ti.zero = some z) (hsz : ti.size = sz) (hzs : z.cells.size = sz)
    (hp : ρ bx = some p) (hcap : ox + c' * p.sz = p.cap) (ha : LRel ρ a a') (hb : LRel ρ b b') (hla : a'.length = lx * sz) (hlb : b'.length = ly * sz) (hone : ∀ v ∈ b', v.oneCell' = true) (hlc : lx ≤ c')
    (hfo : ∀ (size' : Nat) (w2 : World), size' = sz → w2.heap = w.heap → (Builtin.firstCells size' lx (.slice (some ⟨p.blk, p.base + ox, none⟩) lx c')).run P w2 = .ok a'.toArray w2)
    (hf : ∀ (size' : Nat) (w2 : World), size' = sz → w2.heap = w.heap → (Builtin.firstCells size' ly (.slice xa ly xc)).run P w2 = .ok b'.toArray w2) (hpos : 0 < ti.bytes) (hbb : (lx + ly) * ti.bytes ≤ 140737488355328)
    (hcell : ∀ i, i < lx * sz → w.cell? ⟨p.blk, p.base + ox + i, none⟩ = a'[i]?) :
    ∃ v' w' ρ', (Builtin.append_ #[t, u] ty #[.slice (some ⟨p.blk, p.base + ox, none⟩) lx c', .slice xa ly xc]).run P w = .ok v' w' ∧ VRel ρ' v v' ∧ Post ρ V w B n m' n' wm ρ' w' := by
  unfold appU at h
  split at h
  · rename_i c s hg
    cases hl : (AMem.lim m n && Nat.beq s sz)
    · rw [hl, cond_false] at h; cases h
    · rw [hl, cond_true] at h
      injection h with e1 e2 e3 e4 e5
      subst e1; subst e2; subst e3; subst e4; subst e5
      rw [Bool.and_eq_true] at hl
      have hs : s = sz := Nat.eq_of_beq_eq_true hl.2
      subst hs
      obtain ⟨hV, hb0⟩ := at_block hm hag hF hg hp
      obtain ⟨hbn, hget⟩ := getb_some hg
      obtain ⟨hpsz, cc, ce, fz, hheap, hcells, hwr, hopn, hlen⟩ := hb0
      obtain ⟨hB, hfz⟩ := hwr rfl
      subst hfz
      have hopn := hopn rfl
      rw [hpsz] at hcap
      by_cases hroom : lx + ly ≤ c'
      · -- there is room
        have hmul : (lx + ly) * s ≤ c' * s := Nat.mul_le_mul_right _ hroom
        rw [Nat.add_mul] at hmul
        have hfit : p.base + ox + lx * s + 0 + b'.length ≤ cc.size := by rw [hlb]; omega
        have hst := run_storeCells_at P p.blk (p.base + ox + lx * s) ce b' 0 cc w hheap hfit hone
        have hrun := run_app_fit (P := P) (w := w) (ty := ty) (a := ⟨p.blk, p.base + ox, none⟩) ht hu hi (hf ti.size w hsz rfl) hroom (by rw [addr_add, hsz]; exact hst)
        obtain ⟨ρ', hn, hpost⟩ := Post.appU (n := n) (b := bx) (sz := s) (cap := c' * s) (c' := a ++ b) hm hl.1 (AMem.get_lim _ _ _ hget) hbn hfree hp hV rfl hB ⟨p.blk, p.base + ox, c' * s, s⟩ rfl (.inl rfl) (by rw [setRow_size]; exact hm.fresh bx p hp) rfl
          (w' := w.setRow p.blk (List.take (p.base + ox + lx * s + 0) cc.toList ++ b' ++ List.drop (p.base + ox + lx * s + 0 + b'.length) cc.toList).toArray) (fun ρ' hle => by
            refine ⟨rfl, _, ce, (0, 0), setRow_heap w p.blk cc _ ce (0, 0) hheap, fun i x hx => ?_, fun _ => ⟨hB, rfl⟩, fun _ => ?_, ?_⟩
            · have hta : (cc.toList.take (p.base + ox + lx * s + 0)).length = p.base + ox + lx * s := by simp; omega
              simp only [List.getElem?_toArray]
              rw [List.append_assoc]
              have hal : a.length = lx * s := by rw [ha.1]; exact hla
              by_cases hia : i < lx * s
              · rw [List.getElem?_append_left (by omega)] at hx
                obtain ⟨y, hy, hv⟩ := ha.get hx
                refine ⟨y, ?_, hv.mono hle⟩
                rw [List.getElem?_append_left (by omega), List.getElem?_take, if_pos (by omega), ← hy, ← hcell i hia]
                simp [World.cell?, hheap]
              · rw [List.getElem?_append_right (by omega), hal] at hx
                obtain ⟨y, hy, hv⟩ := hb.get hx
                refine ⟨y, ?_, hv.mono hle⟩
                have hilt := (List.getElem?_eq_some_iff.1 hy).1
                rw [List.getElem?_append_right (by omega), hta, List.getElem?_append_left (by omega), ← hy]
                congr 1; omega
            · simp; omega
            · have hal := ha.1; have hbl := hb.1
              simp; omega) (fun k h1 _ => setRow_other w _ _ k h1) rfl rfl rfl (by rw [setRow_size]; exact Nat.le_refl _)
        refine ⟨_, _, ρ', hrun, ?_, hpost⟩
        show VRel ρ' (.slice (some ⟨n, 0, none⟩) (lx + ly) UNK) _
        exact VRel.slice (p := ⟨p.blk, p.base + ox, c' * s, s⟩) hn hroom (fun _ => by simp) (fun h => absurd rfl h) (by decide)
      · -- there is none
        have hg : c' < lx + ly := by omega
        obtain ⟨rest, hrest, hrun⟩ := run_app_grow (P := P) (w := w) (ty := ty) ht hu hi hz (hfo ti.size w.drew hsz rfl) (hf ti.size w.drew hsz rfl) hg hpos hbb
        have hge : lx + ly ≤ grownCap w (lx + ly) c' e := grownCap_ge w _ _ _
        have hcl : (a' ++ b' ++ rest).length = grownCap w (lx + ly) c' e * s := by
          rw [List.length_append, List.length_append, hla, hlb, hrest, hzs, ← Nat.add_mul, ← Nat.add_mul]; congr 1; omega
        obtain ⟨ρ', hn, hpost⟩ := Post.appU (n := n) (b := bx) (sz := s) (cap := grownCap w (lx + ly) c' e * s) (c' := a ++ b) hm hl.1 (AMem.get_lim _ _ _ hget) hbn hfree hp hV rfl hB ⟨w.heap.size, 0, grownCap w (lx + ly) c' e * s, s⟩ rfl (.inr rfl) (by simp) rfl
          (w' := w.drew.alloc (.cells (a' ++ b' ++ rest).toArray e)) (fun ρ' hle => by
            refine ⟨rfl, _, e, (0, 0), heap_alloc w.drew _, fun i x hx => ?_, fun _ => ⟨hm.le, rfl⟩, fun _ => ?_, ?_⟩
            · obtain ⟨y, hy, hv⟩ := (ha.append hb).get hx
              refine ⟨y, ?_, hv.mono hle⟩
              have hi := (List.getElem?_eq_some_iff.1 hy).1
              simp only [Nat.zero_add, List.getElem?_toArray]
              rw [List.getElem?_append_left hi]; exact hy
            · show 0 + grownCap w (lx + ly) c' e * s ≤ (a' ++ b' ++ rest).toArray.size
              simp only [List.size_toArray, hcl]; omega
            · show 0 + (a ++ b).length ≤ (a' ++ b' ++ rest).toArray.size
              have h1 := (ha.append hb).1
              simp only [List.size_toArray, List.length_append] at h1 ⊢; omega)
          (fun k h1 h2 => by
            show (w.heap.push _)[k]? = _
            rw [Array.getElem?_push, if_neg (by omega)]) rfl rfl rfl (by simp)
        refine ⟨_, _, ρ', hrun, ?_, hpost⟩
        show VRel ρ' (.slice (some ⟨n, 0, none⟩) (lx + ly) UNK) _
        exact VRel.slice (p := ⟨w.heap.size, 0, grownCap w (lx + ly) c' e * s, s⟩) hn hge (fun _ => by simp) (fun h => absurd rfl h) (by decide)
  · cases h

theorem all_one {b b' : List Value} (h : LRel ρ b b') (hone : b.all one = true) : ∀ v ∈ b', v.oneCell' = true := by
  intro v hv
  obtain ⟨j, hj, rfl⟩ := List.getElem_of_mem hv
  have hj' : j < b.length := by rw [h.1]; exact hj
  have := h.2 j _ _ (List.getElem?_eq_getElem hj') (List.getElem?_eq_getElem hj)
  refine this.one ?_
  rw [List.all_eq_true] at hone
  exact hone _ (List.getElem_mem hj')

/-- the address of a slice that shows cells -/
theorem shown_cells {m : μ} {n sz F r lx c' bx ox cx : Nat} {a : List Value} {p : Place} (hm : MRel ρ V w B) (hp : ρ bx = some p) (hx : VRel ρ (.slice (some ⟨bx, ox, none⟩) lx cx) (.slice (some ⟨p.blk, p.base + ox, none⟩) lx c'))
    (h : shown m n sz (.slice (some ⟨bx, ox, none⟩) lx cx) = some (a, r)) (hag : Agree V m n F) (hF : ∀ b, r.testBit b = true → F.testBit b = true) {a' : List Value} (hla : a'.length = lx * sz)
    (hfo : (Builtin.firstCells sz lx (.slice (some ⟨p.blk, p.base + ox, none⟩) lx c')).run P w = .ok a'.toArray w) : ∀ i, i < lx * sz → w.cell? ⟨p.blk, p.base + ox + i, none⟩ = a'[i]? := by
  intro i hi
  unfold shown at h
  cases h0 : Nat.beq lx 0
  · simp only [h0, cond_false] at h
    unfold shownB at h
    split at h
    · rename_i c1 s _ _ hg
      cases hs : Nat.beq s sz
      · rw [hs, cond_false] at h; cases h
      · rw [hs, cond_true] at h
        cases hc : cellsAt c1 ox (Nat.mul lx sz) with
        | none => rw [hc] at h; cases h
        | some l1 =>
          rw [hc] at h
          have h : some (l1, bit bx) = some (a, r) := h
          injection h with h; injection h with e1 e2; subst e1; subst e2
          obtain ⟨_, hb⟩ := at_block hm hag (hF bx (by rw [bit_test]; simp)) hg hp
          obtain ⟨l', hr, hl', hcell⟩ := brel_cells hb hc
          have hl'' := run_firstCells_some (P := P) w sz lx ⟨p.blk, p.base + ox, none⟩ lx c' l' hl' (fun j v hv => (hcell j v hv).2)
          rw [hl''] at hfo
          have e : l' = a' := by
            injection hfo with e1; have := congrArg Array.toList e1; simpa using this
          subst e
          have hil : i < l'.length := by rw [hla]; exact hi
          rw [List.getElem?_eq_getElem hil]
          have := (hcell i _ (List.getElem?_eq_getElem hil)).2
          rwa [addr_add] at this
    · cases h
  · have h0 : lx = 0 := Nat.eq_of_beq_eq_true h0
    subst h0; simp at hi

theorem appO_sound {m m' : μ} {n n' r wm sz bytes : Nat} {t u e el ty : Nat} {ti : TypeInfo} {z : Value} {x y x' y' v : Value}
    (hm : MRel ρ V w B) (h : appO sz bytes m n x y (shown m n sz x) (shown m n sz y) = .ok v m' n' r wm) (hag : Agree V m n (Nat.lor r wm)) (hfree : Free ρ n)
    (ht : P.underlying t = some (.slice e)) (hu : P.underlying u = some (.slice el)) (hi : P.info? e = some ti) (hz : ti.zero = some z) (hsz : ti.size = sz) (hzs : z.cells.size = sz) (hby : ti.bytes = bytes)
    (hx : VRel ρ x x') (hy : VRel ρ y y') :
    ∃ v' w' ρ', (Builtin.append_ #[t, u] ty #[x', y']).run P w = .ok v' w' ∧ VRel ρ' v v' ∧ Post ρ V w B n m' n' wm ρ' w' := by
  cases hsx : shown m n sz x with
  | none => rw [hsx] at h; cases h
  | some pa =>
  cases hsy : shown m n sz y with
  | none => rw [hsx, hsy] at h; cases h
  | some pb =>
  obtain ⟨a, ra⟩ := pa
  obtain ⟨b, rb⟩ := pb
  rw [hsx, hsy] at h
  replace h : appV sz bytes m n (a, ra) (b, rb) x y = .ok v m' n' r wm := h
  unfold appV at h
  split at h
  · rename_i ax lx cx ay ly cy
    cases hc : (b.all one && Nat.blt 0 sz && Nat.blt 0 bytes && Nat.ble (Nat.mul (Nat.add lx ly) bytes) 140737488355328)
    · simp only [hc, cond_false] at h; cases h
    · simp only [hc, cond_true] at h
      simp only [Bool.and_eq_true, Nat.blt_eq, Nat.ble_eq] at hc
      obtain ⟨⟨⟨hone, hszp⟩, hbyp⟩, hbb⟩ := hc
      have hbb : (lx + ly) * bytes ≤ 140737488355328 := hbb
      obtain ⟨ax', cx', rfl⟩ := slice_shape hx
      obtain ⟨ay', cy', rfl⟩ := slice_shape hy
      -- the masks
      have hr : ∀ k, (Nat.lor ra rb).testBit k = true → (Nat.lor r wm).testBit k = true := by
        intro k hk
        have e : r = Nat.lor ra rb := by
          unfold appG at h
          split at h
          · cases hl : Nat.beq ly 0
            · rw [hl, cond_false] at h; unfold appN at h
              cases hl2 : AMem.lim m n
              · rw [hl2, cond_false] at h; cases h
              · rw [hl2, cond_true] at h; injection h with _ _ _ e _; exact e.symm
            · rw [hl, cond_true] at h; injection h with _ _ _ e _; exact e.symm
          · rename_i bx ox
            cases hl : Nat.beq cx VAG
            · rw [hl, cond_false] at h
              cases hl1 : Nat.beq cx UNK
              · rw [hl1, cond_false] at h
                cases hl2 : Nat.ble (Nat.add lx ly) cx
                · rw [hl2, cond_false] at h; unfold appN at h
                  cases hl3 : AMem.lim m n
                  · rw [hl3, cond_false] at h; cases h
                  · rw [hl3, cond_true] at h; injection h with _ _ _ e _; exact e.symm
                · rw [hl2, cond_true] at h; unfold appR at h
                  split at h
                  · unfold putC at h
                    split at h
                    · injection h with _ _ _ e _; exact e.symm
                    · cases h
                  · cases h
              · rw [hl1, cond_true] at h; unfold appU at h
                split at h
                · rename_i s _
                  cases hl3 : (AMem.lim m n && Nat.beq s sz)
                  · rw [hl3, cond_false] at h; cases h
                  · rw [hl3, cond_true] at h; injection h with _ _ _ e _; exact e.symm
                · cases h
            · rw [hl, cond_true] at h; cases h
          · cases h
        rw [lor_test, e, hk]; rfl
      have hra : ∀ k, ra.testBit k = true → (Nat.lor r wm).testBit k = true := fun k hk => hr k (by rw [lor_test, hk]; rfl)
      have hrb : ∀ k, rb.testBit k = true → (Nat.lor r wm).testBit k = true := fun k hk => hr k (by rw [lor_test, hk]; simp)
      obtain ⟨a', ha, hla, hfa⟩ := shown_sound (P := P) hm hx hsx hag hra
      obtain ⟨b', hb, hlb, hfb⟩ := shown_sound (P := P) hm hy hsy hag hrb
      have hone' := all_one hb hone
      have hlen : (a' ++ b').length = (lx + ly) * sz := by rw [List.length_append, hla, hlb, ← Nat.add_mul]
      unfold appG at h
      split at h
      · -- a nil slice
        have e0 : lx = 0 ∧ cx = 0 ∧ a = [] := by
          unfold shown at hsx
          split at hsx
          · rename_i e1; injection e1 with _ e2 e3; injection hsx with hsx; injection hsx with e4 _
            exact ⟨e2, e3, e4.symm⟩
          · rename_i e1; injection e1 with e1; cases e1
          · cases hsx
        obtain ⟨rfl, rfl, rfl⟩ := e0
        have ex := hx.flat_eq rfl
        injection ex with ex1 _ ex3; subst ex1; subst ex3
        cases hl : Nat.beq ly 0
        · rw [hl, cond_false] at h
          have hne : ly ≠ 0 := by intro e; subst e; simp at hl
          have ha' : a' = [] := by have := ha.1; cases a' with | nil => rfl | cons => simp at this
          exact appN_sound hm h hfree ht hu hi hz hsz hzs rfl (ha.append hb) hlen (hfa _ _ hsz rfl) (hfb _ _ hsz rfl) (by omega) (by omega) (by rw [hby]; exact hbb)
        · rw [hl, cond_true] at h
          injection h with e1 e2 e3 e4 e5
          subst e1; subst e2; subst e3; subst e5
          have hl : ly = 0 := Nat.eq_of_beq_eq_true hl
          subst hl
          have hb0 : b' = [] := by have := hlb; simp at this; exact this
          have hrun := hfb ti.size w hsz rfl
          rw [hb0] at hrun
          exact ⟨_, w, ρ, run_app_nil0 ht hu hi hrun, .flat rfl, Post.same hm n m⟩
      · rename_i bx ox
        cases hl : Nat.beq cx VAG
        · rw [hl, cond_false] at h
          have hnv : cx ≠ VAG := by intro e; subst e; simp at hl
          cases hx with
          | flat hf => simp [flat] at hf
          | vag => exact absurd rfl hnv
          | slice hp hn hun hk hv =>
            rename_i p
            have hx' : VRel ρ (.slice (some ⟨bx, ox, none⟩) lx cx) (.slice (some ⟨p.blk, p.base + ox, none⟩) lx cx') := .slice hp hn hun hk hv
            cases hl1 : Nat.beq cx UNK
            · rw [hl1, cond_false] at h
              have hnu : cx ≠ UNK := by intro e; subst e; simp at hl1
              have ec := hk hnu
              subst ec
              cases hl2 : Nat.ble (Nat.add lx ly) cx'
              · rw [hl2, cond_false] at h
                have hg : ¬ lx + ly ≤ cx' := by intro hh; have : Nat.ble (Nat.add lx ly) cx' = true := by rw [Nat.ble_eq]; exact hh
                                                rw [this] at hl2; cases hl2
                exact appN_sound hm h hfree ht hu hi hz hsz hzs rfl (ha.append hb) hlen (hfa _ _ hsz rfl) (hfb _ _ hsz rfl) (by omega) (by omega) (by rw [hby]; exact hbb)
              · rw [hl2, cond_true] at h
                rw [Nat.ble_eq] at hl2
                have hroom : lx + ly ≤ cx' := hl2
                unfold appR at h
                split at h
                · rename_i c s opn hg
                  unfold putC at h
                  split at h
                  · rename_i c1 hs
                    injection h with e1 e2 e3 e4 e5
                    subst e1; subst e2; subst e3; subst e4; subst e5
                    obtain ⟨hV, hb0⟩ := at_block hm hag (by rw [lor_test, bit_test]; simp) hg hp
                    obtain ⟨w', hw, hb', ho, h1, h2, h3, h4⟩ := brel_set (P := P) hb0 hs hb hone'
                    refine ⟨_, w', ρ, run_app_fit (P := P) (w := w) (ty := ty) ht hu hi (hfb _ _ hsz rfl) hroom (by rw [addr_add, hsz, Nat.add_assoc]; exact hw), ?_, Post.write hm (AMem.get_lim _ _ _ (getb_some hg).2) hp hV hb' ho h1 h2 h3 h4⟩
                    exact VRel.slice hp hroom hun (fun _ => rfl) hv
                  · cases h
                · cases h
            · rw [hl1, cond_true] at h
              have ecu : cx = UNK := Nat.eq_of_beq_eq_true hl1
              exact appU_sound hm h hag (by
                  unfold appU at h
                  split at h
                  · rename_i s _
                    cases hl3 : (AMem.lim m n && Nat.beq s sz)
                    · rw [hl3, cond_false] at h; cases h
                    · rw [hl3, cond_true] at h; injection h with _ _ _ _ e
                      rw [lor_test, ← e, lor_test, bit_test]; simp
                  · cases h) hfree ht hu hi hz hsz hzs hp (hun ecu) ha hb hla hlb hone' hn hfa hfb (by omega) (by rw [hby]; exact hbb)
                (shown_cells (P := P) hm hp hx' hsx hag hra hla (hfa sz w rfl rfl))
        · rw [hl, cond_true] at h; cases h
      · cases h
  · cases h
end
end Go.Am
namespace Go.Am
open Go Go.RowKit
section
variable {μ : Type} [AMem μ] {P : Program} {ρ : Ren} {V : Nat → Option Blk} {w : World} {B : Nat}

omit [AMem μ] in
theorem valO_ok {m m' : μ} {n n' r wm : Nat} {x : Option Value} {v : Value} (h : valO m n x = .ok v m' n' r wm) : x = some v ∧ m' = m ∧ n' = n ∧ r = 0 ∧ wm = 0 := by
  unfold valO at h; split at h
  · injection h with e1 e2 e3 e4 e5; subst e1; subst e2; subst e3; subst e4; subst e5; exact ⟨rfl, rfl, rfl, rfl, rfl⟩
  · cases h
omit [AMem μ] in
theorem valR_ok {m m' : μ} {n n' r wm b : Nat} {x : Option Value} {v : Value} (h : valR m n b x = .ok v m' n' r wm) : x = some v ∧ m' = m ∧ n' = n ∧ r = bit b ∧ wm = 0 := by
  unfold valR at h; split at h
  · injection h with e1 e2 e3 e4 e5; subst e1; subst e2; subst e3; subst e4; subst e5; exact ⟨rfl, rfl, rfl, rfl, rfl⟩
  · cases h

/-- the goal of each operation -/
def Goal (P : Program) (ρ : Ren) (V : Nat → Option Blk) (w : World) (B n : Nat) (m' : μ) (n' wm : Nat) (v : Value) (s : Sem Next) : Prop :=
  ∃ nx w' ρ', s.run P w = .ok nx w' ∧ NRel ρ' v nx ∧ Post ρ V w B n m' n' wm ρ' w'

theorem Goal.pure {m : μ} {n : Nat} {v v' : Value} {s : Sem Value} (hm : MRel ρ V w B) (hr : s.run P w = .ok v' w) (hv : VRel ρ v v') : Goal P ρ V w B n m n 0 v (do Pure.pure (.value (← s))) :=
  ⟨.value v', w, ρ, by rw [Sem.run_bind, hr]; rfl, .inl ⟨v', rfl, hv⟩, Post.same hm n m⟩
theorem Goal.val {m' : μ} {n n' wm : Nat} {v v' : Value} {w' : World} {ρ' : Ren} {s : Sem Value} (hr : s.run P w = .ok v' w') (hv : VRel ρ' v v') (hp : Post ρ V w B n m' n' wm ρ' w') : Goal P ρ V w B n m' n' wm v (do Pure.pure (.value (← s))) :=
  ⟨.value v', w', ρ', by rw [Sem.run_bind, hr]; rfl, .inl ⟨v', rfl, hv⟩, hp⟩

theorem mkl_len {sz len : Nat} {z c : List Value} {ps : List (Nat × Nat × Value)} (hz : z.length = sz) (h : fillA ps (reps z len) = some c) : c.length = len * sz := by
  have key : ∀ (ps : List (Nat × Nat × Value)) (c d : List Value), fillA ps c = some d → d.length = c.length := by
    intro ps
    induction ps with
    | nil => intro c d h; have h : some c = some d := h; injection h with h; rw [h]
    | cons p ps ih =>
      intro c d h
      have h : cond (Nat.beq (llen p.2.2.cells.toList) p.2.1) (Option.rec (motive := fun _ => Option (List Value)) none (fillA ps) (setCells c p.1 p.2.2.cells.toList)) none = some d := h
      cases hb : Nat.beq (llen p.2.2.cells.toList) p.2.1
      · rw [hb, cond_false] at h; cases h
      · rw [hb, cond_true] at h
        cases hs : setCells c p.1 p.2.2.cells.toList with
        | none => rw [hs] at h; cases h
        | some c1 => rw [hs] at h; rw [ih c1 d h]; exact (setCells_get hs).2.1
  rw [key _ _ _ h, reps_eq, List.length_flatten]
  simp [hz]

theorem zeros_eq {z : Array Value} {sz n : Nat} (hz : z.size = sz) (h0 : sz ≠ 0) : ((Array.range (n * sz)).map (fun i => z[i % z.size]!)).toList = (List.replicate n z.toList).flatten := by
  apply List.ext_getElem?
  intro i
  have hsum : ∀ n : Nat, ((List.replicate n z.toList).flatten).length = n * sz := by intro n; rw [List.length_flatten]; simp [hz]
  have hget : ∀ (n i : Nat), i < n * sz → ((List.replicate n z.toList).flatten)[i]? = z[i % sz]? := by
    intro n
    induction n with
    | zero => intro i hi; simp at hi
    | succ n ih =>
      intro i hi
      rw [List.replicate_succ, List.flatten_cons]
      by_cases h : i < sz
      · rw [List.getElem?_append_left (by simpa [hz] using h), Nat.mod_eq_of_lt h]; simp
      · rw [List.getElem?_append_right (by simp [hz]; omega)]
        have e : z.toList.length = sz := by simpa using hz
        rw [e, ih (i - sz) (by rw [Nat.succ_mul] at hi; omega), ← Nat.mod_eq_sub_mod (by omega)]
  by_cases hi : i < n * sz
  · rw [hget n i hi]
    have hlt : i % sz < z.size := by rw [hz]; exact Nat.mod_lt _ (by omega)
    subst hz
    simp only [Array.getElem?_toList, Array.getElem?_map, Array.getElem?_range, hi, if_true, Option.map_some]
    rw [getElem!_pos z _ hlt, getElem?_pos z _ hlt]
  · rw [List.getElem?_eq_none (by simp; omega), List.getElem?_eq_none (by rw [hsum]; omega)]

omit [AMem μ] in
theorem run_places (fs : Array Field) (hall : fs.toList.all (fun f => (P.info? f.type).isSome) = true) : (fs.mapM (m := Sem) fun f => Prod.mk f.offset <$> sizeOf f.type).run P w = .ok (places P fs).toArray w := by
  have key : ∀ l : List Field, l.all (fun f => (P.info? f.type).isSome) = true → (l.mapM (m := Sem) fun f => Prod.mk f.offset <$> sizeOf f.type).run P w = .ok (l.map fun f => (f.offset, ((P.info? f.type).map (·.size)).getD 0)) w := by
    intro l
    induction l with
    | nil => intro _; rfl
    | cons f l ih =>
      intro hl
      simp only [List.all_cons, Bool.and_eq_true] at hl
      obtain ⟨i, hi⟩ := Option.isSome_iff_exists.1 hl.1
      simp only [List.mapM_cons, Sem.run_bind, Sem.run_map, run_sizeOf hi, Result.andThen_ok, ih hl.2, Sem.run_pure, List.map_cons, hi, Option.map_some, Option.getD_some]
  have h := key fs.toList hall
  rw [Array.mapM_eq_mapM_toList]
  simp only [Sem.run_map, h, Result.andThen_ok]
  rfl
omit [AMem μ] in
theorem build_struct {t : Nat} {ti : TypeInfo} {zv : Value} {fs : Array Field} {ps : Array (Nat × Operand)} {d' : Array Value} {a : Act} (hti : P.info? t = some ti) (hzv : ti.zero = some zv) (hfs : P.underlying t = some (.struct fs))
    (hall : fs.toList.all (fun f => (P.info? f.type).isSome) = true) (hd : Instr.fill (fun i => (places P fs)[i]?) zv.cells (ps.toList.map fun p => (p.1, a.eval p.2)) = some d') :
    (Instr.build t (ps.map fun (i, x) => (i, a.eval x))).run P w = .ok (.agg d') w := by
  have e1 : (fun i : Nat => (places P fs).toArray[i]?) = fun i => (places P fs)[i]? := by funext i; simp
  have e2 : (ps.map fun (i, x) => (i, a.eval x)).toList = ps.toList.map fun p => (p.1, a.eval p.2) := by simp
  have hp := run_places (P := P) (w := w) fs hall
  unfold Instr.build
  simp only [Sem.run_bind, run_zeroValue hti hzv, run_underlying hfs, Result.andThen_ok, bind_pure_comp, hp, e1, e2, hd, Sem.run_pure]
omit [AMem μ] in
theorem build_array {t k el : Nat} {ti ie : TypeInfo} {zv : Value} {ps : Array (Nat × Operand)} {d' : Array Value} {a : Act} (hti : P.info? t = some ti) (hzv : ti.zero = some zv) (hel : P.underlying t = some (.array k el)) (hie : P.info? el = some ie)
    (hd : Instr.fill (fun i => some (i * ie.size, ie.size)) zv.cells (ps.toList.map fun p => (p.1, a.eval p.2)) = some d') :
    (Instr.build t (ps.map fun (i, x) => (i, a.eval x))).run P w = .ok (.agg d') w := by
  have e2 : (ps.map fun (i, x) => (i, a.eval x)).toList = ps.toList.map fun p => (p.1, a.eval p.2) := by simp
  unfold Instr.build
  simp only [Sem.run_bind, run_zeroValue hti hzv, run_underlying hel, Result.andThen_ok, run_sizeOf hie, e2, hd, Sem.run_pure]

omit [AMem μ] in
theorem run_buildSlice {t el len sz : Nat} {ti : TypeInfo} {zv : Value} {ps : Array (Nat × Operand)} {d' : Array Value} {a : Act} (hel : P.underlying t = some (.slice el)) (hti : P.info? el = some ti) (hzv : ti.zero = some zv) (hts : ti.size = sz) (hle : len * sz ≤ 16777216)
    (hd : Instr.fill (fun i => some (i * sz, sz)) ((Array.range (len * sz)).map (fun i => zv.cells[i % zv.cells.size]!)) (ps.toList.map fun p => (p.1, a.eval p.2)) = some d') :
    (Instr.buildSlice t len (ps.map fun (i, x) => (i, a.eval x))).run P w = .ok (.slice (some ⟨w.heap.size, 0, none⟩) len len) (w.alloc (.cells d' el)) := by
  have e2 : (ps.map fun (i, x) => (i, a.eval x)).toList = ps.toList.map fun p => (p.1, a.eval p.2) := by simp
  subst hts
  have hno : ¬ (len * ti.size > 2 ^ 24) := by omega
  unfold Instr.buildSlice
  simp only [Sem.run_bind, run_underlying hel, Result.andThen_ok, run_sizeOf hti]
  rw [if_neg hno]
  by_cases hl0 : len * ti.size = 0
  · rw [hl0] at hd
    have r0 : Array.range 0 = #[] := rfl
    simp only [r0, List.map_toArray, List.map_nil] at hd
    simp only [hl0, if_true, Sem.run_pure, Sem.run_bind, Result.andThen_ok, r0, List.map_toArray, List.map_nil, e2, hd, newRow]
    rfl
  · simp only [if_neg hl0, Sem.run_bind, run_zeroValue hti hzv, Result.andThen_ok, Sem.run_pure, e2, hd, newRow]
    rfl

omit [AMem μ] in
theorem run_makeSlice' {t el sz l c : Nat} {ti : TypeInfo} {zv : Value} {k k' : IntKind} (hel : P.underlying t = some (.slice el)) (hti : P.info? el = some ti) (hzv : ti.zero = some zv) (hts : ti.size = sz) (hlc : l ≤ c) (hb : c * ti.bytes ≤ 281474976710656) (hc : c ≤ 1099511627776)
    (hz0 : sz ≠ 0) (hzs : zv.cells.size = sz) :
    (Instr.makeSlice t (.int k (Int.ofNat l)) (.int k' (Int.ofNat c))).run P w = .ok (.slice (some ⟨w.heap.size, 0, none⟩) l c) (w.alloc (.cells ((List.replicate c zv.cells.toList).flatten).toArray el)) := by
  have e1 : IntKind.i64.wrap (Int.ofNat l) = (l : Int) := wrap_id_i64 (by simp only [Int.ofNat_eq_natCast]; omega) (by simp only [Int.ofNat_eq_natCast]; omega)
  have e2 : IntKind.i64.wrap (Int.ofNat c) = (c : Int) := wrap_id_i64 (by simp only [Int.ofNat_eq_natCast]; omega) (by simp only [Int.ofNat_eq_natCast]; omega)
  have h1 : ((ti.bytes : Int) * (c : Int) ≤ 281474976710656) := by rw [← Int.natCast_mul, Nat.mul_comm]; omega
  have h2 : ¬ ((c : Int) < 0) := by omega
  have h3 : ¬ ((l : Int) < 0) := by omega
  have h4 : ¬ ((c : Int) < (l : Int)) := by omega
  have h5 : ¬ (281474976710656 < (ti.bytes : Int) * (c : Int)) := by omega
  unfold Instr.makeSlice
  simp only [Sem.run_bind, run_underlying hel, Result.andThen_ok, asInt, asIntOf, Sem.run_pure, typeInfo, run_program, hti, e1, e2]
  have hcond : (((decide ((c : Int) < 0) || decide ((ti.bytes : Int) * (c : Int) > 2 ^ 48)) || decide ((l : Int) < 0) || decide ((l : Int) > (c : Int))) = true) = False := by
    simp [h3]; omega
  simp only [hcond, if_false, Sem.run_bind, run_askRoom, Result.andThen_ok, Int.toNat_natCast]
  by_cases hc0 : c * ti.size = 0
  · have hcz : c = 0 := by rcases Nat.mul_eq_zero.1 hc0 with h | h; exact h; rw [hts] at h; exact absurd h hz0
    subst hcz
    have r0 : Array.range 0 = #[] := rfl
    simp [run_sizeOf hti, newRow, r0]
  · simp only [run_sizeOf hti, Result.andThen_ok, if_neg hc0, Sem.run_bind, run_zeroValue hti hzv, Sem.run_pure, newRow]
    have e3 : (Array.range (c * ti.size)).map (fun x => zv.cells[x % zv.cells.size]!) = ((List.replicate c zv.cells.toList).flatten).toArray := by
      apply Array.ext'
      rw [hts, zeros_eq hzs hz0]
    rw [e3]
    rfl

theorem sub_goal {dst : Option Tmp} {t ty : Nat} {x : Operand} {lo hi : Option Operand} {a : Act} {pos : String} {after : Array Edge} {guard : Option (Nat × Bool)} {m m' : μ} {n n' r wm : Nat} {v xv : Value} {la lb : Option Nat} (hm : MRel ρ V w B)
    (ht : (match P.underlying t with | some .string => true | _ => false) = true) (hx : VRel ρ xv (a.eval x))
    (hlo : (la = some 0 ∧ lo = none) ∨ ∃ l u, la = natOf u ∧ lo = some l ∧ VRel ρ u (a.eval l)) (hhi : (lb = sizeV xv ∧ hi = none) ∨ ∃ l u, lb = natOf u ∧ hi = some l ∧ VRel ρ u (a.eval l))
    (h : valO m n (subV la lb xv) = .ok v m' n' r wm) : Goal P ρ V w B n m' n' wm v (execOp a.eval ⟨dst, .slice t x lo hi none, ty, pos, after, guard⟩) := by
  have h0 := valO_ok h
  clear h
  obtain ⟨h, rfl, rfl, rfl, rfl⟩ := h0
  have hu : P.underlying t = some .string := by
    split at ht
    · assumption
    · cases ht
  unfold subV at h
  split at h
  · rename_i s
    have e1 := hx.flat_eq rfl
    split at h
    · rename_i _ _ c d
      have hlo : (lo.map a.eval = none ∧ c = 0) ∨ ∃ k, lo.map a.eval = some (.int k (Int.ofNat c)) := by
        rcases hlo with ⟨h1, rfl⟩ | ⟨l, u, h1, rfl, h3⟩
        · injection h1 with h1; exact .inl ⟨rfl, h1⟩
        · obtain ⟨k, hk⟩ := natOf_some h3 h1.symm
          exact .inr ⟨k, by rw [Option.map_some, hk]⟩
      have hhi : (hi.map a.eval = none ∧ d = s.size) ∨ ∃ k, hi.map a.eval = some (.int k (Int.ofNat d)) := by
        rcases hhi with ⟨h1, rfl⟩ | ⟨l, u, h1, rfl, h3⟩
        · injection h1 with h1; exact .inl ⟨rfl, h1⟩
        · obtain ⟨k, hk⟩ := natOf_some h3 h1.symm
          exact .inr ⟨k, by rw [Option.map_some, hk]⟩
      obtain ⟨hr, hf⟩ := subS_sound (w := w) hu h hlo hhi
      rw [← e1] at hr
      have hr : (Instr.sliceAt t (a.eval x) (lo.map a.eval) (hi.map a.eval) none).run P w = .ok v w := by
        unfold Instr.sliceAt
        simp only [Sem.run_bind, run_underlying hu, Result.andThen_ok]
        exact hr
      exact Goal.pure hm hr (.flat hf)
    · cases h
  · cases h

set_option maxHeartbeats 1000000 in
theorem step_sound {Γ : Ctx} {e : List Value} {a : Act} {m m' : μ} {n n' r wm : Nat} {v : Value} {rec : Nat → List Value → μ → Nat → OR μ} {o : Oper} {x : AOp}
    (hnc : (∀ f args, x ≠ .call f args) ∧ (∀ y args, x ≠ .callv y args)) (hchk : chkOp P Γ o.op x = true) (he : EnvRel ρ Γ e a.tmps) (h : stepA P rec e m n x = .ok v m' n' r wm)
    (hm : MRel ρ V w B) (hag : Agree V m n (Nat.lor r wm)) (hfree : Free ρ n) : Goal P ρ V w B n m' n' wm v (execOp a.eval o) := by
  obtain ⟨dst, op, ty, pos, after, guard⟩ := o
  simp only at hchk
  unfold chkOp at hchk
  split at hchk
  -- move, assign
  · rename_i x y
    replace h : OR.ok (ev e y) m n 0 0 = .ok v m' n' r wm := h
    injection h with e1 e2 e3 e4 e5; subst e1; subst e2; subst e3; subst e4; subst e5
    exact ⟨_, w, ρ, rfl, .inl ⟨_, rfl, opd_sound he hchk⟩, Post.same hm n m⟩
  · rename_i x y
    replace h : OR.ok (ev e y) m n 0 0 = .ok v m' n' r wm := h
    injection h with e1 e2 e3 e4 e5; subst e1; subst e2; subst e3; subst e4; subst e5
    exact ⟨_, w, ρ, rfl, .inl ⟨_, rfl, opd_sound he hchk⟩, Post.same hm n m⟩
  -- pick
  · rename_i c a1 b c' a' b'
    replace h : valO m n (pickV (ev e a') (ev e b') (ev e c')) = .ok v m' n' r wm := h
    have h0 := valO_ok h
    clear h
    obtain ⟨h, rfl, rfl, rfl, rfl⟩ := h0
    simp only [Bool.and_eq_true] at hchk
    have hc := opd_sound he hchk.1.1
    unfold pickV at h
    split at h
    · rename_i t ht
      injection h with h
      rw [ht] at hc
      have hc := hc.flat_eq rfl
      refine ⟨.value (if t then a.eval a1 else a.eval b), w, ρ, by simp [execOp, hc, asBool], .inl ⟨_, rfl, ?_⟩, Post.same hm _ _⟩
      rw [← h]
      cases t
      · exact opd_sound he hchk.2
      · exact opd_sound he hchk.1.2
    · cases h
  -- binOp
  · rename_i op t x y yt op' t' x' y'
    replace h : valO m n (binV P op' t' (ev e x') (ev e y')) = .ok v m' n' r wm := h
    have h0 := valO_ok h
    clear h
    obtain ⟨h, rfl, rfl, rfl, rfl⟩ := h0
    simp only [Bool.and_eq_true, beq_iff_eq] at hchk
    obtain ⟨⟨⟨e1, e2⟩, hx⟩, hy⟩ := hchk
    have e1 : op = op' := e1
    subst e1; subst e2
    obtain ⟨v', hr, hv⟩ := binV_sound (w := w) (opd_sound he hx) (opd_sound he hy) h x y
    exact Goal.pure hm hr hv
  -- unOp
  · rename_i op t x op' x'
    replace h : valO m n (unaV op' (ev e x')) = .ok v m' n' r wm := h
    have h0 := valO_ok h
    clear h
    obtain ⟨h, rfl, rfl, rfl, rfl⟩ := h0
    simp only [Bool.and_eq_true, beq_iff_eq] at hchk
    obtain ⟨e1, hx⟩ := hchk
    have e1 : op = op' := e1
    subst e1
    obtain ⟨v', hr, hv⟩ := unaV_sound (P := P) (w := w) (opd_sound he hx) h
    exact Goal.pure hm hr hv
  -- convert
  · rename_i s d x k x'
    replace h : valO m n (convV k (ev e x')) = .ok v m' n' r wm := h
    have h0 := valO_ok h
    clear h
    obtain ⟨h, rfl, rfl, rfl, rfl⟩ := h0
    simp only [Bool.and_eq_true] at hchk
    obtain ⟨⟨hs, hd⟩, hx⟩ := hchk
    split at hd
    · rename_i k' hd'
      have : k = k' := by simpa using hd
      subst this
      obtain ⟨v', hr, hv⟩ := convV_sound (w := w) hs hd' (opd_sound he hx) h
      exact Goal.pure hm hr hv
    · cases hd
  -- fieldAddr
  · rename_i t x f off x'
    replace h : valO m n (fldV off (ev e x')) = .ok v m' n' r wm := h
    have h0 := valO_ok h
    clear h
    obtain ⟨h, rfl, rfl, rfl, rfl⟩ := h0
    simp only [Bool.and_eq_true] at hchk
    obtain ⟨ht, hx⟩ := hchk
    split at ht
    · rename_i fs hfs
      split at ht
      · rename_i fd hfd
        simp only [Bool.and_eq_true, beq_iff_eq] at ht
        obtain ⟨ho, hi⟩ := ht
        split at hi
        · rename_i ti hti
          obtain ⟨v', hr, hv⟩ := fldV_sound (w := w) hfs hfd ho hti (by simpa using hi) (opd_sound he hx) h
          exact Goal.pure hm hr hv
        · cases hi
      · cases ht
    · cases ht
  -- indexAddr of a slice
  · rename_i t x i sz x' i'
    replace h : valO m n (obind (fun i => idxV sz i (ev e x')) (natOf (ev e i'))) = .ok v m' n' r wm := h
    have h0 := valO_ok h
    clear h
    obtain ⟨h, rfl, rfl, rfl, rfl⟩ := h0
    simp only [Bool.and_eq_true] at hchk
    obtain ⟨⟨ht, hx⟩, hi⟩ := hchk
    split at ht
    · rename_i el hel
      obtain ⟨ti, hti, hts⟩ := isSz_run ht
      cases hn : natOf (ev e i') with
      | none => rw [hn] at h; cases h
      | some k =>
        rw [hn] at h
        obtain ⟨ik, hik⟩ := natOf_some (opd_sound he hi) hn
        obtain ⟨v', hr, hv⟩ := idxV_sound (w := w) (k := ik) hel hti hts (opd_sound he hx) h
        refine Goal.pure (v' := v') hm ?_ hv
        rw [hik]; exact hr
    · cases ht
  -- indexAddr of an array
  · rename_i t x i k sz x' i'
    replace h : valO m n (obind (fun i => idaV k sz i (ev e x')) (natOf (ev e i'))) = .ok v m' n' r wm := h
    have h0 := valO_ok h
    clear h
    obtain ⟨h, rfl, rfl, rfl, rfl⟩ := h0
    simp only [Bool.and_eq_true] at hchk
    obtain ⟨⟨ht, hx⟩, hi⟩ := hchk
    split at ht
    · rename_i k' el hel
      simp only [Bool.and_eq_true, beq_iff_eq] at ht
      obtain ⟨rfl, ht⟩ := ht
      obtain ⟨ti, hti, hts⟩ := isSz_run ht
      cases hn : natOf (ev e i') with
      | none => rw [hn] at h; cases h
      | some j =>
        rw [hn] at h
        obtain ⟨ik, hik⟩ := natOf_some (opd_sound he hi) hn
        obtain ⟨v', hr, hv⟩ := idaV_sound (w := w) (k := ik) hel hti hts (opd_sound he hx) h
        refine Goal.pure (v' := v') hm ?_ hv
        rw [hik]; exact hr
    · cases ht
  -- build
  · rename_i t ps z ps'
    replace h : valO m n (aggO (fillA (parts3 e ps') z)) = .ok v m' n' r wm := h
    have h0 := valO_ok h
    clear h
    obtain ⟨h, rfl, rfl, rfl, rfl⟩ := h0
    obtain ⟨c, hc, rfl⟩ := aggO_some h
    simp only [Bool.and_eq_true] at hchk
    obtain ⟨hz, hp⟩ := hchk
    obtain ⟨ti, zv, hti, hzv, hzl, hfl, _⟩ := isZero_run hz
    split at hp
    · rename_i fs hfs
      simp only [Bool.and_eq_true] at hp
      obtain ⟨hall, hps⟩ := hp
      obtain ⟨h1, h2⟩ := partsOk_sound he hps
      obtain ⟨d', hd, hr⟩ := fill_sound _ _ z c zv.cells h1 h2 (by rw [hzl]; exact flats_rel ρ hfl) hc
      refine Goal.pure (v' := .agg d') hm (build_struct hti hzv hfs hall hd) (by have := hr.agg; simpa using this)
    · rename_i k el hel
      split at hp
      · rename_i ie hie
        obtain ⟨h1, h2⟩ := partsOk_sound he hp
        obtain ⟨d', hd, hr⟩ := fill_sound (place := fun i => some (i * ie.size, ie.size)) _ _ z c zv.cells h1 h2 (by rw [hzl]; exact flats_rel ρ hfl) hc
        refine Goal.pure (v' := .agg d') hm (build_array hti hzv hel hie hd) (by have := hr.agg; simpa using this)
      · cases hp
    · cases hp
  -- extract
  · rename_i x i i' x'
    replace h : valO m n (extrV i' (ev e x')) = .ok v m' n' r wm := h
    have h0 := valO_ok h
    clear h
    obtain ⟨h, rfl, rfl, rfl, rfl⟩ := h0
    simp only [Bool.and_eq_true, beq_iff_eq] at hchk
    obtain ⟨rfl, hx⟩ := hchk
    obtain ⟨v', hr, hv⟩ := extrV_sound (P := P) (w := w) (opd_sound he hx) h
    exact Goal.pure hm hr hv
  -- nilCheck
  · rename_i x x'
    replace h : valO m n (nilckV (ev e x')) = .ok v m' n' r wm := h
    have h0 := valO_ok h
    clear h
    obtain ⟨h, rfl, rfl, rfl, rfl⟩ := h0
    obtain ⟨ad, hx, hv⟩ := nilckV_sound (opd_sound he hchk) h
    exact ⟨.value (a.eval x), w, ρ, by simp [execOp, hx], .inl ⟨_, rfl, hv⟩, Post.same hm _ _⟩
  -- makeFunc
  · rename_i f a1 c f' a' c'
    replace h : OR.ok (.func (.func f') (evs e a').toArray (evs e c').toArray) m n 0 0 = .ok v m' n' r wm := h
    injection h with e1 e2 e3 e4 e5; subst e1; subst e2; subst e3; subst e4; subst e5
    simp only [Bool.and_eq_true, beq_iff_eq] at hchk
    obtain ⟨⟨rfl, ha⟩, hc⟩ := hchk
    have h1 := opds_sound he ha
    have h2 := opds_sound he hc
    refine ⟨_, w, ρ, rfl, .inl ⟨_, rfl, ?_⟩, Post.same hm n m⟩
    refine .func (by simpa using h1.1) (fun i x y hx hy => h1.2 i x y (by simpa using hx) (by simpa using hy)) (by simpa using h2.1) (fun i x y hx hy => h2.2 i x y (by simpa using hx) (by simpa using hy))
  -- len
  · rename_i args ts str x'
    replace h : valO m n (lenV str (ev e x')) = .ok v m' n' r wm := h
    have h0 := valO_ok h
    clear h
    obtain ⟨h, rfl, rfl, rfl, rfl⟩ := h0
    split at hchk
    · rename_i x t hargs hts
      simp only [Bool.and_eq_true] at hchk
      obtain ⟨hx, ht⟩ := hchk
      have hargs : args = #[x] := by apply Array.ext'; simpa using hargs
      subst hargs
      have hxr := opd_sound he hx
      have hok : ∃ v', (Builtin.len_ ts ty #[a.eval x]).run P w = .ok v' w ∧ VRel ρ v v' := by
        unfold lenV at h
        split at h
        · rename_i ad k c hxe
          rw [hxe] at hxr
          obtain ⟨a', c', hsh⟩ := slice_shape hxr
          split at ht
          · rename_i el hel
            have : str = false := by simpa using ht
            subst this
            injection h with h; subst h
            exact ⟨.int .i64 k, by simp [Builtin.len_, hts, hsh, run_underlying hel, goInt], .int ρ _ _⟩
          · subst ht; cases h
          · cases ht
        · rename_i s hxe
          rw [hxe] at hxr
          have e := hxr.flat_eq rfl
          split at ht
          · have : str = false := by simpa using ht
            subst this; cases h
          · rename_i hst
            subst ht
            injection h with h; subst h
            exact ⟨.int .i64 s.size, by simp [Builtin.len_, hts, e, run_underlying hst, goInt], .int ρ _ _⟩
          · cases ht
        · cases h
      obtain ⟨v', hr, hv⟩ := hok
      exact ⟨.value v', w, ρ, by simp [execOp, resolve, invoke, builtin, hr], .inl ⟨_, rfl, hv⟩, Post.same hm _ _⟩
    · cases hchk
  -- max
  · rename_i args ts x' y'
    replace h : valO m n (mxV (ev e x') (ev e y')) = .ok v m' n' r wm := h
    have h0 := valO_ok h
    clear h
    obtain ⟨h, rfl, rfl, rfl, rfl⟩ := h0
    split at hchk
    · rename_i x y hargs
      simp only [Bool.and_eq_true] at hchk
      have hargs : args = #[x, y] := by apply Array.ext'; simpa using hargs
      subst hargs
      obtain ⟨v', hr, hv⟩ := mxV_sound (P := P) (w := w) ts ty (opd_sound he hchk.1) (opd_sound he hchk.2) h
      refine ⟨.value v', w, ρ, ?_, .inl ⟨_, rfl, hv⟩, Post.same hm _ _⟩
      simp [execOp, resolve, invoke, builtin, hr]
    · cases hchk
  -- slice
  · rename_i t x lo hi sz x' lo' hi'
    replace h : slcM m n sz (slcV sz (oev e lo') (oev e hi') (ev e x')) (ev e x') = .ok v m' n' r wm := h
    simp only [Bool.and_eq_true] at hchk
    obtain ⟨⟨⟨ht, hx⟩, hlo⟩, hhi⟩ := hchk
    have opt : ∀ {u : Option Operand} {u' : Option Opd}, optOk Γ u u' = true → (oev e u' = none ∧ u.map a.eval = none) ∨ ∃ y y', oev e u' = some y ∧ u.map a.eval = some y' ∧ VRel ρ y y' := by
      intro u u' hu
      cases u with
      | none => cases u' with
        | none => exact .inl ⟨rfl, rfl⟩
        | some _ => cases hu
      | some u => cases u' with
        | none => cases hu
        | some u' => exact .inr ⟨_, _, rfl, rfl, opd_sound he hu⟩
    split at ht
    · rename_i el hel
      obtain ⟨ti, hti, hts⟩ := isSz_run ht
      have hxr := opd_sound he hx
      have fin : ∀ {r0 : Nat}, (∀ b o k p, ev e x' = .slice (some ⟨b, o, none⟩) k UNK → ρ b = some p → p.sz = sz) → slcV sz (oev e lo') (oev e hi') (ev e x') = some v → m' = m → n' = n → wm = 0 → Goal P ρ V w B n m' n' wm v (execOp a.eval ⟨dst, .slice t x lo hi none, ty, pos, after, guard⟩) := by
        intro r0 hs hv e1 e2 e3
        subst e1; subst e2; subst e3
        obtain ⟨v', hr, hv'⟩ := slcV_sound (w := w) hel hti hts (opt hlo) (opt hhi) hs hxr hv
        exact Goal.pure hm hr hv'
      unfold slcM at h
      split at h
      · rename_i b o ln c hxe
        cases hc : Nat.beq c UNK
        · rw [hc, cond_false] at h
          obtain ⟨h1, h2, h3, _, h5⟩ := valO_ok h
          refine fin (r0 := 0) (fun b o k p hk => ?_) h1 h2 h3 h5
          rw [hxe] at hk; injection hk with _ _ hk; subst hk; simp at hc
        · rw [hc, cond_true] at h
          cases hz : szOk sz (getb m n b)
          · rw [hz, cond_false] at h; cases h
          · rw [hz, cond_true] at h
            obtain ⟨h1, h2, h3, h4, h5⟩ := valR_ok h
            refine fin (r0 := 0) (fun b' o' k p hk hp => ?_) h1 h2 h3 h5
            rw [hxe] at hk; injection hk with hk _ _; injection hk with hk; injection hk with hk _; subst hk
            unfold szOk at hz
            split at hz
            · rename_i s _ _ hg
              have hz : s = sz := Nat.eq_of_beq_eq_true hz
              obtain ⟨_, hb⟩ := at_block hm hag (by rw [lor_test, h4, bit_test]; simp) hg hp
              rw [hb.1, hz]
            · cases hz
      · rename_i hno
        obtain ⟨h1, h2, h3, _, h5⟩ := valO_ok h
        exact fin (r0 := 0) (fun b o k p hk => absurd hk (hno b o k UNK)) h1 h2 h3 h5
    · cases ht
  -- alloc
  · rename_i t z
    replace h : newb m n (.cells z 0 false true) ptrP = .ok v m' n' r wm := h
    obtain ⟨ti, zv, hti, hzv, hzl, hfl, _⟩ := isZero_run hchk
    obtain ⟨rfl, ρ', hn, hpost⟩ := newb_sound (c' := zv.cells.toList) hm h hfree 0 t (by rw [hzl]; exact Nat.le_refl _) (by rw [hzl]; exact (flats_rel ρ hfl).getx) (fun h => by cases h)
    refine Goal.val (v' := .pointer (some ⟨w.heap.size, 0, none⟩)) (w' := w.alloc (.cells zv.cells t)) ?_ ?_ (by simpa using hpost)
    · simp only [Instr.alloc, Sem.run_bind, run_zeroValue hti hzv, Result.andThen_ok, newVar, newRow]; rfl
    · exact VRel.ptr (o := 0) hn
  -- box
  · rename_i t x x'
    replace h : newb m n (.cells (ev e x').cells.toList 0 false true) ptrP = .ok v m' n' r wm := h
    have hx := (opd_sound he hchk).cells
    obtain ⟨rfl, ρ', hn, hpost⟩ := newb_sound (c' := (a.eval x).cells.toList) hm h hfree 0 t (by rw [hx.1]; exact Nat.le_refl _) hx.getx (fun h => by cases h)
    refine Goal.val (v' := .pointer (some ⟨w.heap.size, 0, none⟩)) (w' := w.alloc (.cells (a.eval x).cells t)) ?_ ?_ (by simpa using hpost)
    · simp only [Instr.box, Sem.run_bind, newVar, newRow]; rfl
    · exact VRel.ptr (o := 0) hn
  -- buildSlice
  · rename_i t len ps sz len' z ps'
    replace h : mklC m n sz len' (fillA (parts2 sz e ps') (reps z len')) = .ok v m' n' r wm := h
    simp only [Bool.and_eq_true, beq_iff_eq, decide_eq_true_eq] at hchk
    obtain ⟨⟨⟨rfl, hle⟩, ht⟩, hps⟩ := hchk
    split at ht
    · rename_i el hel
      simp only [Bool.and_eq_true, beq_iff_eq, Bool.not_eq_true'] at ht
      obtain ⟨⟨⟨hsz, hz⟩, hzl⟩, hz0⟩ := ht
      have hz0 : sz ≠ 0 := by intro e; subst e; simp at hz0
      obtain ⟨ti, hti, hts⟩ := isSz_run hsz
      obtain ⟨ti', zv, hti', hzv, hzl', hfl, _⟩ := isZero_run hz
      have : ti = ti' := by rw [hti] at hti'; injection hti'
      subst this
      cases hc : fillA (parts2 sz e ps') (reps z len) with
      | none => rw [hc] at h; cases h
      | some c =>
        rw [hc] at h
        replace h : newb m n (.cells c sz false true) (slcP 0 len len) = .ok v m' n' r wm := h
        obtain ⟨h1, h2⟩ := parts2Ok_sound he sz hps
        have hzs : zv.cells.size = sz := by have := congrArg List.length hzl'; simp at this; omega
        have hcells : ((Array.range (len * sz)).map (fun i => zv.cells[i % zv.cells.size]!)).toList = reps z len := by
          rw [zeros_eq hzs hz0, hzl', reps_eq]
        obtain ⟨d', hd, hr⟩ := fill_sound (ρ := ρ) (place := fun i => some (i * sz, sz)) _ _ _ c ((Array.range (len * sz)).map (fun i => zv.cells[i % zv.cells.size]!)) h1 h2
          (by rw [hcells]; refine flats_rel ρ ?_; rw [reps_eq, List.all_flatten]; simp only [List.all_eq_true]; intro l hl; rw [List.eq_of_mem_replicate hl]; simpa [List.all_eq_true] using hfl) hc
        obtain ⟨rfl, ρ', hn, hpost⟩ := newb_sound (c' := d'.toList) hm h hfree 0 el (by rw [hr.1]; exact Nat.le_refl _) hr.getx (fun h => by cases h)
        have hlen : len ≤ 16777216 := by
          have := Nat.le_mul_of_pos_right len (Nat.pos_of_ne_zero hz0); omega
        refine Goal.val (v' := .slice (some ⟨w.heap.size, 0, none⟩) len len) (w' := w.alloc (.cells d' el)) ?_ ?_ (by simpa using hpost)
        · exact run_buildSlice hel hti hzv hts hle hd
        · exact VRel.slice (o := 0) hn (Nat.le_refl _) (fun h => by unfold UNK at h; omega) (fun _ => rfl) (by unfold VAG; omega)
    · cases ht
  -- makeSlice
  · rename_i t l c sz bytes z l' c'
    replace h : makeV sz bytes z m n (natOf (ev e l')) (natOf (ev e c')) = .ok v m' n' r wm := h
    simp only [Bool.and_eq_true] at hchk
    obtain ⟨⟨ht, hl⟩, hc⟩ := hchk
    split at ht
    · rename_i el hel
      simp only [Bool.and_eq_true, beq_iff_eq, Bool.not_eq_true'] at ht
      obtain ⟨⟨⟨⟨hsz, hby⟩, hz⟩, hzl⟩, hz0⟩ := ht
      have hz0 : sz ≠ 0 := by intro e; subst e; simp at hz0
      obtain ⟨ti, hti, hts⟩ := isSz_run hsz
      obtain ⟨ti2, hti2, htb⟩ := isBytes_run hby
      have : ti = ti2 := by rw [hti] at hti2; injection hti2
      subst this
      obtain ⟨ti', zv, hti', hzv, hzl', hfl, _⟩ := isZero_run hz
      have : ti = ti' := by rw [hti] at hti'; injection hti'
      subst this
      have hzs : zv.cells.size = sz := by have := congrArg List.length hzl'; simp at this; omega
      cases hnl : natOf (ev e l') with
      | none => rw [hnl] at h; cases h
      | some l1 =>
        cases hnc : natOf (ev e c') with
        | none => rw [hnl, hnc] at h; cases h
        | some c1 =>
          rw [hnl, hnc] at h
          obtain ⟨k, hk⟩ := natOf_some (opd_sound he hl) hnl
          obtain ⟨k', hk'⟩ := natOf_some (opd_sound he hc) hnc
          replace h : cond (Nat.ble l1 c1 && Nat.ble (Nat.mul c1 bytes) 281474976710656 && Nat.ble c1 1099511627776) (newb m n (.cells (reps z c1) sz false true) (slcP 0 l1 c1)) .no = .ok v m' n' r wm := h
          cases hb : (Nat.ble l1 c1 && Nat.ble (Nat.mul c1 bytes) 281474976710656 && Nat.ble c1 1099511627776)
          · rw [hb, cond_false] at h; cases h
          · rw [hb, cond_true] at h
            simp only [Bool.and_eq_true, Nat.ble_eq] at hb
            obtain ⟨⟨hb1, hb2⟩, hb3⟩ := hb
            have hb2 : c1 * bytes ≤ 281474976710656 := hb2
            have hfl2 : (reps z c1).all flat = true := by rw [reps_eq, List.all_flatten]; simp only [List.all_eq_true]; intro l hl; rw [List.eq_of_mem_replicate hl]; simpa [List.all_eq_true] using hfl
            obtain ⟨rfl, ρ', hn, hpost⟩ := newb_sound (c' := reps z c1) hm h hfree 0 el (Nat.le_refl _) (flats_rel ρ hfl2).getx (fun h => by cases h)
            refine Goal.val (v' := .slice (some ⟨w.heap.size, 0, none⟩) l1 c1) ?_ ?_ hpost
            · rw [hk, hk', run_makeSlice' hel hti hzv hts hb1 (by rw [htb]; exact hb2) hb3 hz0 hzs, hzl', reps_eq]
            · exact VRel.slice (o := 0) hn hb1 (fun h => by unfold UNK at h; omega) (fun _ => rfl) (by unfold VAG; omega)
    · cases ht
  -- load
  · rename_i t x x'
    replace h : ld1V m n (ev e x') = .ok v m' n' r wm := h
    simp only [Bool.and_eq_true, beq_iff_eq] at hchk
    obtain ⟨v', hr, hv, rfl, rfl, rfl⟩ := ld1V_sound hchk.1 hm (opd_sound he hchk.2) h hag
    exact Goal.pure hm hr hv
  · rename_i t x k x'
    replace h : ldnV k m n (ev e x') = .ok v m' n' r wm := h
    simp only [Bool.and_eq_true, beq_iff_eq] at hchk
    obtain ⟨v', hr, hv, rfl, rfl, rfl⟩ := ldnV_sound hchk.1.1 hchk.1.2 hm (opd_sound he hchk.2) h hag
    exact Goal.pure hm hr hv
  -- store
  · rename_i t x y k x' y'
    replace h : stV k (ev e y').cells.toList m n (ev e x') = .ok v m' n' r wm := h
    simp only [Bool.and_eq_true] at hchk
    obtain ⟨rfl, w', hr, hpost⟩ := stV_sound hchk.1.1 hm (opd_sound he hchk.1.2) (opd_sound he hchk.2) h hag
    exact ⟨.skip, w', ρ, by simp [execOp, hr], .inr ⟨rfl, rfl⟩, hpost⟩
  -- append
  · rename_i args ts sz bytes x' y'
    replace h : appO sz bytes m n (ev e x') (ev e y') (shown m n sz (ev e x')) (shown m n sz (ev e y')) = .ok v m' n' r wm := h
    split at hchk
    · rename_i x y t u hargs hts
      simp only [Bool.and_eq_true] at hchk
      obtain ⟨⟨hx, hy⟩, ht⟩ := hchk
      have hargs : args = #[x, y] := by apply Array.ext'; simpa using hargs
      have hts : ts = #[t, u] := by apply Array.ext'; simpa using hts
      subst hargs; subst hts
      split at ht
      · rename_i el el2 hel hel2
        simp only [Bool.and_eq_true] at ht
        obtain ⟨⟨⟨hsz, hby⟩, _⟩, hz⟩ := ht
        obtain ⟨ti, hti, hts⟩ := isSz_run hsz
        obtain ⟨ti2, hti2, htb⟩ := isBytes_run hby
        have : ti = ti2 := by rw [hti] at hti2; injection hti2
        subst this
        rw [hti] at hz
        simp only at hz
        split at hz
        · rename_i zv hzv
          have hzs : zv.cells.size = sz := by simpa using hz
          obtain ⟨v', w', ρ', hr, hv, hpost⟩ := appO_sound (P := P) (ty := ty) hm h hag hfree hel hel2 hti hzv hts hzs htb (opd_sound he hx) (opd_sound he hy)
          exact ⟨.value v', w', ρ', by simp [execOp, resolve, invoke, builtin, hr], .inl ⟨_, rfl, hv⟩, hpost⟩
        · cases hz
      · cases ht
    · cases hchk
  -- calls
  · rename_i f args ts g args'
    exact absurd rfl (hnc.1 g args')
  · rename_i f args ts x args'
    exact absurd rfl (hnc.2 x args')
  -- index of a text
  · rename_i t x i x' i'
    replace h : valO m n (Option.rec (motive := fun _ => Option Value) none (fun i => chrV i (ev e x')) (natOf (ev e i'))) = .ok v m' n' r wm := h
    have h0 := valO_ok h
    clear h
    obtain ⟨h, rfl, rfl, rfl, rfl⟩ := h0
    rw [Bool.and_eq_true, Bool.and_eq_true] at hchk
    obtain ⟨⟨ht, hx⟩, hi⟩ := hchk
    cases hn : natOf (ev e i') with
    | none => rw [hn] at h; cases h
    | some k =>
      rw [hn] at h
      obtain ⟨ik, hik⟩ := natOf_some (opd_sound he hi) hn
      obtain ⟨v', hr, hv⟩ := chrV_sound (w := w) (k := ik) ht (opd_sound he hx) h
      refine Goal.pure (v' := v') hm ?_ hv
      rw [hik]; exact hr
  -- index of a value
  · rename_i t x i n0 x' i'
    replace h : valO m n (Option.rec (motive := fun _ => Option Value) none (fun i => indV n0 i (ev e x')) (natOf (ev e i'))) = .ok v m' n' r wm := h
    have h0 := valO_ok h
    clear h
    obtain ⟨h, rfl, rfl, rfl, rfl⟩ := h0
    rw [Bool.and_eq_true, Bool.and_eq_true] at hchk
    obtain ⟨⟨ht, hx⟩, hi⟩ := hchk
    cases hn : natOf (ev e i') with
    | none => rw [hn] at h; cases h
    | some k =>
      rw [hn] at h
      obtain ⟨ik, hik⟩ := natOf_some (opd_sound he hi) hn
      obtain ⟨v', hr, hv⟩ := indV_sound (w := w) (k := ik) ht (opd_sound he hx) h
      refine Goal.pure (v' := v') hm ?_ hv
      rw [hik]; exact hr
  -- field of a value
  · rename_i t x f off x'
    replace h : valO m n (fieV off (ev e x')) = .ok v m' n' r wm := h
    have h0 := valO_ok h
    clear h
    obtain ⟨h, rfl, rfl, rfl, rfl⟩ := h0
    rw [Bool.and_eq_true] at hchk
    obtain ⟨v', hr, hv⟩ := fieV_sound (w := w) hchk.1 (opd_sound he hchk.2) h
    exact Goal.pure hm hr hv
  -- parts of a text
  · rename_i t x lo hi x' a' b'
    replace h : valO m n (subV (natOf (ev e a')) (natOf (ev e b')) (ev e x')) = .ok v m' n' r wm := h
    simp only [Bool.and_eq_true] at hchk
    obtain ⟨⟨⟨ht, hx⟩, hlo⟩, hhi⟩ := hchk
    exact sub_goal hm ht (opd_sound he hx) (by cases lo with | none => cases hlo | some l => exact .inr ⟨_, _, rfl, rfl, opd_sound he hlo⟩) (by cases hi with | none => cases hhi | some l => exact .inr ⟨_, _, rfl, rfl, opd_sound he hhi⟩) h
  · rename_i t x lo hi x' a'
    replace h : valO m n (subV (natOf (ev e a')) (sizeV (ev e x')) (ev e x')) = .ok v m' n' r wm := h
    simp only [Bool.and_eq_true] at hchk
    obtain ⟨⟨⟨ht, hx⟩, hlo⟩, hhi⟩ := hchk
    exact sub_goal hm ht (opd_sound he hx) (by cases lo with | none => cases hlo | some l => exact .inr ⟨_, _, rfl, rfl, opd_sound he hlo⟩) (by cases hi with | none => exact .inl ⟨rfl, rfl⟩ | some l => cases hhi) h
  · rename_i t x lo hi x' b'
    replace h : valO m n (subV (some 0) (natOf (ev e b')) (ev e x')) = .ok v m' n' r wm := h
    simp only [Bool.and_eq_true] at hchk
    obtain ⟨⟨⟨ht, hx⟩, hlo⟩, hhi⟩ := hchk
    exact sub_goal hm ht (opd_sound he hx) (by cases lo with | none => exact .inl ⟨rfl, rfl⟩ | some l => cases hlo) (by cases hi with | none => cases hhi | some l => exact .inr ⟨_, _, rfl, rfl, opd_sound he hhi⟩) h
  -- bits
  · rename_i op1 t x y kk op' t' x' y'
    replace h : valO m n (bitV P op' t' (ev e x') (ev e y')) = .ok v m' n' r wm := h
    have h0 := valO_ok h
    clear h
    obtain ⟨h, rfl, rfl, rfl, rfl⟩ := h0
    simp only [Bool.and_eq_true, beq_iff_eq] at hchk
    obtain ⟨⟨⟨rfl, rfl⟩, hx⟩, hy⟩ := hchk
    obtain ⟨v', hr, hv⟩ := bitV_sound (w := w) (opd_sound he hx) (opd_sound he hy) h x y
    exact Goal.pure hm hr hv
  · cases hchk
end
end Go.Am
