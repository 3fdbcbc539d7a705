/- Making, reading and writing blocks. -/
import Derived.Test.YtaohgpgbphlblaaAmMem
set_option linter.unusedVariables false
set_option linter.unusedSimpArgs false
set_option linter.unusedSectionVars false
namespace Go.Am
open Go Go.RowKit
section
variable {μ : Type} [AMem μ] {P : Program} {ρ : Ren} {V : Nat → Option Blk} {w : World} {B : Nat}

theorem heap_alloc (w : World) (o : Obj) : (w.alloc o).heap[w.heap.size]? = some o := by
  show (w.heap.push o)[w.heap.size]? = _; simp

/-- a new block -/
theorem Post.new {m : μ} {n n' : Nat} (hm : MRel ρ V w B) (hlim : AMem.lim m n = true) (hfree : Free ρ n) (O : Blk) (o : Obj) (cap : Nat)
    (hO : ∀ ρ' : Ren, ρ.le ρ' → BRel ρ' (w.alloc o) B ⟨w.heap.size, 0, cap, match O with | .cells _ sz _ _ => sz⟩ O) (hn : n' = n + 1) :
    ∃ ρ' : Ren, ρ' n = some ⟨w.heap.size, 0, cap, match O with | .cells _ sz _ _ => sz⟩ ∧ Post ρ V w B n (AMem.put m n (some O)) n' (bit n) ρ' (w.alloc o) := by
  subst hn
  have hle : Ren.le ρ (fun b => if b = n then some ⟨w.heap.size, 0, cap, match O with | .cells _ sz _ _ => sz⟩ else ρ b) := by
    intro b p h
    have : b ≠ n := by intro e; subst e; rw [hfree b (Nat.le_refl _)] at h; cases h
    simp [this, h]
  have hget : AMem.get (AMem.put m n (some O)) n = some O := by rw [AMem.get_put m n n _ hlim, if_pos rfl]
  refine ⟨fun b => if b = n then some ⟨w.heap.size, 0, cap, match O with | .cells _ sz _ _ => sz⟩ else ρ b, by simp, hle, ?_, ?_, ?_, Nat.le_succ _, fun k hk _ => Below.heap_alloc w o k hk, ?_, fun b hb => by
    rw [bit_test] at hb
    have hb : n = b := of_decide_eq_true hb
    subst hb
    exact ⟨⟨_, if_pos rfl⟩, fun h => absurd h (Nat.lt_irrefl _)⟩⟩
  · intro b p h
    by_cases e : b = n
    · subst e; exact .inr ⟨Nat.le_refl _, Nat.lt_succ_self _⟩
    · simp [e] at h; exact .inl h
  · refine ⟨?_, ?_, ?_, ?_⟩
    · intro b p O' hp hV
      by_cases e : b = n
      · subst e
        simp at hp; subst hp
        simp [upd, bit_test, hget] at hV; subst hV
        exact hO _ hle
      · simp [e] at hp
        have hne : ¬ n = b := fun h => e h.symm
        simp [upd, bit_test, hne] at hV
        have hlt := hm.fresh b p hp
        exact (hm.blk b p O' hp hV).mono hle (Below.heap_alloc w o p.blk hlt)
    · intro b1 b2 p1 p2 O1 O2 h1 h2 hV1 hV2 hne hw
      by_cases e1 : b1 = n
      · subst e1
        simp at h1; subst h1
        have e2 : ¬ b2 = b1 := fun h => hne h.symm
        simp [e2] at h2
        have := hm.fresh b2 p2 h2
        simp; omega
      · simp [e1] at h1
        have hne1 : ¬ n = b1 := fun h => e1 h.symm
        simp [upd, bit_test, hne1] at hV1
        by_cases e2 : b2 = n
        · subst e2
          simp at h2; subst h2
          have := hm.fresh b1 p1 h1
          simp; omega
        · simp [e2] at h2
          have hne2 : ¬ n = b2 := fun h => e2 h.symm
          simp [upd, bit_test, hne2] at hV2
          exact hm.excl b1 b2 p1 p2 O1 O2 h1 h2 hV1 hV2 hne hw
    · intro b p h
      by_cases e : b = n
      · subst e; simp at h; subst h; simp
      · simp [e] at h; have := hm.fresh b p h; simp; omega
    · have := hm.le; simp; omega
  · exact (Below.refl B w).alloc hm.le o
  · intro b p h
    by_cases e : b = n
    · subst e; simp at h; subst h; exact .inr (.inl (Nat.le_refl _))
    · simp [e] at h; exact .inl h

theorem getb_some {m : μ} {n b : Nat} {O : Blk} (h : getb m n b = some O) : b < n ∧ AMem.get m b = some O := by
  unfold getb at h
  cases hb : Nat.blt b n
  · simp [hb] at h
  · simp [hb] at h
    exact ⟨by simpa [Nat.blt_eq] using hb, h⟩

/-- the block behind a number that has a place -/
theorem at_block {m : μ} {n b F : Nat} {c : List Value} {sz : Nat} {opn wr : Bool} {p : Place} (hm : MRel ρ V w B) (hag : Agree V m n F) (hF : F.testBit b = true)
    (hg : getb m n b = some (.cells c sz opn wr)) (hp : ρ b = some p) : V b = some (.cells c sz opn wr) ∧ BRel ρ w B p (.cells c sz opn wr) := by
  obtain ⟨h1, h2⟩ := getb_some hg
  have hV := (hag b h1 hF).trans h2
  exact ⟨hV, hm.blk b p _ hp hV⟩

theorem brel_cell {c : List Value} {sz : Nat} {opn wr : Bool} {p : Place} (h : BRel ρ w B p (.cells c sz opn wr)) {o : Nat} {x : Value} (hx : c[o]? = some x) :
    ∃ y, w.cell? ⟨p.blk, p.base + o, none⟩ = some y ∧ VRel ρ x y := by
  obtain ⟨_, cc, e, fz, h2, h3, _⟩ := h
  obtain ⟨y, hy, hr⟩ := h3 o x hx
  exact ⟨y, by simp [World.cell?, h2, hy], hr⟩

theorem run_load_cell {a : Addr} {y : Value} (h : w.cell? a = some y) : (load a).run P w = .ok y w := by simp [h]

theorem ld1V_sound {m m' : μ} {n n' r wm t : Nat} {x x' v : Value} (hagg : isAggB P t = some false) (hm : MRel ρ V w B) (hx : VRel ρ x x') (h : ld1V m n x = .ok v m' n' r wm) (hag : Agree V m n (Nat.lor r wm)) :
    ∃ v', (Instr.loadAt t x').run P w = .ok v' w ∧ VRel ρ v v' ∧ m' = m ∧ n' = n ∧ wm = 0 := by
  unfold ld1V at h
  split at h
  · rename_i b o
    cases hg : getb m n b with
    | none => rw [hg] at h; cases h
    | some O =>
      cases O with | cells c sz opn wr =>
      rw [hg] at h
      have h : valR m n b (cget c o) = .ok v m' n' r wm := h
      rw [cget_eq] at h
      cases hc : c[o]? with
      | none => rw [hc] at h; cases h
      | some y =>
        rw [hc] at h
        have h : OR.ok y m n (bit b) 0 = .ok v m' n' r wm := h
        injection h with e1 e2 e3 e4 e5
        subst e1; subst e2; subst e3; subst e4; subst e5
        cases hx with
        | flat hf => simp [flat] at hf
        | ptr hp =>
          rename_i p
          obtain ⟨_, hb⟩ := at_block hm hag (by rw [lor_test, bit_test]; simp) hg hp
          obtain ⟨y', hy, hr⟩ := brel_cell hb hc
          exact ⟨y', by simp [Instr.loadAt, Instr.sureAddr, loadVar, run_isAgg hagg, hy], hr, rfl, rfl, rfl⟩
  · cases h

theorem aggO_some {l : Option (List Value)} {v : Value} (h : aggO l = some v) : ∃ c, l = some c ∧ v = .agg c.toArray := by
  unfold aggO at h; split at h
  · injection h with h; exact ⟨_, rfl, h.symm⟩
  · cases h

/-- the cells that stand behind an address -/
theorem brel_cells {c l : List Value} {sz o k : Nat} {opn wr : Bool} {p : Place} (h : BRel ρ w B p (.cells c sz opn wr)) (hl : cellsAt c o k = some l) :
    ∃ l', LRel ρ l l' ∧ l'.length = k ∧ ∀ j v, l'[j]? = some v → w.cell? (⟨p.blk, p.base + o, none⟩ : Addr) = w.cell? ⟨p.blk, p.base + o, none⟩ ∧ w.cell? ((⟨p.blk, p.base + o, none⟩ : Addr).add j) = some v := by
  obtain ⟨_, h2, h3⟩ := cellsAt_some hl
  have hex : ∀ j, j < k → ∃ y, w.cell? ⟨p.blk, p.base + (o + j), none⟩ = some y ∧ ∀ x, l[j]? = some x → VRel ρ x y := by
    intro j hj
    have hlj : j < l.length := by omega
    have hx : c[o + j]? = some l[j] := by rw [← h3 j hj]; exact List.getElem?_eq_getElem hlj
    obtain ⟨y, hy, hr⟩ := brel_cell h hx
    exact ⟨y, hy, fun x hx' => by rw [List.getElem?_eq_getElem hlj] at hx'; injection hx' with e; subst e; exact hr⟩
  refine ⟨(List.range k).map fun j => (w.cell? ⟨p.blk, p.base + (o + j), none⟩).getD undef, ⟨by simp [h2], fun j x y hx hy => ?_⟩, by simp, fun j v hv => ⟨rfl, ?_⟩⟩
  · have hj : j < k := by have := (List.getElem?_eq_some_iff.1 hx).1; omega
    obtain ⟨y', hy', hr⟩ := hex j hj
    simp [hj, hy'] at hy
    subst hy; exact hr x hx
  · have hj : j < k := by have := (List.getElem?_eq_some_iff.1 hv).1; simpa using this
    obtain ⟨y', hy', _⟩ := hex j hj
    simp [hj, hy'] at hv
    subst hv
    rw [addr_add, Nat.add_assoc]; exact hy'

theorem ldnV_sound {m m' : μ} {n n' r wm t k : Nat} {x x' v : Value} (hagg : isAggB P t = some true) (hsz : isSz P t k = true) (hm : MRel ρ V w B) (hx : VRel ρ x x') (h : ldnV k m n x = .ok v m' n' r wm) (hag : Agree V m n (Nat.lor r wm)) :
    ∃ v', (Instr.loadAt t x').run P w = .ok v' w ∧ VRel ρ v v' ∧ m' = m ∧ n' = n ∧ wm = 0 := by
  unfold ldnV at h
  split at h
  · rename_i b o
    cases hg : getb m n b with
    | none => rw [hg] at h; cases h
    | some O =>
      cases O with | cells c sz opn wr =>
      rw [hg] at h
      have h : valR m n b (aggO (cellsAt c o k)) = .ok v m' n' r wm := h
      cases hc : aggO (cellsAt c o k) with
      | none => rw [hc] at h; cases h
      | some y =>
        rw [hc] at h
        have h : OR.ok y m n (bit b) 0 = .ok v m' n' r wm := h
        injection h with e1 e2 e3 e4 e5
        subst e1; subst e2; subst e3; subst e4; subst e5
        obtain ⟨l, hl, rfl⟩ := aggO_some hc
        obtain ⟨ti, hti, hts⟩ := isSz_run hsz
        cases hx with
        | flat hf => simp [flat] at hf
        | ptr hp =>
          rename_i p
          obtain ⟨_, hb⟩ := at_block hm hag (by rw [lor_test, bit_test]; simp) hg hp
          obtain ⟨l', hr, hlen, hcell⟩ := brel_cells hb hl
          refine ⟨.agg l'.toArray, ?_, hr.agg, rfl, rfl, rfl⟩
          have := run_loadCells_list (P := P) w ⟨p.blk, p.base + o, none⟩ l' (fun j v hv => (hcell j v hv).2)
          rw [hlen] at this
          simp [Instr.loadAt, Instr.sureAddr, loadVar, run_isAgg hagg, run_sizeOf hti, hts, this]
  · cases h

/-- a write into a block of the machine's own -/
theorem Post.write {m : μ} {n b : Nat} {c c' : List Value} {sz : Nat} {opn : Bool} {p : Place} {w' : World} (hm : MRel ρ V w B) (hlim : AMem.lim m b = true) (hp : ρ b = some p) (hV : V b = some (.cells c sz opn true))
    (hb : BRel ρ w' B p (.cells c' sz opn true)) (hother : ∀ k, k ≠ p.blk → w'.heap[k]? = w.heap[k]?) (hos : w'.os = w.os) (htape : w'.tape = w.tape) (hout : w'.output = w.output) (hsize : w'.heap.size = w.heap.size) :
    Post ρ V w B n (AMem.put m b (some (.cells c' sz opn true))) n (bit b) ρ w' := by
  have hBp : B ≤ p.blk := by
    obtain ⟨_, _, _, _, _, _, h4, _⟩ := hb
    exact (h4 rfl).1
  refine ⟨ρ.le_refl, fun _ _ h => .inl h, ⟨?_, ?_, ?_, ?_⟩, ⟨hos, htape, hout, by omega, fun k hk => hother k (by omega)⟩, Nat.le_refl _, fun k _ hk => hother k (fun e => hk b p hp (by rw [bit_test]; simp) e.symm), fun _ _ h => .inl h, fun k hk => by
    rw [bit_test] at hk
    have hk : b = k := of_decide_eq_true hk
    subst hk
    exact ⟨⟨p, hp⟩, fun _ => ⟨_, hV, rfl⟩⟩⟩
  · intro b2 p2 O2 h2 hV2
    by_cases e : b2 = b
    · subst e
      rw [hp] at h2; injection h2 with h2; subst h2
      simp [upd, bit_test, AMem.get_put m b2 b2 _ hlim] at hV2
      subst hV2; exact hb
    · have hne : ¬ b = b2 := fun h => e h.symm
      simp [upd, bit_test, hne] at hV2
      have hx := hm.excl b b2 p p2 _ O2 hp h2 hV hV2 hne rfl
      exact (hm.blk b2 p2 O2 h2 hV2).mono ρ.le_refl (hother _ (fun h => hx h.symm))
  · intro b1 b2 p1 p2 O1 O2 h1 h2 hV1 hV2 hne hw
    have old : ∀ {b3 : Nat} {O3 : Blk}, upd V (bit b) (AMem.put m b (some (.cells c' sz opn true))) b3 = some O3 → ∃ O4, V b3 = some O4 ∧ O4.wr = O3.wr := by
      intro b3 O3 h
      by_cases e : b3 = b
      · subst e
        simp [upd, bit_test, AMem.get_put m b3 b3 _ hlim] at h
        subst h; exact ⟨_, hV, rfl⟩
      · have hne : ¬ b = b3 := fun h => e h.symm
        simp [upd, bit_test, hne] at h
        exact ⟨_, h, rfl⟩
    obtain ⟨O1', h1', e1⟩ := old hV1
    obtain ⟨O2', h2', e2⟩ := old hV2
    exact hm.excl b1 b2 p1 p2 O1' O2' h1 h2 h1' h2' hne (e1.trans hw)
  · intro b2 p2 h2; have := hm.fresh b2 p2 h2; omega
  · have := hm.le; omega

theorem setRow_other (w : World) (g : Nat) (c : Array Value) (k : Nat) (h : k ≠ g) : (w.setRow g c).heap[k]? = w.heap[k]? := by
  simp only [World.setRow, Array.getElem?_modify]; rw [if_neg (fun e => h e.symm)]
theorem setRow_size (w : World) (g : Nat) (c : Array Value) : (w.setRow g c).heap.size = w.heap.size := by simp [World.setRow]

/-- cells written into a block: what the block then is -/
theorem brel_set {c c' vs vs' : List Value} {sz o : Nat} {opn : Bool} {p : Place} (h : BRel ρ w B p (.cells c sz opn true)) (hs : setCells c o vs = some c') (hv : LRel ρ vs vs') (h1 : ∀ v ∈ vs', v.oneCell' = true) :
    ∃ w', (storeCells ⟨p.blk, p.base + o, none⟩ vs' 0).run P w = .ok () w' ∧ BRel ρ w' B p (.cells c' sz opn true) ∧ (∀ k, k ≠ p.blk → w'.heap[k]? = w.heap[k]?) ∧ w'.os = w.os ∧ w'.tape = w.tape ∧ w'.output = w.output ∧ w'.heap.size = w.heap.size := by
  obtain ⟨hsz, cc, e, fz, h2, h3, h4, h5, h6⟩ := h
  obtain ⟨hB, hfz⟩ := h4 rfl
  subst hfz
  obtain ⟨g1, g2, g3⟩ := setCells_get hs
  have hlen : vs.length = vs'.length := hv.1
  have hfit : p.base + o + 0 + vs'.length ≤ cc.size := by
    omega
  refine ⟨_, run_storeCells_at (P := P) p.blk (p.base + o) e vs' 0 cc w h2 hfit h1, ?_, fun k hk => setRow_other w _ _ k hk, rfl, rfl, rfl, setRow_size w _ _⟩
  refine ⟨hsz, _, e, (0, 0), setRow_heap w p.blk cc _ e (0, 0) h2, ?_, fun _ => ⟨hB, rfl⟩, fun ho => ?_, ?_⟩
  · intro i x hx
    rw [g3 i] at hx
    simp only [List.getElem?_toArray]
    have ht : (cc.toList.take (p.base + o + 0)).length = p.base + o := by simp; omega
    split at hx
    · rename_i hi
      obtain ⟨y, hy, hr⟩ := hv.get hx
      refine ⟨y, ?_, hr⟩
      rw [List.append_assoc, List.getElem?_append_right (by omega), ht, List.getElem?_append_left (by omega)]
      rw [← hy]; congr 1; omega
    · rename_i hi
      obtain ⟨y, hy, hr⟩ := h3 i x hx
      refine ⟨y, ?_, hr⟩
      rw [List.append_assoc]
      by_cases h0 : i < o
      · rw [List.getElem?_append_left (by omega), List.getElem?_take, if_pos (by omega)]; simpa using hy
      · rw [List.getElem?_append_right (by omega), ht, List.getElem?_append_right (by omega), List.getElem?_drop]
        rw [show p.base + o + 0 + vs'.length + (p.base + i - (p.base + o) - vs'.length) = p.base + i by omega]; simpa using hy
  · have := h5 ho
    simp; omega
  · simp; omega

theorem stV_sound {m m' : μ} {n n' r wm t k : Nat} {x x' y y' v : Value} (hsz : isSz P t k = true) (hm : MRel ρ V w B) (hx : VRel ρ x x') (hy : VRel ρ y y') (h : stV k y.cells.toList m n x = .ok v m' n' r wm) (hag : Agree V m n (Nat.lor r wm)) :
    v = undef ∧ ∃ w', (Instr.storeAt t x' y').run P w = .ok () w' ∧ Post ρ V w B n m' n' wm ρ w' := by
  unfold stV at h
  split at h
  · rename_i b o
    cases hc : (Nat.beq (llen y.cells.toList) k && y.cells.toList.all one)
    · rw [hc, cond_false] at h; cases h
    · rw [hc, cond_true] at h
      rw [Bool.and_eq_true] at hc
      unfold stC at h
      split at h
      · rename_i c sz opn hg
        unfold putC at h
        split at h
        · rename_i c' hs
          injection h with e1 e2 e3 e4 e5
          subst e1; subst e2; subst e3; subst e4; subst e5
          obtain ⟨ti, hti, hts⟩ := isSz_run hsz
          cases hx with
          | flat hf => simp [flat] at hf
          | ptr hp =>
            rename_i p
            obtain ⟨hV, hb⟩ := at_block hm hag (by rw [lor_test, bit_test]; simp) hg hp
            have hyc := hy.cells
            have hone : ∀ v ∈ y'.cells.toList, v.oneCell' = true := by
              intro v hv
              obtain ⟨j, hj, rfl⟩ := List.getElem_of_mem hv
              have hj' : j < y.cells.toList.length := by rw [hyc.1]; exact hj
              have := hyc.2 j _ _ (List.getElem?_eq_getElem hj') (List.getElem?_eq_getElem hj)
              refine this.one ?_
              have h2 := hc.2
              rw [List.all_eq_true] at h2
              exact h2 _ (List.getElem_mem hj')
            obtain ⟨w', hw, hb', ho, h1, h2, h3, h4⟩ := brel_set (P := P) hb hs hyc hone
            refine ⟨rfl, w', ?_, Post.write hm (AMem.get_lim _ _ _ (getb_some hg).2) hp hV hb' ho h1 h2 h3 h4⟩
            have hlen : y'.cells.size = k := by
              have e1 := Nat.eq_of_beq_eq_true hc.1
              rw [llen_eq] at e1
              have := hyc.1; simp at this e1; omega
            simp [Instr.storeAt, Instr.sureAddr, storeVar, run_sizeOf hti, hts, hlen, hw]
        · cases h
      · cases h
  · cases h
end
end Go.Am
