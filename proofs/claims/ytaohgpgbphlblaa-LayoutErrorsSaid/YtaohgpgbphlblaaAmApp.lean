/- Making blocks, and append. -/
import Derived.Test.YtaohgpgbphlblaaAmMem2
set_option linter.unusedVariables false
set_option linter.unusedSimpArgs false
set_option linter.unusedSectionVars false
namespace Go.Am
open Go Go.RowKit
section
variable {μ : Type} [AMem μ] {P : Program} {ρ : Ren} {V : Nat → Option Blk} {w : World} {B : Nat}

/-- a block of known cells -/
theorem newb_sound {m m' : μ} {n n' r wm sz : Nat} {c c' : List Value} {f : Nat → Value} {v : Value} {opn : Bool} (hm : MRel ρ V w B) (h : newb m n (.cells c sz opn true) f = .ok v m' n' r wm) (hfree : Free ρ n)
    (cap e : Nat) (hlen : c.length ≤ c'.length) (hr : ∀ (i : Nat) x, c[i]? = some x → ∃ y, c'[i]? = some y ∧ VRel ρ x y) (hcap : opn = true → cap ≤ c'.length) :
    v = f n ∧ ∃ ρ' : Ren, ρ' n = some ⟨w.heap.size, 0, cap, sz⟩ ∧ Post ρ V w B n m' n' wm ρ' (w.alloc (.cells c'.toArray e)) := by
  unfold newb at h
  cases hl : AMem.lim m n
  · rw [hl, cond_false] at h; cases h
  · rw [hl, cond_true] at h
    injection h with e1 e2 e3 e4 e5
    subst e1; subst e2; subst e3; subst e4; subst e5
    refine ⟨rfl, ?_⟩
    refine Post.new (n' := n + 1) hm hl hfree (.cells c sz opn true) (.cells c'.toArray e) cap (fun ρ' hle => ?_) rfl
    refine ⟨rfl, c'.toArray, e, (0, 0), heap_alloc w _, fun i x hx => ?_, fun _ => ⟨hm.le, rfl⟩, fun ho => ?_, ?_⟩
    · obtain ⟨y, hy, hv⟩ := hr i x hx
      exact ⟨y, by simpa using hy, hv.mono hle⟩
    · have := hcap ho; simp; omega
    · simp; omega

theorem LRel.getx {ρ : Ren} {c c' : List Value} (h : LRel ρ c c') : ∀ (i : Nat) x, c[i]? = some x → ∃ y, c'[i]? = some y ∧ VRel ρ x y := fun _ _ hx => h.get hx

/-- what a slice shows, on the model's side -/
theorem shown_sound {m : μ} {n sz F r len c' : Nat} {x : Value} {a' : Option Addr} {l : List Value} (hm : MRel ρ V w B) (hx : VRel ρ x (.slice a' len c')) (h : shown m n sz x = some (l, r)) (hag : Agree V m n F) (hF : ∀ b, r.testBit b = true → F.testBit b = true) :
    ∃ l', LRel ρ l l' ∧ l'.length = len * sz ∧ ∀ (size' : Nat) (w2 : World), size' = sz → w2.heap = w.heap → (Builtin.firstCells size' len (.slice a' len c')).run P w2 = .ok l'.toArray w2 := by
  unfold shown at h
  split at h
  · injection h with h; injection h with e1 e2; subst e1; subst e2
    have e := hx.flat_eq rfl
    injection e with e1 e2 e3; subst e1; subst e2; subst e3
    exact ⟨[], .nil ρ, by simp, fun _ w2 _ _ => by simp [Builtin.firstCells]⟩
  · rename_i b o ln c
    have hsh : len = ln ∧ (ln ≠ 0 → ∃ p, a' = some ⟨p.blk, p.base + o, none⟩ ∧ ρ b = some p) := by
      cases hx with
      | flat hf => simp [flat] at hf
      | slice hp _ _ _ _ => exact ⟨rfl, fun _ => ⟨_, rfl, hp⟩⟩
      | vag => exact ⟨rfl, fun h => absurd rfl h⟩
    obtain ⟨rfl, ho⟩ := hsh
    cases h0 : Nat.beq len 0
    · rw [h0, cond_false] at h
      have hne : len ≠ 0 := by intro e; subst e; simp at h0
      obtain ⟨p, rfl, hp⟩ := ho hne
      unfold shownB at h
      split at h
      · rename_i c1 s _ _ hg
        cases hs : Nat.beq s sz
        · rw [hs, cond_false] at h; cases h
        · rw [hs, cond_true] at h
          cases hc : cellsAt c1 o (Nat.mul len sz) with
          | none => rw [hc] at h; cases h
          | some l1 =>
            rw [hc] at h
            have h : some (l1, bit b) = some (l, r) := h
            injection h with h; injection h with e1 e2; subst e1; subst e2
            obtain ⟨_, hb⟩ := at_block hm hag (hF b (by rw [bit_test]; simp)) hg hp
            obtain ⟨l', hr, hl', hcell⟩ := brel_cells hb hc
            refine ⟨l', hr, hl', fun s2 w2 e hw => ?_⟩
            subst e
            refine run_firstCells_some w2 s2 len _ len c' l' hl' (fun j v hv => ?_)
            have := (hcell j v hv).2
            simpa [World.cell?, hw] using this
      · cases h
    · rw [h0, cond_true] at h
      injection h with h; injection h with e1 e2; subst e1; subst e2
      have h0 : len = 0 := Nat.eq_of_beq_eq_true h0
      subst h0
      exact ⟨[], .nil ρ, by simp, fun _ w2 _ _ => by cases a' <;> simp [Builtin.firstCells, loadCells, loadCellsFrom]⟩
  · cases h

theorem run_app_fit {t u e ty : Nat} {el : Nat} {i : TypeInfo} {a : Addr} {sLen sCap n xc : Nat} {xa : Option Addr} {news : List Value} {w' : World} (ht : P.underlying t = some (.slice e)) (hu : P.underlying u = some (.slice el)) (hi : P.info? e = some i)
    (hf : (Builtin.firstCells i.size n (.slice xa n xc)).run P w = .ok news.toArray w) (hroom : sLen + n ≤ sCap) (hst : (storeCells (a.add (sLen * i.size)) news).run P w = .ok () w') :
    (Builtin.append_ #[t, u] ty #[.slice (some a) sLen sCap, .slice xa n xc]).run P w = .ok (.slice (some a) (sLen + n) sCap) w' := by
  simp [Builtin.append_, run_underlying ht, run_underlying hu, sizeOf, typeInfo, hi, Builtin.lenOf, hroom, hf, hst]

theorem run_app_nil0 {t u e ty : Nat} {el : Nat} {i : TypeInfo} {xc : Nat} {xa : Option Addr} (ht : P.underlying t = some (.slice e)) (hu : P.underlying u = some (.slice el)) (hi : P.info? e = some i)
    (hf : (Builtin.firstCells i.size 0 (.slice xa 0 xc)).run P w = .ok #[] w) :
    (Builtin.append_ #[t, u] ty #[.slice none 0 0, .slice xa 0 xc]).run P w = .ok (.slice none 0 0) w := by
  simp [Builtin.append_, run_underlying ht, run_underlying hu, sizeOf, typeInfo, hi, Builtin.lenOf, hf]

theorem run_app_grow {t u e ty : Nat} {el : Nat} {i : TypeInfo} {z : Value} {base : Option Addr} {sLen sCap n xc : Nat} {xa : Option Addr} {olds news : List Value} (ht : P.underlying t = some (.slice e)) (hu : P.underlying u = some (.slice el)) (hi : P.info? e = some i) (hz : i.zero = some z)
    (hfo : (Builtin.firstCells i.size sLen (.slice base sLen sCap)).run P w.drew = .ok olds.toArray w.drew) (hf : (Builtin.firstCells i.size n (.slice xa n xc)).run P w.drew = .ok news.toArray w.drew) (hg : sCap < sLen + n) (hpos : 0 < i.bytes)
    (hb : (sLen + n) * i.bytes ≤ 140737488355328) :
    ∃ rest : List Value, rest.length = (grownCap w (sLen + n) sCap e - (sLen + n)) * z.cells.size ∧
    (Builtin.append_ #[t, u] ty #[.slice base sLen sCap, .slice xa n xc]).run P w =
      .ok (.slice (some ⟨w.heap.size, 0, none⟩) (sLen + n) (grownCap w (sLen + n) sCap e)) (w.drew.alloc (.cells (olds ++ news ++ rest).toArray e)) := by
  have hn : ¬ (sLen + n ≤ sCap) := by omega
  have hle : sLen + n ≤ 140737488355328 := Nat.le_trans (Nat.le_mul_of_pos_right _ hpos) hb
  have h63' : ¬ (9223372036854775807 < ((sLen : Int) + (n : Int))) := by omega
  have h48' : ¬ (281474976710656 < Builtin.nextslicecap (sLen + n) sCap * i.bytes) := by have := growslice_fits hg hb; omega
  refine ⟨(Builtin.zeroCells z.cells (grownCap w (sLen + n) sCap e - (sLen + n))).toList, by simp [Builtin.zeroCells], ?_⟩
  simp [Builtin.append_, run_underlying ht, run_underlying hu, sizeOf, typeInfo, zeroValue, hi, hz, Builtin.lenOf, hn, h63', h48', Question.forced, hf, hfo, newRow, grownCap]
  congr 2
  apply Array.ext'
  simp

/-- what a block becomes when it ends: nothing is said of it any more, and its row may be written beyond what it showed -/
theorem Post.appU {m : μ} {n b sz cap : Nat} {c' : List Value} {p : Place} {w' : World} {O0 : Blk} (hm : MRel ρ V w B) (hlim : AMem.lim m n = true) (hlimb : AMem.lim m b = true) (hbn : b < n) (hfree : Free ρ n) (hp : ρ b = some p) (hV : V b = some O0) (hwr : O0.wr = true)
    (hbase : B ≤ p.blk) (q : Place) (hq : q.sz = sz) (hqblk : q.blk = p.blk ∨ q.blk = w.heap.size) (hqlt : q.blk < w'.heap.size) (hcap : q.cap = cap)
    (hnew : ∀ ρ' : Ren, ρ.le ρ' → BRel ρ' w' B q (.cells c' sz true true)) (hother : ∀ k, k ≠ p.blk → k ≠ w.heap.size → w'.heap[k]? = w.heap[k]?) (hos : w'.os = w.os) (htape : w'.tape = w.tape) (hout : w'.output = w.output) (hsize : w.heap.size ≤ w'.heap.size) :
    ∃ ρ' : Ren, ρ' n = some q ∧ Post ρ V w B n (AMem.put (AMem.put m b none) n (some (.cells c' sz true true))) (n + 1) (Nat.lor (bit b) (bit n)) ρ' w' := by
  have hle : Ren.le ρ (fun k => if k = n then some q else ρ k) := by
    intro k p' h
    have : k ≠ n := by intro e; subst e; rw [hfree k (Nat.le_refl _)] at h; cases h
    simp [this, h]
  have hlim2 : AMem.lim (AMem.put m b none) n = true := by rw [AMem.lim_put]; exact hlim
  have up : ∀ k, upd V (Nat.lor (bit b) (bit n)) (AMem.put (AMem.put m b none) n (some (.cells c' sz true true))) k = if k = n then some (.cells c' sz true true) else if k = b then none else V k := by
    intro k
    unfold upd
    rw [lor_test, bit_test, bit_test, AMem.get_put _ _ _ _ hlim2, AMem.get_put _ _ _ _ hlimb]
    by_cases e1 : k = n
    · subst e1; simp
    · have e1' : ¬ n = k := fun h => e1 h.symm
      by_cases e2 : k = b
      · subst e2; simp [e1]
      · have e2' : ¬ b = k := fun h => e2 h.symm
        simp [e1, e1', e2, e2']
  refine ⟨_, by simp, hle, ?_, ⟨?_, ?_, ?_, ?_⟩, ⟨hos, htape, hout, hsize, fun k hk => hother k (by omega) (by have := hm.le; omega)⟩, Nat.le_succ _, fun k hk1 hk => hother k (fun e => hk b p hp (by rw [lor_test, bit_test]; simp) e.symm) (by omega), ?_, fun k hk => by
    rw [lor_test, bit_test, bit_test, Bool.or_eq_true] at hk
    rcases hk with hk | hk
    · have hk : b = k := of_decide_eq_true hk
      subst hk
      exact ⟨⟨p, hle b p hp⟩, fun _ => ⟨_, hV, hwr⟩⟩
    · have hk : n = k := of_decide_eq_true hk
      subst hk
      exact ⟨⟨q, if_pos rfl⟩, fun h => absurd h (Nat.lt_irrefl _)⟩⟩
  · intro k p' h
    by_cases e : k = n
    · subst e; exact .inr ⟨Nat.le_refl _, Nat.lt_succ_self _⟩
    · simp [e] at h; exact .inl h
  · intro k p' O hk hO
    rw [up] at hO
    by_cases e1 : k = n
    · subst e1
      simp at hk hO; subst hk; subst hO
      exact hnew _ hle
    · simp [e1] at hk hO
      obtain ⟨e2, hO⟩ := hO
      have hx := hm.excl b k p p' O0 O hp hk hV hO (fun h => e2 h.symm) hwr
      have hf := hm.fresh k p' hk
      exact (hm.blk k p' O hk hO).mono hle (hother _ (fun h => hx h.symm) (by omega))
  · intro b1 b2 p1 p2 O1 O2 h1 h2 hV1 hV2 hne hw
    rw [up] at hV1 hV2
    by_cases e1 : b1 = n
    · subst e1
      simp at h1; subst h1
      have e2 : ¬ b2 = b1 := fun h => hne h.symm
      simp [e2] at h2 hV2
      have hx := hm.excl b b2 p p2 O0 O2 hp h2 hV hV2.2 (fun h => hV2.1 h.symm) hwr
      have hf := hm.fresh b2 p2 h2
      rcases hqblk with h | h
      · rw [h]; exact hx
      · omega
    · simp [e1] at h1 hV1
      by_cases e2 : b2 = n
      · subst e2
        simp at h2; subst h2
        have hx := hm.excl b b1 p p1 O0 O1 hp h1 hV hV1.2 (fun h => hV1.1 h.symm) hwr
        have hf := hm.fresh b1 p1 h1
        rcases hqblk with h | h
        · rw [h]; exact fun e => hx e.symm
        · omega
      · simp [e2] at h2 hV2
        exact hm.excl b1 b2 p1 p2 O1 O2 h1 h2 hV1.2 hV2.2 hne hw
  · intro k p' h
    by_cases e : k = n
    · subst e; simp at h; subst h; exact hqlt
    · simp [e] at h; have := hm.fresh k p' h; omega
  · have := hm.le; omega
  · intro k p' h
    by_cases e : k = n
    · subst e; simp at h; subst h
      rcases hqblk with h | h
      · exact .inr (.inr ⟨b, p, hp, by rw [lor_test, bit_test]; simp, h.symm⟩)
      · exact .inr (.inl (by omega))
    · simp [e] at h; exact .inl h

theorem slice_shape {a : Option Addr} {l c : Nat} {x' : Value} (h : VRel ρ (.slice a l c) x') : ∃ a' c', x' = .slice a' l c' := by cases h <;> exact ⟨_, _, rfl⟩

theorem MRel.drew (hm : MRel ρ V w B) : MRel ρ V w.drew B := ⟨fun b p O h1 h2 => by
    have := hm.blk b p O h1 h2
    exact this.mono ρ.le_refl rfl, hm.excl, hm.fresh, hm.le⟩

theorem Post.of_drew {m' : μ} {n n' W : Nat} {ρ' : Ren} {w' : World} (h : Post ρ V w.drew B n m' n' W ρ' w') : Post ρ V w B n m' n' W ρ' w' :=
  ⟨h.le, h.dom, h.mrel, ⟨h.below.os, h.below.tape, h.below.output, h.below.size, h.below.block⟩, h.num, h.frame, h.newp, h.wold⟩

/-- append where a new block is made -/
theorem appN_sound {m m' : μ} {n n' r r0 wm sz lx ly : Nat} {t u e el ty : Nat} {ti : TypeInfo} {z : Value} {c c' : List Value} {v : Value} {base xa : Option Addr} {sCap xc : Nat} {olds news : List Value}
    (hm : MRel ρ V w B) (h : appN m n sz (Nat.add lx ly) c r0 = .ok v m' n' r wm) (hfree : Free ρ n) (ht : P.underlying t = some (.slice e)) (hu : P.underlying u = some (.slice el)) (hi : P.info? e = some ti) (hz : ti.zero = some z) (hsz : ti.size = sz) (hzs : z.cells.size = sz)
    (hc : c' = olds ++ news) (hr : LRel ρ c c') (hlen : c'.length = (lx + ly) * sz)
    (hfo : (Builtin.firstCells ti.size lx (.slice base lx sCap)).run P w.drew = .ok olds.toArray w.drew) (hf : (Builtin.firstCells ti.size ly (.slice xa ly xc)).run P w.drew = .ok news.toArray w.drew) (hg : sCap < lx + ly) (hpos : 0 < ti.bytes) (hb : (lx + ly) * ti.bytes ≤ 140737488355328) :
    ∃ v' w' ρ', (Builtin.append_ #[t, u] ty #[.slice base lx sCap, .slice xa ly xc]).run P w = .ok v' w' ∧ VRel ρ' v v' ∧ Post ρ V w B n m' n' wm ρ' w' := by
  obtain ⟨rest, hrest, hrun⟩ := run_app_grow (P := P) (w := w) (ty := ty) ht hu hi hz hfo hf hg hpos hb
  unfold appN at h
  cases hl : AMem.lim m n
  · rw [hl, cond_false] at h; cases h
  · rw [hl, cond_true] at h
    injection h with e1 e2 e3 e4 e5
    subst e1; subst e2; subst e3; subst e4; subst e5
    have hge : lx + ly ≤ grownCap w (lx + ly) sCap e := grownCap_ge w _ _ _
    have hcl : (olds ++ news ++ rest).length = grownCap w (lx + ly) sCap e * sz := by
      rw [List.length_append, ← hc, hlen, hrest, hzs, ← Nat.add_mul]; congr 1; omega
    obtain ⟨ρ', hn, hpost⟩ := Post.new (n' := n + 1) (hm.drew) hl hfree (.cells c sz true true) (.cells (olds ++ news ++ rest).toArray e) (grownCap w (lx + ly) sCap e * sz) (fun ρ' hle => by
      refine ⟨rfl, _, e, (0, 0), heap_alloc w.drew _, fun i x hx => ?_, fun _ => ⟨hm.le, rfl⟩, fun _ => ?_, ?_⟩
      · obtain ⟨y, hy, hv⟩ := hr.get hx
        refine ⟨y, ?_, hv.mono hle⟩
        rw [hc] at hy
        have hi := (List.getElem?_eq_some_iff.1 hy).1
        simp only [Nat.zero_add, List.getElem?_toArray]
        rw [List.getElem?_append_left hi]; exact hy
      · show 0 + grownCap w (lx + ly) sCap e * sz ≤ (olds ++ news ++ rest).toArray.size
        simp only [List.size_toArray, hcl]; omega
      · show 0 + c.length ≤ (olds ++ news ++ rest).toArray.size
        have h1 := hr.1; rw [hc] at h1
        simp only [List.size_toArray, List.length_append] at h1 ⊢; omega) rfl
    refine ⟨_, _, ρ', hrun, ?_, hpost.of_drew⟩
    show VRel ρ' (.slice (some ⟨n, 0, none⟩) (lx + ly) UNK) _
    exact VRel.slice (p := ⟨w.heap.size, 0, grownCap w (lx + ly) sCap e * sz, sz⟩) hn hge (fun _ => by simp) (fun h => absurd rfl h) (by decide)

theorem cells_cut {c a : List Value} {o k : Nat} (h : cellsAt c o k = some a) : ∀ i, i < k → a[i]? = c[o + i]? := (cellsAt_some h).2.2

/-- append to a slice whose capacity is not known -/
theorem appU_sound {m m' : μ} {n n' r r0 wm sz lx ly ox bx : Nat} {t u e el ty : Nat} {ti : TypeInfo} {z : Value} {a a' b b' : List Value} {v : Value} {p : Place} {xa : Option Addr} {c' xc F : Nat}
    (hm : MRel ρ V w B) (h : appU m n sz (Nat.add lx ly) (a ++ b) r0 ⟨bx, ox, none⟩ (getb m n bx) = .ok v m' n' r wm) (hag : Agree V m n F) (hF : F.testBit bx = true) (hfree : Free ρ n)
    (ht : P.underlying t = some (.slice e)) (hu : P.underlying u = some (.slice el)) (hi : P.info? e = some ti) (hz : ti.zero = some z) (hsz : ti.size = sz) (hzs : z.cells.size = sz)
    (hp : ρ bx = some p) (hcap : ox + c' * p.sz = p.cap) (ha : LRel ρ a a') (hb : LRel ρ b b') (hla : a'.length = lx * sz) (hlb : b'.length = ly * sz) (hone : ∀ v ∈ b', v.oneCell' = true) (hlc : lx ≤ c')
    (hfo : ∀ (size' : Nat) (w2 : World), size' = sz → w2.heap = w.heap → (Builtin.firstCells size' lx (.slice (some ⟨p.blk, p.base + ox, none⟩) lx c')).run P w2 = .ok a'.toArray w2)
    (hf : ∀ (size' : Nat) (w2 : World), size' = sz → w2.heap = w.heap → (Builtin.firstCells size' ly (.slice xa ly xc)).run P w2 = .ok b'.toArray w2) (hpos : 0 < ti.bytes) (hbb : (lx + ly) * ti.bytes ≤ 140737488355328)
    (hcell : ∀ i, i < lx * sz → w.cell? ⟨p.blk, p.base + ox + i, none⟩ = a'[i]?) :
    ∃ v' w' ρ', (Builtin.append_ #[t, u] ty #[.slice (some ⟨p.blk, p.base + ox, none⟩) lx c', .slice xa ly xc]).run P w = .ok v' w' ∧ VRel ρ' v v' ∧ Post ρ V w B n m' n' wm ρ' w' := by
  unfold appU at h
  split at h
  · rename_i c s hg
    cases hl : (AMem.lim m n && Nat.beq s sz)
    · rw [hl, cond_false] at h; cases h
    · rw [hl, cond_true] at h
      injection h with e1 e2 e3 e4 e5
      subst e1; subst e2; subst e3; subst e4; subst e5
      rw [Bool.and_eq_true] at hl
      have hs : s = sz := Nat.eq_of_beq_eq_true hl.2
      subst hs
      obtain ⟨hV, hb0⟩ := at_block hm hag hF hg hp
      obtain ⟨hbn, hget⟩ := getb_some hg
      obtain ⟨hpsz, cc, ce, fz, hheap, hcells, hwr, hopn, hlen⟩ := hb0
      obtain ⟨hB, hfz⟩ := hwr rfl
      subst hfz
      have hopn := hopn rfl
      rw [hpsz] at hcap
      by_cases hroom : lx + ly ≤ c'
      · -- there is room
        have hmul : (lx + ly) * s ≤ c' * s := Nat.mul_le_mul_right _ hroom
        rw [Nat.add_mul] at hmul
        have hfit : p.base + ox + lx * s + 0 + b'.length ≤ cc.size := by rw [hlb]; omega
        have hst := run_storeCells_at P p.blk (p.base + ox + lx * s) ce b' 0 cc w hheap hfit hone
        have hrun := run_app_fit (P := P) (w := w) (ty := ty) (a := ⟨p.blk, p.base + ox, none⟩) ht hu hi (hf ti.size w hsz rfl) hroom (by rw [addr_add, hsz]; exact hst)
        obtain ⟨ρ', hn, hpost⟩ := Post.appU (n := n) (b := bx) (sz := s) (cap := c' * s) (c' := a ++ b) hm hl.1 (AMem.get_lim _ _ _ hget) hbn hfree hp hV rfl hB ⟨p.blk, p.base + ox, c' * s, s⟩ rfl (.inl rfl) (by rw [setRow_size]; exact hm.fresh bx p hp) rfl
          (w' := w.setRow p.blk (List.take (p.base + ox + lx * s + 0) cc.toList ++ b' ++ List.drop (p.base + ox + lx * s + 0 + b'.length) cc.toList).toArray) (fun ρ' hle => by
            refine ⟨rfl, _, ce, (0, 0), setRow_heap w p.blk cc _ ce (0, 0) hheap, fun i x hx => ?_, fun _ => ⟨hB, rfl⟩, fun _ => ?_, ?_⟩
            · have hta : (cc.toList.take (p.base + ox + lx * s + 0)).length = p.base + ox + lx * s := by simp; omega
              simp only [List.getElem?_toArray]
              rw [List.append_assoc]
              have hal : a.length = lx * s := by rw [ha.1]; exact hla
              by_cases hia : i < lx * s
              · rw [List.getElem?_append_left (by omega)] at hx
                obtain ⟨y, hy, hv⟩ := ha.get hx
                refine ⟨y, ?_, hv.mono hle⟩
                rw [List.getElem?_append_left (by omega), List.getElem?_take, if_pos (by omega), ← hy, ← hcell i hia]
                simp [World.cell?, hheap]
              · rw [List.getElem?_append_right (by omega), hal] at hx
                obtain ⟨y, hy, hv⟩ := hb.get hx
                refine ⟨y, ?_, hv.mono hle⟩
                have hilt := (List.getElem?_eq_some_iff.1 hy).1
                rw [List.getElem?_append_right (by omega), hta, List.getElem?_append_left (by omega), ← hy]
                congr 1; omega
            · simp; omega
            · have hal := ha.1; have hbl := hb.1
              simp; omega) (fun k h1 _ => setRow_other w _ _ k h1) rfl rfl rfl (by rw [setRow_size]; exact Nat.le_refl _)
        refine ⟨_, _, ρ', hrun, ?_, hpost⟩
        show VRel ρ' (.slice (some ⟨n, 0, none⟩) (lx + ly) UNK) _
        exact VRel.slice (p := ⟨p.blk, p.base + ox, c' * s, s⟩) hn hroom (fun _ => by simp) (fun h => absurd rfl h) (by decide)
      · -- there is none
        have hg : c' < lx + ly := by omega
        obtain ⟨rest, hrest, hrun⟩ := run_app_grow (P := P) (w := w) (ty := ty) ht hu hi hz (hfo ti.size w.drew hsz rfl) (hf ti.size w.drew hsz rfl) hg hpos hbb
        have hge : lx + ly ≤ grownCap w (lx + ly) c' e := grownCap_ge w _ _ _
        have hcl : (a' ++ b' ++ rest).length = grownCap w (lx + ly) c' e * s := by
          rw [List.length_append, List.length_append, hla, hlb, hrest, hzs, ← Nat.add_mul, ← Nat.add_mul]; congr 1; omega
        obtain ⟨ρ', hn, hpost⟩ := Post.appU (n := n) (b := bx) (sz := s) (cap := grownCap w (lx + ly) c' e * s) (c' := a ++ b) hm hl.1 (AMem.get_lim _ _ _ hget) hbn hfree hp hV rfl hB ⟨w.heap.size, 0, grownCap w (lx + ly) c' e * s, s⟩ rfl (.inr rfl) (by simp) rfl
          (w' := w.drew.alloc (.cells (a' ++ b' ++ rest).toArray e)) (fun ρ' hle => by
            refine ⟨rfl, _, e, (0, 0), heap_alloc w.drew _, fun i x hx => ?_, fun _ => ⟨hm.le, rfl⟩, fun _ => ?_, ?_⟩
            · obtain ⟨y, hy, hv⟩ := (ha.append hb).get hx
              refine ⟨y, ?_, hv.mono hle⟩
              have hi := (List.getElem?_eq_some_iff.1 hy).1
              simp only [Nat.zero_add, List.getElem?_toArray]
              rw [List.getElem?_append_left hi]; exact hy
            · show 0 + grownCap w (lx + ly) c' e * s ≤ (a' ++ b' ++ rest).toArray.size
              simp only [List.size_toArray, hcl]; omega
            · show 0 + (a ++ b).length ≤ (a' ++ b' ++ rest).toArray.size
              have h1 := (ha.append hb).1
              simp only [List.size_toArray, List.length_append] at h1 ⊢; omega)
          (fun k h1 h2 => by
            show (w.heap.push _)[k]? = _
            rw [Array.getElem?_push, if_neg (by omega)]) rfl rfl rfl (by simp)
        refine ⟨_, _, ρ', hrun, ?_, hpost⟩
        show VRel ρ' (.slice (some ⟨n, 0, none⟩) (lx + ly) UNK) _
        exact VRel.slice (p := ⟨w.heap.size, 0, grownCap w (lx + ly) c' e * s, s⟩) hn hge (fun _ => by simp) (fun h => absurd rfl h) (by decide)
  · cases h

theorem all_one {b b' : List Value} (h : LRel ρ b b') (hone : b.all one = true) : ∀ v ∈ b', v.oneCell' = true := by
  intro v hv
  obtain ⟨j, hj, rfl⟩ := List.getElem_of_mem hv
  have hj' : j < b.length := by rw [h.1]; exact hj
  have := h.2 j _ _ (List.getElem?_eq_getElem hj') (List.getElem?_eq_getElem hj)
  refine this.one ?_
  rw [List.all_eq_true] at hone
  exact hone _ (List.getElem_mem hj')

/-- the address of a slice that shows cells -/
theorem shown_cells {m : μ} {n sz F r lx c' bx ox cx : Nat} {a : List Value} {p : Place} (hm : MRel ρ V w B) (hp : ρ bx = some p) (hx : VRel ρ (.slice (some ⟨bx, ox, none⟩) lx cx) (.slice (some ⟨p.blk, p.base + ox, none⟩) lx c'))
    (h : shown m n sz (.slice (some ⟨bx, ox, none⟩) lx cx) = some (a, r)) (hag : Agree V m n F) (hF : ∀ b, r.testBit b = true → F.testBit b = true) {a' : List Value} (hla : a'.length = lx * sz)
    (hfo : (Builtin.firstCells sz lx (.slice (some ⟨p.blk, p.base + ox, none⟩) lx c')).run P w = .ok a'.toArray w) : ∀ i, i < lx * sz → w.cell? ⟨p.blk, p.base + ox + i, none⟩ = a'[i]? := by
  intro i hi
  unfold shown at h
  cases h0 : Nat.beq lx 0
  · simp only [h0, cond_false] at h
    unfold shownB at h
    split at h
    · rename_i c1 s _ _ hg
      cases hs : Nat.beq s sz
      · rw [hs, cond_false] at h; cases h
      · rw [hs, cond_true] at h
        cases hc : cellsAt c1 ox (Nat.mul lx sz) with
        | none => rw [hc] at h; cases h
        | some l1 =>
          rw [hc] at h
          have h : some (l1, bit bx) = some (a, r) := h
          injection h with h; injection h with e1 e2; subst e1; subst e2
          obtain ⟨_, hb⟩ := at_block hm hag (hF bx (by rw [bit_test]; simp)) hg hp
          obtain ⟨l', hr, hl', hcell⟩ := brel_cells hb hc
          have hl'' := run_firstCells_some (P := P) w sz lx ⟨p.blk, p.base + ox, none⟩ lx c' l' hl' (fun j v hv => (hcell j v hv).2)
          rw [hl''] at hfo
          have e : l' = a' := by
            injection hfo with e1; have := congrArg Array.toList e1; simpa using this
          subst e
          have hil : i < l'.length := by rw [hla]; exact hi
          rw [List.getElem?_eq_getElem hil]
          have := (hcell i _ (List.getElem?_eq_getElem hil)).2
          rwa [addr_add] at this
    · cases h
  · have h0 : lx = 0 := Nat.eq_of_beq_eq_true h0
    subst h0; simp at hi

theorem appO_sound {m m' : μ} {n n' r wm sz bytes : Nat} {t u e el ty : Nat} {ti : TypeInfo} {z : Value} {x y x' y' v : Value}
    (hm : MRel ρ V w B) (h : appO sz bytes m n x y (shown m n sz x) (shown m n sz y) = .ok v m' n' r wm) (hag : Agree V m n (Nat.lor r wm)) (hfree : Free ρ n)
    (ht : P.underlying t = some (.slice e)) (hu : P.underlying u = some (.slice el)) (hi : P.info? e = some ti) (hz : ti.zero = some z) (hsz : ti.size = sz) (hzs : z.cells.size = sz) (hby : ti.bytes = bytes)
    (hx : VRel ρ x x') (hy : VRel ρ y y') :
    ∃ v' w' ρ', (Builtin.append_ #[t, u] ty #[x', y']).run P w = .ok v' w' ∧ VRel ρ' v v' ∧ Post ρ V w B n m' n' wm ρ' w' := by
  cases hsx : shown m n sz x with
  | none => rw [hsx] at h; cases h
  | some pa =>
  cases hsy : shown m n sz y with
  | none => rw [hsx, hsy] at h; cases h
  | some pb =>
  obtain ⟨a, ra⟩ := pa
  obtain ⟨b, rb⟩ := pb
  rw [hsx, hsy] at h
  replace h : appV sz bytes m n (a, ra) (b, rb) x y = .ok v m' n' r wm := h
  unfold appV at h
  split at h
  · rename_i ax lx cx ay ly cy
    cases hc : (b.all one && Nat.blt 0 sz && Nat.blt 0 bytes && Nat.ble (Nat.mul (Nat.add lx ly) bytes) 140737488355328)
    · simp only [hc, cond_false] at h; cases h
    · simp only [hc, cond_true] at h
      simp only [Bool.and_eq_true, Nat.blt_eq, Nat.ble_eq] at hc
      obtain ⟨⟨⟨hone, hszp⟩, hbyp⟩, hbb⟩ := hc
      have hbb : (lx + ly) * bytes ≤ 140737488355328 := hbb
      obtain ⟨ax', cx', rfl⟩ := slice_shape hx
      obtain ⟨ay', cy', rfl⟩ := slice_shape hy
      -- the masks
      have hr : ∀ k, (Nat.lor ra rb).testBit k = true → (Nat.lor r wm).testBit k = true := by
        intro k hk
        have e : r = Nat.lor ra rb := by
          unfold appG at h
          split at h
          · cases hl : Nat.beq ly 0
            · rw [hl, cond_false] at h; unfold appN at h
              cases hl2 : AMem.lim m n
              · rw [hl2, cond_false] at h; cases h
              · rw [hl2, cond_true] at h; injection h with _ _ _ e _; exact e.symm
            · rw [hl, cond_true] at h; injection h with _ _ _ e _; exact e.symm
          · rename_i bx ox
            cases hl : Nat.beq cx VAG
            · rw [hl, cond_false] at h
              cases hl1 : Nat.beq cx UNK
              · rw [hl1, cond_false] at h
                cases hl2 : Nat.ble (Nat.add lx ly) cx
                · rw [hl2, cond_false] at h; unfold appN at h
                  cases hl3 : AMem.lim m n
                  · rw [hl3, cond_false] at h; cases h
                  · rw [hl3, cond_true] at h; injection h with _ _ _ e _; exact e.symm
                · rw [hl2, cond_true] at h; unfold appR at h
                  split at h
                  · unfold putC at h
                    split at h
                    · injection h with _ _ _ e _; exact e.symm
                    · cases h
                  · cases h
              · rw [hl1, cond_true] at h; unfold appU at h
                split at h
                · rename_i s _
                  cases hl3 : (AMem.lim m n && Nat.beq s sz)
                  · rw [hl3, cond_false] at h; cases h
                  · rw [hl3, cond_true] at h; injection h with _ _ _ e _; exact e.symm
                · cases h
            · rw [hl, cond_true] at h; cases h
          · cases h
        rw [lor_test, e, hk]; rfl
      have hra : ∀ k, ra.testBit k = true → (Nat.lor r wm).testBit k = true := fun k hk => hr k (by rw [lor_test, hk]; rfl)
      have hrb : ∀ k, rb.testBit k = true → (Nat.lor r wm).testBit k = true := fun k hk => hr k (by rw [lor_test, hk]; simp)
      obtain ⟨a', ha, hla, hfa⟩ := shown_sound (P := P) hm hx hsx hag hra
      obtain ⟨b', hb, hlb, hfb⟩ := shown_sound (P := P) hm hy hsy hag hrb
      have hone' := all_one hb hone
      have hlen : (a' ++ b').length = (lx + ly) * sz := by rw [List.length_append, hla, hlb, ← Nat.add_mul]
      unfold appG at h
      split at h
      · -- a nil slice
        have e0 : lx = 0 ∧ cx = 0 ∧ a = [] := by
          unfold shown at hsx
          split at hsx
          · rename_i e1; injection e1 with _ e2 e3; injection hsx with hsx; injection hsx with e4 _
            exact ⟨e2, e3, e4.symm⟩
          · rename_i e1; injection e1 with e1; cases e1
          · cases hsx
        obtain ⟨rfl, rfl, rfl⟩ := e0
        have ex := hx.flat_eq rfl
        injection ex with ex1 _ ex3; subst ex1; subst ex3
        cases hl : Nat.beq ly 0
        · rw [hl, cond_false] at h
          have hne : ly ≠ 0 := by intro e; subst e; simp at hl
          have ha' : a' = [] := by have := ha.1; cases a' with | nil => rfl | cons => simp at this
          exact appN_sound hm h hfree ht hu hi hz hsz hzs rfl (ha.append hb) hlen (hfa _ _ hsz rfl) (hfb _ _ hsz rfl) (by omega) (by omega) (by rw [hby]; exact hbb)
        · rw [hl, cond_true] at h
          injection h with e1 e2 e3 e4 e5
          subst e1; subst e2; subst e3; subst e5
          have hl : ly = 0 := Nat.eq_of_beq_eq_true hl
          subst hl
          have hb0 : b' = [] := by have := hlb; simp at this; exact this
          have hrun := hfb ti.size w hsz rfl
          rw [hb0] at hrun
          exact ⟨_, w, ρ, run_app_nil0 ht hu hi hrun, .flat rfl, Post.same hm n m⟩
      · rename_i bx ox
        cases hl : Nat.beq cx VAG
        · rw [hl, cond_false] at h
          have hnv : cx ≠ VAG := by intro e; subst e; simp at hl
          cases hx with
          | flat hf => simp [flat] at hf
          | vag => exact absurd rfl hnv
          | slice hp hn hun hk hv =>
            rename_i p
            have hx' : VRel ρ (.slice (some ⟨bx, ox, none⟩) lx cx) (.slice (some ⟨p.blk, p.base + ox, none⟩) lx cx') := .slice hp hn hun hk hv
            cases hl1 : Nat.beq cx UNK
            · rw [hl1, cond_false] at h
              have hnu : cx ≠ UNK := by intro e; subst e; simp at hl1
              have ec := hk hnu
              subst ec
              cases hl2 : Nat.ble (Nat.add lx ly) cx'
              · rw [hl2, cond_false] at h
                have hg : ¬ lx + ly ≤ cx' := by intro hh; have : Nat.ble (Nat.add lx ly) cx' = true := by rw [Nat.ble_eq]; exact hh
                                                rw [this] at hl2; cases hl2
                exact appN_sound hm h hfree ht hu hi hz hsz hzs rfl (ha.append hb) hlen (hfa _ _ hsz rfl) (hfb _ _ hsz rfl) (by omega) (by omega) (by rw [hby]; exact hbb)
              · rw [hl2, cond_true] at h
                rw [Nat.ble_eq] at hl2
                have hroom : lx + ly ≤ cx' := hl2
                unfold appR at h
                split at h
                · rename_i c s opn hg
                  unfold putC at h
                  split at h
                  · rename_i c1 hs
                    injection h with e1 e2 e3 e4 e5
                    subst e1; subst e2; subst e3; subst e4; subst e5
                    obtain ⟨hV, hb0⟩ := at_block hm hag (by rw [lor_test, bit_test]; simp) hg hp
                    obtain ⟨w', hw, hb', ho, h1, h2, h3, h4⟩ := brel_set (P := P) hb0 hs hb hone'
                    refine ⟨_, w', ρ, run_app_fit (P := P) (w := w) (ty := ty) ht hu hi (hfb _ _ hsz rfl) hroom (by rw [addr_add, hsz, Nat.add_assoc]; exact hw), ?_, Post.write hm (AMem.get_lim _ _ _ (getb_some hg).2) hp hV hb' ho h1 h2 h3 h4⟩
                    exact VRel.slice hp hroom hun (fun _ => rfl) hv
                  · cases h
                · cases h
            · rw [hl1, cond_true] at h
              have ecu : cx = UNK := Nat.eq_of_beq_eq_true hl1
              exact appU_sound hm h hag (by
                  unfold appU at h
                  split at h
                  · rename_i s _
                    cases hl3 : (AMem.lim m n && Nat.beq s sz)
                    · rw [hl3, cond_false] at h; cases h
                    · rw [hl3, cond_true] at h; injection h with _ _ _ _ e
                      rw [lor_test, ← e, lor_test, bit_test]; simp
                  · cases h) hfree ht hu hi hz hsz hzs hp (hun ecu) ha hb hla hlb hone' hn hfa hfb (by omega) (by rw [hby]; exact hbb)
                (shown_cells (P := P) hm hp hx' hsx hag hra hla (hfa sz w rfl rfl))
        · rw [hl, cond_true] at h; cases h
      · cases h
  · cases h
end
end Go.Am
