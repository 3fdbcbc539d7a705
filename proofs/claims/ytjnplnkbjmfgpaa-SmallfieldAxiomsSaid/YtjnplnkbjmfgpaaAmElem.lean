/- Chapter 05: shape.element over slices.Backward. -/
import Derived.RangeFuncNested
import Derived.Test.YtjnplnkbjmfgpaaAmBack
set_option linter.unusedVariables false
set_option linter.unusedSimpArgs false
set_option linter.unusedSectionVars false
namespace Go.Proofs
open Go.RowKit Go.Shelf
attribute [local go_sem] Oper.semAt_some

def Bk.acc (p : Int) (pre : List (Nat × Int)) : Int := pre.foldl (fun a x => wrap64 (wrap64 (a * p) + x.2)) 0
theorem Bk.acc_snoc (p : Int) (pre : List (Nat × Int)) (x : Nat × Int) : Bk.acc p (pre ++ [x]) = wrap64 (wrap64 (Bk.acc p pre * p) + x.2) := by simp [Bk.acc]

theorem Bk.Kp.put {n₀ Bs : Nat} {w : World} (hn : n₀ ≤ w.heap.size) (hb : Bs < w.heap.size) (W : World) (l : Nat) (o o' : Obj) (hl : w.heap.size ≤ l) (h : W.heap[l]? = some o) (h1 : o.isCells = false) (h2 : o.isWalk = false) : Bk.Kp n₀ Bs W (W.putObj l o') :=
  ⟨belowK_b hn W l o o' hl h h1 h2, World.putObj_heap_other (by omega)⟩
theorem Bk.Kp.set {n₀ Bs : Nat} {W : World} {b o : Nat} (v : Value) (h : n₀ ≤ b) (hb : b ≠ Bs) : Bk.Kp n₀ Bs W (W.setCell ⟨b, o, none⟩ v) :=
  ⟨(Below.refl n₀ W).setCell (p := ⟨b, o, none⟩) h v, by
    simp only [World.setCell]
    split <;> simp [Array.getElem?_modify, hb]⟩

set_option maxRecDepth 100000 in
set_option maxHeartbeats 4000000 in
theorem Bk.elem_in (F : Fence) (n : Nat) (h37 : F.fn 37) (h38 : F.fn 38) (h39 : F.fn 39) (hro : F.round = none) (hn : 3 ≤ n) (sz p : Int) (pa : Option Addr) (pl pc : Nat) (sa : Option Addr) (sl sc : Nat) (zs : List Int) (hreach : zs.length * 8 ≤ 140737488351232) (w : World)
    (hI : Bk.Ints w.heap.size w (.slice sa sl sc) zs) :
    CallsIn F n Try.prog 37 #[.agg #[.int .i64 sz, .int .i64 p, .slice pa pl pc], .slice sa sl sc] w fun e W' =>
      e = .returned (.int .i64 (Bk.acc p (Bk.upto (fun j => (zs.length - 1 - j, zs[zs.length - 1 - j]?.getD 0)) zs.length))) ∧ Below w.heap.size w W' := by
  have h1 : 1 ≤ n := by omega
  refine callsIn_of_wp_marks Try.func37 rfl h37 ?_ hro
  simp only [Try.ntmps37, List.size_toArray, List.length_cons, List.length_nil, Nat.reduceAdd, Nat.reduceSub, Array.replicate_succ, Array.replicate_zero, List.push_toArray, List.append_toArray, List.nil_append, List.cons_append]
  gi_wp2_with (gi_at_call 38; refine (Bk.back_in F (n - 1) h38 hro _ _ _ _).mono ?_; rintro e w' ⟨rfl, rfl⟩)
  obtain ⟨W1, hW1⟩ : ∃ W1, w.alloc (.cells #[.int .i64 sz, .int .i64 p, .slice pa pl pc] 54) = W1 := ⟨_, rfl⟩
  obtain ⟨W2, hW2⟩ : ∃ W2, W1.alloc (.cells #[.int .i64 0] 3) = W2 := ⟨_, rfl⟩
  obtain ⟨W3, hW3⟩ : ∃ W3, W2.alloc (.cells #[.slice sa sl sc] 38) = W3 := ⟨_, rfl⟩
  rw [hW1, hW2, hW3]
  have z1 : W1.heap.size = w.heap.size + 1 := by rw [← hW1]; simp
  have z2 : W2.heap.size = w.heap.size + 2 := by rw [← hW2]; simp [z1]
  have z3 : W3.heap.size = w.heap.size + 3 := by rw [← hW3]; simp [z2]
  have b1 : Below w.heap.size w W1 := by rw [← hW1]; exact (Below.refl _ w).alloc (Nat.le_refl _) _
  have b2 : Below W1.heap.size W1 W2 := by rw [← hW2]; exact (Below.refl _ W1).alloc (Nat.le_refl _) _
  have b3 : Below W2.heap.size W2 W3 := by rw [← hW3]; exact (Below.refl _ W2).alloc (Nat.le_refl _) _
  have hB0 : Below w.heap.size w W3 := (b1.trans (b2.mono (by omega))).trans (b3.mono (by omega))
  have cp1 : W1.heap[w.heap.size]? = some (.cells #[.int .i64 sz, .int .i64 p, .slice pa pl pc] 54) := by rw [← hW1]; exact World.alloc_heap_new w _
  have ca2 : W2.heap[w.heap.size + 1]? = some (.cells #[.int .i64 0] 3) := by rw [← hW2, ← z1]; exact World.alloc_heap_new W1 _
  have cs3 : W3.heap[w.heap.size + 2]? = some (.cells #[.slice sa sl sc] 38) := by rw [← hW3, ← z2]; exact World.alloc_heap_new W2 _
  have cp3 : W3.heap[w.heap.size]? = some (.cells #[.int .i64 sz, .int .i64 p, .slice pa pl pc] 54) := (b3.block _ (by omega)).trans ((b2.block _ (by omega)).trans cp1)
  have ca3 : W3.heap[w.heap.size + 1]? = some (.cells #[.int .i64 0] 3) := (b3.block _ (by omega)).trans ca2
  have hI3 := hI.below hB0
  refine wpIn_rangeFunc_ownF hro h1 (gf := 39) (lb := #[.pointer (some ⟨w.heap.size + 2, 0, none⟩)]) rfl h39 (enters_of Try.func39 (by kernel_rfl) rfl)
    (Bk.back_stops F (n - 1) h39 hro (by omega) (w.heap.size + 2) w.heap.size (.slice sa sl sc) zs hreach W3 (by omega) (by omega) (by simp [World.cell?, cs3]) hI3) Bk.Kp.trans (Bk.Kp.put (by omega) (by omega)) (Below.refl _ _) (fun _ => rfl)
    (fun pre W => ((W.cell? ⟨w.heap.size + 1, 0, none⟩ = some (.int .i64 (Bk.acc p pre)) ∧ W.frozen? ⟨w.heap.size + 1, 0, none⟩ = false) ∧ W.cell? ⟨w.heap.size, 1, none⟩ = some (.int .i64 p)) ∧ Below w.heap.size w W)
    (fun _ _ _ => False)
    (OwnFrom.and (Own.from (fun s A B row hs hg hr => ⟨⟨cell_kept hs.1.1 hg hr, (frozen_kept hs.1.1 hg hr).trans hs.1.2⟩, cell_kept hs.2 hg hr⟩) _) (ownFrom_below (Nat.le_refl _) (by omega)))
    (fun _ _ _ _ _ hs _ _ => hs)
    ⟨⟨⟨by simp [World.cell?, ca3, Bk.acc], by simp [World.frozen?, ca3]⟩, by simp [World.cell?, cp3]⟩, hB0⟩
    (fun x => { tmps := #[.agg #[.int .i64 sz, .int .i64 p, .slice pa pl pc], .slice sa sl sc, .pointer (some ⟨w.heap.size, 0, none⟩), undef, .int .i64 0, .pointer (some ⟨w.heap.size + 1, 0, none⟩), undef, .int .i64 x.2, .slice sa sl sc, .func (.func 39) #[] #[.pointer (some ⟨w.heap.size + 2, 0, none⟩)], .int .i64 (x.1 : Int), .int .i64 x.2, undef, undef, undef, undef, undef, undef, undef], defers := [] }) ?assign ?body ?done ?stop
  case assign =>
    intro l x W K hK
    gi_wp2
    exact hK
  case body =>
    rintro l pre x W ⟨⟨⟨hc, hf⟩, hp⟩, hB⟩ _
    gi_wp2
    exact ⟨KeepsOthers.setCell _ _ _, Bk.Kp.set _ (by omega) (by omega), ⟨⟨by rw [Bk.acc_snoc]; exact World.cell?_setCell_same' _ _ _ (by rw [hc]; rfl), by rw [World.frozen?_setCell]; exact hf⟩, by rw [← hp]; exact World.cell?_setCell_other _ _ _ _ (by simp)⟩, hB.setCell (p := ⟨w.heap.size + 1, 0, none⟩) (by simp) _⟩
  case done =>
    rintro D ys W hD rfl ⟨⟨⟨hc, _⟩, _⟩, hB⟩ hK
    gi_wp2
    refine ⟨by simp, .inl ⟨_, _, rfl, run_takeDeferred hK, ?_⟩⟩
    exact ⟨_, results_tmp rfl _ _ _, rfl, hB.trans (belowK_b (w := w) (Nat.le_refl _) W D _ _ (by omega) hK rfl rfl)⟩
  case stop =>
    rintro D c pre W _ _ h _
    exact h.elim
end Go.Proofs
