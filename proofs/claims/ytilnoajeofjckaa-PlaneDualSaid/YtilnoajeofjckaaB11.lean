/- The machine and its runs, part 11: Am06e Am06f Am06g AmRowsZ Am06h Am06i Am06j Am06r Am06s. -/
import Derived.Test.YtilnoajeofjckaaB10
set_option linter.unusedVariables false
set_option linter.unusedSimpArgs false
set_option linter.unusedSectionVars false
namespace Go.Am.C06
open Go Go.Am
variable {E : Nat → Option AFn} {Y : Nat → List Value → FM → Nat → OR FM}
def numMC : List P3 → Nat → MC
  | [], _ => []
  | p :: l, i => (p.c, .int .i64 (i : Int)) :: numMC l (i + 1)
theorem numMC_app : ∀ (l : List P3) (p : P3) (i : Nat), numMC (l ++ [p]) i = numMC l i ++ [(p.c, .int .i64 ((i + l.length : Nat) : Int))]
  | [], p, i => rfl
  | r :: l, p, i => by
    show (r.c, _) :: numMC (l ++ [p]) (i + 1) = _
    rw [numMC_app l p (i + 1), List.length_cons, show i + 1 + l.length = i + (l.length + 1) by omega]; rfl
theorem P3.c_inj {p r : P3} (h : p.c = r.c) : p = r := by
  cases p; cases r
  simp only [P3.c, C3.mk.injEq, Int.natCast_inj] at h
  obtain ⟨rfl, rfl, rfl⟩ := h; rfl
theorem idx_new : ∀ {l : List P3} {p : P3} (i : Nat), p ∉ l → idxK3 p.c (numMC l i) = none
  | [], p, i, _ => rfl
  | r :: l, p, i, h => by
    show (if p.c = r.c then some 0 else (idxK3 p.c (numMC l (i + 1))).map (· + 1)) = none
    rw [if_neg fun e => h (by rw [P3.c_inj e]; exact List.mem_cons_self ..), idx_new (i + 1) fun hm => h (List.mem_cons_of_mem _ hm)]; rfl
def p0 : P3 := ⟨0, 0, 0⟩
def stepP (T : Tab) (ps : List P3) (p : P3) : List P3 := if normP T p = p ∧ p ≠ p0 then ps ++ [p] else ps
def foldZ (T : Tab) (x y : Nat) (ps : List P3) : Nat → List P3
  | 0 => ps
  | k + 1 => stepP T (foldZ T x y ps k) ⟨x, y, k⟩
def foldY (T : Tab) (q x : Nat) (ps : List P3) : Nat → List P3
  | 0 => ps
  | k + 1 => foldZ T x k (foldY T q x ps k) q
def foldX (T : Tab) (q : Nat) : Nat → List P3
  | 0 => []
  | k + 1 => foldY T q k (foldX T q k) q
def Low (ps : List P3) (q x y z : Nat) : Prop := ∀ r ∈ ps, r.lt q ∧ (r.x < x ∨ (r.x = x ∧ (r.y < y ∨ (r.y = y ∧ r.z < z))))
theorem Low.not {ps : List P3} {q x y z : Nat} (h : Low ps q x y z) : (⟨x, y, z⟩ : P3) ∉ ps := fun hm => by
  have := (h _ hm).2
  simp only at this
  omega
theorem Low.step {T : Tab} {ps : List P3} {q x y z : Nat} (h : Low ps q x y z) (hx : x < q) (hy : y < q) (hz : z < q) : Low (stepP T ps ⟨x, y, z⟩) q x y (z + 1) := by
  have h1 : Low ps q x y (z + 1) := fun r hr => ⟨(h r hr).1, by have := (h r hr).2; omega⟩
  unfold stepP
  split
  · intro r hr
    rcases List.mem_append.1 hr with hr | hr
    · exact h1 r hr
    · rw [List.mem_singleton] at hr
      subst hr
      exact ⟨⟨hx, hy, hz⟩, .inr ⟨rfl, .inr ⟨rfl, Nat.lt_succ_self _⟩⟩⟩
  · exact h1
def ptCells (ps : List P3) : List Value := (ps.map P3.cells).flatten
structure OpS (m : FM) (n1 sb mb : Nat) (pf : Value) (M' : FM) (N' : Nat) (ps : List P3) : Prop where
  le : n1 ≤ N'
  low : ∀ b, b < n1 → b ≠ sb → b ≠ mb → M' b = m b
  s : ∃ allv, M' sb = some (.cells [pf, allv, .map (some mb)] 0 false true) ∧ SlZ 3 M' n1 N' allv ps.length (ptCells ps)
  mp : M' mb = some (.map (mapC3 (numMC ps 0)))
theorem OpS.alloc {m : FM} {n1 sb mb : Nat} {pf : Value} {M' : FM} {N' : Nat} {ps : List P3} (h : OpS m n1 sb mb pf M' N' ps) (hsb : sb < n1) (hmb : mb < n1) (B : Option Blk) : OpS m n1 sb mb pf (AMem.put M' N' B) (N' + 1) ps := by
  obtain ⟨le, low, ⟨allv, s1, s2⟩, mp⟩ := h
  exact ⟨by omega, fun b h1 h2 h3 => by rw [fput_ne _ _ _ _ (by omega)]; exact low b h1 h2 h3, ⟨allv, by rw [fput_ne _ _ _ _ (by omega)]; exact s1, SlZ.frame s2 (by omega) fun b _ hb => fput_ne _ _ _ _ (by omega)⟩, by rw [fput_ne _ _ _ _ (by omega)]; exact mp⟩
theorem ptCells_app (ps : List P3) (p : P3) : ptCells (ps ++ [p]) = ptCells ps ++ p.cells := by simp [ptCells]
theorem tArr3 : Arr3 PG 53 3 := ⟨by kernel_rfl, by kernel_rfl, by kernel_rfl⟩
theorem tGrd : PG.eqGuardType PG.depth 53 = false := by kernel_rfl
theorem open_L0 (h33 : E 33 = some ac33) (h44 : E 44 = some ac44) (h45 : E 45 = some ac45) (h46 : E 46 = some ac46) (h42 : E 42 = some ac42) (h51 : E 51 = some ac51) (h31 : E 31 = some ac31)
    {m : FM} {nf n1 sb mb : Nat} {pf : Value} {q : Nat} {A T : Tab} (hn1 : nf ≤ mb) (hn2 : nf ≤ sb) (hne : sb ≠ mb) (hsb : sb < n1) (hmb : mb < n1) (hF : FieldM m nf pf q A T) (hg : GoodT q A T) {x y : Nat} (hx : x < q) (hy : y < q) (e1 e2 e4 e5 e7 e9 e10 e11 e12 e13 e14 : Value) {ps0 : List P3} (hlen : ps0.length ≤ 3000000) {Q : AX → List Value → FM → Nat → Nat → Prop}
    (hQ : ∀ M' N' w, OpS m n1 sb mb pf M' N' (foldZ T x y ps0 q) → Low (foldZ T x y ps0 q) q x y q → (∀ j, j ≤ nf → Nat.mod w (bit j) = 0) → Q (.exit 4) [.int .i64 (q : Int), e1, e2, .int .i64 (y : Int), e4, e5, .int .i64 (x : Int), e7, .pointer (some ⟨sb, 0, none⟩), e9, e10, e11, e12, e13, e14, .int .i64 (q : Int)] M' N' w) :
    ∀ d z, z + d = q → ∀ (M' : FM) (N' w0 : Nat), OpS m n1 sb mb pf M' N' (foldZ T x y ps0 z) → Low (foldZ T x y ps0 z) q x y z → (foldZ T x y ps0 z).length ≤ ps0.length + z → (∀ j, j ≤ nf → Nat.mod w0 (bit j) = 0) →
    Gv (execW PG E Y ac23L0 [.int .i64 (z : Int), e1, e2, .int .i64 (y : Int), e4, e5, .int .i64 (x : Int), e7, .pointer (some ⟨sb, 0, none⟩), e9, e10, e11, e12, e13, e14, .int .i64 (q : Int)] M' N') fun X e m n w => Q X e m n (Nat.lor w0 w) := by
  have hq := hg.small
  intro d
  induction d with
  | zero =>
    intro z hz M' N' w0 hS hL hl hw
    obtain rfl : z = q := by omega
    refine wr_loopN (L := ac23L0) (b := ac23L0b) rfl ?_
    simp only [ac23L0b]
    simp (implicitDefEqProofs := false) (disch := omega) only [WPs, opds, List.all_cons, List.all_nil, List.cons_append, List.nil_append, cond_true, cond_false, eq_self, List.map_cons, List.map_nil, Nat.reduceAdd, Nat.testBit, Nat.reduceShiftRight, Nat.reduceAnd, Nat.reduceBNe, Nat.reduceMul]
    exact hQ _ _ _ hS hL hw
  | succ d ih =>
    intro z hz M' N' w0 hS hL hl hw
    have hzq : z < q := by omega
    have ih' := ih (z + 1) (by omega)
    rw [show foldZ T x y ps0 (z + 1) = stepP T (foldZ T x y ps0 z) ⟨x, y, z⟩ from rfl] at ih'
    have hL2 := hL.step (T := T) hx hy hzq
    have hnot := hL.not
    generalize foldZ T x y ps0 z = ps at *
    obtain ⟨le, low, ⟨allv, s1, s2⟩, mp⟩ := hS
    have hF2 : ∀ (B : Option Blk), FieldM (AMem.put M' N' B) (N' + 1) pf q A T := fun B => hF.frame (by omega) fun b hb => by rw [fput_ne _ _ _ _ (by omega)]; exact low b (by omega) (by omega) (by omega)
    have sb2 : ∀ (B : Option Blk), (AMem.put M' N' B : FM) sb = some (.cells [pf, allv, .map (some mb)] 0 false true) := fun B => by rw [fput_ne _ _ _ _ (by omega)]; exact s1
    have hSp : ∀ (B : Option Blk), SpaceP (AMem.put M' N' B) (N' + 1) (.pointer (some ⟨sb, 0, none⟩)) q A T := fun B => ⟨sb, pf, allv, _, rfl, by omega, sb2 B, hF2 B⟩
    refine wr_loopN (L := ac23L0) (b := ac23L0b) rfl ?_
    simp only [ac23L0b]
    simp (implicitDefEqProofs := false) (disch := omega) only [WPs, opds, List.all_cons, List.all_nil, List.cons_append, List.nil_append, cond_true, cond_false, eq_self, List.map_cons, List.map_nil, Nat.reduceAdd, Nat.testBit, Nat.reduceShiftRight, Nat.reduceAnd, Nat.reduceBNe, Nat.reduceMul]
    refine use_pureX (normal_spec (Y := Y) h33 h44 h45 h46 h42 h51 h31 (hSp _) hg (p := ⟨x, y, z⟩) ⟨hx, hy, hzq⟩) fun _ => ?_
    have heq : ∀ r : P3, binV PG .eql 53 (.agg r.cells.toArray) (.agg #[.int .i64 (x : Int), .int .i64 (y : Int), .int .i64 (z : Int)]) = some (.bool (decide (r = ⟨x, y, z⟩))) := fun r => by
      have h1 := binV_arr3 tArr3 tGrd r.c (P3.c ⟨x, y, z⟩)
      rw [decide_eq_decide.2 (⟨P3.c_inj, fun e => by rw [e]⟩ : r.c = P3.c ⟨x, y, z⟩ ↔ r = ⟨x, y, z⟩)] at h1
      exact h1
    have hne0 : binV PG .neq 53 (.agg #[.int .i64 (x : Int), .int .i64 (y : Int), .int .i64 (z : Int)]) (.agg #[.int .i64 0, .int .i64 0, .int .i64 0]) = some (.bool (!decide ((⟨x, y, z⟩ : P3) = p0))) := by
      have h1 := binV_arr3_ne tArr3 tGrd (P3.c ⟨x, y, z⟩) (P3.c p0)
      rw [decide_eq_decide.2 (⟨P3.c_inj, fun e => by rw [e]⟩ : P3.c ⟨x, y, z⟩ = P3.c p0 ↔ (⟨x, y, z⟩ : P3) = p0)] at h1
      exact h1
    have hSO : OpS m n1 sb mb pf M' N' ps := ⟨le, low, ⟨allv, s1, s2⟩, mp⟩
    have hS1 := fun B => hSO.alloc hsb hmb B
    unfold stepP at ih' hL2
    generalize normP T ⟨x, y, z⟩ = r at *
    have hrb : r.cells.all (belowF (N' + 1)) = true := rfl
    have fzN : ∀ j, j ≤ nf → Nat.mod (bit N') (bit j) = 0 := fun j hj => frz_bit (by omega)
    by_cases hr : r = ⟨x, y, z⟩
    · by_cases h0 : (⟨x, y, z⟩ : P3) = p0
      · rw [if_neg fun h => h.2 h0] at ih' hL2
        simp (implicitDefEqProofs := false) (disch := omega) only [WPs, opds, List.all_cons, List.all_nil, List.cons_append, List.nil_append, cond_true, cond_false, eq_self, List.map_cons, List.map_nil, Nat.reduceAdd, Nat.testBit, Nat.reduceShiftRight, Nat.reduceAnd, Nat.reduceBNe, Nat.reduceMul, hrb, heq, hne0, decide_eq_true hr, decide_eq_true h0]
        refine wr_end (ih' _ (N' + 1) (Nat.lor w0 (Nat.lor (bit N') (bit N'))) (hS1 _) hL2 (by omega) (fun j hj => by simp only [frz_iff]; exact ⟨hw j hj, fzN j hj, fzN j hj⟩)) fun X e m n w hq => ?_
        rw [← lor_assoc']; exact hq
      · rw [if_pos ⟨hr, h0⟩] at ih' hL2
        have hab := s2.bel (N' + 1) (by omega)
        have hmap := fun (B : Option Blk) => mapc_upd (P := PG) tArr3 (m := AMem.put M' N' B) (n := N' + 1) (b := mb) (by omega) (by rw [fput_ne _ _ _ _ (by omega)]; exact mp) (P3.c ⟨x, y, z⟩) (idx_new 0 hnot) (.int .i64 (ps.length : Int))
        have hup : ∀ (B : Option Blk), mapV PG (.upd 53) [.map (some mb), .agg #[.int .i64 (x : Int), .int .i64 (y : Int), .int .i64 (z : Int)], .int .i64 (ps.length : Int)] (AMem.put M' N' B) (N' + 1) = .ok undef (AMem.put (AMem.put M' N' B) mb (some (.map (mapC3 (numMC (ps ++ [⟨x, y, z⟩]) 0))))) (N' + 1) (bit mb) (bit mb) := fun B => by
          rw [numMC_app, Nat.zero_add]; exact hmap B
        simp (implicitDefEqProofs := false) (disch := omega) only [WPs, opds, List.all_cons, List.all_nil, List.cons_append, List.nil_append, cond_true, cond_false, eq_self, List.map_cons, List.map_nil, Nat.reduceAdd, Nat.testBit, Nat.reduceShiftRight, Nat.reduceAnd, Nat.reduceBNe, Nat.reduceMul, hrb, heq, hne0, decide_eq_true hr, decide_eq_false h0, sb2, nilckV, hab, s2.len, s_mp, hup, belowV_map]
        generalize hM3 : (AMem.put (AMem.put M' N' (some (.cells [.int .i64 (x : Int), .int .i64 (y : Int), .int .i64 (z : Int)] 0 false true))) mb (some (.map (mapC3 (numMC (ps ++ [⟨x, y, z⟩]) 0)))) : FM) = M3
        have c3 : M3 N' = some (.cells [.int .i64 (x : Int), .int .i64 (y : Int), .int .i64 (z : Int)] 0 false true) := by rw [← hM3, fput_ne _ _ _ _ (by omega)]; exact fput_same _ _ _
        have c3m : M3 mb = some (.map (mapC3 (numMC (ps ++ [⟨x, y, z⟩]) 0))) := by rw [← hM3]; exact fput_same _ _ _
        have c3l : ∀ b, b < N' → b ≠ mb → M3 b = M' b := fun b hb h1 => by rw [← hM3, fput_ne _ _ _ _ h1, fput_ne _ _ _ _ (by omega)]
        have c3s : M3 sb = some (.cells [pf, allv, .map (some mb)] 0 false true) := (c3l sb (by omega) hne).trans s1
        have hab2 := s2.bel (N' + 2) (by omega)
        simp (implicitDefEqProofs := false) (disch := omega) only [WPs, opds, List.all_cons, List.all_nil, List.cons_append, List.nil_append, cond_true, cond_false, eq_self, List.map_cons, List.map_nil, Nat.reduceAdd, Nat.testBit, Nat.reduceShiftRight, Nat.reduceAnd, Nat.reduceBNe, Nat.reduceMul, hab2]
        have hZ3 : ∀ B, SlZ 3 (AMem.put M3 (N' + 1) B) n1 (N' + 2) allv ps.length (ptCells ps) := fun B => SlZ.frame s2 (by omega) fun b h1 h2 => by rw [fput_ne _ _ _ _ (by omega)]; exact c3l b h2 (by omega)
        refine use_rtX (app_slZ (hZ3 _) (some ⟨N' + 1, 0, none⟩) 1 (bit (N' + 1)) (by omega) (by omega) (zs := [.int .i64 (x : Int), .int .i64 (y : Int), .int .i64 (z : Int)]) rfl rfl (by omega) (by omega)) fun v5 M5 N5 r5 w5 hA => ?_
        obtain ⟨av, an, as5, al, aw⟩ := hA
        subst an
        have c5s : M5 sb = some (.cells [pf, allv, .map (some mb)] 0 false true) := by rw [al sb hsb, fput_ne _ _ _ _ (by omega)]; exact c3s
        have c5m : M5 mb = some (.map (mapC3 (numMC (ps ++ [⟨x, y, z⟩]) 0))) := by rw [al mb hmb, fput_ne _ _ _ _ (by omega)]; exact c3m
        have c5l : ∀ b, b < n1 → b ≠ sb → b ≠ mb → M5 b = m b := fun b h1 h2 h3 => by rw [al b h1, fput_ne _ _ _ _ (by omega), c3l b (by omega) h3]; exact low b h1 h2 h3
        subst av
        simp (implicitDefEqProofs := false) (disch := omega) only [WPs, opds, List.all_cons, List.all_nil, List.cons_append, List.nil_append, cond_true, cond_false, eq_self, List.map_cons, List.map_nil, Nat.reduceAdd, Nat.testBit, Nat.reduceShiftRight, Nat.reduceAnd, Nat.reduceBNe, Nat.reduceMul, c5s, nilckV]
        have hlenA : (ps ++ [(⟨x, y, z⟩ : P3)]).length = ps.length + 1 := by rw [List.length_append]; rfl
        refine wr_end (ih' _ (N' + 3) (Nat.lor w0 (Nat.lor (Nat.lor (Nat.lor (bit N') (bit N')) (bit mb)) (Nat.lor (Nat.lor (bit (N' + 1)) w5) (bit sb)))) ⟨by omega, fun b h1 h2 h3 => by rw [fput_ne _ _ _ _ h2]; exact c5l b h1 h2 h3, ⟨_, fput_same _ _ _, ?_⟩, by rw [fput_ne _ _ _ _ (fun e => hne e.symm)]; exact c5m⟩ hL2 (by rw [hlenA]; omega) (fun j hj => ?_)) fun X e m n w hq => ?_
        · rw [hlenA, ptCells_app]
          exact SlZ.frame as5 (Nat.le_refl _) fun b h1 _ => fput_ne _ _ _ _ (by omega)
        · simp only [frz_iff]
          exact ⟨hw j hj, ⟨⟨fzN j hj, fzN j hj⟩, frz_bit (by omega)⟩, ⟨frz_bit (by omega), aw j (by omega)⟩, frz_bit (by omega)⟩
        · rw [← lor_assoc']; exact hq
    · rw [if_neg fun h => hr h.1] at ih' hL2
      simp (implicitDefEqProofs := false) (disch := omega) only [WPs, opds, List.all_cons, List.all_nil, List.cons_append, List.nil_append, cond_true, cond_false, eq_self, List.map_cons, List.map_nil, Nat.reduceAdd, Nat.testBit, Nat.reduceShiftRight, Nat.reduceAnd, Nat.reduceBNe, Nat.reduceMul, hrb, heq, decide_eq_false hr]
      refine wr_end (ih' _ (N' + 1) (Nat.lor w0 (Nat.lor (bit N') (bit N'))) (hS1 _) hL2 (by omega) (fun j hj => by simp only [frz_iff]; exact ⟨hw j hj, fzN j hj, fzN j hj⟩)) fun X e m n w hq => ?_
      rw [← lor_assoc']; exact hq
end Go.Am.C06
namespace Go.Am.C06
open Go Go.Am
variable {E : Nat → Option AFn} {Y : Nat → List Value → FM → Nat → OR FM}
theorem stepP_len (T : Tab) (ps : List P3) (p : P3) : (stepP T ps p).length ≤ ps.length + 1 := by
  unfold stepP
  split
  · rw [List.length_append]; exact Nat.le_refl _
  · omega
theorem foldZ_len (T : Tab) (x y : Nat) (ps : List P3) : ∀ k, (foldZ T x y ps k).length ≤ ps.length + k
  | 0 => Nat.le_refl _
  | k + 1 => by
    have := foldZ_len T x y ps k
    have h2 := stepP_len T (foldZ T x y ps k) ⟨x, y, k⟩
    show (stepP T (foldZ T x y ps k) ⟨x, y, k⟩).length ≤ _
    omega
theorem foldY_len (T : Tab) (q x : Nat) (ps : List P3) : ∀ k, (foldY T q x ps k).length ≤ ps.length + k * q
  | 0 => Nat.le_add_right _ _
  | k + 1 => by
    have := foldY_len T q x ps k
    have h2 := foldZ_len T x k (foldY T q x ps k) q
    show (foldZ T x k (foldY T q x ps k) q).length ≤ _
    rw [Nat.succ_mul]; omega
theorem foldX_len (T : Tab) (q : Nat) : ∀ k, (foldX T q k).length ≤ k * (q * q)
  | 0 => Nat.zero_le _
  | k + 1 => by
    have := foldX_len T q k
    have h2 := foldY_len T q k (foldX T q k) q
    show (foldY T q k (foldX T q k) q).length ≤ _
    rw [Nat.succ_mul]; omega
theorem Low.nextY {ps : List P3} {q x y : Nat} (h : Low ps q x y q) : Low ps q x (y + 1) 0 := fun r hr => ⟨(h r hr).1, by have := (h r hr).2; omega⟩
theorem Low.nextX {ps : List P3} {q x : Nat} (h : Low ps q x q 0) : Low ps q (x + 1) 0 0 := fun r hr => ⟨(h r hr).1, by have h1 := (h r hr).1; have := (h r hr).2; omega⟩
theorem open_L1 (h33 : E 33 = some ac33) (h44 : E 44 = some ac44) (h45 : E 45 = some ac45) (h46 : E 46 = some ac46) (h42 : E 42 = some ac42) (h51 : E 51 = some ac51) (h31 : E 31 = some ac31)
    {m : FM} {nf n1 sb mb : Nat} {pf : Value} {q : Nat} {A T : Tab} (hn1 : nf ≤ mb) (hn2 : nf ≤ sb) (hne : sb ≠ mb) (hsb : sb < n1) (hmb : mb < n1) (hF : FieldM m nf pf q A T) (hg : GoodT q A T) {x : Nat} (hx : x < q) (a1 a2 a4 a6 a7 a8 a9 a10 a11 : Value) {ps0 : List P3} (hlen : ps0.length ≤ 1000000) {Q : AX → List Value → FM → Nat → Nat → Prop}
    (hQ : ∀ M' N' w, OpS m n1 sb mb pf M' N' (foldY T q x ps0 q) → Low (foldY T q x ps0 q) q x q 0 → (∀ j, j ≤ nf → Nat.mod w (bit j) = 0) → Q (.exit 2) [.int .i64 (q : Int), a1, a2, .int .i64 (x : Int), a4, .pointer (some ⟨sb, 0, none⟩), a6, a7, a8, a9, a10, a11, .int .i64 (q : Int)] M' N' w) :
    ∀ d y, y + d = q → ∀ (M' : FM) (N' w0 : Nat), OpS m n1 sb mb pf M' N' (foldY T q x ps0 y) → Low (foldY T q x ps0 y) q x y 0 → (∀ j, j ≤ nf → Nat.mod w0 (bit j) = 0) →
    Gv (execW PG E Y ac23L1 [.int .i64 (y : Int), a1, a2, .int .i64 (x : Int), a4, .pointer (some ⟨sb, 0, none⟩), a6, a7, a8, a9, a10, a11, .int .i64 (q : Int)] M' N') fun X e m n w => Q X e m n (Nat.lor w0 w) := by
  have hq := hg.small
  intro d
  induction d with
  | zero =>
    intro y hy M' N' w0 hS hL hw
    obtain rfl : y = q := by omega
    refine wr_loopN (L := ac23L1) (b := ac23L1b) rfl ?_
    simp only [ac23L1b]
    simp (implicitDefEqProofs := false) (disch := omega) only [WPs, opds, List.all_cons, List.all_nil, List.cons_append, List.nil_append, cond_true, cond_false, eq_self, List.map_cons, List.map_nil, Nat.reduceAdd, Nat.testBit, Nat.reduceShiftRight, Nat.reduceAnd, Nat.reduceBNe, Nat.reduceMul]
    exact hQ _ _ _ hS hL hw
  | succ d ih =>
    intro y hy M' N' w0 hS hL hw
    have hyq : y < q := by omega
    have hl := foldY_len T q x ps0 y
    have hyy : y * q ≤ 1000 * 1000 := Nat.mul_le_mul (by omega) (by omega)
    refine wr_loopN (L := ac23L1) (b := ac23L1b) rfl ?_
    simp only [ac23L1b]
    simp (implicitDefEqProofs := false) (disch := omega) only [WPs, opds, List.all_cons, List.all_nil, List.cons_append, List.nil_append, cond_true, cond_false, eq_self, List.map_cons, List.map_nil, Nat.reduceAdd, Nat.testBit, Nat.reduceShiftRight, Nat.reduceAnd, Nat.reduceBNe, Nat.reduceMul]
    refine wr_kont (open_L0 (Y := Y) h33 h44 h45 h46 h42 h51 h31 hn1 hn2 hne hsb hmb hF hg hx hyq _ _ _ _ _ _ _ _ _ _ _ (ps0 := foldY T q x ps0 y) (by omega) (fun M2 N2 w2 hS2 hL2 hw2 rr => ?_) q 0 (by omega) M' N' 0 hS hL (by show (foldY T q x ps0 y).length ≤ _; omega) (fun _ _ => Nat.zero_mod _))
    simp (implicitDefEqProofs := false) (disch := omega) only [WPs, opds, List.all_cons, List.all_nil, List.cons_append, List.nil_append, cond_true, cond_false, eq_self, List.map_cons, List.map_nil, Nat.reduceAdd, Nat.testBit, Nat.reduceShiftRight, Nat.reduceAnd, Nat.reduceBNe, Nat.reduceMul]
    refine wr_end (ih (y + 1) (by omega) M2 N2 (Nat.lor w0 w2) hS2 hL2.nextY (fun j hj => by rw [frz_iff]; exact ⟨hw j hj, hw2 j hj⟩)) fun X e m n w hq => ?_
    rw [← lor_assoc']; exact hq
theorem open_L2 (h33 : E 33 = some ac33) (h44 : E 44 = some ac44) (h45 : E 45 = some ac45) (h46 : E 46 = some ac46) (h42 : E 42 = some ac42) (h51 : E 51 = some ac51) (h31 : E 31 = some ac31)
    {m : FM} {nf n1 sb mb : Nat} {pf : Value} {q : Nat} {A T : Tab} (hq2 : 2 ≤ q) (hn1 : nf ≤ mb) (hn2 : nf ≤ sb) (hne : sb ≠ mb) (hsb : sb < n1) (hmb : mb < n1) (hF : FieldM m nf pf q A T) (hg : GoodT q A T) (a1 a3 a4 a5 a6 a7 a8 : Value) {Q : AX → List Value → FM → Nat → Nat → Prop}
    (hQ : ∀ M' N' w, OpS m n1 sb mb pf M' N' (foldX T q 2) → Low (foldX T q 2) q 2 0 0 → (∀ j, j ≤ nf → Nat.mod w (bit j) = 0) → Q (.exit 0) [a1, .pointer (some ⟨sb, 0, none⟩), a3, a4, a5, a6, a7, a8, .int .i64 (q : Int)] M' N' w) :
    ∀ d x, x + d = 2 → ∀ (M' : FM) (N' w0 : Nat), OpS m n1 sb mb pf M' N' (foldX T q x) → Low (foldX T q x) q x 0 0 → (∀ j, j ≤ nf → Nat.mod w0 (bit j) = 0) →
    Gv (execW PG E Y ac23L2 [.int .i64 (x : Int), a1, .pointer (some ⟨sb, 0, none⟩), a3, a4, a5, a6, a7, a8, .int .i64 (q : Int)] M' N') fun X e m n w => Q X e m n (Nat.lor w0 w) := by
  have hq := hg.small
  intro d
  induction d with
  | zero =>
    intro x hx M' N' w0 hS hL hw
    obtain rfl : x = 2 := by omega
    refine wr_loopN (L := ac23L2) (b := ac23L2b) rfl ?_
    simp only [ac23L2b]
    simp (implicitDefEqProofs := false) (disch := omega) only [WPs, opds, List.all_cons, List.all_nil, List.cons_append, List.nil_append, cond_true, cond_false, eq_self, List.map_cons, List.map_nil, Nat.reduceAdd, Nat.testBit, Nat.reduceShiftRight, Nat.reduceAnd, Nat.reduceBNe, Nat.reduceMul]
    exact hQ _ _ _ hS hL hw
  | succ d ih =>
    intro x hx M' N' w0 hS hL hw
    have hl := foldX_len T q x
    have hxx : x * (q * q) ≤ 1 * (1000 * 1000) := Nat.mul_le_mul (by omega) (Nat.mul_le_mul (by omega) (by omega))
    refine wr_loopN (L := ac23L2) (b := ac23L2b) rfl ?_
    simp only [ac23L2b]
    simp (implicitDefEqProofs := false) (disch := omega) only [WPs, opds, List.all_cons, List.all_nil, List.cons_append, List.nil_append, cond_true, cond_false, eq_self, List.map_cons, List.map_nil, Nat.reduceAdd, Nat.testBit, Nat.reduceShiftRight, Nat.reduceAnd, Nat.reduceBNe, Nat.reduceMul]
    refine wr_kont (open_L1 (Y := Y) h33 h44 h45 h46 h42 h51 h31 hn1 hn2 hne hsb hmb hF hg (x := x) (by omega) _ _ _ _ _ _ _ _ _ (ps0 := foldX T q x) (by omega) (fun M2 N2 w2 hS2 hL2 hw2 rr => ?_) q 0 (by omega) M' N' 0 hS hL (fun _ _ => Nat.zero_mod _))
    simp (implicitDefEqProofs := false) (disch := omega) only [WPs, opds, List.all_cons, List.all_nil, List.cons_append, List.nil_append, cond_true, cond_false, eq_self, List.map_cons, List.map_nil, Nat.reduceAdd, Nat.testBit, Nat.reduceShiftRight, Nat.reduceAnd, Nat.reduceBNe, Nat.reduceMul]
    refine wr_end (ih (x + 1) (by omega) M2 N2 (Nat.lor w0 w2) hS2 hL2.nextX (fun j hj => by rw [frz_iff]; exact ⟨hw j hj, hw2 j hj⟩)) fun X e m n w hq => ?_
    rw [← lor_assoc']; exact hq
def SpaceM (m : FM) (N : Nat) (sv : Value) (q : Nat) (A T : Tab) (ps : List P3) : Prop :=
  ∃ sb mb pf allv n1, sv = .pointer (some ⟨sb, 0, none⟩) ∧ sb < N ∧ mb < N ∧ m sb = some (.cells [pf, allv, .map (some mb)] 0 false true) ∧ SlZ 3 m n1 N allv ps.length (ptCells ps) ∧ m mb = some (.map (mapC3 (numMC ps 0))) ∧ FieldM m N pf q A T ∧ ∀ r ∈ ps, r.lt q
theorem SpaceM.frame {m m' : FM} {n n' : Nat} {sv : Value} {q : Nat} {A M : Tab} {ps : List P3} (h : SpaceM m n sv q A M ps) (hn : n ≤ n') (hf : ∀ b, b < n → m' b = m b) : SpaceM m' n' sv q A M ps := by
  obtain ⟨sb, mb, pf, allv, n1, h1, h2, h3, h4, h5, h6, h7, h8⟩ := h
  exact ⟨sb, mb, pf, allv, n1, h1, by omega, by omega, (hf sb h2).trans h4, SlZ.frame h5 hn fun b _ hb => hf b hb, (hf mb h3).trans h6, h7.frame hn hf, h8⟩
theorem SpaceM.sp {m : FM} {n : Nat} {sv : Value} {q : Nat} {A M : Tab} {ps : List P3} (h : SpaceM m n sv q A M ps) : SpaceP m n sv q A M := by
  obtain ⟨sb, mb, pf, allv, n1, h1, h2, h3, h4, h5, h6, h7, h8⟩ := h
  exact ⟨sb, pf, allv, _, h1, h2, h4, h7⟩
abbrev Kpt (m : FM) (n : Nat) (R : Value → FM → Nat → Prop) (v : Value) (m' : FM) (n' w : Nat) : Prop := n ≤ n' ∧ (∀ b, b < n → m' b = m b) ∧ (∀ j, j ≤ n → Nat.mod w (bit j) = 0) ∧ R v m' n'
theorem open_spec (hE : E 23 = some ac23) (h33 : E 33 = some ac33) (h44 : E 44 = some ac44) (h45 : E 45 = some ac45) (h46 : E 46 = some ac46) (h42 : E 42 = some ac42) (h51 : E 51 = some ac51) (h31 : E 31 = some ac31)
    {q : Nat} {A T : Tab} (hq2 : 2 ≤ q) (hq7 : q ≤ 7) (hg : GoodT q A T) (m : FM) (n : Nat) (hNew : Rt (callW PG E Y 29 [.int .i64 (q : Int)] m n) (Kpt m n fun v M' N' => ∃ pv, v = .tuple #[pv, .int .i64 0] ∧ FieldM M' N' pv q A T)) :
    Rt (callW PG E Y 23 [.int .i64 (q : Int)] m n) (Kpt m n fun v M' N' => ∃ sv, v = .tuple #[sv, .int .i64 0] ∧ SpaceM M' N' sv q A T (foldX T q 2)) := by
  refine kept_specQ hE rfl fun Q hQ => ?_
  simp only [ac23]
  simp (implicitDefEqProofs := false) (disch := omega) only [WPs, opds, List.all_cons, List.all_nil, List.cons_append, List.nil_append, cond_true, cond_false, eq_self, List.map_cons, List.map_nil, Nat.reduceAdd, Nat.testBit, Nat.reduceShiftRight, Nat.reduceAnd, Nat.reduceBNe, Nat.reduceMul]
  refine use_rt hNew fun v M1 N1 r1 w1 ⟨n1, m1, f1, pv, hv, hF⟩ => ?_
  subst hv
  have hqq : q * q ≤ 7 * 7 := Nat.mul_le_mul hq7 hq7
  have hbp := hF.bel
  obtain ⟨fb, fp, fs, fm, rfl, fl, _⟩ := id hF
  simp (implicitDefEqProofs := false) (disch := omega) only [WPs, opds, List.all_cons, List.all_nil, List.cons_append, List.nil_append, cond_true, cond_false, eq_self, List.map_cons, List.map_nil, Nat.reduceAdd, Nat.testBit, Nat.reduceShiftRight, Nat.reduceAnd, Nat.reduceBNe, Nat.reduceMul, s_mp, mapc_mk, cells_mapv, one_map]
  generalize hM2 : (AMem.put (AMem.put M1 N1 (some (.map (mapC3 [])))) (N1 + 1) (some (.cells [.pointer (some ⟨fb, 0, none⟩), .slice none 0 0, .map (some N1)] 0 false true)) : FM) = M2
  have l2 : ∀ b, b < N1 → M2 b = M1 b := fun b hb => by rw [← hM2, fput_ne _ _ _ _ (by omega), fput_ne _ _ _ _ (by omega)]
  have hS0 : OpS M2 (N1 + 2) (N1 + 1) N1 (.pointer (some ⟨fb, 0, none⟩)) M2 (N1 + 2) [] := ⟨Nat.le_refl _, fun _ _ _ _ => rfl, ⟨_, by rw [← hM2]; exact fput_same _ _ _, .inl ⟨rfl, rfl, rfl⟩⟩, by rw [← hM2, fput_ne _ _ _ _ (by omega)]; exact fput_same _ _ _⟩
  have hF2 : FieldM M2 N1 (.pointer (some ⟨fb, 0, none⟩)) q A T := hF.frame (Nat.le_refl _) l2
  have fzn := f1 n (Nat.le_refl _)
  have fza : Nat.mod (bit N1) (bit n) = 0 := frz_bit (by omega)
  have fzb : Nat.mod (bit (N1 + 1)) (bit n) = 0 := frz_bit (by omega)
  refine wr_kont (open_L2 (Y := Y) h33 h44 h45 h46 h42 h51 h31 (m := M2) (nf := N1) (n1 := N1 + 2) (sb := N1 + 1) (mb := N1) hq2 (Nat.le_refl _) (by omega) (by omega) (by omega) (by omega) hF2 hg _ _ _ _ _ _ _ (fun M' N' w hS hL hw rr => ?_) 2 0 (by omega) M2 (N1 + 2) 0 hS0 (fun r hr => by cases hr) (fun _ _ => Nat.zero_mod _))
  obtain ⟨le, low, ⟨allv, s1, s2⟩, mp⟩ := hS
  have fzw := hw n n1
  simp (implicitDefEqProofs := false) (disch := omega) only [WPs, opds, List.all_cons, List.all_nil, List.cons_append, List.nil_append, cond_true, cond_false, eq_self, List.map_cons, List.map_nil, Nat.reduceAdd, Nat.testBit, Nat.reduceShiftRight, Nat.reduceAnd, Nat.reduceBNe, Nat.reduceMul]
  refine hQ _ _ _ _ _ (by omega) (fun b hb => by rw [low b (by omega) (by omega) (by omega), l2 b (by omega)]; exact m1 b hb) ?_ rfl ⟨_, rfl, N1 + 1, N1, .pointer (some ⟨fb, 0, none⟩), allv, N1 + 2, rfl, by omega, by omega, s1, s2, mp, hF2.frame (by omega) (fun b hb => low b (by omega) (by omega) (by omega)), fun r hr => (hL r hr).1⟩
  simp only [frz_iff]
  exact ⟨⟨fzn, fza, fzb⟩, fzw⟩
theorem open_bad (hE : E 23 = some ac23) {q : Int} (m : FM) (n : Nat) (hNew : Pure (callW PG E Y 29 [.int .i64 q] m n) m n (.tuple #[.pointer none, .int .i64 1])) :
    Pure (callW PG E Y 23 [.int .i64 q] m n) m n (.tuple #[.pointer none, .int .i64 1]) := by
  refine pure_spec hE rfl rfl ?_
  simp only [ac23]
  simp (implicitDefEqProofs := false) (disch := omega) only [WPs, opds, List.all_cons, List.all_nil, List.cons_append, List.nil_append, cond_true, cond_false, eq_self, List.map_cons, List.map_nil, Nat.reduceAdd, Nat.testBit, Nat.reduceShiftRight, Nat.reduceAnd, Nat.reduceBNe, Nat.reduceMul]
  refine use_pure hNew fun _ => ?_
  simp (implicitDefEqProofs := false) (disch := omega) only [WPs, opds, List.all_cons, List.all_nil, List.cons_append, List.nil_append, cond_true, cond_false, eq_self, List.map_cons, List.map_nil, Nat.reduceAdd, Nat.testBit, Nat.reduceShiftRight, Nat.reduceAnd, Nat.reduceBNe, Nat.reduceMul]
theorem open_big (hE : E 23 = some ac23) {q : Nat} {A T : Tab} (hq2 : 8 ≤ q) (hq7 : q ≤ 9) (m : FM) (n : Nat) (hNew : Rt (callW PG E Y 29 [.int .i64 (q : Int)] m n) (Kpt m n fun v M' N' => ∃ pv, v = .tuple #[pv, .int .i64 0] ∧ FieldM M' N' pv q A T)) :
    Pure (callW PG E Y 23 [.int .i64 (q : Int)] m n) m n (.tuple #[.pointer none, .int .i64 7]) := by
  refine pure_spec hE rfl rfl ?_
  simp only [ac23]
  simp (implicitDefEqProofs := false) (disch := omega) only [WPs, opds, List.all_cons, List.all_nil, List.cons_append, List.nil_append, cond_true, cond_false, eq_self, List.map_cons, List.map_nil, Nat.reduceAdd, Nat.testBit, Nat.reduceShiftRight, Nat.reduceAnd, Nat.reduceBNe, Nat.reduceMul]
  refine use_rt hNew fun v M1 N1 r1 w1 ⟨n1, m1, f1, pv, hv, hF⟩ => ?_
  subst hv
  have hqq : 8 * 8 ≤ q * q := Nat.mul_le_mul hq2 hq2
  have hqq2 : q * q ≤ 9 * 9 := Nat.mul_le_mul hq7 hq7
  have fz := f1 n (Nat.le_refl _)
  simp (implicitDefEqProofs := false) (disch := omega) only [WPs, opds, List.all_cons, List.all_nil, List.cons_append, List.nil_append, cond_true, cond_false, eq_self, List.map_cons, List.map_nil, Nat.reduceAdd, Nat.testBit, Nat.reduceShiftRight, Nat.reduceAnd, Nat.reduceBNe, Nat.reduceMul, fz]
end Go.Am.C06
namespace Go.Am.C06
open Go Go.Am
variable {E : Nat → Option AFn} {Y : Nat → List Value → FM → Nat → OR FM}
theorem ptCells_len : ∀ l : List P3, (ptCells l).length = l.length * 3
  | [] => rfl
  | x :: l => by
    show (x.cells ++ ptCells l).length = _
    rw [List.length_append, ptCells_len l, List.length_cons]
    show 3 + _ = _
    omega
theorem ptCells_get : ∀ (l : List P3) (i k : Nat), k < 3 → (ptCells l)[i * 3 + k]? = (l[i]?).bind fun x => x.cells[k]?
  | [], i, k, _ => by simp [ptCells]
  | x :: l, 0, k, h => by
    show (x.cells ++ ptCells l)[0 * 3 + k]? = _
    rw [Nat.zero_mul, Nat.zero_add, List.getElem?_append_left (by show k < 3; exact h)]; rfl
  | x :: l, i + 1, k, h => by
    show (x.cells ++ ptCells l)[(i + 1) * 3 + k]? = _
    rw [List.getElem?_append_right (by show 3 ≤ _; omega), show (i + 1) * 3 + k - x.cells.length = i * 3 + k by show (i + 1) * 3 + k - 3 = _; omega, ptCells_get l i k h]; rfl
theorem ptCells_at (l : List P3) {i : Nat} (hi : i < l.length) : ctake (ldrop (ptCells l) (i * 3)) 3 = some l[i].cells := by
  rw [ldrop_eq, ctake_eq, if_pos (by rw [List.length_drop, ptCells_len]; omega)]
  congr 1
  apply List.ext_getElem?
  intro k
  rw [List.getElem?_take]
  split
  · rw [List.getElem?_drop, ptCells_get l i k (by omega), List.getElem?_eq_getElem hi]; rfl
  · exact (List.getElem?_eq_none (by show 3 ≤ k; omega)).symm
def posP (p : P3) : List P3 → Nat → Int
  | [], _ => 0
  | r :: l, i => if p = r then (i : Int) else posP p l (i + 1)
theorem look_pos (p : P3) : ∀ (l : List P3) (i : Nat), lookV false (.int .i64 0) (lookK3 p.c (numMC l i)) = .int .i64 (posP p l i)
  | [], i => rfl
  | r :: l, i => by
    show lookV false _ (if p.c = r.c then some (.int .i64 (i : Int)) else lookK3 p.c (numMC l (i + 1))) = .int .i64 (if p = r then (i : Int) else posP p l (i + 1))
    by_cases h : p = r
    · rw [if_pos h, if_pos (by rw [h])]; rfl
    · rw [if_neg h, if_neg fun e => h (P3.c_inj e)]
      exact look_pos p l (i + 1)
def comE (A T : Tab) (ps : List P3) (a b : Int) : Int × Int :=
  if a < 0 ∨ (ps.length : Int) ≤ a ∨ b < 0 ∨ (ps.length : Int) ≤ b then (0, 2) else if a = b then (0, 9) else (posP (crossP A T (ps.getD a.toNat p0) (ps.getD b.toNat p0)) ps 0, 0)
structure Fns (E : Nat → Option AFn) : Prop where
  e23 : E 23 = some ac23
  e24 : E 24 = some ac24
  e30 : E 30 = some ac30
  e31 : E 31 = some ac31
  e33 : E 33 = some ac33
  e42 : E 42 = some ac42
  e43 : E 43 = some ac43
  e44 : E 44 = some ac44
  e45 : E 45 = some ac45
  e46 : E 46 = some ac46
  e49 : E 49 = some ac49
  e50 : E 50 = some ac50
  e51 : E 51 = some ac51
theorem common_spec (F : Fns E) (hE : E 32 = some ac32) {q : Nat} {A T : Tab} {ps : List P3} (hg : GoodT q A T) (a b : Int) (m : FM) (n : Nat) (hl : ps.length ≤ 1000000) (hOpen : Rt (callW PG E Y 23 [.int .i64 (q : Int)] m n) (Kpt m n fun v M' N' => ∃ sv, v = .tuple #[sv, .int .i64 0] ∧ SpaceM M' N' sv q A T ps)) :
    Pure (callW PG E Y 32 [.int .i64 (q : Int), .int .i64 a, .int .i64 b] m n) m n (.tuple #[.int .i64 (comE A T ps a b).1, .int .i64 (comE A T ps a b).2]) := by
  refine pure_spec hE rfl rfl ?_
  simp only [ac32]
  simp (implicitDefEqProofs := false) (disch := omega) only [WPs, opds, List.all_cons, List.all_nil, List.cons_append, List.nil_append, cond_true, cond_false, eq_self, List.map_cons, List.map_nil, Nat.reduceAdd, Nat.testBit, Nat.reduceShiftRight, Nat.reduceAnd, Nat.reduceBNe, Nat.reduceMul]
  refine use_rt hOpen fun v M1 N1 r1 w1 ⟨n1, m1, f1, sv, hv, hS⟩ => ?_
  subst hv
  have hSp := hS.sp
  obtain ⟨sb, mb, pf, allv, k1, rfl, h2, h3, h4, h5, h6, h7, h8⟩ := hS
  have fz := f1 n (Nat.le_refl _)
  have hlen := h5.len
  by_cases ca : a < 0
  · rw [comE, if_pos (.inl ca)]
    simp (implicitDefEqProofs := false) (disch := omega) only [WPs, opds, List.all_cons, List.all_nil, List.cons_append, List.nil_append, cond_true, cond_false, eq_self, List.map_cons, List.map_nil, Nat.reduceAdd, Nat.testBit, Nat.reduceShiftRight, Nat.reduceAnd, Nat.reduceBNe, Nat.reduceMul, decide_eq_true ca, fz]
  by_cases ca2 : (ps.length : Int) ≤ a
  · rw [comE, if_pos (.inr (.inl ca2))]
    simp (implicitDefEqProofs := false) (disch := omega) only [WPs, opds, List.all_cons, List.all_nil, List.cons_append, List.nil_append, cond_true, cond_false, eq_self, List.map_cons, List.map_nil, Nat.reduceAdd, Nat.testBit, Nat.reduceShiftRight, Nat.reduceAnd, Nat.reduceBNe, Nat.reduceMul, decide_eq_false ca, decide_eq_true ca2, h4, nilckV, hlen, fz]
  by_cases cb : b < 0
  · rw [comE, if_pos (.inr (.inr (.inl cb)))]
    simp (implicitDefEqProofs := false) (disch := omega) only [WPs, opds, List.all_cons, List.all_nil, List.cons_append, List.nil_append, cond_true, cond_false, eq_self, List.map_cons, List.map_nil, Nat.reduceAdd, Nat.testBit, Nat.reduceShiftRight, Nat.reduceAnd, Nat.reduceBNe, Nat.reduceMul, decide_eq_false ca, decide_eq_false ca2, decide_eq_true cb, h4, nilckV, hlen, fz]
  by_cases cb2 : (ps.length : Int) ≤ b
  · rw [comE, if_pos (.inr (.inr (.inr cb2)))]
    simp (implicitDefEqProofs := false) (disch := omega) only [WPs, opds, List.all_cons, List.all_nil, List.cons_append, List.nil_append, cond_true, cond_false, eq_self, List.map_cons, List.map_nil, Nat.reduceAdd, Nat.testBit, Nat.reduceShiftRight, Nat.reduceAnd, Nat.reduceBNe, Nat.reduceMul, decide_eq_false ca, decide_eq_false ca2, decide_eq_false cb, decide_eq_true cb2, h4, nilckV, hlen, fz]
  rw [comE, if_neg (by omega)]
  by_cases hab : a = b
  · rw [if_pos hab]
    simp (implicitDefEqProofs := false) (disch := omega) only [WPs, opds, List.all_cons, List.all_nil, List.cons_append, List.nil_append, cond_true, cond_false, eq_self, List.map_cons, List.map_nil, Nat.reduceAdd, Nat.testBit, Nat.reduceShiftRight, Nat.reduceAnd, Nat.reduceBNe, Nat.reduceMul, decide_eq_false ca, decide_eq_false ca2, decide_eq_false cb, decide_eq_false cb2, decide_eq_true hab, h4, nilckV, hlen, fz]
  rw [if_neg hab]
  obtain ⟨i, rfl⟩ := Int.eq_ofNat_of_zero_le (by omega : 0 ≤ a)
  obtain ⟨k, rfl⟩ := Int.eq_ofNat_of_zero_le (by omega : 0 ≤ b)
  have hi : i < ps.length := by omega
  have hk : k < ps.length := by omega
  have gi : ps.getD (i : Int).toNat p0 = ps[i] := by rw [Int.toNat_natCast, List.getD_eq_getElem?_getD, List.getElem?_eq_getElem hi]; rfl
  have gk : ps.getD (k : Int).toNat p0 = ps[k] := by rw [Int.toNat_natCast, List.getD_eq_getElem?_getD, List.getElem?_eq_getElem hk]; rfl
  rw [gi, gk]
  obtain ⟨b1, i1, i2, i3, i4, i5⟩ := h5.at hi
  obtain ⟨b2, j1, j2, j3, j4, j5⟩ := h5.at hk
  have i6 := ptCells_at ps hi
  have j6 := ptCells_at ps hk
  have hpi := h8 _ (List.getElem_mem hi)
  have hpk := h8 _ (List.getElem_mem hk)
  have hab1 := h5.bel N1 (Nat.le_refl _)
  have hcr := cross_spec (Y := Y) F.e43 F.e49 F.e33 F.e44 F.e45 F.e46 F.e42 F.e31 F.e30 F.e50 F.e51 hSp hg hpi hpk
  have hlk := mapc_look (P := PG) tArr3 h3 h6 (.int .i64 0) false (crossP A T ps[i] ps[k]).c
  rw [look_pos] at hlk
  generalize ps[i] = p at *
  generalize ps[k] = r at *
  generalize posP (crossP A T p r) ps 0 = res at *
  generalize crossP A T p r = c at *
  have hlk2 : mapV PG (.look 53 (.int .i64 0) false) [.map (some mb), .agg c.cells.toArray] M1 N1 = .ok (.int .i64 res) M1 N1 (bit mb) 0 := hlk
  have hcb : c.cells.all (belowF N1) = true := rfl
  have hpb : p.cells.all (belowF N1) = true := rfl
  have hrb : r.cells.all (belowF N1) = true := rfl
  simp (implicitDefEqProofs := false) (disch := omega) only [WPs, opds, List.all_cons, List.all_nil, List.cons_append, List.nil_append, cond_true, cond_false, eq_self, List.map_cons, List.map_nil, Nat.reduceAdd, Nat.testBit, Nat.reduceShiftRight, Nat.reduceAnd, Nat.reduceBNe, Nat.reduceMul, decide_eq_false ca, decide_eq_false ca2, decide_eq_false cb, decide_eq_false cb2, decide_eq_false hab, h4, nilckV, hlen, i1, i4, i6, j1, j4, j6, hab1, hpb, hrb, belowV_map]
  refine use_pureX hcr fun _ => ?_
  simp (implicitDefEqProofs := false) (disch := omega) only [WPs, opds, List.all_cons, List.all_nil, List.cons_append, List.nil_append, cond_true, cond_false, eq_self, List.map_cons, List.map_nil, Nat.reduceAdd, Nat.testBit, Nat.reduceShiftRight, Nat.reduceAnd, Nat.reduceBNe, Nat.reduceMul, hcb, belowV_map, s_mp, hlk2, fz]
end Go.Am.C06
namespace Go.Am
open Go
def RowZ (M : FM) (n0 N b : Nat) (x : Value) (g : List Int) : Prop :=
  (g = [] ∧ x = .slice none 0 0) ∨ (g ≠ [] ∧ ∃ c, x = .slice (some ⟨c, 0, none⟩) g.length UNK ∧ n0 ≤ c ∧ c < N ∧ c ≠ b ∧ M c = some (.cells (g.map (Value.int .i64)) 1 true true))
def RowsZ (M : FM) (n0 N : Nat) (v : Value) (gs : List (List Int)) : Prop :=
  (gs = [] ∧ v = .slice none 0 0) ∨ (gs ≠ [] ∧ ∃ vs b, v = .slice (some ⟨b, 0, none⟩) gs.length UNK ∧ n0 ≤ b ∧ b < N ∧ M b = some (.cells vs 1 true true) ∧ vs.length = gs.length ∧ ∀ (i : Nat) x g, vs[i]? = some x → gs[i]? = some g → RowZ M n0 N b x g)
theorem RowZ.mv {M M' : FM} {n0 N N' b b' : Nat} {x : Value} {g : List Int} (h : RowZ M n0 N b x g) (hN : N ≤ N') (hf : ∀ c, n0 ≤ c → c < N → c ≠ b → M' c = M c) (hb : ∀ c, c < N → c ≠ b → c ≠ b') : RowZ M' n0 N' b' x g := by
  rcases h with h | ⟨h0, c, h1, h2, h3, h4, h5⟩
  · exact .inl h
  · exact .inr ⟨h0, c, h1, h2, by omega, hb c h3 h4, (hf c h2 h3 h4).trans h5⟩
theorem RowsZ.frame {M M' : FM} {n0 N N' : Nat} {v : Value} {gs : List (List Int)} (h : RowsZ M n0 N v gs) (hN : N ≤ N') (hf : ∀ b, n0 ≤ b → b < N → M' b = M b) : RowsZ M' n0 N' v gs := by
  rcases h with h | ⟨h0, vs, b, h1, h2, h3, h4, h5, h6⟩
  · exact .inl h
  · exact .inr ⟨h0, vs, b, h1, h2, by omega, (hf b h2 h3).trans h4, h5, fun i x g hx hg => (h6 i x g hx hg).mv hN (fun c k1 k2 _ => hf c k1 k2) fun c _ k => k⟩
theorem RowsZ.nil (M : FM) (n0 N : Nat) : RowsZ M n0 N (.slice none 0 0) [] := .inl ⟨rfl, rfl⟩
theorem RowZ.ints {M : FM} {n0 N b : Nat} {x : Value} {g : List Int} (h : RowZ M n0 N b x g) : Ints M N x g := by
  rcases h with ⟨rfl, rfl⟩ | ⟨h0, c, h1, h2, h3, h4, h5⟩
  · exact .inl ⟨rfl, rfl⟩
  · exact .inr <| .inl ⟨c, 0, UNK, _, true, true, by rw [List.length_map]; exact h1, h3, h5, fun i x hx => by rw [Nat.zero_add]; exact hx⟩
theorem RowsZ.rows {M : FM} {n0 N : Nat} {v : Value} {gs : List (List Int)} (h : RowsZ M n0 N v gs) : Rows M N v gs := by
  rcases h with ⟨rfl, rfl⟩ | ⟨h0, vs, b, h1, h2, h3, h4, h5, h6⟩
  · exact ⟨[], .inl ⟨rfl, rfl⟩, rfl, fun i x g hx => by simp at hx⟩
  · exact ⟨vs, .inr <| .inl ⟨b, 0, UNK, vs, true, true, by rw [h5]; exact h1, h3, h4, fun i x hx => by rw [Nat.zero_add]; exact hx⟩, h5, fun i x g hx hg => (h6 i x g hx hg).ints⟩
theorem RowsZ.len {M : FM} {n0 N : Nat} {v : Value} {gs : List (List Int)} (h : RowsZ M n0 N v gs) : lenV false v = some (.int .i64 (gs.length : Int)) := h.rows.len
theorem RowsZ.bel {M : FM} {n0 N : Nat} {v : Value} {gs : List (List Int)} (h : RowsZ M n0 N v gs) (k : Nat) (hk : N ≤ k) : belowV k v = true := by
  rcases h with ⟨_, rfl⟩ | ⟨_, vs, b, rfl, _, hb, _⟩
  · rfl
  · exact blt_true (show b < k by omega)
theorem RowsZ.one {M : FM} {n0 N : Nat} {v : Value} {gs : List (List Int)} (h : RowsZ M n0 N v gs) : Am.one v = true := by
  rcases h with ⟨_, rfl⟩ | ⟨_, vs, b, rfl, _⟩ <;> rfl
theorem RowsZ.low {M : FM} {n0 n1 N : Nat} {v : Value} {gs : List (List Int)} (h : RowsZ M n0 N v gs) (hn : n1 ≤ n0) : RowsZ M n1 N v gs := by
  rcases h with h | ⟨h0, vs, b, h1, h2, h3, h4, h5, h6⟩
  · exact .inl h
  · refine .inr ⟨h0, vs, b, h1, by omega, h3, h4, h5, fun i x g hx hg => ?_⟩
    rcases h6 i x g hx hg with h | ⟨k0, c, k1, k2, k3, k4, k5⟩
    · exact .inl h
    · exact .inr ⟨k0, c, k1, by omega, k3, k4, k5⟩
structure AppR (M : FM) (n0 N : Nat) (gs : List (List Int)) (v' : Value) (M' : FM) (N' w : Nat) : Prop where
  v : v' = .slice (some ⟨N, 0, none⟩) gs.length UNK
  n : N' = N + 1
  s : RowsZ M' n0 N' v' gs
  low : ∀ b, b < n0 → M' b = M b
  w : ∀ j, j ≤ n0 → Nat.mod w (bit j) = 0
theorem app_rowsZ {M : FM} {n0 n1 N : Nat} {v x : Value} {gs : List (List Int)} {g : List Int} (h : RowsZ M n0 n1 v gs) (hx : IntZ M n1 N x g) (h01 : n0 ≤ n1) (h1N : n1 ≤ N) (ya : Option Addr) (yc ry : Nat) (hl : gs.length ≤ 1000000) :
    Rt (appO 1 24 M N v (.slice ya 1 yc) (shown M N 1 v) (some ([x], ry))) fun v' M' N' w => AppR M n0 N (gs ++ [g]) v' M' N' w := by
  have ho : Am.one x = true := SlZ.one hx
  have newRow : ∀ (M' : FM) (b : Nat), (∀ c, n1 ≤ c → c < N → M' c = M c) → RowZ M' n0 (N + 1) N x g := fun M' b hf => by
    rcases hx with ⟨h1, h2, h3⟩ | ⟨h1, h2, c, h3, h4, h5, h6⟩
    · exact .inl ⟨List.length_eq_zero_iff.1 h1, h3⟩
    · exact .inr ⟨List.length_pos_iff.1 h1, c, h3, by omega, by omega, by omega, (hf c h4 h5).trans h6⟩
  rcases h with ⟨rfl, rfl⟩ | ⟨h0, vs, b, rfl, hb1, hb2, hm, hvl, hr⟩
  · refine (app_slT (n0 := n0) (N := N) (t := 1) (tag := fun _ => 0) (bytes := 24) (v := .slice none 0 0) (z := x) (vs := []) (.inl ⟨rfl, rfl⟩) ya yc ry (by omega) ho (by omega) (by simp)).mono fun v' M' N' w hA => ?_
    have hfr : ∀ c, c < N → M' c = M c := fun c hc => hA.fr c (by omega) (fun e => by cases e)
    refine ⟨hA.v, hA.n, .inr ⟨by simp, [x], N, hA.v, by omega, by rw [hA.n]; omega, hA.m, rfl, fun i y g' hy hg => ?_⟩, hA.low, hA.frz (by omega)⟩
    match i, hy, hg with
    | 0, hy, hg =>
      injection hy with hy; injection hg with hg
      subst hy; subst hg
      rw [hA.n]
      exact newRow M' 0 fun c _ hc => hfr c hc
    | i + 1, hy, _ => simp at hy
  · have hvne : vs ≠ [] := fun e => h0 (List.length_eq_zero_iff.1 (by rw [← hvl, e]; rfl))
    have hS : SlT M n0 N 1 (fun c => if c = b then 1 else 0) (.slice (some ⟨b, 0, none⟩) gs.length UNK) vs := .inr ⟨hvne, b, by rw [hvl], hb1, by omega, if_pos rfl, hm⟩
    refine (app_slT (n0 := n0) (N := N) (bytes := 24) (z := x) hS ya yc ry (by omega) ho (by omega) (by rw [hvl]; omega)).mono fun v' M' N' w hA => ?_
    have hfr : ∀ c, c < N → c ≠ b → M' c = M c := fun c hc hcb => hA.fr c (by omega) (by simp [hcb])
    have hlen : (vs ++ [x]).length = (gs ++ [g]).length := by rw [List.length_append, List.length_append, hvl]; rfl
    refine ⟨by rw [hA.v, hlen], hA.n, .inr ⟨by simp, vs ++ [x], N, by rw [hA.v, hlen], by omega, by rw [hA.n]; omega, hA.m, hlen, fun i y g' hy hg => ?_⟩, hA.low, hA.frz (by omega)⟩
    rw [hA.n]
    rcases Nat.lt_or_ge i gs.length with hi | hi
    · rw [List.getElem?_append_left (by rw [hvl]; exact hi)] at hy
      rw [List.getElem?_append_left hi] at hg
      exact (hr i y g' hy hg).mv (by omega) (fun c _ k2 k3 => hfr c (by omega) k3) (fun c k2 _ => by omega)
    · rw [List.getElem?_append_right (by rw [hvl]; exact hi), hvl] at hy
      rw [List.getElem?_append_right hi] at hg
      have hi0 : i - gs.length = 0 := by
        rcases Nat.eq_zero_or_pos (i - gs.length) with e | e
        · exact e
        · rw [List.getElem?_eq_none (by simp; omega)] at hy; cases hy
      rw [hi0] at hy hg
      injection hy with hy; injection hg with hg
      subst hy; subst hg
      exact newRow M' b fun c k1 hc => hfr c hc (by omega)
end Go.Am
namespace Go.Am.C06
open Go Go.Am
variable {E : Nat → Option AFn} {Y : Nat → List Value → FM → Nat → OR FM}
def lineR (A T : Tab) (l : P3) : List P3 → Nat → List Int
  | [], _ => []
  | r :: rs, i => if dotP A T l r = 0 then (i : Int) :: lineR A T l rs (i + 1) else lineR A T l rs (i + 1)
theorem lineR_app (A T : Tab) (l r : P3) : ∀ (rs : List P3) (i : Nat), lineR A T l (rs ++ [r]) i = lineR A T l rs i ++ (if dotP A T l r = 0 then [((i + rs.length : Nat) : Int)] else [])
  | [], i => by
    show (if _ then _ else _) = _
    split <;> simp [lineR]
  | x :: rs, i => by
    have ih := lineR_app A T l r rs (i + 1)
    rw [List.length_cons, show i + (rs.length + 1) = i + 1 + rs.length by omega]
    rw [List.cons_append, lineR, lineR, ih]
    split <;> simp
theorem lineR_len (A T : Tab) (l : P3) : ∀ (rs : List P3) (i : Nat), (lineR A T l rs i).length ≤ rs.length
  | [], i => Nat.le_refl _
  | x :: rs, i => by
    have ih := lineR_len A T l rs (i + 1)
    rw [lineR]
    split <;> simp only [List.length_cons] <;> omega
theorem proj_L0 (F : Fns E) {m : FM} {n1 lb : Nat} {sv allv : Value} {q : Nat} {A T : Tab} {ps : List P3} (hg : GoodT q A T) (hSp : SpaceP m n1 sv q A T) {k1 : Nat} (hA : SlZ 3 m k1 n1 allv ps.length (ptCells ps)) (hps : ∀ r ∈ ps, r.lt q) (hpl : ps.length ≤ 100000) {l : P3} (hl : l.lt q) (hlb : lb < n1) (hlm : m lb = some (.cells l.cells 0 false true))
    (y2 y5 y6 y7 y9 y10 y11 y12 y13 y14 y15 y16 y17 y18 y20 y21 y22 : Value) {Q : AX → List Value → FM → Nat → Nat → Prop}
    (hQ : ∀ gv M' N' w, n1 ≤ N' → (∀ b, b < n1 → M' b = m b) → IntZ M' n1 N' gv (lineR A T l ps 0) → (∀ j, j ≤ n1 → Nat.mod w (bit j) = 0) → ∀ y1, Q (.exit 2) [gv, y1, y2, .int .i64 (ps.length : Int), allv, y5, y6, y7, .pointer (some ⟨lb, 0, none⟩), y9, y10, y11, y12, y13, y14, y15, y16, y17, y18, sv, y20, y21, y22] M' N' w) :
    ∀ d j, j + d = ps.length → ∀ (M' : FM) (N' w0 : Nat) (gv : Value), n1 ≤ N' → (∀ b, b < n1 → M' b = m b) → IntZ M' n1 N' gv (lineR A T l (ps.take j) 0) → (∀ j, j ≤ n1 → Nat.mod w0 (bit j) = 0) →
    Gv (execW PG E Y ac12L0 [gv, .int .i64 (j : Int), y2, .int .i64 (ps.length : Int), allv, y5, y6, y7, .pointer (some ⟨lb, 0, none⟩), y9, y10, y11, y12, y13, y14, y15, y16, y17, y18, sv, y20, y21, y22] M' N') fun X e m n w => Q X e m n (Nat.lor w0 w) := by
  intro d
  induction d with
  | zero =>
    intro j hj M' N' w0 gv hN hM hZ hw
    obtain rfl : j = ps.length := by omega
    rw [List.take_length] at hZ
    refine wr_loopN (L := ac12L0) (b := ac12L0b) rfl ?_
    simp only [ac12L0b]
    simp (implicitDefEqProofs := false) (disch := omega) only [WPs, opds, List.all_cons, List.all_nil, List.cons_append, List.nil_append, cond_true, cond_false, eq_self, List.map_cons, List.map_nil, Nat.reduceAdd, Nat.testBit, Nat.reduceShiftRight, Nat.reduceAnd, Nat.reduceBNe, Nat.reduceMul]
    exact hQ _ _ _ _ hN hM hZ hw _
  | succ d ih =>
    intro j hj M' N' w0 gv hN hM hZ hw
    have hjl : j < ps.length := by omega
    have ih' := ih (j + 1) (by omega)
    rw [List.take_add_one, List.getElem?_eq_getElem hjl, Option.toList_some, lineR_app, List.length_take, Nat.min_eq_left (by omega), Nat.zero_add] at ih'
    have hA' := SlZ.frame (M' := M') (N' := N') hA hN fun b _ hb => hM b hb
    obtain ⟨b1, i1, i2, i3, i4, i5⟩ := hA'.at hjl
    have i6 := ptCells_at ps hjl
    have hr := hps _ (List.getElem_mem hjl)
    have hll := lineR_len A T l (ps.take j) 0
    rw [List.length_take] at hll
    generalize ps[j] = r at *
    have lm : ∀ B : Option Blk, (AMem.put M' N' B : FM) lb = some (.cells l.cells 0 false true) := fun B => by rw [fput_ne _ _ _ _ (by omega), hM lb hlb]; exact hlm
    have hSp2 : ∀ B : Option Blk, SpaceP (AMem.put M' N' B) (N' + 1) sv q A T := fun B => hSp.frame (by omega) fun b hb => by rw [fput_ne _ _ _ _ (by omega)]; exact hM b hb
    have fz0 : ∀ j, j ≤ n1 → Nat.mod (bit N') (bit j) = 0 := fun j hj => frz_bit (by omega)
    refine wr_loopN (L := ac12L0) (b := ac12L0b) rfl ?_
    simp only [ac12L0b]
    simp only [P3.cells] at lm i6
    simp (implicitDefEqProofs := false) (disch := omega) only [WPs, opds, List.all_cons, List.all_nil, List.cons_append, List.nil_append, cond_true, cond_false, eq_self, List.map_cons, List.map_nil, Nat.reduceAdd, Nat.testBit, Nat.reduceShiftRight, Nat.reduceAnd, Nat.reduceBNe, Nat.reduceMul, i1, i4, i6, lm]
    refine use_pure (dot_spec (Y := Y) F.e24 F.e42 F.e31 F.e30 (hSp2 _) hg hl hr) fun _ => ?_
    by_cases h0 : dotP A T l r = 0
    · rw [if_pos h0] at ih'
      simp (implicitDefEqProofs := false) (disch := omega) only [WPs, opds, List.all_cons, List.all_nil, List.cons_append, List.nil_append, cond_true, cond_false, eq_self, List.map_cons, List.map_nil, Nat.reduceAdd, Nat.testBit, Nat.reduceShiftRight, Nat.reduceAnd, Nat.reduceBNe, Nat.reduceMul, h0]
      refine use_rt (app_intZ (IntZ.frame hZ (by omega) fun b _ hb => by rw [fput_ne _ _ _ _ (by omega), fput_ne _ _ _ _ (by omega)]) (j : Int) (some ⟨N' + 1, 0, none⟩) 1 (bit (N' + 1)) (by omega) (by omega)) fun v5 M5 N5 r5 w5 ⟨e5, z5, l5, f5⟩ => ?_
      subst e5
      simp (implicitDefEqProofs := false) (disch := omega) only [WPs, opds, List.all_cons, List.all_nil, List.cons_append, List.nil_append, cond_true, cond_false, eq_self, List.map_cons, List.map_nil, Nat.reduceAdd, Nat.testBit, Nat.reduceShiftRight, Nat.reduceAnd, Nat.reduceBNe, Nat.reduceMul]
      refine wr_end (ih' _ (N' + 3) (Nat.lor w0 (Nat.lor (Nat.lor (bit N') (bit N')) (Nat.lor (bit (N' + 1)) w5))) v5 (by omega) (fun b hb => by rw [l5 b hb, fput_ne _ _ _ _ (by omega), fput_ne _ _ _ _ (by omega)]; exact hM b hb) z5 (fun j hj => by simp only [frz_iff]; exact ⟨hw j hj, ⟨fz0 j hj, fz0 j hj⟩, frz_bit (by omega), f5 j hj⟩)) fun X e m n w hq => ?_
      rw [← lor_assoc']; exact hq
    · rw [if_neg h0, List.append_nil] at ih'
      have h0' : ¬ ((dotP A T l r : Nat) : Int) = 0 := by omega
      simp (implicitDefEqProofs := false) (disch := omega) only [WPs, opds, List.all_cons, List.all_nil, List.cons_append, List.nil_append, cond_true, cond_false, eq_self, List.map_cons, List.map_nil, Nat.reduceAdd, Nat.testBit, Nat.reduceShiftRight, Nat.reduceAnd, Nat.reduceBNe, Nat.reduceMul, decide_eq_false h0']
      refine wr_end (ih' _ (N' + 1) (Nat.lor w0 (Nat.lor (bit N') (bit N'))) gv (by omega) (fun b hb => by rw [fput_ne _ _ _ _ (by omega)]; exact hM b hb) (IntZ.frame hZ (by omega) fun b _ hb => fput_ne _ _ _ _ (by omega)) (fun j hj => by simp only [frz_iff]; exact ⟨hw j hj, fz0 j hj, fz0 j hj⟩)) fun X e m n w hq => ?_
      rw [← lor_assoc']; exact hq
def projR (A T : Tab) (ps : List P3) : List (List Int) := ps.map fun l => lineR A T l ps 0
structure PrS (m : FM) (n1 db : Nat) (D : Int) (M' : FM) (N' : Nat) (gs : List (List Int)) : Prop where
  le : n1 ≤ N'
  low : ∀ b, b < n1 → b ≠ db → M' b = m b
  d : ∃ rv, M' db = some (.cells [.int .i64 D, rv] 0 false true) ∧ RowsZ M' n1 N' rv gs
theorem proj_L1 (F : Fns E) {m : FM} {nf n1 db : Nat} {D : Int} {sv allv : Value} {q : Nat} {A T : Tab} {ps : List P3} (hg : GoodT q A T) (hS : SpaceM m nf sv q A T ps) (hnf : nf ≤ db) (hdb : db < n1) {k1 : Nat} (hA : SlZ 3 m k1 nf allv ps.length (ptCells ps)) (hps : ∀ r ∈ ps, r.lt q) (hpl : ps.length ≤ 100000)
    (y1 y5 y6 y8 y9 y10 : Value) {Q : AX → List Value → FM → Nat → Nat → Prop}
    (hQ : ∀ M' N' w, PrS m n1 db D M' N' (projR A T ps) → (∀ j, j ≤ nf → Nat.mod w (bit j) = 0) → Q (.exit 0) [y1, .int .i64 (ps.length : Int), allv, .pointer (some ⟨db, 0, none⟩), y5, y6, sv, y8, y9, y10] M' N' w) :
    ∀ d j, j + d = ps.length → ∀ (M' : FM) (N' w0 : Nat), PrS m n1 db D M' N' (projR A T ps |>.take j) → (∀ j, j ≤ nf → Nat.mod w0 (bit j) = 0) →
    Gv (execW PG E Y ac12L1 [.int .i64 (j : Int), y1, .int .i64 (ps.length : Int), allv, .pointer (some ⟨db, 0, none⟩), y5, y6, sv, y8, y9, y10] M' N') fun X e m n w => Q X e m n (Nat.lor w0 w) := by
  intro d
  induction d with
  | zero =>
    intro j hj M' N' w0 hP hw
    refine wr_loopN (L := ac12L1) (b := ac12L1b) rfl ?_
    simp only [ac12L1b]
    simp (implicitDefEqProofs := false) (disch := omega) only [WPs, opds, List.all_cons, List.all_nil, List.cons_append, List.nil_append, cond_true, cond_false, eq_self, List.map_cons, List.map_nil, Nat.reduceAdd, Nat.testBit, Nat.reduceShiftRight, Nat.reduceAnd, Nat.reduceBNe, Nat.reduceMul]
    have hpl2 : (projR A T ps).length = ps.length := List.length_map ..
    rw [show j = ps.length by omega, ← hpl2, List.take_length] at hP
    exact hQ _ _ _ hP hw
  | succ d ih =>
    intro j hj M' N' w0 hP hw
    refine wr_loopN (L := ac12L1) (b := ac12L1b) rfl ?_
    simp only [ac12L1b]
    have hjl : j < ps.length := by omega
    obtain ⟨le, low, rv, d1, d2⟩ := hP
    have hA' := SlZ.frame (M' := M') (N' := N') hA (by omega) fun b _ hb => low b (by omega) (by omega)
    obtain ⟨b1, i1, i2, i3, i4, i5⟩ := hA'.at hjl
    have i6 := ptCells_at ps hjl
    have hl := hps _ (List.getElem_mem hjl)
    have hps2 : (projR A T ps).take (j + 1) = (projR A T ps).take j ++ [lineR A T ps[j] ps 0] := by
      rw [List.take_add_one, projR, List.getElem?_map, List.getElem?_eq_getElem hjl]; rfl
    have ih' := ih (j + 1) (by omega)
    rw [hps2] at ih'
    have htl : ((projR A T ps).take j).length ≤ 100000 := by rw [List.length_take]; omega
    generalize (projR A T ps).take j = gs at *
    generalize ps[j] = l at *
    simp only [P3.cells] at i6
    have hSm : SpaceM M' N' sv q A T ps := hS.frame (by omega) fun b hb => low b (by omega) (by omega)
    obtain ⟨sb, mb, pf, allv2, k2, rfl, s2, s3, s4, s5, s6, s7, s8⟩ := id hSm
    simp (implicitDefEqProofs := false) (disch := omega) only [WPs, opds, List.all_cons, List.all_nil, List.cons_append, List.nil_append, cond_true, cond_false, eq_self, List.map_cons, List.map_nil, Nat.reduceAdd, Nat.testBit, Nat.reduceShiftRight, Nat.reduceAnd, Nat.reduceBNe, Nat.reduceMul, i1, i4, i6]
    generalize hM1 : (AMem.put M' N' (some (.cells [.int .i64 (l.x : Int), .int .i64 (l.y : Int), .int .i64 (l.z : Int)] 0 false true)) : FM) = M1
    have l1 : ∀ b, b < N' → M1 b = M' b := fun b hb => by rw [← hM1, fput_ne _ _ _ _ (by omega)]
    have lb1 : M1 N' = some (.cells l.cells 0 false true) := by rw [← hM1]; exact fput_same _ _ _
    have s4' : M1 sb = some (.cells [pf, allv2, .map (some mb)] 0 false true) := (l1 sb s2).trans s4
    simp (implicitDefEqProofs := false) (disch := omega) only [WPs, opds, List.all_cons, List.all_nil, List.cons_append, List.nil_append, cond_true, cond_false, eq_self, List.map_cons, List.map_nil, Nat.reduceAdd, Nat.testBit, Nat.reduceShiftRight, Nat.reduceAnd, Nat.reduceBNe, Nat.reduceMul, s4, nilckV, s5.len]
    refine wr_kont (proj_L0 F hg (m := M1) (n1 := N' + 1) (lb := N') (sv := .pointer (some ⟨sb, 0, none⟩)) (k1 := k2) ((hSm.sp).frame (by omega) l1) (SlZ.frame s5 (by omega) fun b _ hb => l1 b hb) hps hpl hl (Nat.lt_succ_self _) lb1 _ _ _ _ _ _ _ _ _ _ _ _ _ _ _ _ _ (fun gv M2 N2 w2 n2 m2 z2 f2 y1 rr => ?_) ps.length 0 (by omega) M1 (N' + 1) 0 _ (Nat.le_refl _) (fun _ _ => rfl) (IntZ.nil _ _ _) (fun _ _ => Nat.zero_mod _))
    have d1' : M2 db = some (.cells [.int .i64 D, rv] 0 false true) := by rw [m2 db (by omega), l1 db (by omega)]; exact d1
    have hgc : gv.cells.toList = [gv] := by rcases z2 with ⟨_, _, rfl⟩ | ⟨_, _, b, rfl, _⟩ <;> rfl
    have hgo : Am.one gv = true := SlZ.one z2
    simp (implicitDefEqProofs := false) (disch := omega) only [WPs, opds, List.all_cons, List.all_nil, List.cons_append, List.nil_append, cond_true, cond_false, eq_self, List.map_cons, List.map_nil, Nat.reduceAdd, Nat.testBit, Nat.reduceShiftRight, Nat.reduceAnd, Nat.reduceBNe, Nat.reduceMul, d1', hgo, hgc]
    refine use_rt (app_rowsZ (n0 := n1) (n1 := N') (gs := gs) (g := lineR A T l ps 0) (RowsZ.frame d2 (Nat.le_refl _) fun b h1 h2 => by rw [fput_ne _ _ _ _ (by omega), m2 b (by omega), l1 b h2]) (IntZ.frame (SlZ.low z2 (by omega)) (by omega) fun b _ hb => by rw [fput_ne _ _ _ _ (by omega)]) (by omega) (by omega) (some ⟨N2, 0, none⟩) 1 (bit N2) (by omega)) fun v5 M5 N5 r5 w5 hA => ?_
    obtain ⟨av, an, as5, al, aw⟩ := hA
    subst an
    subst av
    have d5 : M5 db = some (.cells [.int .i64 D, rv] 0 false true) := by rw [al db hdb, fput_ne _ _ _ _ (by omega)]; exact d1'
    simp (implicitDefEqProofs := false) (disch := omega) only [WPs, opds, List.all_cons, List.all_nil, List.cons_append, List.nil_append, cond_true, cond_false, eq_self, List.map_cons, List.map_nil, Nat.reduceAdd, Nat.testBit, Nat.reduceShiftRight, Nat.reduceAnd, Nat.reduceBNe, Nat.reduceMul, d5]
    refine wr_end (ih' _ (N2 + 2) (Nat.lor w0 (Nat.lor (Nat.lor (Nat.lor (bit N') (bit N')) w2) (Nat.lor (Nat.lor (bit N2) w5) (bit db)))) ⟨by omega, fun b h1 h2 => by rw [fput_ne _ _ _ _ h2, al b h1, fput_ne _ _ _ _ (by omega), m2 b (by omega), l1 b (by omega)]; exact low b h1 h2, ⟨_, fput_same _ _ _, RowsZ.frame as5 (Nat.le_refl _) fun b h1 _ => fput_ne _ _ _ _ (by omega)⟩⟩ (fun j hj => by
      simp only [frz_iff]
      exact ⟨hw j hj, ⟨⟨frz_bit (by omega), frz_bit (by omega)⟩, f2 j (by omega)⟩, ⟨frz_bit (by omega), aw j (by omega)⟩, frz_bit (by omega)⟩)) fun X e m n w hq => ?_
    rw [← lor_assoc']; exact hq
def DesV (M : FM) (n0 N : Nat) (v : Value) (D : Int) (gs : List (List Int)) : Prop := ∃ rv, v = .agg #[.int .i64 D, rv] ∧ RowsZ M n0 N rv gs
theorem proj_spec (F : Fns E) (hE : E 12 = some ac12) {q : Nat} {A T : Tab} {ps : List P3} (hg : GoodT q A T) (m : FM) (n : Nat) (hpl : ps.length ≤ 100000) (hOpen : ∀ m n, Rt (callW PG E Y 23 [.int .i64 (q : Int)] m n) (Kpt m n fun v M' N' => ∃ sv, v = .tuple #[sv, .int .i64 0] ∧ SpaceM M' N' sv q A T ps)) :
    Rt (callW PG E Y 12 [.int .i64 (q : Int)] m n) (Kpt m n fun v M' N' => ∃ dv, v = .tuple #[dv, .int .i64 0] ∧ DesV M' n N' dv (ps.length : Int) (projR A T ps)) := by
  refine kept_specQ hE rfl fun Q hQ => ?_
  simp only [ac12]
  simp (implicitDefEqProofs := false) (disch := omega) only [WPs, opds, List.all_cons, List.all_nil, List.cons_append, List.nil_append, cond_true, cond_false, eq_self, List.map_cons, List.map_nil, Nat.reduceAdd, Nat.testBit, Nat.reduceShiftRight, Nat.reduceAnd, Nat.reduceBNe, Nat.reduceMul]
  refine use_rt (hOpen _ _) fun v M1 N1 r1 w1 ⟨n1, m1, f1, sv, hv, hS⟩ => ?_
  subst hv
  obtain ⟨sb, mb, pf, allv, k1, rfl, s2, s3, s4, s5, s6, s7, s8⟩ := id hS
  have hlen := s5.len
  simp (implicitDefEqProofs := false) (disch := omega) only [WPs, opds, List.all_cons, List.all_nil, List.cons_append, List.nil_append, cond_true, cond_false, eq_self, List.map_cons, List.map_nil, Nat.reduceAdd, Nat.testBit, Nat.reduceShiftRight, Nat.reduceAnd, Nat.reduceBNe, Nat.reduceMul, s4, nilckV, hlen]
  generalize hM2 : (AMem.put M1 N1 (some (.cells [.int .i64 (ps.length : Int), .slice none 0 0] 0 false true)) : FM) = M2
  have l2 : ∀ b, b < N1 → M2 b = M1 b := fun b hb => by rw [← hM2, fput_ne _ _ _ _ (by omega)]
  have d2 : M2 N1 = some (.cells [.int .i64 (ps.length : Int), .slice none 0 0] 0 false true) := by rw [← hM2]; exact fput_same _ _ _
  have hm1 : M1 n = some (.cells [.int .i64 0, .slice none 0 0] 0 false true) := (m1 n (by omega)).trans (fput_same _ _ _)
  have s4' : M2 sb = some (.cells [pf, allv, .map (some mb)] 0 false true) := (l2 sb s2).trans s4
  have fzn := f1 n (by omega)
  have fza : Nat.mod (bit N1) (bit n) = 0 := frz_bit (by omega)
  have fzb : Nat.mod (bit n) (bit n) = 0 := frz_bit (Nat.le_refl _)
  refine wr_kont (proj_L1 F hg (m := M2) (nf := N1) (n1 := N1 + 1) (db := N1) (D := (ps.length : Int)) (sv := .pointer (some ⟨sb, 0, none⟩)) (hS.frame (Nat.le_refl _) l2) (Nat.le_refl _) (Nat.lt_succ_self _) (SlZ.frame s5 (Nat.le_refl _) fun b _ hb => l2 b hb) s8 hpl _ _ _ _ _ _ (fun M3 N3 w3 hP f3 rr => ?_) ps.length 0 (by omega) M2 (N1 + 1) 0 ⟨Nat.le_refl _, fun _ _ _ => rfl, ⟨_, d2, RowsZ.nil _ _ _⟩⟩ (fun _ _ => Nat.zero_mod _))
  obtain ⟨le3, low3, rv, e3, g3⟩ := hP
  have hm3 : M3 n = some (.cells [.int .i64 0, .slice none 0 0] 0 false true) := by rw [low3 n (by omega) (by omega), l2 n (by omega)]; exact hm1
  have hrb : Am.one rv = true := g3.one
  have fz3 := f3 n (by omega)
  simp (implicitDefEqProofs := false) (disch := omega) only [WPs, opds, List.all_cons, List.all_nil, List.cons_append, List.nil_append, cond_true, cond_false, eq_self, List.map_cons, List.map_nil, Nat.reduceAdd, Nat.testBit, Nat.reduceShiftRight, Nat.reduceAnd, Nat.reduceBNe, Nat.reduceMul, e3, hm3, hrb]
  refine hQ _ _ _ _ _ (by omega) (fun b hb => by rw [fput_ne _ _ _ _ (by omega), low3 b (by omega) (by omega), l2 b (by omega), m1 b (by omega), fput_ne _ _ _ _ (by omega)]) ?_ rfl ⟨_, rfl, rv, rfl, RowsZ.low (RowsZ.frame g3 (Nat.le_refl _) fun b h1 _ => fput_ne _ _ _ _ (by omega)) (by omega)⟩
  simp only [frz_iff]
  exact ⟨⟨⟨⟨fzb, fzn⟩, fza, fza⟩, fz3⟩, fzb⟩
end Go.Am.C06
namespace Go.Am.C06
open Go Go.Am
variable {E : Nat → Option AFn} {Y : Nat → List Value → FM → Nat → OR FM}
def rowA (A T : Tab) (q m b j : Nat) : List Int := (List.range j).map fun x => ((q * x + addN A (addN T m x) b : Nat) : Int)
def rowV (q x j : Nat) : List Int := (List.range j).map fun y => ((q * x + y : Nat) : Int)
def rowsB (A T : Tab) (q m : Nat) (gs : List (List Int)) : Nat → List (List Int)
  | 0 => gs
  | b + 1 => rowsB A T q m gs b ++ [rowA A T q m b q]
def rowsM (A T : Tab) (q : Nat) : Nat → List (List Int)
  | 0 => []
  | m + 1 => rowsB A T q m (rowsM A T q m) q
def rowsX (q : Nat) (gs : List (List Int)) : Nat → List (List Int)
  | 0 => gs
  | x + 1 => rowsX q gs x ++ [rowV q x q]
def affR (A T : Tab) (q : Nat) : List (List Int) := rowsX q (rowsM A T q q) q
end Go.Am.C06
namespace Go.Am.C06
open Go Go.Am
variable {E : Nat → Option AFn} {Y : Nat → List Value → FM → Nat → OR FM}
theorem has_L0 {m : FM} {n : Nat} {lv : Value} {xs : List Int} (h : Ints m n lv xs) (hs : xs.length < 1000000) (x : Int) (y2 y3 : Value) {R : Bool} {Q : AX → List Value → FM → Nat → Nat → Prop}
    (hQ0 : R = false → ∀ e, Q (.exit 0) e m n 0) (hQ1 : R = true → ∀ e, Q (.ret (.bool true)) e m n 0) :
    ∀ d j, j + d = xs.length → ∀ y0, decide (x ∈ xs.drop j) = R → Gv (execW PG E Y ac21L0 [y0, .int .i64 (j : Int), y2, y3, lv, .int .i64 x] m n) Q := by
  intro d
  induction d with
  | zero =>
    intro j hj y0 hR
    obtain rfl : j = xs.length := by omega
    rw [List.drop_length] at hR
    refine wr_loopN (L := ac21L0) (b := ac21L0b) rfl ?_
    simp only [ac21L0b]
    simp (implicitDefEqProofs := false) (disch := omega) only [WPs, opds, List.all_cons, List.all_nil, List.cons_append, List.nil_append, cond_true, cond_false, eq_self, List.map_cons, List.map_nil, Nat.reduceAdd, Nat.testBit, Nat.reduceShiftRight, Nat.reduceAnd, Nat.reduceBNe, Nat.reduceMul, h.len]
    exact hQ0 hR.symm _
  | succ d ih =>
    intro j hj y0 hR
    have hjl : j < xs.length := by omega
    obtain ⟨b, o, c, p, w, i1, i2, i3, i4⟩ := h.cell hjl
    rw [List.drop_eq_getElem_cons hjl] at hR
    refine wr_loopN (L := ac21L0) (b := ac21L0b) rfl ?_
    simp only [ac21L0b]
    by_cases he : xs[j] = x
    · rw [decide_eq_true (by rw [he]; exact List.mem_cons_self ..)] at hR
      simp (implicitDefEqProofs := false) (disch := omega) only [WPs, opds, List.all_cons, List.all_nil, List.cons_append, List.nil_append, cond_true, cond_false, eq_self, List.map_cons, List.map_nil, Nat.reduceAdd, Nat.testBit, Nat.reduceShiftRight, Nat.reduceAnd, Nat.reduceBNe, Nat.reduceMul, h.len, i1, i3, i4, decide_eq_true he]
      exact hQ1 hR.symm _
    · have hR2 : decide (x ∈ xs.drop (j + 1)) = R := by
        rw [← hR]
        exact decide_eq_decide.2 ⟨fun h => List.mem_cons_of_mem _ h, fun h => (List.mem_cons.1 h).resolve_left fun e => he e.symm⟩
      simp (implicitDefEqProofs := false) (disch := omega) only [WPs, opds, List.all_cons, List.all_nil, List.cons_append, List.nil_append, cond_true, cond_false, eq_self, List.map_cons, List.map_nil, Nat.reduceAdd, Nat.testBit, Nat.reduceShiftRight, Nat.reduceAnd, Nat.reduceBNe, Nat.reduceMul, h.len, i1, i3, i4, decide_eq_false he]
      exact wr_end (ih (j + 1) (by omega) _ hR2) fun X e m n w hq => by simpa only [zero_lor'] using hq
theorem hasR_spec (hE : E 21 = some ac21) {m : FM} {n : Nat} {lv : Value} {xs : List Int} (h : Ints m n lv xs) (hs : xs.length < 1000000) (x : Int) : Pure (callW PG E Y 21 [lv, .int .i64 x] m n) m n (.bool (decide (x ∈ xs))) := by
  refine pure_spec hE rfl rfl ?_
  simp only [ac21]
  simp (implicitDefEqProofs := false) (disch := omega) only [WPs, opds, List.all_cons, List.all_nil, List.cons_append, List.nil_append, cond_true, cond_false, eq_self, List.map_cons, List.map_nil, Nat.reduceAdd, Nat.testBit, Nat.reduceShiftRight, Nat.reduceAnd, Nat.reduceBNe, Nat.reduceMul]
  refine wr_kont (has_L0 h hs x _ _ (R := decide (x ∈ xs)) (fun hR e rr => ?_) (fun hR e rr => ?_) xs.length 0 (by omega) _ rfl)
  · simp (implicitDefEqProofs := false) (disch := omega) only [WPs, opds, List.all_cons, List.all_nil, List.cons_append, List.nil_append, cond_true, cond_false, eq_self, List.map_cons, List.map_nil, Nat.reduceAdd, Nat.testBit, Nat.reduceShiftRight, Nat.reduceAnd, Nat.reduceBNe, Nat.reduceMul]
    rw [hR]
  · simp (implicitDefEqProofs := false) (disch := omega) only [WPs, opds, List.all_cons, List.all_nil, List.cons_append, List.nil_append, cond_true, cond_false, eq_self, List.map_cons, List.map_nil, Nat.reduceAdd, Nat.testBit, Nat.reduceShiftRight, Nat.reduceAnd, Nat.reduceBNe, Nat.reduceMul]
    rw [hR]
def comR (a b : List Int) : List Int := a.filter fun x => decide (x ∈ b)
theorem com_L0 (h21 : E 21 = some ac21) {m : FM} {n : Nat} {av bv : Value} {xs ys : List Int} (ha : Ints m n av xs) (hb : Ints m n bv ys) (hs : xs.length < 1000000) (hs2 : ys.length < 1000000) (y2 y3 y4 : Value) {Q : AX → List Value → FM → Nat → Nat → Prop}
    (hQ : ∀ gv M' N' w, n ≤ N' → (∀ b, b < n → M' b = m b) → IntZ M' n N' gv (comR xs ys) → (∀ j, j ≤ n → Nat.mod w (bit j) = 0) → Q (.exit 0) [gv, y2, y3, y4, av, bv] M' N' w) :
    ∀ d j, j + d = xs.length → ∀ (M' : FM) (N' w0 : Nat) (gv : Value), n ≤ N' → (∀ b, b < n → M' b = m b) → IntZ M' n N' gv (comR (xs.take j) ys) → (∀ j, j ≤ n → Nat.mod w0 (bit j) = 0) →
    Gv (execW PG E Y ac19L0 [gv, .int .i64 (j : Int), y2, y3, y4, av, bv] M' N') fun X e m n w => Q X e m n (Nat.lor w0 w) := by
  intro d
  induction d with
  | zero =>
    intro j hj M' N' w0 gv hN hM hZ hw
    obtain rfl : j = xs.length := by omega
    rw [List.take_length] at hZ
    refine wr_loopN (L := ac19L0) (b := ac19L0b) rfl ?_
    simp only [ac19L0b]
    simp (implicitDefEqProofs := false) (disch := omega) only [WPs, opds, List.all_cons, List.all_nil, List.cons_append, List.nil_append, cond_true, cond_false, eq_self, List.map_cons, List.map_nil, Nat.reduceAdd, Nat.testBit, Nat.reduceShiftRight, Nat.reduceAnd, Nat.reduceBNe, Nat.reduceMul, ha.len]
    exact hQ _ _ _ _ hN hM hZ hw
  | succ d ih =>
    intro j hj M' N' w0 gv hN hM hZ hw
    have hjl : j < xs.length := by omega
    have ih' := ih (j + 1) (by omega)
    have ha' := ha.frame hN hM
    have hb' := hb.frame hN hM
    obtain ⟨b, o, c, p, w, i1, i2, i3, i4⟩ := ha'.cell hjl
    have hll : (comR (xs.take j) ys).length ≤ j := Nat.le_trans (List.length_filter_le _ _) (by rw [List.length_take]; omega)
    rw [List.take_add_one, List.getElem?_eq_getElem hjl, Option.toList_some, comR, List.filter_append] at ih'
    refine wr_loopN (L := ac19L0) (b := ac19L0b) rfl ?_
    simp only [ac19L0b]
    generalize xs[j] = x at *
    simp (implicitDefEqProofs := false) (disch := omega) only [WPs, opds, List.all_cons, List.all_nil, List.cons_append, List.nil_append, cond_true, cond_false, eq_self, List.map_cons, List.map_nil, Nat.reduceAdd, Nat.testBit, Nat.reduceShiftRight, Nat.reduceAnd, Nat.reduceBNe, Nat.reduceMul, ha.len, i1, i3, i4]
    refine use_pure (hasR_spec h21 hb' hs2 x) fun _ => ?_
    by_cases hx : x ∈ ys
    · have hf : List.filter (fun x => decide (x ∈ ys)) [x] = [x] := by simp [hx]
      rw [hf] at ih'
      simp (implicitDefEqProofs := false) (disch := omega) only [WPs, opds, List.all_cons, List.all_nil, List.cons_append, List.nil_append, cond_true, cond_false, eq_self, List.map_cons, List.map_nil, Nat.reduceAdd, Nat.testBit, Nat.reduceShiftRight, Nat.reduceAnd, Nat.reduceBNe, Nat.reduceMul, decide_eq_true hx, i1, i3, i4]
      refine use_rt (app_intZ (IntZ.frame hZ (by omega) fun b _ hb => by rw [fput_ne _ _ _ _ (by omega)]) x (some ⟨N', 0, none⟩) 1 (bit N') (by omega) (by omega)) fun v5 M5 N5 r5 w5 ⟨e5, z5, l5, f5⟩ => ?_
      subst e5
      simp (implicitDefEqProofs := false) (disch := omega) only [WPs, opds, List.all_cons, List.all_nil, List.cons_append, List.nil_append, cond_true, cond_false, eq_self, List.map_cons, List.map_nil, Nat.reduceAdd, Nat.testBit, Nat.reduceShiftRight, Nat.reduceAnd, Nat.reduceBNe, Nat.reduceMul]
      refine wr_end (ih' _ (N' + 2) (Nat.lor w0 (Nat.lor (bit N') w5)) v5 (by omega) (fun b hb => by rw [l5 b hb, fput_ne _ _ _ _ (by omega)]; exact hM b hb) z5 (fun j hj => by simp only [frz_iff]; exact ⟨hw j hj, frz_bit (by omega), f5 j hj⟩)) fun X e m n w hq => ?_
      rw [← lor_assoc']; exact hq
    · have hf : List.filter (fun x => decide (x ∈ ys)) [x] = [] := by simp [hx]
      rw [hf, List.append_nil] at ih'
      simp (implicitDefEqProofs := false) (disch := omega) only [WPs, opds, List.all_cons, List.all_nil, List.cons_append, List.nil_append, cond_true, cond_false, eq_self, List.map_cons, List.map_nil, Nat.reduceAdd, Nat.testBit, Nat.reduceShiftRight, Nat.reduceAnd, Nat.reduceBNe, Nat.reduceMul, decide_eq_false hx]
      exact wr_end (ih' M' N' w0 gv hN hM hZ hw) fun X e m n w hq => by simpa only [zero_lor'] using hq
theorem com_spec (hE : E 19 = some ac19) (h21 : E 21 = some ac21) {m : FM} {n : Nat} {av bv : Value} {xs ys : List Int} (ha : Ints m n av xs) (hb : Ints m n bv ys) (hs : xs.length < 1000000) (hs2 : ys.length < 1000000) :
    Rt (callW PG E Y 19 [av, bv] m n) (Kpt m n fun v M' N' => IntZ M' n N' v (comR xs ys)) := by
  refine kept_specA hE rfl fun Q hQ => ?_
  simp only [ac19]
  simp (implicitDefEqProofs := false) (disch := omega) only [WPs, opds, List.all_cons, List.all_nil, List.cons_append, List.nil_append, cond_true, cond_false, eq_self, List.map_cons, List.map_nil, Nat.reduceAdd, Nat.testBit, Nat.reduceShiftRight, Nat.reduceAnd, Nat.reduceBNe, Nat.reduceMul]
  refine wr_kont (com_L0 h21 ha hb hs hs2 _ _ _ (fun gv M' N' w hN hM hZ hw rr => ?_) xs.length 0 (by omega) m n 0 _ (Nat.le_refl _) (fun _ _ => rfl) (IntZ.nil _ _ _) (fun _ _ => Nat.zero_mod _))
  simp (implicitDefEqProofs := false) (disch := omega) only [WPs, opds, List.all_cons, List.all_nil, List.cons_append, List.nil_append, cond_true, cond_false, eq_self, List.map_cons, List.map_nil, Nat.reduceAdd, Nat.testBit, Nat.reduceShiftRight, Nat.reduceAnd, Nat.reduceBNe, Nat.reduceMul]
  refine hQ _ _ _ _ _ hN hM (hw n (Nat.le_refl _)) (fun _ => hZ) (fun hf => ?_)
  rcases hZ with ⟨h1, h2, rfl⟩ | ⟨_, _, b, rfl, _⟩
  · exact .inl ⟨h1, h2, rfl⟩
  · cases hf
end Go.Am.C06
namespace Go.Am.C06
open Go Go.Am Go.Am.V Go.RowKit
set_option maxRecDepth 1000000
theorem alt_miss {a b : Nat → List Value → FM → Nat → OR FM} {f : Nat} {args : List Value} {m : FM} {n : Nat} (h : a f args m n = .no) : altA a b f args m n = b f args m n := by
  unfold altA; rw [h]
theorem alt_hit {a b : Nat → List Value → FM → Nat → OR FM} {f : Nat} {args : List Value} {m : FM} {n : Nat} {v : Value} {m' : FM} {n' r w : Nat} (h : a f args m n = .ok v m' n' r w) : altA a b f args m n = .ok v m' n' r w := by
  unfold altA; rw [h]
theorem memo_miss {M : Memo} {f : Nat} {args : List Value} (h : (Nat.beq f M.f && veqL args M.args) = false) (m : FM) (n : Nat) : memoA M f args m n = .no := by
  unfold memoA; rw [h]; rfl
theorem memLC_eq : memosA memLC Y5 = altA (memoA mA) (altA (memoA m2) (altA (memoA m3) (altA (memoA m4) (altA (memoA m5) (altA (memoA m7) (altA (memoA m8) (altA (memoA m9) Y5))))))) := rfl
inductive Size : Nat → Tab → Tab → Prop
  | s2 : Size 2 A2 T2
  | s3 : Size 3 A3 T3
  | s4 : Size 4 A4 T4
  | s5 : Size 5 A5 T5
  | s7 : Size 7 A7 T7
  | s8 : Size 8 A8 T8
  | s9 : Size 9 A9 T9
theorem Size.good {q : Nat} {A T : Tab} (h : Size q A T) : GoodT q A T := by
  cases h
  · exact goodT2
  · exact goodT3
  · exact goodT4
  · exact goodT5
  · exact goodT7
  · exact goodT8
  · exact goodT9
abbrev NewR (E : Nat → Option AFn) (Y : Nat → List Value → FM → Nat → OR FM) (q : Nat) (A T : Tab) : Prop := ∀ m n, Rt (callW PG E Y 29 [.int .i64 (q : Int)] m n) (Kpt m n fun v M' N' => ∃ pv, v = .tuple #[pv, .int .i64 0] ∧ FieldM M' N' pv q A T)
theorem newR_of {E : Nat → Option AFn} {Y : Nat → List Value → FM → Nat → OR FM} {q p : Nat} {A T : Tab} {pi : List Nat} (hE : E 29 = none) (hA : square A q) (hT : square T q) (h : ∀ m n v m' n' r w, memoA (fM q p A T pi) 29 [.int .i64 (q : Int)] m n = .ok v m' n' r w → Y 29 [.int .i64 (q : Int)] m n = .ok v m' n' r w) : NewR E Y q A T := fun m n => by
  obtain ⟨m', w, h1, h2, h3, h4⟩ := fM_spec (p := p) (pi := pi) hA hT m n
  rw [callW_Y hE, h _ _ _ _ _ _ _ h1]
  exact ⟨by omega, h2, h3, _, rfl, h4⟩
noncomputable abbrev YC : Nat → List Value → FM → Nat → OR FM := altA errA (memosA memLC Y5)
theorem errA_no {q : Nat} (h : notIn (q : Int) = false) (m : FM) (n : Nat) : errA 29 [.int .i64 (q : Int)] m n = .no := by
  show cond (Nat.beq 29 29 && notIn (q : Int)) _ _ = _
  rw [h]; rfl
theorem new2 : NewR (look tabC) YC 2 A2 T2 := newR_of (by kernel_rfl) sq2.1 sq2.2 fun m n v m' n' r w h => by
  refine (alt_miss (errA_no (by kernel_rfl) m n)).trans ?_
  rw [memLC_eq]
  refine (alt_miss (memo_miss (M := mA) (by kernel_rfl) m n)).trans ?_
  exact alt_hit h
theorem new3 : NewR (look tabC) YC 3 A3 T3 := newR_of (by kernel_rfl) sq3.1 sq3.2 fun m n v m' n' r w h => by
  refine (alt_miss (errA_no (by kernel_rfl) m n)).trans ?_
  rw [memLC_eq]
  refine (alt_miss (memo_miss (M := mA) (by kernel_rfl) m n)).trans ?_
  refine (alt_miss (memo_miss (M := m2) (by kernel_rfl) m n)).trans ?_
  exact alt_hit h
theorem new4 : NewR (look tabC) YC 4 A4 T4 := newR_of (by kernel_rfl) sq4.1 sq4.2 fun m n v m' n' r w h => by
  refine (alt_miss (errA_no (by kernel_rfl) m n)).trans ?_
  rw [memLC_eq]
  refine (alt_miss (memo_miss (M := mA) (by kernel_rfl) m n)).trans ?_
  refine (alt_miss (memo_miss (M := m2) (by kernel_rfl) m n)).trans ?_
  refine (alt_miss (memo_miss (M := m3) (by kernel_rfl) m n)).trans ?_
  exact alt_hit h
theorem new5 : NewR (look tabC) YC 5 A5 T5 := newR_of (by kernel_rfl) sq5.1 sq5.2 fun m n v m' n' r w h => by
  refine (alt_miss (errA_no (by kernel_rfl) m n)).trans ?_
  rw [memLC_eq]
  refine (alt_miss (memo_miss (M := mA) (by kernel_rfl) m n)).trans ?_
  refine (alt_miss (memo_miss (M := m2) (by kernel_rfl) m n)).trans ?_
  refine (alt_miss (memo_miss (M := m3) (by kernel_rfl) m n)).trans ?_
  refine (alt_miss (memo_miss (M := m4) (by kernel_rfl) m n)).trans ?_
  exact alt_hit h
theorem new7 : NewR (look tabC) YC 7 A7 T7 := newR_of (by kernel_rfl) sq7.1 sq7.2 fun m n v m' n' r w h => by
  refine (alt_miss (errA_no (by kernel_rfl) m n)).trans ?_
  rw [memLC_eq]
  refine (alt_miss (memo_miss (M := mA) (by kernel_rfl) m n)).trans ?_
  refine (alt_miss (memo_miss (M := m2) (by kernel_rfl) m n)).trans ?_
  refine (alt_miss (memo_miss (M := m3) (by kernel_rfl) m n)).trans ?_
  refine (alt_miss (memo_miss (M := m4) (by kernel_rfl) m n)).trans ?_
  refine (alt_miss (memo_miss (M := m5) (by kernel_rfl) m n)).trans ?_
  exact alt_hit h
theorem new8 : NewR (look tabC) YC 8 A8 T8 := newR_of (by kernel_rfl) sq8.1 sq8.2 fun m n v m' n' r w h => by
  refine (alt_miss (errA_no (by kernel_rfl) m n)).trans ?_
  rw [memLC_eq]
  refine (alt_miss (memo_miss (M := mA) (by kernel_rfl) m n)).trans ?_
  refine (alt_miss (memo_miss (M := m2) (by kernel_rfl) m n)).trans ?_
  refine (alt_miss (memo_miss (M := m3) (by kernel_rfl) m n)).trans ?_
  refine (alt_miss (memo_miss (M := m4) (by kernel_rfl) m n)).trans ?_
  refine (alt_miss (memo_miss (M := m5) (by kernel_rfl) m n)).trans ?_
  refine (alt_miss (memo_miss (M := m7) (by kernel_rfl) m n)).trans ?_
  exact alt_hit h
theorem new9 : NewR (look tabC) YC 9 A9 T9 := newR_of (by kernel_rfl) sq9.1 sq9.2 fun m n v m' n' r w h => by
  refine (alt_miss (errA_no (by kernel_rfl) m n)).trans ?_
  rw [memLC_eq]
  refine (alt_miss (memo_miss (M := mA) (by kernel_rfl) m n)).trans ?_
  refine (alt_miss (memo_miss (M := m2) (by kernel_rfl) m n)).trans ?_
  refine (alt_miss (memo_miss (M := m3) (by kernel_rfl) m n)).trans ?_
  refine (alt_miss (memo_miss (M := m4) (by kernel_rfl) m n)).trans ?_
  refine (alt_miss (memo_miss (M := m5) (by kernel_rfl) m n)).trans ?_
  refine (alt_miss (memo_miss (M := m7) (by kernel_rfl) m n)).trans ?_
  refine (alt_miss (memo_miss (M := m8) (by kernel_rfl) m n)).trans ?_
  exact alt_hit h
theorem new_size {q : Nat} {A T : Tab} (h : Size q A T) : NewR (look tabC) YC q A T := by
  cases h
  · exact new2
  · exact new3
  · exact new4
  · exact new5
  · exact new7
  · exact new8
  · exact new9
theorem new_err (q : Int) (h : notIn q = true) (m : FM) (n : Nat) : Pure (callW PG (look tabC) YC 29 [.int .i64 q] m n) m n (.tuple #[.pointer none, .int .i64 1]) := by
  rw [callW_Y (by kernel_rfl)]
  refine ⟨0, alt_hit ?_⟩
  show cond (Nat.beq 29 29 && notIn q) (OR.ok errV m n 0 0) OR.no = _
  rw [h]; rfl
theorem awakeC (m : FM) (n : Nat) : Pure (callW PG (look tabC) YC 11 [] m n) m n (.bool true) := by
  rw [callW_Y (by kernel_rfl)]
  have hw : newW n 0 = 0 := Nat.zero_shiftLeft n
  have hm : memoA mA 11 [] m n = .ok (.bool true) m n 0 0 := by
    show OR.ok (.bool true) m n 0 (newW n 0) = _
    rw [hw]
  refine ⟨0, (alt_miss rfl).trans ?_⟩
  rw [memLC_eq]
  exact alt_hit hm
variable {E : Nat → Option AFn} {Y : Nat → List Value → FM → Nat → OR FM}
structure En (E : Nat → Option AFn) (Y : Nat → List Value → FM → Nat → OR FM) : Prop where
  F : Fns E
  e3 : E 3 = some ac3
  e4 : E 4 = some ac4
  e5 : E 5 = some ac5
  e6 : E 6 = some ac6
  e7 : E 7 = some ac7
  e8 : E 8 = some ac8
  e9 : E 9 = some ac9
  e10 : E 10 = some ac10
  e12 : E 12 = some ac12
  e13 : E 13 = some ac13
  e14 : E 14 = some ac14
  e15 : E 15 = some ac15
  e16 : E 16 = some ac16
  e17 : E 17 = some ac17
  e18 : E 18 = some ac18
  e19 : E 19 = some ac19
  e20 : E 20 = some ac20
  e21 : E 21 = some ac21
  e22 : E 22 = some ac22
  e25 : E 25 = some ac25
  e26 : E 26 = some ac26
  e27 : E 27 = some ac27
  e28 : E 28 = some ac28
  e32 : E 32 = some ac32
  e34 : E 34 = some ac34
  e35 : E 35 = some ac35
  e36 : E 36 = some ac36
  e37 : E 37 = some ac37
  e38 : E 38 = some ac38
  e39 : E 39 = some ac39
  e40 : E 40 = some ac40
  e41 : E 41 = some ac41
  e47 : E 47 = some ac47
  aw : ∀ m n, Pure (callW PG E Y 11 [] m n) m n (.bool true)
  new : ∀ {q A T}, Size q A T → NewR E Y q A T
  err : ∀ q, notIn q = true → ∀ m n, Pure (callW PG E Y 29 [.int .i64 q] m n) m n (.tuple #[.pointer none, .int .i64 1])
theorem enC : En (look tabC) YC where
  F := ⟨by kernel_rfl, by kernel_rfl, by kernel_rfl, by kernel_rfl, by kernel_rfl, by kernel_rfl, by kernel_rfl, by kernel_rfl, by kernel_rfl, by kernel_rfl, by kernel_rfl, by kernel_rfl, by kernel_rfl⟩
  e3 := by kernel_rfl
  e4 := by kernel_rfl
  e5 := by kernel_rfl
  e6 := by kernel_rfl
  e7 := by kernel_rfl
  e8 := by kernel_rfl
  e9 := by kernel_rfl
  e10 := by kernel_rfl
  e12 := by kernel_rfl
  e13 := by kernel_rfl
  e14 := by kernel_rfl
  e15 := by kernel_rfl
  e16 := by kernel_rfl
  e17 := by kernel_rfl
  e18 := by kernel_rfl
  e19 := by kernel_rfl
  e20 := by kernel_rfl
  e21 := by kernel_rfl
  e22 := by kernel_rfl
  e25 := by kernel_rfl
  e26 := by kernel_rfl
  e27 := by kernel_rfl
  e28 := by kernel_rfl
  e32 := by kernel_rfl
  e34 := by kernel_rfl
  e35 := by kernel_rfl
  e36 := by kernel_rfl
  e37 := by kernel_rfl
  e38 := by kernel_rfl
  e39 := by kernel_rfl
  e40 := by kernel_rfl
  e41 := by kernel_rfl
  e47 := by kernel_rfl
  aw := awakeC
  new := new_size
  err := new_err
end Go.Am.C06
namespace Go.Am.C06
open Go Go.Am
variable {E : Nat → Option AFn} {Y : Nat → List Value → FM → Nat → OR FM}
def sizeN (z : Nat) : Nat := [2, 3, 4, 5, 7].getD (z % 5) 0
theorem conv_u8 {q : Nat} (h : q < 256) : convV .i64 (.int .u8 (q : Int)) = some (.int .i64 (q : Int)) := by
  show some (Value.int .i64 (wrapF .i64 (q : Int))) = _
  rw [show wrapF .i64 (q : Int) = (q : Int) from by rw [wrapF_eq]; exact wrap_i64 (by omega) (by omega)]
theorem binV_rem_nat {t a b : Nat} (hb : b ≠ 0) : binV PG .rem t (.int .i64 (a : Int)) (.int .i64 (b : Int)) = some (.int .i64 ((a % b : Nat) : Int)) := by
  show intBin .rem .i64 (a : Int) (b : Int) = _
  rw [rem_i64 (by omega), Int.tmod_eq_emod_of_nonneg (by omega)]
  rfl
theorem size_spec (T : En E Y) (m : FM) (n : Nat) {z : Nat} (hz : z < 256) : Pure (callW PG E Y 18 [.int .u8 (z : Int)] m n) m n (.int .i64 (sizeN z : Int)) := by
  refine pure_spec T.e18 rfl rfl ?_
  simp only [ac18]
  have h5 : z % 5 < 5 := Nat.mod_lt _ (by omega)
  have fzb : Nat.mod (bit n) (bit n) = 0 := frz_bit (Nat.le_refl _)
  have hr : binV PG .rem 3 (.int .i64 (z : Int)) (.int .i64 5) = some (.int .i64 ((z % 5 : Nat) : Int)) := binV_rem_nat (b := 5) (by omega)
  have hc : cget [Value.int .i64 2, Value.int .i64 3, Value.int .i64 4, Value.int .i64 5, Value.int .i64 7] (z % 5) = some (.int .i64 (sizeN z : Int)) := by
    unfold sizeN
    generalize z % 5 = k at *
    match k, h5 with
    | 0, _ => rfl
    | 1, _ => rfl
    | 2, _ => rfl
    | 3, _ => rfl
    | 4, _ => rfl
  simp (implicitDefEqProofs := false) (disch := omega) only [WPs, opds, List.all_cons, List.all_nil, List.cons_append, List.nil_append, cond_true, cond_false, eq_self, List.map_cons, List.map_nil, Nat.reduceAdd, Nat.testBit, Nat.reduceShiftRight, Nat.reduceAnd, Nat.reduceBNe, Nat.reduceMul, conv_u8 hz, hr, hc, fzb]
def primeP (q : Int) : Int := if q = 2 then 2 else if q = 3 then 3 else if q = 5 then 5 else if q = 7 then 7 else if q = 4 then 2 else if q = 8 then 2 else if q = 9 then 3 else 0
def primeN (q : Int) : Int := if q = 2 then 1 else if q = 3 then 1 else if q = 5 then 1 else if q = 7 then 1 else if q = 4 then 2 else if q = 8 then 3 else if q = 9 then 2 else 0
theorem prime_spec (T : En E Y) (m : FM) (n : Nat) (q : Int) : Pure (callW PG E Y 25 [.int .i64 q] m n) m n (.tuple #[.int .i64 (primeP q), .int .i64 (primeN q)]) := by
  refine pure_spec T.e25 rfl rfl ?_
  simp only [ac25]
  unfold primeP primeN
  by_cases h2 : q = 2
  · rw [if_pos h2, if_pos h2]; simp (implicitDefEqProofs := false) (disch := omega) only [WPs, opds, List.all_cons, List.all_nil, List.cons_append, List.nil_append, cond_true, cond_false, eq_self, List.map_cons, List.map_nil, Nat.reduceAdd, Nat.testBit, Nat.reduceShiftRight, Nat.reduceAnd, Nat.reduceBNe, Nat.reduceMul, decide_eq_true h2, h2]
  by_cases h3 : q = 3
  · rw [if_neg h2, if_neg h2, if_pos h3, if_pos h3]; simp (implicitDefEqProofs := false) (disch := omega) only [WPs, opds, List.all_cons, List.all_nil, List.cons_append, List.nil_append, cond_true, cond_false, eq_self, List.map_cons, List.map_nil, Nat.reduceAdd, Nat.testBit, Nat.reduceShiftRight, Nat.reduceAnd, Nat.reduceBNe, Nat.reduceMul, decide_eq_false h2, decide_eq_true h3, h3]
  by_cases h5 : q = 5
  · rw [if_neg h2, if_neg h2, if_neg h3, if_neg h3, if_pos h5, if_pos h5]; simp (implicitDefEqProofs := false) (disch := omega) only [WPs, opds, List.all_cons, List.all_nil, List.cons_append, List.nil_append, cond_true, cond_false, eq_self, List.map_cons, List.map_nil, Nat.reduceAdd, Nat.testBit, Nat.reduceShiftRight, Nat.reduceAnd, Nat.reduceBNe, Nat.reduceMul, decide_eq_false h2, decide_eq_false h3, decide_eq_true h5, h5]
  by_cases h7 : q = 7
  · rw [if_neg h2, if_neg h2, if_neg h3, if_neg h3, if_neg h5, if_neg h5, if_pos h7, if_pos h7]; simp (implicitDefEqProofs := false) (disch := omega) only [WPs, opds, List.all_cons, List.all_nil, List.cons_append, List.nil_append, cond_true, cond_false, eq_self, List.map_cons, List.map_nil, Nat.reduceAdd, Nat.testBit, Nat.reduceShiftRight, Nat.reduceAnd, Nat.reduceBNe, Nat.reduceMul, decide_eq_false h2, decide_eq_false h3, decide_eq_false h5, decide_eq_true h7, h7]
  rw [if_neg h2, if_neg h2, if_neg h3, if_neg h3, if_neg h5, if_neg h5, if_neg h7, if_neg h7]
  by_cases h4 : q = 4
  · rw [if_pos h4, if_pos h4]; simp (implicitDefEqProofs := false) (disch := omega) only [WPs, opds, List.all_cons, List.all_nil, List.cons_append, List.nil_append, cond_true, cond_false, eq_self, List.map_cons, List.map_nil, Nat.reduceAdd, Nat.testBit, Nat.reduceShiftRight, Nat.reduceAnd, Nat.reduceBNe, Nat.reduceMul, decide_eq_false h2, decide_eq_false h3, decide_eq_false h5, decide_eq_false h7, decide_eq_true h4]
  by_cases h8 : q = 8
  · rw [if_neg h4, if_neg h4, if_pos h8, if_pos h8]; simp (implicitDefEqProofs := false) (disch := omega) only [WPs, opds, List.all_cons, List.all_nil, List.cons_append, List.nil_append, cond_true, cond_false, eq_self, List.map_cons, List.map_nil, Nat.reduceAdd, Nat.testBit, Nat.reduceShiftRight, Nat.reduceAnd, Nat.reduceBNe, Nat.reduceMul, decide_eq_false h2, decide_eq_false h3, decide_eq_false h5, decide_eq_false h7, decide_eq_false h4, decide_eq_true h8]
  by_cases h9 : q = 9
  · rw [if_neg h4, if_neg h4, if_neg h8, if_neg h8, if_pos h9, if_pos h9]; simp (implicitDefEqProofs := false) (disch := omega) only [WPs, opds, List.all_cons, List.all_nil, List.cons_append, List.nil_append, cond_true, cond_false, eq_self, List.map_cons, List.map_nil, Nat.reduceAdd, Nat.testBit, Nat.reduceShiftRight, Nat.reduceAnd, Nat.reduceBNe, Nat.reduceMul, decide_eq_false h2, decide_eq_false h3, decide_eq_false h5, decide_eq_false h7, decide_eq_false h4, decide_eq_false h8, decide_eq_true h9]
  rw [if_neg h4, if_neg h4, if_neg h8, if_neg h8, if_neg h9, if_neg h9]
  simp (implicitDefEqProofs := false) (disch := omega) only [WPs, opds, List.all_cons, List.all_nil, List.cons_append, List.nil_append, cond_true, cond_false, eq_self, List.map_cons, List.map_nil, Nat.reduceAdd, Nat.testBit, Nat.reduceShiftRight, Nat.reduceAnd, Nat.reduceBNe, Nat.reduceMul, decide_eq_false h2, decide_eq_false h3, decide_eq_false h5, decide_eq_false h7, decide_eq_false h4, decide_eq_false h8, decide_eq_false h9]
def wrongR (q : Int) : Int := if primeP q = 0 then 1 else if q > 7 then 7 else 0
theorem wrong_spec (T : En E Y) (m : FM) (n : Nat) (q : Int) : Pure (callW PG E Y 13 [.int .i64 q] m n) m n (.int .i64 (wrongR q)) := by
  refine pure_spec T.e13 rfl rfl ?_
  simp only [ac13]
  simp (implicitDefEqProofs := false) (disch := omega) only [WPs, opds, List.all_cons, List.all_nil, List.cons_append, List.nil_append, cond_true, cond_false, eq_self, List.map_cons, List.map_nil, Nat.reduceAdd, Nat.testBit, Nat.reduceShiftRight, Nat.reduceAnd, Nat.reduceBNe, Nat.reduceMul]
  refine use_pure (prime_spec T _ _ q) fun _ => ?_
  unfold wrongR
  by_cases hp : primeP q = 0
  · rw [if_pos hp]
    simp (implicitDefEqProofs := false) (disch := omega) only [WPs, opds, List.all_cons, List.all_nil, List.cons_append, List.nil_append, cond_true, cond_false, eq_self, List.map_cons, List.map_nil, Nat.reduceAdd, Nat.testBit, Nat.reduceShiftRight, Nat.reduceAnd, Nat.reduceBNe, Nat.reduceMul, decide_eq_true hp]
  · rw [if_neg hp]
    by_cases h7 : q > 7
    · rw [if_pos h7]
      simp (implicitDefEqProofs := false) (disch := omega) only [WPs, opds, List.all_cons, List.all_nil, List.cons_append, List.nil_append, cond_true, cond_false, eq_self, List.map_cons, List.map_nil, Nat.reduceAdd, Nat.testBit, Nat.reduceShiftRight, Nat.reduceAnd, Nat.reduceBNe, Nat.reduceMul, decide_eq_false hp, decide_eq_true h7]
    · rw [if_neg h7]
      simp (implicitDefEqProofs := false) (disch := omega) only [WPs, opds, List.all_cons, List.all_nil, List.cons_append, List.nil_append, cond_true, cond_false, eq_self, List.map_cons, List.map_nil, Nat.reduceAdd, Nat.testBit, Nat.reduceShiftRight, Nat.reduceAnd, Nat.reduceBNe, Nat.reduceMul, decide_eq_false hp, decide_eq_false h7]
theorem common_bad (hE : E 32 = some ac32) {q er : Int} (a b : Int) (hne : er ≠ 0) (m : FM) (n : Nat) (hOpen : Pure (callW PG E Y 23 [.int .i64 q] m n) m n (.tuple #[.pointer none, .int .i64 er])) :
    Pure (callW PG E Y 32 [.int .i64 q, .int .i64 a, .int .i64 b] m n) m n (.tuple #[.int .i64 0, .int .i64 er]) := by
  refine pure_spec hE rfl rfl ?_
  simp only [ac32]
  simp (implicitDefEqProofs := false) (disch := omega) only [WPs, opds, List.all_cons, List.all_nil, List.cons_append, List.nil_append, cond_true, cond_false, eq_self, List.map_cons, List.map_nil, Nat.reduceAdd, Nat.testBit, Nat.reduceShiftRight, Nat.reduceAnd, Nat.reduceBNe, Nat.reduceMul]
  refine use_pure hOpen fun _ => ?_
  simp (implicitDefEqProofs := false) (disch := omega) only [WPs, opds, List.all_cons, List.all_nil, List.cons_append, List.nil_append, cond_true, cond_false, eq_self, List.map_cons, List.map_nil, Nat.reduceAdd, Nat.testBit, Nat.reduceShiftRight, Nat.reduceAnd, Nat.reduceBNe, Nat.reduceMul, decide_eq_false hne]
theorem meet_of (T : En E Y) {q a b x y : Int} (m : FM) (n : Nat) (h : Pure (callW PG E Y 32 [.int .i64 q, .int .i64 a, .int .i64 b] m n) m n (.tuple #[.int .i64 x, .int .i64 y])) :
    Pure (callW PG E Y 20 [.int .i64 q, .int .i64 a, .int .i64 b] m n) m n (.tuple #[.int .i64 x, .int .i64 y]) := by
  refine pure_spec T.e20 rfl rfl ?_
  simp only [ac20]
  simp (implicitDefEqProofs := false) (disch := omega) only [WPs, opds, List.all_cons, List.all_nil, List.cons_append, List.nil_append, cond_true, cond_false, eq_self, List.map_cons, List.map_nil, Nat.reduceAdd, Nat.testBit, Nat.reduceShiftRight, Nat.reduceAnd, Nat.reduceBNe, Nat.reduceMul]
  refine use_pure h fun _ => ?_
  simp (implicitDefEqProofs := false) (disch := omega) only [WPs, opds, List.all_cons, List.all_nil, List.cons_append, List.nil_append, cond_true, cond_false, eq_self, List.map_cons, List.map_nil, Nat.reduceAdd, Nat.testBit, Nat.reduceShiftRight, Nat.reduceAnd, Nat.reduceBNe, Nat.reduceMul]
theorem join_of (T : En E Y) {q a b x y : Int} (m : FM) (n : Nat) (h : Pure (callW PG E Y 32 [.int .i64 q, .int .i64 a, .int .i64 b] m n) m n (.tuple #[.int .i64 x, .int .i64 y])) :
    Pure (callW PG E Y 22 [.int .i64 q, .int .i64 a, .int .i64 b] m n) m n (.tuple #[.int .i64 x, .int .i64 y]) := by
  refine pure_spec T.e22 rfl rfl ?_
  simp only [ac22]
  simp (implicitDefEqProofs := false) (disch := omega) only [WPs, opds, List.all_cons, List.all_nil, List.cons_append, List.nil_append, cond_true, cond_false, eq_self, List.map_cons, List.map_nil, Nat.reduceAdd, Nat.testBit, Nat.reduceShiftRight, Nat.reduceAnd, Nat.reduceBNe, Nat.reduceMul]
  refine use_pure h fun _ => ?_
  simp (implicitDefEqProofs := false) (disch := omega) only [WPs, opds, List.all_cons, List.all_nil, List.cons_append, List.nil_append, cond_true, cond_false, eq_self, List.map_cons, List.map_nil, Nat.reduceAdd, Nat.testBit, Nat.reduceShiftRight, Nat.reduceAnd, Nat.reduceBNe, Nat.reduceMul]
structure Sm (q : Nat) (A T : Tab) : Prop where
  size : Size q A T
  le : q ≤ 7
  ge : 2 ≤ q
abbrev ptsR (q : Nat) (T : Tab) : List P3 := foldX T q 2
theorem open_good (T : En E Y) {q : Nat} {A M : Tab} (h : Sm q A M) (m : FM) (n : Nat) : Rt (callW PG E Y 23 [.int .i64 (q : Int)] m n) (Kpt m n fun v M' N' => ∃ sv, v = .tuple #[sv, .int .i64 0] ∧ SpaceM M' N' sv q A M (ptsR q M)) :=
  open_spec T.F.e23 T.F.e33 T.F.e44 T.F.e45 T.F.e46 T.F.e42 T.F.e51 T.F.e31 h.ge h.le h.size.good m n (T.new h.size m n)
theorem pts_le {q : Nat} (h : q ≤ 7) (M : Tab) : (ptsR q M).length ≤ 98 := by
  have h1 := foldX_len M q 2
  have h2 : q * q ≤ 7 * 7 := Nat.mul_le_mul h h
  show (foldX M q 2).length ≤ 98
  omega
theorem meet_good (T : En E Y) {q : Nat} {A M : Tab} (h : Sm q A M) (a b : Int) (m : FM) (n : Nat) :
    Pure (callW PG E Y 20 [.int .i64 (q : Int), .int .i64 a, .int .i64 b] m n) m n (.tuple #[.int .i64 (comE A M (ptsR q M) a b).1, .int .i64 (comE A M (ptsR q M) a b).2]) :=
  meet_of T m n (common_spec T.F T.e32 h.size.good a b m n (by have := pts_le h.le M; omega) (open_good T h m n))
theorem join_good (T : En E Y) {q : Nat} {A M : Tab} (h : Sm q A M) (a b : Int) (m : FM) (n : Nat) :
    Pure (callW PG E Y 22 [.int .i64 (q : Int), .int .i64 a, .int .i64 b] m n) m n (.tuple #[.int .i64 (comE A M (ptsR q M) a b).1, .int .i64 (comE A M (ptsR q M) a b).2]) :=
  join_of T m n (common_spec T.F T.e32 h.size.good a b m n (by have := pts_le h.le M; omega) (open_good T h m n))
theorem proj_good (T : En E Y) {q : Nat} {A M : Tab} (h : Sm q A M) (m : FM) (n : Nat) :
    Rt (callW PG E Y 12 [.int .i64 (q : Int)] m n) (Kpt m n fun v M' N' => ∃ dv, v = .tuple #[dv, .int .i64 0] ∧ DesV M' n N' dv ((ptsR q M).length : Int) (projR A M (ptsR q M))) :=
  proj_spec T.F T.e12 h.size.good m n (by have := pts_le h.le M; omega) (open_good T h)
theorem cases_q (q : Int) : (∃ z A T, q = ((z : Nat) : Int) ∧ Sm z A T ∧ wrongR q = 0) ∨ (∃ z A T, q = ((z : Nat) : Int) ∧ Size z A T ∧ 8 ≤ z ∧ z ≤ 9 ∧ wrongR q = 7) ∨ (notIn q = true ∧ wrongR q = 1) := by
  by_cases h2 : q = 2
  · subst h2; exact .inl ⟨2, _, _, rfl, ⟨.s2, by omega, by omega⟩, rfl⟩
  by_cases h3 : q = 3
  · subst h3; exact .inl ⟨3, _, _, rfl, ⟨.s3, by omega, by omega⟩, rfl⟩
  by_cases h4 : q = 4
  · subst h4; exact .inl ⟨4, _, _, rfl, ⟨.s4, by omega, by omega⟩, rfl⟩
  by_cases h5 : q = 5
  · subst h5; exact .inl ⟨5, _, _, rfl, ⟨.s5, by omega, by omega⟩, rfl⟩
  by_cases h7 : q = 7
  · subst h7; exact .inl ⟨7, _, _, rfl, ⟨.s7, by omega, by omega⟩, rfl⟩
  by_cases h8 : q = 8
  · subst h8; exact .inr (.inl ⟨8, _, _, rfl, .s8, by omega, by omega, rfl⟩)
  by_cases h9 : q = 9
  · subst h9; exact .inr (.inl ⟨9, _, _, rfl, .s9, by omega, by omega, rfl⟩)
  refine .inr (.inr ⟨?_, by unfold wrongR primeP; rw [if_neg h2, if_neg h3, if_neg h5, if_neg h7, if_neg h4, if_neg h8, if_neg h9, if_pos rfl]⟩)
  cases q with
  | negSucc x => rfl
  | ofNat n =>
    match n with
    | 0 => rfl
    | 1 => rfl
    | 2 => exact absurd rfl h2
    | 3 => exact absurd rfl h3
    | 4 => exact absurd rfl h4
    | 5 => exact absurd rfl h5
    | 6 => rfl
    | 7 => exact absurd rfl h7
    | 8 => exact absurd rfl h8
    | 9 => exact absurd rfl h9
    | n + 10 => rfl
theorem open_wrong (T : En E Y) {q : Int} (h : wrongR q ≠ 0) (m : FM) (n : Nat) : Pure (callW PG E Y 23 [.int .i64 q] m n) m n (.tuple #[.pointer none, .int .i64 (wrongR q)]) := by
  rcases cases_q q with ⟨z, A, M, rfl, hs, h0⟩ | ⟨z, A, M, rfl, hs, h8, h9, hw⟩ | ⟨hn, hw⟩
  · exact absurd h0 h
  · rw [hw]; exact open_big T.F.e23 h8 h9 m n (T.new hs m n)
  · rw [hw]; exact open_bad T.F.e23 m n (T.err q hn m n)
theorem meet_wrong (T : En E Y) {q : Int} (h : wrongR q ≠ 0) (a b : Int) (m : FM) (n : Nat) :
    Pure (callW PG E Y 20 [.int .i64 q, .int .i64 a, .int .i64 b] m n) m n (.tuple #[.int .i64 0, .int .i64 (wrongR q)]) :=
  meet_of T m n (common_bad T.e32 a b h m n (open_wrong T h m n))
theorem join_wrong (T : En E Y) {q : Int} (h : wrongR q ≠ 0) (a b : Int) (m : FM) (n : Nat) :
    Pure (callW PG E Y 22 [.int .i64 q, .int .i64 a, .int .i64 b] m n) m n (.tuple #[.int .i64 0, .int .i64 (wrongR q)]) :=
  join_of T m n (common_bad T.e32 a b h m n (open_wrong T h m n))
end Go.Am.C06
