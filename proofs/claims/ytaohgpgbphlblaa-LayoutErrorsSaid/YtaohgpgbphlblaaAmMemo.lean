/- A closed run of the machine as a contract: whatever the memory, the call lays the same blocks. -/
import Derived.Test.YtaohgpgbphlblaaAmV4
import Derived.Test.YtaohgpgbphlblaaAmShow
set_option linter.unusedVariables false
set_option linter.unusedSimpArgs false
set_option linter.unusedSectionVars false
namespace Go.Am.V
open Go Go.Am Go.Am.Fast

noncomputable def rn (f : Nat → Nat) (v : FV) : FV := FV.rec (motive := fun _ => FV) (fun z => .i z) (fun t => .b t) (fun b o => .p (f b) o) (fun b o l c => .s (f b) o l c) (fun v => .o v) v
noncomputable def leaf (k : Nat) (v : FV) : Bool := FV.rec (motive := fun _ => Bool) (fun _ => true) (fun _ => true) (fun b _ => Nat.blt b k) (fun b _ _ _ => Nat.blt b k) flat v
theorem leaf_rel {ρ1 ρ' : Ren} {f g : Nat → Nat} {k : Nat} {v : FV} {y : Value} (hv : leaf k v = true) (h : ∀ b p, b < k → ρ1 (f b) = some p → ρ' (g b) = some p) (hr : VRel ρ1 (toV (rn f v)) y) : VRel ρ' (toV (rn g v)) y := by
  cases v with
  | i z => rw [hr.flat_eq rfl]; exact .int _ _ _
  | b t => rw [hr.flat_eq rfl]; exact .bool _ _
  | p b o =>
    replace hr : VRel ρ1 (.pointer (some ⟨f b, o, none⟩)) y := hr
    cases hr with
    | flat hf => simp [flat] at hf
    | ptr hp => exact .ptr (h b _ (Nat.le_of_ble_eq_true hv) hp)
  | s b o l c =>
    replace hr : VRel ρ1 (.slice (some ⟨f b, o, none⟩) l c) y := hr
    cases hr with
    | flat hf => simp [flat] at hf
    | slice hp hn hu hk hq => exact .slice (h b _ (Nat.le_of_ble_eq_true hv) hp) hn hu hk hq
    | vag => exact .vag
  | o v =>
    replace hv : flat v = true := hv
    replace hr : VRel ρ1 v y := hr
    rw [hr.flat_eq hv]
    exact .flat hv

noncomputable def rnB (f : Nat → Nat) (x : FBlk) : FBlk := FBlk.rec (motive := fun _ => FBlk) (fun c sz opn wr => ⟨pmap (rn f) c, sz, opn, wr⟩) x
/-- blocks laid one behind the other: n0: the first one's number -/
noncomputable def layF (f : Nat → Nat) (bs : List FBlk) : FTr → FTr := List.rec (motive := fun _ => FTr → FTr) (fun m => m) (fun b _ ih m => ih (some (rnB f b) :: m)) bs
noncomputable def layA (f : Nat → Nat) (bs : List FBlk) : Nat → FM → FM := List.rec (motive := fun _ => Nat → FM → FM) (fun _ m => m) (fun b _ ih n m => ih (n + 1) (AMem.put m n (some (toB (rnB f b))))) bs
theorem lay_abs (f : Nat → Nat) : ∀ (bs : List FBlk) (m : FTr) (n : Nat), absM (layF f bs m) (n + bs.length) = layA f bs n (absM m n)
  | [], m, n => rfl
  | b :: bs, m, n => by
    show absM (layF f bs (some (rnB f b) :: m)) (n + (bs.length + 1)) = layA f bs (n + 1) (AMem.put (absM m n) n (some (toB (rnB f b))))
    have e : n + (bs.length + 1) = (n + 1) + bs.length := by omega
    rw [e, lay_abs f bs (some (rnB f b) :: m) (n + 1)]
    congr 1
    exact absM_new
theorem layA_get (f : Nat → Nat) : ∀ (bs : List FBlk) (m : FM) (n j : Nat), layA f bs n m j = if n ≤ j ∧ j < n + bs.length then (bs[j - n]?).map (fun b => toB (rnB f b)) else m j
  | [], m, n, j => by
    rw [if_neg (by intro h; have := h.2; simp at this; omega)]; rfl
  | b :: bs, m, n, j => by
    show layA f bs (n + 1) (AMem.put m n (some (toB (rnB f b)))) j = _
    rw [layA_get f bs _ (n + 1) j]
    by_cases h1 : n + 1 ≤ j ∧ j < n + 1 + bs.length
    · rw [if_pos h1, if_pos (by simp; omega)]
      have e : j - n = (j - (n + 1)) + 1 := by omega
      rw [e]; rfl
    · rw [if_neg h1]
      show (if j = n then some (toB (rnB f b)) else m j) = _
      by_cases h2 : j = n
      · subst h2
        rw [if_pos rfl, if_pos (by simp), Nat.sub_self]; rfl
      · rw [if_neg h2, if_neg (by simp; omega)]

/-- what a closed run gave: results (leaves), blocks, where the blocks lie in the run -/
structure Memo where
  f : Nat
  args : List Value
  rs : List FV
  bs : List FBlk
  pi : List Nat
noncomputable def newW (n len : Nat) : Nat := Nat.shiftLeft (Nat.sub (Nat.pow 2 len) 1) n
theorem newW_test (n len b : Nat) : (newW n len).testBit b = (decide (n ≤ b) && decide (b < n + len)) := by
  show (((2 ^ len - 1) <<< n).testBit b) = _
  rw [Nat.testBit_shiftLeft, Nat.testBit_two_pow_sub_one, Bool.eq_iff_iff]
  simp
  omega
noncomputable def memoA (M : Memo) (f : Nat) (args : List Value) (m : FM) (n : Nat) : OR FM :=
  cond (Nat.beq f M.f && veqL args M.args) (.ok (retV ((M.rs.map (rn (fun b => n + b))).map toV)) (layA (fun b => n + b) M.bs n m) (n + M.bs.length) 0 (newW n M.bs.length)) .no
noncomputable def pif (l : List Nat) (b : Nat) : Nat := Option.rec (motive := fun _ => Nat) 0 (fun x => x) (pget l b)
theorem pget_eq {α : Type} (l : List α) (i : Nat) : pget l i = l[i]? := by
  induction l generalizing i with
  | nil => rfl
  | cons x l ih => cases i with
    | zero => rfl
    | succ i => show pget l i = _; rw [ih]; simp
theorem pif_lt {l : List Nat} {b : Nat} (h : b < l.length) : pif l b = l[b] := by
  unfold pif; rw [pget_eq, List.getElem?_eq_getElem h]

/-- the closed run fits the memo -/
structure Fits (M : Memo) (v : Value) (m : FM) (w : Nat) : Prop where
  res : v = retV ((M.rs.map (rn (pif M.pi))).map toV)
  leafs : M.rs.all (leaf M.bs.length) = true
  len : M.pi.length = M.bs.length
  nodup : M.pi.Nodup
  blk : ∀ i b, M.bs[i]? = some b → m (pif M.pi i) = some (toB (rnB (pif M.pi) b)) ∧ b.c.all (leaf M.bs.length) = true ∧ w.testBit (pif M.pi i) = true
section
variable {P : Program}
theorem rnB_cells (f : Nat → Nat) (b : FBlk) : toB (rnB f b) = .cells ((b.c.map (rn f)).map toV) b.sz b.opn b.wr := by
  obtain ⟨c, sz, opn, wr⟩ := b
  show Blk.cells ((pmap (rn f) c).map toV) sz opn wr = _
  rw [pmap_eq]
theorem retV_rel {ρ ρ' : Ren} {f g : Nat → Nat} {k : Nat} {rs : List FV} (hl : rs.all (leaf k) = true) (h : ∀ b p, b < k → ρ (f b) = some p → ρ' (g b) = some p) {y : Value} (hr : VRel ρ (retV ((rs.map (rn f)).map toV)) y) : VRel ρ' (retV ((rs.map (rn g)).map toV)) y := by
  have hmany : ∀ (l : List FV) (y : Value), l.all (leaf k) = true → VRel ρ (.tuple ((l.map (rn f)).map toV).toArray) y → VRel ρ' (.tuple ((l.map (rn g)).map toV).toArray) y := by
    intro l y hl hr
    cases hr with
    | flat hf => simp [flat] at hf
    | tuple h1 h2 =>
      rename_i a'
      refine .tuple (by simpa using h1) fun i x z hx hz => ?_
      simp only [List.getElem?_toArray, List.getElem?_map, Option.map_eq_some_iff] at hx
      obtain ⟨x1, ⟨x2, hx2, rfl⟩, rfl⟩ := hx
      refine leaf_rel (List.all_eq_true.1 hl _ (List.mem_of_getElem? hx2)) h (h2 i (toV (rn f x2)) z ?_ hz)
      simp [hx2]
  rcases rs with _ | ⟨x, _ | ⟨x2, t⟩⟩
  · exact hmany [] y rfl hr
  · simp only [List.all_cons, List.all_nil, Bool.and_true] at hl
    exact leaf_rel hl h hr
  · exact hmany (x :: x2 :: t) y hl hr

theorem memo_loc (M : Memo) : CallLoc (memoA M) := by
  intro f args m n v m' n' r wm h
  unfold memoA at h
  cases hc : (Nat.beq f M.f && veqL args M.args)
  · rw [hc] at h; cases h
  · rw [hc] at h
    injection h with h1 h2 h3 h4 h5
    subst h2; subst h3; subst h5
    refine ⟨Nat.le_add_right _ _, fun b hb => ?_, fun b h1 h2 => by rw [newW_test]; simp; omega⟩
    rw [newW_test] at hb
    show layA _ M.bs n m b = m b
    rw [layA_get, if_neg]
    intro hh
    simp at hb
    omega

theorem memo_sim {M : Memo} (hflat : M.args.all flat = true) {rec0 : Nat → List Value → FM → Nat → OR FM} (hsim : CallSim P rec0) {m0 : FM} {v : Value} {m1 : FM} {n1 r1 w1 : Nat} (hrun : rec0 M.f M.args m0 0 = .ok v m1 n1 r1 w1) (hfit : Fits M v m1 w1) : CallSim P (memoA M) := by
  intro f args m n v2 m' n' r wm h ρ V w B F args' hargs hF hag hm hfree
  unfold memoA at h
  cases hc : (Nat.beq f M.f && veqL args M.args)
  · rw [hc] at h; cases h
  rw [hc] at h
  rw [Bool.and_eq_true] at hc
  obtain rfl := Nat.eq_of_beq_eq_true hc.1
  obtain rfl := veqL_eq hc.2
  injection h with e1 e2 e3 e4 e5
  subst e1; subst e2; subst e3; subst e4; subst e5
  obtain ⟨hen, hcall⟩ := hsim M.f M.args m0 0 v m1 n1 r1 w1 hrun (fun _ => none) (fun _ => none) w w.heap.size (Nat.lor r1 w1) args' (by
      refine ⟨hargs.1, fun i x y hx hy => ?_⟩
      have hf : flat x = true := List.all_eq_true.1 hflat _ (List.mem_of_getElem? hx)
      rw [(hargs.2 i x y hx hy).flat_eq hf]
      exact .flat hf) (Sub.refl _) (fun b hb => by omega) (mrel_none w) (fun _ _ => rfl)
  refine ⟨hen, hcall.mono ?_⟩
  rintro e w' ⟨ρ1, v1, rfl, hv1, hp1⟩
  -- the new places
  obtain ⟨ρ', hρ'⟩ : ∃ ρ' : Ren, ρ' = fun b => if b < n then ρ b else if b < n + M.bs.length then ρ1 (pif M.pi (b - n)) else none := ⟨_, rfl⟩
  have hold : ∀ b, b < n → ρ' b = ρ b := fun b hb => by rw [hρ']; simp [hb]
  have hnew : ∀ i, i < M.bs.length → ρ' (n + i) = ρ1 (pif M.pi i) := fun i hi => by
    rw [hρ']
    have e : n + i - n = i := by omega
    simp only [if_neg (show ¬ n + i < n by omega), if_pos (show n + i < n + M.bs.length by omega), e]
  have hout : ∀ b, n + M.bs.length ≤ b → ρ' b = none := fun b hb => by
    rw [hρ']; simp only [if_neg (show ¬ b < n by omega), if_neg (show ¬ b < n + M.bs.length by omega)]
  have hle : ρ.le ρ' := fun b p hb => by
    by_cases hbn : b < n
    · rw [hold b hbn]; exact hb
    · rw [hfree b (by omega)] at hb; cases hb
  have hfresh1 : ∀ b p, ρ1 b = some p → w.heap.size ≤ p.blk := fun b p hb => by
    rcases hp1.newp b p hb with h1 | h1 | ⟨_, _, h1, _⟩
    · cases h1
    · exact h1
    · cases h1
  have hren : ∀ b p, ρ1 (pif M.pi b) = some p → b < M.bs.length → ρ' (n + b) = some p := fun b p hb hlt => by rw [hnew b hlt]; exact hb
  have hup : ∀ i b, M.bs[i]? = some b → upd (fun _ => none) w1 m1 (pif M.pi i) = some (toB (rnB (pif M.pi) b)) := fun i b hb => by
    obtain ⟨h1, _, h3⟩ := hfit.blk i b hb
    unfold upd; rw [h3]; exact h1
  have hren' : ∀ b p, b < M.bs.length → ρ1 (pif M.pi b) = some p → ρ' (n + b) = some p := fun b p hb h => hren b p h hb
  have hinv : ∀ b p, ρ' b = some p → (b < n ∧ ρ b = some p) ∨ (∃ i, i < M.bs.length ∧ b = n + i ∧ ρ1 (pif M.pi i) = some p) := fun b p hb => by
    by_cases h1 : b < n
    · exact .inl ⟨h1, by rw [← hold b h1]; exact hb⟩
    · by_cases h2 : b < n + M.bs.length
      · refine .inr ⟨b - n, by omega, by omega, ?_⟩
        rw [← hnew (b - n) (by omega), ← hb]; congr 1; omega
      · rw [hout b (by omega)] at hb; cases hb
  have hupo : ∀ b, b < n → upd V (newW n M.bs.length) (layA (fun b => n + b) M.bs n m) b = V b := fun b hb => by
    unfold upd
    rw [newW_test, if_neg (by simp; omega)]
  have hupn : ∀ i b, M.bs[i]? = some b → upd V (newW n M.bs.length) (layA (fun b => n + b) M.bs n m) (n + i) = some (toB (rnB (fun b => n + b) b)) := fun i b hb => by
    have hi : i < M.bs.length := (List.getElem?_eq_some_iff.1 hb).1
    have e : n + i - n = i := by omega
    unfold upd
    rw [newW_test, if_pos (by simp; omega)]
    show layA _ M.bs n m (n + i) = _
    rw [layA_get, if_pos (by omega), e, hb]; rfl
  have hwr : ∀ (f : Nat → Nat) (b : FBlk), (toB (rnB f b)).wr = b.wr := fun f b => by rw [rnB_cells]; rfl
  refine ⟨ρ', v1, rfl, retV_rel hfit.leafs hren' (hfit.res ▸ hv1), hle, fun b p hb => ?_, ⟨fun b p O hb hO => ?_, fun b1 b2 p1 p2 O1 O2 h1 h2 hO1 hO2 hne hw1 => ?_, fun b p hb => ?_, Nat.le_trans hm.le hp1.below.size⟩, hp1.below.mono hm.le, Nat.le_add_right _ _, fun k hk _ => hp1.below.block k hk, fun b p hb => ?_, fun b hb => ?_⟩
  · rcases hinv b p hb with ⟨h1, h2⟩ | ⟨i, hi, rfl, h2⟩
    · exact .inl h2
    · exact .inr ⟨by omega, by omega⟩
  · rcases hinv b p hb with ⟨h1, h2⟩ | ⟨i, hi, rfl, h2⟩
    · rw [hupo b h1] at hO
      exact (hm.blk b p O h2 hO).mono hle (hp1.below.block _ (hm.fresh b p h2))
    · have hbi : M.bs[i]? = some M.bs[i] := List.getElem?_eq_getElem hi
      rw [hupn i _ hbi] at hO
      injection hO with hO
      subst hO
      have hb1 := hp1.mrel.blk (pif M.pi i) p _ h2 (hup i _ hbi)
      rw [rnB_cells] at hb1 ⊢
      obtain ⟨g1, cc, el, fz, g2, g3, g4, g5, g6⟩ := hb1
      refine ⟨g1, cc, el, fz, g2, fun j x hx => ?_, fun hw => ⟨Nat.le_trans hm.le (g4 hw).1, (g4 hw).2⟩, g5, by simpa using g6⟩
      simp only [List.getElem?_map, Option.map_eq_some_iff] at hx
      obtain ⟨x1, ⟨x2, hx2, rfl⟩, rfl⟩ := hx
      obtain ⟨y, hy, hr⟩ := g3 j (toV (rn (pif M.pi) x2)) (by simp [hx2])
      exact ⟨y, hy, leaf_rel (List.all_eq_true.1 (hfit.blk i _ hbi).2.1 _ (List.mem_of_getElem? hx2)) hren' hr⟩
  · rcases hinv b1 p1 h1 with ⟨k1, k2⟩ | ⟨i1, hi1, rfl, k2⟩ <;> rcases hinv b2 p2 h2 with ⟨q1, q2⟩ | ⟨i2, hi2, rfl, q2⟩
    · rw [hupo b1 k1] at hO1
      rw [hupo b2 q1] at hO2
      exact hm.excl b1 b2 p1 p2 O1 O2 k2 q2 hO1 hO2 hne hw1
    · have := hm.fresh b1 p1 k2
      have := hfresh1 _ p2 q2
      omega
    · have := hm.fresh b2 p2 q2
      have := hfresh1 _ p1 k2
      omega
    · have g1 : M.bs[i1]? = some M.bs[i1] := List.getElem?_eq_getElem hi1
      have g2 : M.bs[i2]? = some M.bs[i2] := List.getElem?_eq_getElem hi2
      rw [hupn i1 _ g1] at hO1
      injection hO1 with hO1
      subst hO1
      have hl1 : i1 < M.pi.length := by rw [hfit.len]; exact hi1
      have hl2 : i2 < M.pi.length := by rw [hfit.len]; exact hi2
      refine hp1.mrel.excl (pif M.pi i1) (pif M.pi i2) p1 p2 _ _ k2 q2 (hup i1 _ g1) (hup i2 _ g2) (fun e => hne ?_) ?_
      · rw [pif_lt hl1, pif_lt hl2] at e
        have := (List.getElem_inj hfit.nodup).1 e
        rw [this]
      · rw [hwr]; rw [hwr] at hw1; exact hw1
  · rcases hinv b p hb with ⟨h1, h2⟩ | ⟨i, hi, rfl, h2⟩
    · exact Nat.lt_of_lt_of_le (hm.fresh b p h2) hp1.below.size
    · exact hp1.mrel.fresh _ p h2
  · rcases hinv b p hb with ⟨h1, h2⟩ | ⟨i, hi, rfl, h2⟩
    · exact .inl h2
    · exact .inr (.inl (hfresh1 _ p h2))
  · rw [newW_test] at hb
    simp at hb
    have hi : b - n < M.bs.length := by omega
    have hbi : M.bs[b - n]? = some M.bs[b - n] := List.getElem?_eq_getElem hi
    obtain ⟨p, hp⟩ := (hp1.wold _ (hfit.blk _ _ hbi).2.2).1
    refine ⟨⟨p, ?_⟩, fun h => by omega⟩
    have := hren' (b - n) p hi hp
    rwa [show n + (b - n) = b by omega] at this
end
end Go.Am.V
