/- The machine and its runs, part 5: AmDraw5 AmTree. -/
import Derived.RowKit3
import Derived.Test.YtkadpnfidbgmmaaDoorB4
set_option linter.unusedVariables false
set_option linter.unusedSimpArgs false
set_option linter.unusedSectionVars false
namespace Go.Am
open Go Go.RowKit
section
variable {μ : Type} [AMem μ] {P : Program}

theorem ready_iff {ops : Array Oper} {listed : Array Bool} {i : Nat} : i ∈ Region.ready .any ops listed ↔ ∃ o, ops[i]? = some o ∧ listed.getD i true = false ∧ ∀ e ∈ o.after.toList, Region.binds .any e = true → listed.getD e.on false = true := by
  unfold Region.ready
  rw [List.mem_filter, List.mem_range]
  constructor
  · rintro ⟨hi, h⟩
    rw [Array.getElem?_eq_getElem hi] at h ⊢
    simp only [Option.map_some, Option.getD_some, Bool.and_eq_true, Bool.not_eq_true'] at h
    refine ⟨_, rfl, h.1, fun e he hb => ?_⟩
    have := (Array.all_eq_true_iff_forall_mem.1 h.2) e (by simpa using he)
    rw [hb] at this; simpa using this
  · rintro ⟨o, ho, h1, h2⟩
    have hi : i < ops.size := (Array.getElem?_eq_some_iff.1 ho).1
    refine ⟨hi, ?_⟩
    rw [ho]
    simp only [Option.map_some, Option.getD_some, Bool.and_eq_true, Bool.not_eq_true']
    refine ⟨h1, Array.all_eq_true_iff_forall_mem.2 fun e he => ?_⟩
    cases hb : Region.binds .any e
    · rfl
    · simp [h2 e (by simpa using he) hb]

def Listed (listed : Array Bool) (j : Nat) : Prop := listed[j]? = some true
theorem listed_set {listed : Array Bool} {i : Nat} (hi : i < listed.size) : Listed (listed.setIfInBounds i true) = fun j => Listed listed j ∨ j = i := by
  funext j
  unfold Listed
  rw [Array.getElem?_setIfInBounds]
  by_cases e : i = j
  · subst e; simp [hi]
  · have : ¬ j = i := fun h => e h.symm
    simp [e, this]

section
variable {ops : Array Oper} {nt : Nat} {bs : List Nat} {G : Nat → St μ} {R W : Nat → Nat} {F : Nat} {ρ0 : Ren} {V : Nat → Option Blk} {w0 : World} {B : Nat}

theorem count_set {l : List Bool} {i : Nat} (h : l[i]? = some false) : (l.set i true).count false + 1 = l.count false := by
  induction l generalizing i with
  | nil => simp at h
  | cons x l ih =>
    cases i with
    | zero =>
      have h : x = false := by simpa using h
      subst h; simp
    | succ i =>
      have := ih (i := i) (by simpa using h)
      cases x <;> simp [List.count_cons] <;> omega
theorem count_zero {l : List Bool} (h : l.count false = 0) {i : Nat} (hi : i < l.length) : l[i]? = some true := by
  rw [List.getElem?_eq_getElem hi]
  cases hx : l[i]
  · have : false ∈ l := hx ▸ List.getElem_mem hi
    rw [List.count_eq_zero] at h
    exact absurd this h
  · rfl

theorem all_listed (hs : Setting P ops nt bs G R W F) {listed : Array Bool} (hsz : listed.size = ops.size) (h : Region.ready .any ops listed = []) : ∀ j, j < ops.size → Listed listed j := by
  intro j
  induction j using Nat.strongRecOn with
  | ind j ih =>
    intro hj
    unfold Listed
    rw [Array.getElem?_eq_getElem (by omega)]
    cases hb : listed[j]'(by omega)
    · exfalso
      have : j ∈ Region.ready .any ops listed := by
        rw [ready_iff]
        refine ⟨ops[j], Array.getElem?_eq_getElem hj, ?_, fun e he hbi => ?_⟩
        · rw [Array.getD_eq_getD_getElem?, Array.getElem?_eq_getElem (by omega), hb]; rfl
        · have hlt := hs.ord.back j _ (Array.getElem?_eq_getElem hj) e he hbi
          have := ih e.on hlt (by omega)
          unfold Listed at this
          rw [Array.getD_eq_getD_getElem?, this]; rfl
      rw [h] at this; cases this
    · rfl

theorem any_sim (hs : Setting P ops nt bs G R W F) (hag : Agree V (G 0).m (G 0).n F) (hf0 : Free ρ0 (G 0).n) (htext : ∀ k, k ≤ ops.size → Text nt G W ρ0 V w0 B k) {Q : Exit → Act → World → Prop}
    (hQ : ∀ S ρ VS w a, (∀ j, j < ops.size → S j) → Inv ops nt G W ρ0 V w0 B S ρ VS w a → Q .normal a w) :
    ∀ (fuel : Nat) (listed : Array Bool) (ρ : Ren) (VS : Nat → Option Blk) (w : World) (a : Act), listed.size = ops.size → listed.toList.count false = fuel → (∀ (j : Nat) o, ops[j]? = some o → Listed listed j → ∀ e ∈ o.after.toList, Region.binds .any e = true → Listed listed e.on) →
      Inv ops nt G W ρ0 V w0 B (Listed listed) ρ VS w a → wpAny P .any ops Q fuel listed a w := by
  intro fuel
  induction fuel with
  | zero =>
    intro listed ρ VS w a hsz hc hcl h
    have hall : ∀ j, j < ops.size → Listed listed j := by
      intro j hj
      have := count_zero hc (i := j) (by simpa [hsz] using hj)
      unfold Listed; simpa using this
    refine ⟨?_, hQ _ _ _ _ _ hall h⟩
    rw [List.eq_nil_iff_forall_not_mem]
    intro i hi
    obtain ⟨o, ho, h1, _⟩ := ready_iff.1 hi
    have := hall i (Array.getElem?_eq_some_iff.1 ho).1
    unfold Listed at this
    rw [Array.getD_eq_getD_getElem?, this] at h1; cases h1
  | succ fuel ih =>
    intro listed ρ VS w a hsz hc hcl h
    refine ⟨fun hr => hQ _ _ _ _ _ (all_listed hs hsz hr) h, fun i hi => ?_⟩
    obtain ⟨o, ho, h1, h2⟩ := ready_iff.1 hi
    have hio : i < ops.size := (Array.getElem?_eq_some_iff.1 ho).1
    have hil : i < listed.size := by omega
    have hli : listed[i]? = some false := by
      rw [Array.getD_eq_getD_getElem?, Array.getElem?_eq_getElem hil] at h1
      rw [Array.getElem?_eq_getElem hil]
      simpa using h1
    have hedge : ∀ e ∈ o.after.toList, Region.binds .any e = true → Listed listed e.on := by
      intro e he hb
      have := h2 e he hb
      unfold Listed
      rw [Array.getD_eq_getD_getElem?] at this
      cases hx : listed[e.on]? with
      | none => rw [hx] at this; cases this
      | some b => rw [hx] at this; simpa using this
    have hcl2 : ∀ j, j < ops.size → Listed listed j → ∀ i, (bs.getD j 0).testBit i = true → Listed listed i := by
      intro j hj hl
      have hoj : ops[j]? = some ops[j] := Array.getElem?_eq_getElem hj
      exact hs.ord.closed hcl j _ hoj (hcl j _ hoj hl)
    have hready : ∀ j, (bs.getD i 0).testBit j = true → Listed listed j := hs.ord.closed hcl i o ho hedge
    have hstep := Inv.step (Q := Q) (K := wpAny P .any ops Q fuel (listed.setIfInBounds i true)) hs hag hf0 htext hcl2 ho (by unfold Listed; rw [hli]; simp) hready h fun v' ρ' V' w' hinv => by
      refine ih _ ρ' V' w' _ (by simpa using hsz) ?_ ?_ (by rw [listed_set hil]; exact hinv)
      · have := count_set (l := listed.toList) (i := i) (by simpa using hli)
        rw [Array.toList_setIfInBounds]
        omega
      · rw [listed_set hil]
        intro j oj hj hl e he hb
        rcases hl with hl | rfl
        · exact .inl (hcl j oj hj hl e he hb)
        · rw [ho] at hj; injection hj with hj; subst hj
          exact .inl (hedge e he hb)
    unfold wpOp
    rw [ho]
    simp only
    split
    · rename_i hw; rw [if_pos hw] at hstep; exact .inl hstep
    · rename_i hw; rw [if_neg hw] at hstep; exact hstep
end

theorem draw_sim : DrawSim μ P := by
  intro rec nt ops bs l Γ Γe e m n X e' m' n' r wm hcall hloc ho hchk h
  obtain ⟨hX, _, _, G, R, W, hG0, hGL, hWM, hst⟩ := traces hcall hloc l ops.toList 0 [] bs Γ e m n 0 0 X e' m' n' r wm (by simp) hchk h
  refine ⟨hX, fun ρ V w B F a hd hsz he hF hag hm hfree => ?_⟩
  have hlen : 0 + ops.toList.length = ops.size := by simp
  rw [hlen] at hGL hWM
  have hs : Setting P ops nt bs G R W F := by
    refine ⟨ordered_of ho, fun j o hj => ?_, fun j hj => ?_, fun i j hij hj => ?_⟩
    · have hj' : j < ops.size := (Array.getElem?_eq_some_iff.1 hj).1
      exact (hst j o (Nat.zero_le _) (by simpa using hj') hj).1
    · have h1 := hst j _ (Nat.zero_le _) (by simpa using hj) (Array.getElem?_eq_getElem hj)
      exact Sub.trans (Sub.lor (Sub.trans h1.2.1 (Sub.left _ _)) (Sub.trans h1.2.2.1 (Sub.right _ _))) hF
    · have h1 := hst j _ (Nat.zero_le _) (by simpa using hj) (Array.getElem?_eq_getElem hj)
      exact h1.2.2.2.2 i (Nat.zero_le _) hij
  have hW : ∀ b, wm.testBit b = (WT W ops.size).testBit b := by
    have wt : ∀ k b, (WT W k).testBit b = true ↔ ∃ j, j < k ∧ (W j).testBit b = true := by
      intro k b
      induction k with
      | zero => simp [WT]
      | succ k ih =>
        show (Nat.lor (WT W k) (W k)).testBit b = true ↔ _
        rw [lor_test, Bool.or_eq_true, ih]
        constructor
        · rintro (⟨j, h1, h2⟩ | h1)
          · exact ⟨j, by omega, h2⟩
          · exact ⟨k, by omega, h1⟩
        · rintro ⟨j, h1, h2⟩
          by_cases ej : j = k
          · subst ej; exact .inr h2
          · exact .inl ⟨j, by omega, h2⟩
    intro b
    cases h1 : wm.testBit b
    · cases h2 : (WT W ops.size).testBit b
      · rfl
      · obtain ⟨j, h3, h4⟩ := (wt _ b).1 h2
        have h5 := (hst j _ (Nat.zero_le _) (by simpa using h3) (Array.getElem?_eq_getElem h3)).2.2.1 b h4
        rw [h1] at h5; cases h5
    · rcases hWM b h1 with h2 | ⟨j, _, h2, h3⟩
      · simp at h2
      · exact ((wt _ b).2 ⟨j, h2, h3⟩).symm
  have hWe : wm = WT W ops.size := Nat.eq_of_testBit_eq hW
  have hag' : Agree V (G 0).m (G 0).n F := by rw [hG0]; exact hag
  have hf' : Free ρ (G 0).n := by rw [hG0]; exact hfree
  have he' : EnvRel ρ (G 0).Γ (G 0).e a.tmps := by rw [hG0]; exact he
  have htext : ∀ k, k ≤ ops.size → Text nt G W ρ V w B k := fun k hk => hs.text hsz he' hag' hm hf' hk
  refine any_sim hs hag' hf' htext (Q := RegPost B ρ V w n m' n' wm nt Γe e') (fun S ρ2 VS w2 a2 hall hinv => ?_) ops.size (Array.replicate ops.size false) ρ V w a (by simp) (by simp) (fun j o _ hl => ?_) ?_
  · have hvt := hs.vt V (Nat.le_refl ops.size)
    have hview : VS = upd V wm m' := by
      funext b
      rw [hinv.view ops.size b (Nat.le_refl _) fun j hj _ => ⟨fun _ => hj, fun _ => hall j hj⟩, hvt, hGL, hWe]
    have hwm : ∀ b, wm.testBit b = true → ∃ j, j < ops.size ∧ S j ∧ (W j).testBit b = true := by
      intro b hb
      rcases hWM b hb with h2 | ⟨j, _, h2, h3⟩
      · simp at h2
      · exact ⟨j, h2, hall j h2, h3⟩
    have hwm2 : ∀ b, (∃ j, j < ops.size ∧ S j ∧ (W j).testBit b = true) → wm.testBit b = true := by
      rintro b ⟨j, h3, _, h4⟩
      exact (hst j _ (Nat.zero_le _) (by simpa using h3) (Array.getElem?_eq_getElem h3)).2.2.1 b h4
    refine ⟨ρ2, rfl, hinv.defers, hinv.size, fun i t hn => ?_, hinv.le, fun b p hb => ?_, by rw [← hview]; exact hinv.mrel, hinv.below, ?_, fun k hk hc => ?_, fun b p hb => ?_, fun b hb => ?_⟩
    · have := hinv.tmp ops.size t (Nat.le_refl _) fun j o hj _ => ⟨fun _ => (Array.getElem?_eq_some_iff.1 hj).1, fun _ => hall j (Array.getElem?_eq_some_iff.1 hj).1⟩
      rw [hGL] at this
      exact this i hn
    · rcases hinv.dom b p hb with h1 | ⟨j, h1, _, h3, h4⟩
      · exact .inl h1
      · refine .inr ⟨?_, ?_⟩
        · have := hs.num (Nat.zero_le j) (by omega)
          rw [hG0] at this
          exact Nat.le_trans this h3
        · have := hs.num (i := j + 1) (j := ops.size) (by omega) (Nat.le_refl _)
          rw [hGL] at this
          exact Nat.lt_of_lt_of_le h4 this
    · have := hs.num (Nat.zero_le ops.size) (Nat.le_refl _)
      rw [hG0, hGL] at this
      exact this
    · exact hinv.frame k hk fun b p h1 h2 => hc b p h1 (hwm2 b h2)
    · rcases hinv.newp b p hb with h1 | h1 | ⟨b0, p0, h1, h2, h3⟩
      · exact .inl h1
      · exact .inr (.inl h1)
      · exact .inr (.inr ⟨b0, p0, h1, hwm2 b0 h2, h3⟩)
    · obtain ⟨j, h1, h2, h3⟩ := hwm b hb
      refine ⟨hinv.wdom j b h1 h2 h3, fun hn => ?_⟩
      obtain ⟨ρk, wk, ak, _, _, hp, _⟩ := htext ops.size (Nat.le_refl _)
      exact (hp.wold b (by rw [← hWe]; exact hb)).2 (by rw [hG0]; exact hn)
  · unfold Listed at hl
    rw [Array.getElem?_replicate] at hl
    split at hl <;> simp at hl
  · have hno : ∀ j, ¬ Listed (Array.replicate ops.size false) j := by
      intro j hl
      unfold Listed at hl
      rw [Array.getElem?_replicate] at hl
      split at hl <;> simp at hl
    refine ⟨hd, hsz, fun k t hk hc => ?_, fun k b hk hc => ?_, hm, ρ.le_refl, fun b p h1 => .inl h1, Below.refl _ _, fun _ _ _ => rfl, fun b p h1 => .inl h1, fun j b _ h1 => absurd h1 (hno j)⟩
    · cases k with
      | zero => exact fun i hn => he' i t hn
      | succ k =>
        have h0 : TRel ρ (G 0).Γ (G 0).e t a.tmps[t]? := fun i hn => he' i t hn
        have h1 : TRel ρ (G 1).Γ (G 1).e t a.tmps[t]? := by
          have h2 : (0 : Nat) < ops.size := by omega
          refine (hs.step h2).keep _ _ _ (fun e => ?_) h0
          exact hno 0 ((hc 0 _ (Array.getElem?_eq_getElem h2) e).2 (by omega))
        exact keeps hs (i := 0) h1 (k + 1) (by omega) hk fun j o h2 h3 h4 h5 => hno j ((hc j o h4 h5).2 h3)
    · have : ∀ k, k ≤ ops.size → (∀ j, j < k → (W j).testBit b = false) → VT V G W k b = V b := by
        intro k
        induction k with
        | zero => intro _ _; rfl
        | succ k ih =>
          intro h1 h2
          rw [← ih (by omega) fun j h3 => h2 j (by omega)]
          show upd (VT V G W k) (W k) _ b = _
          unfold upd; rw [h2 k (by omega)]; simp
      refine (this k hk fun j hj => ?_).symm
      cases hb : (W j).testBit b
      · rfl
      · exact absurd ((hc j (by omega) hb).2 hj) (hno j)
end
end Go.Am
namespace Go.Am
open Go Go.RowKit
inductive Tr (α : Type) where
  | nil
  | leaf (a : α)
  | node (l r : Tr α)
noncomputable def Tr.lo {α : Type} (t : Tr α) : Tr α := Tr.rec (motive := fun _ => Tr α) .nil (fun _ => .nil) (fun l _ _ _ => l) t
noncomputable def Tr.hi {α : Type} (t : Tr α) : Tr α := Tr.rec (motive := fun _ => Tr α) .nil (fun _ => .nil) (fun _ r _ _ => r) t
noncomputable def Tr.val {α : Type} (t : Tr α) : Option α := Tr.rec (motive := fun _ => Option α) none (fun a => some a) (fun _ _ _ _ => none) t
noncomputable def Tr.get {α : Type} (d : Nat) : Tr α → Nat → Option α :=
  Nat.rec (motive := fun _ => Tr α → Nat → Option α) (fun t _ => t.val)
    (fun _ ih t i => Bool.rec (motive := fun _ => Option α) (ih t.hi (Nat.div i 2)) (ih t.lo (Nat.div i 2)) (Nat.beq (Nat.mod i 2) 0)) d
noncomputable def Tr.set {α : Type} (d : Nat) : Tr α → Nat → α → Tr α :=
  Nat.rec (motive := fun _ => Tr α → Nat → α → Tr α) (fun _ _ a => .leaf a)
    (fun _ ih t i a => Bool.rec (motive := fun _ => Tr α) (.node t.lo (ih t.hi (Nat.div i 2) a)) (.node (ih t.lo (Nat.div i 2) a) t.hi) (Nat.beq (Nat.mod i 2) 0)) d
theorem Tr.get_succ {α : Type} (d : Nat) (t : Tr α) (i : Nat) : Tr.get (d + 1) t i = if i % 2 = 0 then Tr.get d t.lo (i / 2) else Tr.get d t.hi (i / 2) := by
  show Bool.rec (motive := fun _ => Option α) (Tr.get d t.hi (i / 2)) (Tr.get d t.lo (i / 2)) (Nat.beq (i % 2) 0) = _
  cases h : Nat.beq (i % 2) 0
  · rw [if_neg (by intro e; rw [e] at h; simp at h)]
  · rw [if_pos (Nat.eq_of_beq_eq_true h)]
theorem Tr.set_succ {α : Type} (d : Nat) (t : Tr α) (i : Nat) (a : α) : Tr.set (d + 1) t i a = if i % 2 = 0 then .node (Tr.set d t.lo (i / 2) a) t.hi else .node t.lo (Tr.set d t.hi (i / 2) a) := by
  show Bool.rec (motive := fun _ => Tr α) (.node t.lo (Tr.set d t.hi (i / 2) a)) (.node (Tr.set d t.lo (i / 2) a) t.hi) (Nat.beq (i % 2) 0) = _
  cases h : Nat.beq (i % 2) 0
  · rw [if_neg (by intro e; rw [e] at h; simp at h)]
  · rw [if_pos (Nat.eq_of_beq_eq_true h)]
theorem Tr.get_set {α : Type} : ∀ (d : Nat) (t : Tr α) (i j : Nat) (a : α), i < 2 ^ d → j < 2 ^ d → Tr.get d (Tr.set d t i a) j = if j = i then some a else Tr.get d t j
  | 0, t, i, j, a, hi, hj => by
    have : j = i := by simp at hi hj; omega
    rw [if_pos this]; rfl
  | d + 1, t, i, j, a, hi, hj => by
    have h2 : 2 ^ (d + 1) = 2 * 2 ^ d := by rw [Nat.pow_succ]; omega
    rw [Tr.get_succ, Tr.set_succ, Tr.get_succ]
    have ih := fun t => Tr.get_set d t (i / 2) (j / 2) a (by omega) (by omega)
    by_cases ei : i % 2 = 0 <;> by_cases ej : j % 2 = 0
    · rw [if_pos ei, if_pos ej, if_pos ej]
      show Tr.get d (Tr.set d t.lo (i / 2) a) (j / 2) = _
      rw [ih]
      by_cases e : j = i
      · rw [if_pos e, if_pos (by omega)]
      · rw [if_neg e, if_neg (by omega)]
    · rw [if_pos ei, if_neg ej, if_neg ej, if_neg (by omega)]; rfl
    · rw [if_neg ei, if_pos ej, if_pos ej, if_neg (by omega)]; rfl
    · rw [if_neg ei, if_neg ej, if_neg ej]
      show Tr.get d (Tr.set d t.hi (i / 2) a) (j / 2) = _
      rw [ih]
      by_cases e : j = i
      · rw [if_pos e, if_pos (by omega)]
      · rw [if_neg e, if_neg (by omega)]

def TrM := Tr (Option Blk)
def flatO2 : Option (Option Blk) → Option Blk
  | some x => x
  | none => none
noncomputable instance : AMem TrM where
  get t b := cond (Nat.blt b 1024) (flatO2 (Tr.get 10 t b)) none
  put t b x := Tr.set 10 t b x
  lim _ b := Nat.blt b 1024
  get_put m i j x h := by
    have hi : i < 2 ^ 10 := by simpa using h
    cases hj : Nat.blt j 1024
    · simp only [cond_false]
      rw [if_neg]
      intro e; subst e; rw [h] at hj; cases hj
    · have hj' : j < 2 ^ 10 := by simpa using hj
      simp only [cond_true]
      have := Tr.get_set 10 m i j x hi hj'
      rw [this]
      by_cases e : j = i
      · rw [if_pos e, if_pos e]; rfl
      · rw [if_neg e, if_neg e]
  get_lim m i x h := by
    cases hj : Nat.blt i 1024
    · rw [hj] at h; cases h
    · rfl
  lim_put _ _ _ _ := rfl
def m0 : TrM := Tr.nil

/-- a table of functions -/
noncomputable def look (l : List (Nat × AFn)) (f : Nat) : Option AFn := List.rec (motive := fun _ => Option AFn) none (fun p _ r => Bool.rec (motive := fun _ => Option AFn) r (some p.2) (Nat.beq p.1 f)) l
inductive Good (P : Program) : List (Nat × AFn) → Prop where
  | nil : Good P []
  | cons {f : Nat} {fn : Func} {af : AFn} {l : List (Nat × AFn)} (h : P.funcs[f]? = some fn) (hc : chkFn P fn af = true) (hl : Good P l) : Good P ((f, af) :: l)
theorem Good.look {P : Program} {l : List (Nat × AFn)} (h : Good P l) : ∀ f af, Am.look l f = some af → ∃ fn, P.funcs[f]? = some fn ∧ chkFn P fn af = true := by
  induction h with
  | nil => intro f af h; cases h
  | @cons g fn ag l h hc hl ih =>
    intro f af he
    replace he : Bool.rec (motive := fun _ => Option AFn) (Am.look l f) (some ag) (Nat.beq g f) = some af := he
    cases hb : Nat.beq g f
    · rw [hb] at he; exact ih f af he
    · rw [hb] at he
      have he : ag = af := by injection he
      subst he
      have := Nat.eq_of_beq_eq_true hb
      subst this
      exact ⟨fn, h, hc⟩

/-- a call from an empty memory -/
noncomputable def call0 (P : Program) (tab : List (Nat × AFn)) (Y : Nat → List Value → TrM → Nat → OR TrM) (k f : Nat) (args : List Value) : OR TrM := callA (look tab) Y (exec P (look tab) Y k) f args m0 0
/-- no function besides the table's -/
def noY : Nat → List Value → TrM → Nat → OR TrM := fun _ _ _ _ => .no
theorem noY_loc : CallLoc noY := fun _ _ _ _ _ _ _ _ _ h => nomatch h
theorem noY_sim {P : Program} : CallSim P noY := fun _ _ _ _ _ _ _ _ _ h => nomatch h
def gaveTrue : OR TrM → Bool
  | .ok (.bool b) _ _ _ _ => b
  | _ => false
def gaveBool : OR TrM → Option Bool
  | .ok (.bool b) _ _ _ _ => some b
  | _ => none
theorem gaveTrue_ok {x : OR TrM} (h : gaveTrue x = true) : ∃ m n r w, x = .ok (.bool true) m n r w := by
  unfold gaveTrue at h
  split at h
  · subst h; exact ⟨_, _, _, _, rfl⟩
  · cases h

theorem mrel_none (w : World) : MRel (fun _ => none) (fun _ => none) w w.heap.size := ⟨fun b p O h => (nomatch h), fun b1 b2 p1 p2 O1 O2 h => (nomatch h), fun b p h => (nomatch h), Nat.le_refl _⟩

theorem top {P : Program} (hmix : P.follows .mixedOrders = true) {tab : List (Nat × AFn)} (hg : Good P tab) {Y : Nat → List Value → TrM → Nat → OR TrM} (hY : CallLoc Y) (hYs : CallSim P Y) {k f : Nat} {args : List Value} (ha : args.all flat = true) (h : gaveTrue (call0 P tab Y k f args) = true) (w : World) :
    Calls P f args.toArray w fun e w' => e = .returned (.bool true) ∧ Below w.heap.size w w' := by
  obtain ⟨m, n, r, wm, h⟩ := gaveTrue_ok h
  have hsim := call_sim (μ := TrM) hY hYs hg.look (code_sim hmix draw_sim hY hYs hg.look k).1
  obtain ⟨_, hc⟩ := hsim f args m0 0 (.bool true) m n r wm h (fun _ => none) (fun _ => none) w w.heap.size (Nat.lor r wm) args.toArray (flats_rel _ ha) (Sub.refl _) (fun b hb => by omega) (mrel_none w) (fun _ _ => rfl)
  refine hc.mono fun e w' hh => ?_
  obtain ⟨ρ', v', rfl, hv, hp⟩ := hh
  rw [hv.flat_eq rfl]
  exact ⟨rfl, hp.below⟩
end Go.Am
