/- A region whose operations go in any order that its edges allow: the invariant. -/
import Derived.Test.YtaohgpgbphlblaaAmDraw3
set_option linter.unusedVariables false
set_option linter.unusedSimpArgs false
set_option linter.unusedSectionVars false
namespace Go.Am
open Go Go.RowKit
section
variable {μ : Type} [AMem μ] {P : Program}

def VT (V : Nat → Option Blk) (G : Nat → St μ) (W : Nat → Nat) : Nat → Nat → Option Blk
  | 0 => V
  | k + 1 => upd (VT V G W k) (W k) (G (k + 1)).m
def WT (W : Nat → Nat) : Nat → Nat
  | 0 => 0
  | k + 1 => Nat.lor (WT W k) (W k)

structure Setting (P : Program) (ops : Array Oper) (nt : Nat) (bs : List Nat) (G : Nat → St μ) (R W : Nat → Nat) (F : Nat) : Prop where
  ord : Ordered ops bs
  st : ∀ (j : Nat) o, ops[j]? = some o → SStep P ops nt o (G j) (G (j + 1)) (R j) (W j)
  sub : ∀ j, j < ops.size → Sub (Nat.lor (R j) (W j)) F
  ap : ∀ i j, i < j → j < ops.size → Apart (bs.getD j 0) (R j) (W j) (i, R i, W i)

omit [AMem μ] in
theorem put_ne {a : Act} {dst : Option Tmp} {v : Value} {t : Nat} (h : dst ≠ some t) : (a.put dst v).tmps[t]? = a.tmps[t]? := by
  cases dst with
  | none => rfl
  | some d =>
    have hne : d ≠ t := fun e => h (by rw [e])
    simp [Act.put, Array.getElem?_setIfInBounds_ne hne]
omit [AMem μ] in
theorem put_eq {a : Act} {v : Value} {t : Nat} (h : t < a.tmps.size) : (a.put (some t) v).tmps[t]? = some v := by
  simp [Act.put, h]

omit [AMem μ] in
theorem wp_some {o : Oper} {a : Act} {w : World} {K : Act → World → Prop} (h : o.wp P a w K fun _ _ _ => False) : ∃ a' w', K a' w' := by
  unfold Oper.wp Oper.upon at h
  split at h
  · exact ⟨_, _, h⟩
  · exact ⟨_, _, h⟩
  · exact ⟨_, _, h⟩
  · obtain ⟨e, w', fr, hr, _⟩ := h []
    cases e with
    | returned v => exact ⟨_, _, hr⟩
    | panicked c => exact hr.elim
    | outgrown => obtain ⟨_, _, hr⟩ := hr; exact hr.elim
  · obtain ⟨v, w', hr, _⟩ := h default []
    exact ⟨_, _, hr⟩
  · exact h.elim
  · exact h.elim

section
variable {ops : Array Oper} {nt : Nat} {bs : List Nat} {G : Nat → St μ} {R W : Nat → Nat} {F : Nat} {ρ0 : Ren} {V : Nat → Option Blk} {w0 : World} {B : Nat}

theorem Setting.step (hs : Setting P ops nt bs G R W F) {j : Nat} (h : j < ops.size) : SStep P ops nt ops[j] (G j) (G (j + 1)) (R j) (W j) := hs.st j _ (Array.getElem?_eq_getElem h)
theorem Setting.num (hs : Setting P ops nt bs G R W F) {i j : Nat} (hij : i ≤ j) (hj : j ≤ ops.size) : (G i).n ≤ (G j).n := by
  induction j with
  | zero => have : i = 0 := by omega
            subst this; exact Nat.le_refl _
  | succ j ih =>
    by_cases e : i = j + 1
    · subst e; exact Nat.le_refl _
    · exact Nat.le_trans (ih (by omega) (by omega)) (hs.step (j := j) (by omega)).loc.num
theorem Setting.loc (hs : Setting P ops nt bs G R W F) : ∀ {k : Nat}, k ≤ ops.size → Loc (G 0).m (G 0).n (G k).m (G k).n (WT W k)
  | 0, _ => Loc.refl _ _
  | k + 1, h => (hs.loc (k := k) (by omega)).trans (hs.step (j := k) (by omega)).loc
theorem Setting.vt (hs : Setting P ops nt bs G R W F) (V : Nat → Option Blk) : ∀ {k : Nat}, k ≤ ops.size → VT V G W k = upd V (WT W k) (G k).m
  | 0, _ => (upd_zero V _).symm
  | k + 1, h => by
    have ih := hs.vt V (k := k) (by omega)
    show upd (VT V G W k) (W k) (G (k + 1)).m = _
    rw [ih]
    exact upd_upd (n1 := (G k).n) (hs.step (j := k) (by omega)).loc
theorem Setting.agree (hs : Setting P ops nt bs G R W F) (h : Agree V (G 0).m (G 0).n F) : ∀ {k : Nat}, k ≤ ops.size → Agree (VT V G W k) (G k).m (G k).n F
  | 0, _ => h
  | k + 1, hk => (hs.agree h (k := k) (by omega)).step (hs.step (j := k) (by omega)).loc

/-- the run in the text's order -/
def Text (nt : Nat) (G : Nat → St μ) (W : Nat → Nat) (ρ0 : Ren) (V : Nat → Option Blk) (w0 : World) (B k : Nat) : Prop :=
  ∃ (ρk : Ren) (wk : World) (ak : Act), ak.tmps.size = nt ∧ (∀ t, TRel ρk (G k).Γ (G k).e t ak.tmps[t]?) ∧ Post ρ0 V w0 B (G 0).n (G k).m (G k).n (WT W k) ρk wk ∧ Free ρk (G k).n
theorem Setting.text (hs : Setting P ops nt bs G R W F) {a : Act} (hsz : a.tmps.size = nt) (he : EnvRel ρ0 (G 0).Γ (G 0).e a.tmps) (hag : Agree V (G 0).m (G 0).n F) (hm : MRel ρ0 V w0 B) (hf : Free ρ0 (G 0).n) :
    ∀ {k : Nat}, k ≤ ops.size → Text nt G W ρ0 V w0 B k
  | 0, _ => ⟨ρ0, w0, a, hsz, fun t i hn => he i t hn, Post.same hm _ _, hf⟩
  | k + 1, hk => by
    obtain ⟨ρk, wk, ak, h1, h2, h3, h4⟩ := hs.text hsz he hag hm hf (k := k) (by omega)
    have hst := hs.step (j := k) (by omega)
    have hvt := hs.vt V (k := k) (by omega)
    have hmk := h3.mrel
    rw [← hvt] at hmk
    have key := hst.sim ρk (VT V G W k) wk B F ak h1 (fun t _ => h2 t) (hs.sub k (by omega)) (hs.agree hag (by omega)) hmk h4
      (fun a' w' => ∃ v' ρ', (∀ d, ops[k].dst = some d → d < nt ∧ TRel ρ' (G (k + 1)).Γ (G (k + 1)).e d (some v')) ∧ Post ρk (VT V G W k) wk B (G k).n (G (k + 1)).m (G (k + 1)).n (W k) ρ' w' ∧ a' = ak.put ops[k].dst v') (fun _ _ _ => False)
      (fun v' ρ' w' hd hp => ⟨v', ρ', hd, hp, rfl⟩)
    have ex : ∃ a' w' v' ρ', (∀ d, ops[k].dst = some d → d < nt ∧ TRel ρ' (G (k + 1)).Γ (G (k + 1)).e d (some v')) ∧ Post ρk (VT V G W k) wk B (G k).n (G (k + 1)).m (G (k + 1)).n (W k) ρ' w' ∧ a' = ak.put ops[k].dst v' := by
      split at key
      · exact wp_some key
      · exact ⟨_, _, key⟩
    obtain ⟨a', w', v', ρ', hd, hp, rfl⟩ := ex
    refine ⟨ρ', w', ak.put ops[k].dst v', by rw [put_size]; exact h1, fun t => ?_, ?_, h4.next hp⟩
    · by_cases e : ops[k].dst = some t
      · obtain ⟨hlt, ht⟩ := hd t e
        rw [e, put_eq (by rw [h1]; exact hlt)]; exact ht
      · rw [put_ne e]
        exact hst.keep _ _ _ e ((h2 t).mono hp.le)
    · rw [hvt] at hp
      exact h3.trans hp hst.loc

/-- what holds when the operations of 'S' are done -/
structure Inv (ops : Array Oper) (nt : Nat) (G : Nat → St μ) (W : Nat → Nat) (ρ0 : Ren) (V : Nat → Option Blk) (w0 : World) (B : Nat) (S : Nat → Prop) (ρ : Ren) (VS : Nat → Option Blk) (w : World) (a : Act) : Prop where
  defers : a.defers = []
  size : a.tmps.size = nt
  tmp : ∀ k t, k ≤ ops.size → (∀ (j : Nat) o, ops[j]? = some o → o.dst = some t → (S j ↔ j < k)) → TRel ρ (G k).Γ (G k).e t a.tmps[t]?
  view : ∀ k b, k ≤ ops.size → (∀ j, j < ops.size → (W j).testBit b = true → (S j ↔ j < k)) → VS b = VT V G W k b
  mrel : MRel ρ VS w B
  le : ρ0.le ρ
  dom : ∀ b p, ρ b = some p → ρ0 b = some p ∨ ∃ j, j < ops.size ∧ S j ∧ (G j).n ≤ b ∧ b < (G (j + 1)).n
  below : Below B w0 w
  frame : ∀ k, k < w0.heap.size → (∀ b p, ρ0 b = some p → (∃ j, j < ops.size ∧ S j ∧ (W j).testBit b = true) → p.blk ≠ k) → w.heap[k]? = w0.heap[k]?
  newp : ∀ b p, ρ b = some p → ρ0 b = some p ∨ w0.heap.size ≤ p.blk ∨ ∃ b0 p0, ρ0 b0 = some p0 ∧ (∃ j, j < ops.size ∧ S j ∧ (W j).testBit b0 = true) ∧ p0.blk = p.blk
  wdom : ∀ j b, j < ops.size → S j → (W j).testBit b = true → ∃ p, ρ b = some p

theorem keeps (hs : Setting P ops nt bs G R W F) {ρ : Ren} {t i : Nat} {oy : Option Value} (h : TRel ρ (G (i + 1)).Γ (G (i + 1)).e t oy) : ∀ k, i < k → k ≤ ops.size → (∀ (j : Nat) o, i < j → j < k → ops[j]? = some o → o.dst ≠ some t) → TRel ρ (G k).Γ (G k).e t oy := by
  intro k
  induction k with
  | zero => intro h1; omega
  | succ k ih =>
    intro h1 h2 h3
    by_cases e : i = k
    · subst e; exact h
    · have hk : k < ops.size := by omega
      exact (hs.step (j := k) hk).keep _ _ _ (h3 k _ (by omega) (by omega) (Array.getElem?_eq_getElem hk)) (ih (by omega) (by omega) fun j o h4 h5 => h3 j o h4 (by omega))
theorem views {i b : Nat} (V : Nat → Option Blk) (G : Nat → St μ) (W : Nat → Nat) : ∀ k, i < k → (∀ j, i < j → j < k → (W j).testBit b = false) → VT V G W k b = VT V G W (i + 1) b := by
  intro k
  induction k with
  | zero => intro h1; omega
  | succ k ih =>
    intro h1 h3
    by_cases e : i = k
    · subst e; rfl
    · rw [← ih (by omega) fun j h4 h5 => h3 j h4 (by omega)]
      show upd (VT V G W k) (W k) _ b = _
      unfold upd
      rw [h3 k (by omega) (by omega)]; simp

set_option maxHeartbeats 1000000 in
theorem Inv.step (hs : Setting P ops nt bs G R W F) (hag : Agree V (G 0).m (G 0).n F) (hf0 : Free ρ0 (G 0).n) (htext : ∀ k, k ≤ ops.size → Text nt G W ρ0 V w0 B k) {S : Nat → Prop} (hcl : ∀ j, j < ops.size → S j → ∀ i, (bs.getD j 0).testBit i = true → S i)
    {i : Nat} {o : Oper} (ho : ops[i]? = some o) (hni : ¬ S i) (hready : ∀ j, (bs.getD i 0).testBit j = true → S j) {ρ : Ren} {VS : Nat → Option Blk} {w : World} {a : Act} (h : Inv ops nt G W ρ0 V w0 B S ρ VS w a)
    {K : Act → World → Prop} {Q : Exit → Act → World → Prop} (hK : ∀ v' ρ' V' w', Inv ops nt G W ρ0 V w0 B (fun j => S j ∨ j = i) ρ' V' w' (a.put o.dst v') → K (a.put o.dst v') w') :
    if Region.wanted o (yielded ops a.tmps) then o.wp P a w K Q else K (a.put o.dst undef) w := by
  have hi : i < ops.size := (Array.getElem?_eq_some_iff.1 ho).1
  have hst := hs.st i o ho
  have hnum : (G i).n ≤ (G (i + 1)).n := hst.loc.num
  -- the temporaries that it looks at
  have condT : ∀ t ∈ looks ops o, ∀ (j : Nat) oj, ops[j]? = some oj → oj.dst = some t → (S j ↔ j < i) := by
    intro t ht j oj hj hd
    have hj' : j < ops.size := (Array.getElem?_eq_some_iff.1 hj).1
    rcases Nat.lt_trichotomy j i with hlt | rfl | hgt
    · refine ⟨fun _ => hlt, fun _ => ?_⟩
      rcases hs.ord.tmp j i oj o hlt hj ho with h1 | h1
      · exact hready j h1
      · exact absurd ht ((apart_tmp h1).1 t hd).1
    · exact ⟨fun h => absurd h hni, fun h => absurd h (Nat.lt_irrefl _)⟩
    · refine ⟨fun hSj => ?_, fun h => by omega⟩
      rcases hs.ord.tmp i j o oj hgt ho hj with h1 | h1
      · exact absurd (hcl j hj' hSj i h1) hni
      · exact absurd ht ((apart_tmp h1).2 t hd)
  have condW : ∀ b, (Nat.lor (R i) (W i)).testBit b = true → ∀ j, j < ops.size → (W j).testBit b = true → (S j ↔ j < i) := by
    intro b hb j hj hw
    rw [lor_test, Bool.or_eq_true] at hb
    rcases Nat.lt_trichotomy j i with hlt | rfl | hgt
    · refine ⟨fun _ => hlt, fun _ => ?_⟩
      rcases hs.ap j i hlt hi with h1 | h1
      · exact hready j h1
      · have h2 := h1 b
        rcases hb with hb | hb
        · rw [h2.2 hw] at hb; cases hb
        · have := (h2.1 hb).2
          rw [hw] at this; cases this
    · exact ⟨fun h => absurd h hni, fun h => absurd h (Nat.lt_irrefl _)⟩
    · refine ⟨fun hSj => ?_, fun h => by omega⟩
      rcases hs.ap i j hgt hj with h1 | h1
      · exact absurd (hcl j hj hSj i h1) hni
      · have h2 := (h1 b).1 hw
        rcases hb with hb | hb
        · rw [h2.1] at hb; cases hb
        · rw [h2.2] at hb; cases hb
  obtain ⟨ρk, wk, ak, _, htk, hpk, hfk⟩ := htext i (by omega)
  have hvk : VT V G W i = upd V (WT W i) (G i).m := hs.vt V (by omega)
  have hmk := hpk.mrel
  rw [← hvk] at hmk
  have hview : ∀ b, (Nat.lor (R i) (W i)).testBit b = true → VS b = VT V G W i b := fun b hb => h.view i b (by omega) (condW b hb)
  -- the part of the state that it sees
  generalize hV' : (fun b => if (Nat.lor (R i) (W i)).testBit b = true then VS b else none : Nat → Option Blk) = V'
  have hV1 : ∀ b, (Nat.lor (R i) (W i)).testBit b = true → V' b = VS b := by intro b hb; rw [← hV']; simp only; rw [if_pos hb]
  have hV2 : ∀ b O, V' b = some O → (Nat.lor (R i) (W i)).testBit b = true ∧ VS b = some O := by
    intro b O hb
    rw [← hV'] at hb
    simp only at hb
    split at hb
    · exact ⟨‹_›, hb⟩
    · cases hb
  have hm' : MRel (meet ρ ρk) V' w B := by
    refine ⟨fun b p O h1 h2 => ?_, fun b1 b2 p1 p2 O1 O2 h1 h2 h3 h4 => h.mrel.excl b1 b2 p1 p2 O1 O2 (meet_some h1).1 (meet_some h2).1 (hV2 _ _ h3).2 (hV2 _ _ h4).2, fun b p h1 => h.mrel.fresh b p (meet_some h1).1, h.mrel.le⟩
    obtain ⟨h3, q, h4⟩ := meet_some h1
    obtain ⟨h5, h6⟩ := hV2 b O h2
    exact (h.mrel.blk b p O h3 h6).meet (hmk.blk b q O h4 (by rw [← hview b h5]; exact h6))
  have hag' : Agree V' (G i).m (G i).n (Nat.lor (R i) (W i)) := by
    intro b hb hb2
    rw [hV1 b hb2, hview b hb2]
    exact hs.agree hag (by omega) b hb (hs.sub i hi b hb2)
  have hf' : Free (meet ρ ρk) (G i).n := by
    intro b hb
    unfold meet; rw [hfk b hb]
  refine hst.sim (meet ρ ρk) V' w B (Nat.lor (R i) (W i)) a h.size (fun t ht => ?_) (Sub.refl _) hag' hm' hf' K Q fun v' ρ2 w' hd hp => ?_
  · exact (h.tmp i t (by omega) (condT t ht)).meet (htk t)
  -- what it leaves
  have hlow : ∀ b p, meet ρ ρk b = some p → b < (G i).n := by
    intro b p hb
    rcases Nat.lt_or_ge b (G i).n with h1 | h1
    · exact h1
    · rw [hf' b h1] at hb; cases hb
  have hnone : ∀ b, (G i).n ≤ b → b < (G (i + 1)).n → ρ b = none := by
    intro b h1 h2
    cases hb : ρ b with
    | none => rfl
    | some p =>
      rcases h.dom b p hb with h3 | ⟨j, h3, h4, h5, h6⟩
      · rw [hf0 b (Nat.le_trans (hs.num (Nat.zero_le i) (by omega)) h1)] at h3; cases h3
      · rcases Nat.lt_trichotomy j i with hlt | rfl | hgt
        · have := hs.num (i := j + 1) (j := i) (by omega) (by omega); omega
        · exact absurd h4 hni
        · have := hs.num (i := i + 1) (j := j) (by omega) (by omega); omega
  generalize hρN : (fun b => if (G i).n ≤ b ∧ b < (G (i + 1)).n then ρ2 b else ρ b : Ren) = ρN
  have hN1 : ∀ b, (G i).n ≤ b → b < (G (i + 1)).n → ρN b = ρ2 b := by intro b h1 h2; rw [← hρN]; simp only; rw [if_pos ⟨h1, h2⟩]
  have hN2 : ∀ b, ¬ ((G i).n ≤ b ∧ b < (G (i + 1)).n) → ρN b = ρ b := by intro b h1; rw [← hρN]; simp only; rw [if_neg h1]
  have hle1 : ρ.le ρN := by
    intro b p hb
    by_cases hr : (G i).n ≤ b ∧ b < (G (i + 1)).n
    · rw [hnone b hr.1 hr.2] at hb; cases hb
    · rw [hN2 b hr]; exact hb
  have hle2 : ρ2.le ρN := by
    intro b p hb
    rcases hp.dom b p hb with h1 | h1
    · exact hle1 b p (meet_some h1).1
    · rw [hN1 b h1.1 h1.2]; exact hb
  have hw2 : ∀ b, (W i).testBit b = true → ∀ p, ρN b = some p → ρ2 b = some p := by
    intro b hb p hbp
    by_cases hr : (G i).n ≤ b ∧ b < (G (i + 1)).n
    · rwa [hN1 b hr.1 hr.2] at hbp
    · obtain ⟨⟨q, h1⟩, _⟩ := hp.wold b hb
      have := hle2 b q h1
      rw [this] at hbp
      rw [h1, hbp]
  have hold : ∀ b, (W i).testBit b = false → ∀ p, ρN b = some p → ρ b = some p := by
    intro b hb p hbp
    by_cases hr : (G i).n ≤ b ∧ b < (G (i + 1)).n
    · rw [hst.loc.made b hr.1 hr.2] at hb; cases hb
    · rwa [hN2 b hr] at hbp
  have hu1 : ∀ b, (W i).testBit b = true → upd VS (W i) (G (i + 1)).m b = upd V' (W i) (G (i + 1)).m b := by intro b hb; unfold upd; rw [hb]; simp
  have hu2 : ∀ b, (W i).testBit b = false → upd VS (W i) (G (i + 1)).m b = VS b := by intro b hb; unfold upd; rw [hb]; simp
  -- what was written before was the machine's own
  have hwr : ∀ b p, meet ρ ρk b = some p → (W i).testBit b = true → ρ b = some p ∧ ∃ O, VS b = some O ∧ O.wr = true := by
    intro b p h1 h2
    obtain ⟨_, h3⟩ := hp.wold b h2
    obtain ⟨O, h4, h5⟩ := h3 (hlow b p h1)
    exact ⟨(meet_some h1).1, O, (hV2 b O h4).2, h5⟩
  -- an old place that is not written is as it was
  have hsame : ∀ b p O, (W i).testBit b = false → ρ b = some p → VS b = some O → w'.heap[p.blk]? = w.heap[p.blk]? := by
    intro b p O h1 h2 h3
    refine hp.frame p.blk (h.mrel.fresh b p h2) fun b2 p2 h4 h5 => ?_
    obtain ⟨h6, O2, h7, h8⟩ := hwr b2 p2 h4 h5
    exact h.mrel.excl b2 b p2 p O2 O h6 h2 h7 h3 (by intro e; subst e; rw [h1] at h5; cases h5) h8
  -- a written place is none of the old that are not written
  have hapart : ∀ b1 p1, (W i).testBit b1 = true → ρ2 b1 = some p1 → ∀ b2 p2 O2, (W i).testBit b2 = false → ρ b2 = some p2 → VS b2 = some O2 → p1.blk ≠ p2.blk := by
    intro b1 p1 h1 h2 b2 p2 O2 h3 h4 h5
    have old : ∀ b3 p3, meet ρ ρk b3 = some p3 → (W i).testBit b3 = true → p3.blk ≠ p2.blk := by
      intro b3 p3 h6 h7
      obtain ⟨h8, O3, h9, h10⟩ := hwr b3 p3 h6 h7
      exact h.mrel.excl b3 b2 p3 p2 O3 O2 h8 h4 h9 h5 (by intro e; subst e; rw [h3] at h7; cases h7) h10
    rcases hp.newp b1 p1 h2 with h6 | h6 | ⟨b0, p0, h6, h7, h8⟩
    · exact old b1 p1 h6 h1
    · have := h.mrel.fresh b2 p2 h4; omega
    · rw [← h8]; exact old b0 p0 h6 h7
  refine hK v' ρN (upd VS (W i) (G (i + 1)).m) w' ⟨by rw [put_defers]; exact h.defers, by rw [put_size]; exact h.size, ?_, ?_, ⟨?_, ?_, ?_, ?_⟩, Ren.le_trans h.le hle1, ?_, h.below.trans hp.below, ?_, ?_, ?_⟩
  · -- temporaries
    intro k t hk hc
    by_cases e : o.dst = some t
    · obtain ⟨hlt, ht⟩ := hd t e
      have hik : i < k := (hc i o ho e).1 (.inr rfl)
      rw [e, put_eq (by rw [h.size]; exact hlt)]
      refine keeps hs (ht.mono hle2) k hik hk fun j oj h1 h2 h3 h4 => ?_
      have hSj : S j := by
        rcases (hc j oj h3 h4).2 h2 with h5 | h5
        · exact h5
        · omega
      rcases hs.ord.tmp i j o oj h1 ho h3 with h5 | h5
      · exact hni (hcl j (by omega) hSj i h5)
      · exact ((apart_tmp h5).1 t e).2 h4
    · rw [put_ne e]
      refine (h.tmp k t hk fun j oj h1 h2 => ?_).mono hle1
      have hji : j ≠ i := by intro e2; subst e2; rw [ho] at h1; injection h1 with h1; subst h1; exact e h2
      rw [← hc j oj h1 h2]
      exact ⟨.inl, fun h3 => h3.resolve_right hji⟩
  · -- blocks
    intro k b hk hc
    cases hb : (W i).testBit b
    · rw [hu2 b hb]
      refine h.view k b hk fun j h1 h2 => ?_
      have hji : j ≠ i := by intro e2; subst e2; rw [hb] at h2; cases h2
      rw [← hc j h1 h2]
      exact ⟨.inl, fun h3 => h3.resolve_right hji⟩
    · have hik : i < k := (hc i hi hb).1 (.inr rfl)
      rw [views (i := i) V G W k hik fun j h1 h2 => ?_]
      · show upd VS (W i) _ b = upd (VT V G W i) (W i) _ b
        unfold upd; rw [hb]; simp
      · cases hj : (W j).testBit b
        · rfl
        · have hSj : S j := by
            rcases (hc j (by omega) hj).2 h2 with h5 | h5
            · exact h5
            · omega
          rcases hs.ap i j h1 (by omega) with h5 | h5
          · exact absurd (hcl j (by omega) hSj i h5) hni
          · have := ((h5 b).1 hj).2
            rw [hb] at this; cases this
  · -- a block and its place
    intro b p O h1 h2
    cases hb : (W i).testBit b
    · rw [hu2 b hb] at h2
      have h3 := hold b hb p h1
      exact (h.mrel.blk b p O h3 h2).mono hle1 (hsame b p O hb h3 h2)
    · rw [hu1 b hb] at h2
      exact (hp.mrel.blk b p O (hw2 b hb p h1) h2).mono hle2 rfl
  · -- places are apart
    intro b1 b2 p1 p2 O1 O2 h1 h2 h3 h4 hne hw
    cases hb1 : (W i).testBit b1
    · rw [hu2 b1 hb1] at h3
      have h5 := hold b1 hb1 p1 h1
      cases hb2 : (W i).testBit b2
      · rw [hu2 b2 hb2] at h4
        exact h.mrel.excl b1 b2 p1 p2 O1 O2 h5 (hold b2 hb2 p2 h2) h3 h4 hne hw
      · exact fun e => hapart b2 p2 hb2 (hw2 b2 hb2 p2 h2) b1 p1 O1 hb1 h5 h3 e.symm
    · rw [hu1 b1 hb1] at h3
      have h5 := hw2 b1 hb1 p1 h1
      cases hb2 : (W i).testBit b2
      · rw [hu2 b2 hb2] at h4
        exact hapart b1 p1 hb1 h5 b2 p2 O2 hb2 (hold b2 hb2 p2 h2) h4
      · rw [hu1 b2 hb2] at h4
        exact hp.mrel.excl b1 b2 p1 p2 O1 O2 h5 (hw2 b2 hb2 p2 h2) h3 h4 hne hw
  · intro b p h1
    by_cases hr : (G i).n ≤ b ∧ b < (G (i + 1)).n
    · rw [hN1 b hr.1 hr.2] at h1; exact hp.mrel.fresh b p h1
    · rw [hN2 b hr] at h1; exact Nat.lt_of_lt_of_le (h.mrel.fresh b p h1) hp.below.size
  · exact hp.mrel.le
  · intro b p h1
    by_cases hr : (G i).n ≤ b ∧ b < (G (i + 1)).n
    · exact .inr ⟨i, hi, .inr rfl, hr⟩
    · rw [hN2 b hr] at h1
      rcases h.dom b p h1 with h2 | ⟨j, h2, h3, h4⟩
      · exact .inl h2
      · exact .inr ⟨j, h2, .inl h3, h4⟩
  · -- old memory
    intro k hk hc
    rw [hp.frame k (Nat.lt_of_lt_of_le hk h.below.size) fun b p h1 h2 => ?_, h.frame k hk fun b p h1 ⟨j, h2, h3, h4⟩ => hc b p h1 ⟨j, h2, .inl h3, h4⟩]
    rcases h.newp b p (meet_some h1).1 with h3 | h3 | ⟨b0, p0, h3, ⟨j, h4, h5, h6⟩, h7⟩
    · exact hc b p h3 ⟨i, hi, .inr rfl, h2⟩
    · omega
    · rw [← h7]; exact hc b0 p0 h3 ⟨j, h4, .inl h5, h6⟩
  · -- new places
    intro b p h1
    have old : ∀ b p, ρ b = some p → ρ0 b = some p ∨ w0.heap.size ≤ p.blk ∨ ∃ b0 p0, ρ0 b0 = some p0 ∧ (∃ j, j < ops.size ∧ (S j ∨ j = i) ∧ (W j).testBit b0 = true) ∧ p0.blk = p.blk := by
      intro b p h1
      rcases h.newp b p h1 with h3 | h3 | ⟨b0, p0, h3, ⟨j, h4, h5, h6⟩, h7⟩
      · exact .inl h3
      · exact .inr (.inl h3)
      · exact .inr (.inr ⟨b0, p0, h3, ⟨j, h4, .inl h5, h6⟩, h7⟩)
    by_cases hr : (G i).n ≤ b ∧ b < (G (i + 1)).n
    · rw [hN1 b hr.1 hr.2] at h1
      rcases hp.newp b p h1 with h2 | h2 | ⟨b0, p0, h2, h3, h4⟩
      · exact old b p (meet_some h2).1
      · exact .inr (.inl (Nat.le_trans h.below.size h2))
      · rcases old b0 p0 (meet_some h2).1 with h5 | h5 | ⟨b1, p1, h5, h6, h7⟩
        · exact .inr (.inr ⟨b0, p0, h5, ⟨i, hi, .inr rfl, h3⟩, h4⟩)
        · exact .inr (.inl (by omega))
        · exact .inr (.inr ⟨b1, p1, h5, h6, h7.trans h4⟩)
    · rw [hN2 b hr] at h1
      exact old b p h1
  · intro j b hj hSj hb
    rcases hSj with hSj | rfl
    · obtain ⟨p, h1⟩ := h.wdom j b hj hSj hb
      exact ⟨p, hle1 b p h1⟩
    · obtain ⟨⟨p, h1⟩, _⟩ := hp.wold b hb
      exact ⟨p, hle2 b p h1⟩
end
end
end Go.Am
