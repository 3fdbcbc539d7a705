/- The machine and its runs, part 13: AxTq AxTr AxTs AxUa AxUb AxUc AxEqA AxUe AxUf AxUg AxUh AxUi. -/
import Derived.Test.YtkdbakhcpciacaaGreatDoorB12
set_option linter.unusedVariables false
set_option linter.unusedSimpArgs false
set_option linter.unusedSectionVars false
namespace Go.Am.CS
set_option maxRecDepth 100000
open Go Go.Am
variable {E : Nat → Option AFn} {Y : Nat → List Value → FM → Nat → OR FM}
theorem live_sum (S : Nat) : ∀ es : List Ent, liveN S 0 es + liveN S 1 es + liveN S 2 es + liveN S 3 es + liveN S 4 es ≤ es.length
  | [] => by simp [liveN]
  | x :: es => by
    have ih := live_sum S es
    have e : ∀ b, liveN S b (x :: es) = liveN S b es + (if liveIn S b x = true then 1 else 0) := fun b => by rw [liveN, List.countP_cons]; rfl
    rw [e, e, e, e, e, List.length_cons]
    simp only [liveIn, decide_eq_true_eq]
    generalize (x.adr - 4) / S = v
    by_cases h0 : x.ver = 0
    · simp only [h0, not_true, false_and, if_false]; omega
    · have f : ∀ b, (if ¬ x.ver = 0 ∧ v = b then 1 else 0) = if v = b then 1 else 0 := fun b => by simp [h0]
      rw [f, f, f, f, f]
      split <;> split <;> split <;> split <;> split <;> omega
theorem five : ∀ {l : List Bnd}, l.length = 5 → ∃ a b c d e, l = [a, b, c, d, e]
  | [a, b, c, d, e], _ => ⟨a, b, c, d, e, rfl⟩
theorem cand_ex {T : Nat} {es : List Ent} {bs : List Bnd} (hT : 1 ≤ T) (h : Pl T es bs) (hel : es.length = 4 * T) (hf : freeN bs = 1) (z : Int) : ∃ k, candB (T * 2) z bs k := by
  apply Classical.byContradiction
  intro hn
  have hl := live_sum (T * 2) es
  have hc : ∀ j, (hj : j < bs.length) → ¬ (j : Int) = z → 0 < bs[j].used → T * 2 ≤ bs[j].live := fun j hj h1 h2 => by
    apply Classical.byContradiction
    intro h3
    exact hn ⟨j, hj, h1, h2, by omega⟩
  have hlv := h.live
  have hbl := h.bl
  clear hn h
  obtain ⟨a, b, c, d, e, rfl⟩ := five hbl
  have c0 := hc 0 (by simp)
  have c1 := hc 1 (by simp)
  have c2 := hc 2 (by simp)
  have c3 := hc 3 (by simp)
  have c4 := hc 4 (by simp)
  have l0 := hlv 0 (by simp)
  have l1 := hlv 1 (by simp)
  have l2 := hlv 2 (by simp)
  have l3 := hlv 3 (by simp)
  have l4 := hlv 4 (by simp)
  simp only [List.getElem_cons_zero, List.getElem_cons_succ] at c0 c1 c2 c3 c4 l0 l1 l2 l3 l4
  rw [← l0, ← l1, ← l2, ← l3, ← l4] at hl
  clear hc hlv l0 l1 l2 l3 l4
  simp only [freeN, List.countP_cons, List.countP_nil, beq_iff_eq] at hf
  by_cases u0 : a.used = 0 <;> by_cases u1 : b.used = 0 <;> by_cases u2 : c.used = 0 <;> by_cases u3 : d.used = 0 <;> by_cases u4 : e.used = 0 <;> simp only [u0, u1, u2, u3, u4, if_true, if_false] at hf <;> omega
theorem cand_full {T : Nat} {es : List Ent} {bs : List Bnd} (h : Pl T es bs) {k : Nat} (hk : candB (T * 2) (opF (T * 2) bs bs.length) bs k) : ∃ hb : k < bs.length, bs[k].used = T * 2 ∧ bs[k].live < T * 2 := by
  obtain ⟨hb, h1, h2, h3⟩ := hk
  refine ⟨hb, ?_, h3⟩
  have hle := (h.ok _ (List.getElem_mem hb)).2
  apply Classical.byContradiction
  intro hne
  have hp : partB (T * 2) bs[k] = true := by rw [partB, decide_eq_true_eq]; exact ⟨h2, by omega⟩
  rcases opF_or (T * 2) bs bs.length (Nat.le_refl _) with ⟨_, o2⟩ | ⟨q, hq, o1, o2⟩
  · rw [o2 k hb hb] at hp; cases hp
  · rw [partB, decide_eq_true_eq] at o2
    have := h.part k q hb hq h2 (by omega) o2.1 o2.2
    subst this
    exact h1 o1.symm
end Go.Am.CS
namespace Go.Am.CS
set_option maxRecDepth 100000
open Go Go.Am
variable {E : Nat → Option AFn} {Y : Nat → List Value → FM → Nat → OR FM}
def DrI (i : Ids) (T O : Nat) (vs : List Nat) (tb : Nat) (pb : Nat) (M : FM) (N : Nat) : Prop :=
  ∃ xs c es bs t, Drv i T O pb M N xs c es bs t ∧ Pl T es bs ∧ Con i pb M N xs es ∧ es.map Ent.ver = vs ∧ 1 ≤ freeN bs ∧ t ≤ tb ∧ c ≤ t + 10
theorem free_used {T : Nat} {es : List Ent} {bs : List Bnd} (h : Pl T es bs) (hf : 1 ≤ freeN bs) : usedN bs ≤ 4 * (T * 2) := by
  have ho := h.ok
  obtain ⟨a, b, c, d, e, rfl⟩ := five h.bl
  have o0 := (ho a (by simp)).2
  have o1 := (ho b (by simp)).2
  have o2 := (ho c (by simp)).2
  have o3 := (ho d (by simp)).2
  have o4 := (ho e (by simp)).2
  simp only [freeN, List.countP_cons, List.countP_nil, beq_iff_eq] at hf
  simp only [usedN, List.map_cons, List.map_nil, List.sum_cons, List.sum_nil]
  by_cases u0 : a.used = 0
  · omega
  · by_cases u1 : b.used = 0
    · omega
    · by_cases u2 : c.used = 0
      · omega
      · by_cases u3 : d.used = 0
        · omega
        · by_cases u4 : e.used = 0
          · omega
          · simp only [u0, u1, u2, u3, u4, if_false] at hf; omega
theorem dput_L0 {T O : Nat} (F : Fn3 E Y T O) {i : Ids} {n N1 pb0 tb : Nat} {M1 : FM} {vs : List Nat} (hvl : vs.length = 4 * T) (hn : i.K ≤ N1) (hpn : pb0 < N1) (htb : tb ≤ 60000) (x0 x1 x2 x3 x4 x5 x7 : Value) {Q : AX → List Value → FM → Nat → Nat → Prop}
    (hQ : ∀ pb M N w, N1 ≤ N → (∃ xs c es bs t, Drv i T O pb M N xs c es bs t ∧ Pl T es bs ∧ Con i pb M N xs es ∧ es.map Ent.ver = vs ∧ 2 ≤ freeN bs ∧ t ≤ tb ∧ c ≤ t + 10) → (pb = pb0 ∨ N1 ≤ pb) → (∀ b, b < N1 → ¬ (i.P ≤ b ∧ b ≤ i.EN) → b ≠ pb0 → M b = M1 b ∧ Nat.testBit w b = false) → Q (.exit 1) [x0, x1, x2, x3, x4, x5, .pointer (some ⟨i.R, 0, none⟩), x7] M N w) :
    ∀ (U : Nat) (pb : Nat) (M : FM) (N w0 : Nat) (xs : List (Int × Value)) (c : Nat) (es : List Ent) (bs : List Bnd) (t : Nat), usedN bs = U → Drv i T O pb M N xs c es bs t → Pl T es bs → Con i pb M N xs es → es.map Ent.ver = vs → 1 ≤ freeN bs → t + 8 * U ≤ tb → c ≤ t + 10 → N1 ≤ N → (pb = pb0 ∨ N1 ≤ pb) → (∀ b, b < N1 → ¬ (i.P ≤ b ∧ b ≤ i.EN) → b ≠ pb0 → M b = M1 b ∧ Nat.testBit w0 b = false) →
    Gv (execW PG E Y ac31L0 [x0, x1, x2, x3, x4, x5, .pointer (some ⟨i.R, 0, none⟩), x7] M N) fun X e m n w => Q X e m n (Nat.lor w0 w) := by
  intro U
  induction U using Nat.strongRecOn with
  | ind U ih =>
    intro pb M N w0 xs c es bs t hU hD hp hc hver hf1 ht hct hN hpb hf
    obtain ⟨h0, h1, h2, h3, h4, h5, h6, h7, h8, h9⟩ := hD.dsk.cc.ok
    have hKN := hD.dsk.cc.KN
    obtain ⟨bv, hr, hb⟩ := hD.r
    simp only [drC] at hr
    obtain ⟨p1, p2, p3, p4⟩ := hb.p
    refine wr_loopN (L := ac31L0) (b := ac31L0b) rfl ?_
    simp only [ac31L0b]
    have hT := F.G.ok.t1
    have hT4 := F.G.ok.t2
    simp (implicitDefEqProofs := false) (disch := omega) only [W2, opds, Nat.testBit, Nat.reduceAdd, Nat.reduceShiftRight, Nat.reduceAnd, Nat.reduceBNe, Nat.reduceMul, hr, p2]
    refine use_pure (free_spec F.e66 hb) fun r1 => ?_
    by_cases hf2 : 2 ≤ freeN bs
    · simp (implicitDefEqProofs := false) (disch := omega) only [W2, opds, Nat.testBit, Nat.reduceAdd, Nat.reduceShiftRight, Nat.reduceAnd, Nat.reduceBNe, Nat.reduceMul]
      exact hQ _ _ _ _ hN ⟨xs, c, es, bs, t, hD, hp, hc, hver, hf2, by omega, hct⟩ hpb hf
    · have hel : es.length = 4 * T := by rw [← hvl, ← hver, List.length_map]
      obtain ⟨k, hkc, hvic⟩ := dvictim F hD hp.ok hf1 (cand_ex hT hp hel (by omega) _)
      obtain ⟨hk, hku, hkl⟩ := cand_full hp hkc
      have hub := free_used hp hf1
      simp (implicitDefEqProofs := false) (disch := omega) only [W2, opds, Nat.testBit, Nat.reduceAdd, Nat.reduceShiftRight, Nat.reduceAnd, Nat.reduceBNe, Nat.reduceMul]
      refine use_pure hvic fun r2 => ?_
      simp (implicitDefEqProofs := false) (disch := omega) only [W2, opds, Nat.testBit, Nat.reduceAdd, Nat.reduceShiftRight, Nat.reduceAnd, Nat.reduceBNe, Nat.reduceMul, extr_mk]
      refine use_rt (dclean F hD hp hc hk hku hkl hub (by omega) (by omega)) fun r3 M3 N3 r4 w3 hh => ?_
      obtain ⟨q0, mv, pb', xs', es', bs', z1, z2, z3, rfl, hD3, hp3, hc3, hu3, hmv, hver3, hf3⟩ := hh
      simp (implicitDefEqProofs := false) (disch := omega) only [W2, opds, Nat.testBit, Nat.reduceAdd, Nat.reduceShiftRight, Nat.reduceAnd, Nat.reduceBNe, Nat.reduceMul, extr_mk]
      refine wr_end (ih (usedN bs') (by omega) pb' M3 N3 (Nat.lor w0 w3) xs' 1 es' bs' (t + mv) rfl hD3 hp3 hc3 (by rw [hver3]; exact hver) hf3 (by omega) (by omega) (by omega) (.inr (by omega)) (fun b hb hk' hne => ?_)) fun X e m n w hq => ?_
      · have hpe : b ≠ pb := by omega
        exact ⟨by rw [(z2 b (by omega) hk' hpe).1, (hf b hb hk' hne).1], by rw [lor_test, (hf b hb hk' hne).2, (z2 b (by omega) hk' hpe).2]; rfl⟩
      · rw [show Nat.lor w0 (Nat.lor w3 w) = Nat.lor (Nat.lor w0 w3) w from (lor_assoc' _ _ _).symm]
        exact hq
theorem freeN_app {S t q : Nat} {x : Ent} {bs : List Bnd} (hq : q < bs.length) : freeN bs ≤ freeN (appB t q (unlB S x bs)) + 1 := by
  have hlen : (appB t q (unlB S x bs)).length = bs.length := by rw [appB_len, unlB_len]
  have e : (appB t q (unlB S x bs)).map Bnd.used = (bs.map Bnd.used).set q (bs[q].used + 1) := by
    apply List.ext_getElem
    · simp [hlen]
    · intro j h1 h2
      rw [List.length_map] at h1
      rw [List.getElem_map, List.getElem_set, (app_at hq j (by omega) h1).1]
      by_cases hj : q = j
      · subst hj; rw [if_pos rfl, if_pos rfl]
      · rw [if_neg hj, if_neg (fun h => hj h.symm), List.getElem_map]; rfl
  have f : ∀ l : List Bnd, freeN l = (l.map Bnd.used).countP (· == 0) := fun l => by rw [freeN, List.countP_map]; rfl
  rw [f, f, e, List.countP_set (by rw [List.length_map]; exact hq)]
  split <;> split <;> omega
theorem dput {T O : Nat} (F : Fn3 E Y T O) {i : Ids} {pb : Nat} {m : FM} {n : Nat} {vs : List Nat} {tb : Nat} (h : DrI i T O vs tb pb m n) (hvl : vs.length = 4 * T) (htb : tb ≤ 50000) {k ver : Nat} (hk : k < vs.length) (hv1 : 1 ≤ ver) (hv2 : vs[k] ≤ ver) (hv64 : ver < 2 ^ 64) :
    Rt (callW PG E Y 31 [.pointer (some ⟨i.R, 0, none⟩), entA k ver ((ver - 1) % 256) (k % 256) 0 0 0 0 0 0] m n) fun r m' n' w => Nat.testBit w i.P = true ∧ (∃ pb', n ≤ n' ∧ Fr i.P i.EN pb n m m' w ∧ n ≤ pb' ∧ r = .int .i64 0 ∧ DrI i T O (vs.set k ver) (tb + 400) pb' m' n') := by
  obtain ⟨xs, c, es, bs, t, h, hp, hc, hver, hf1, ht, hct⟩ := h
  obtain ⟨h0, h1, h2, h3, h4, h5, h6, h7, h8, h9⟩ := h.dsk.cc.ok
  have hKN := h.dsk.cc.KN
  have hpN := h.dsk.cc.pbN
  have hpk := h.dsk.cc.pbk
  have hT := F.G.ok.t1
  have hT4 := F.G.ok.t2
  have hel : es.length = 4 * T := by rw [← hvl, ← hver, List.length_map]
  have hke : k < es.length := by omega
  have hvk : vs[k] = es[k].ver := by subst hver; rw [List.getElem_map]
  rw [hvk] at hv2
  obtain ⟨bv, hr, hb⟩ := h.r
  simp only [drC] at hr
  obtain ⟨p1, p2, p3, p4⟩ := hb.p
  have hix := idx_ent (b := i.EN) (c := UNK) hke
  obtain ⟨a1, a2, a3, a4⟩ := ecells_at hke
  have hen := h.en
  refine wrt_spec (R := fun r m' n' w => ∃ pb', n ≤ n' ∧ Fr i.P i.EN pb n m m' w ∧ n ≤ pb' ∧ r = .int .i64 0 ∧ DrI i T O (vs.set k ver) (tb + 400) pb' m' n') F.e31 rfl (show i.P < n by omega) fun Q hQ => ?_
  simp only [ac31, entA]
  simp (implicitDefEqProofs := false) (disch := omega) only [W2, opds, Nat.testBit, Nat.reduceAdd, Nat.reduceShiftRight, Nat.reduceAnd, Nat.reduceBNe, Nat.reduceMul]
  generalize hM1 : (AMem.put m n _ : FM) = M1
  have l1 : ∀ b, b < n → M1 b = m b := fun b hb => by rw [← hM1, fput_ne _ _ _ _ (by omega)]
  have l0 : M1 n = some (.cells [.int .i64 1, .int .i64 (k : Int), .int .u64 (ver : Int), .int .u8 (((ver - 1) % 256 : Nat) : Int), .int .u8 ((k % 256 : Nat) : Int), .int .u8 ((0 : Nat) : Int), .int .u8 ((0 : Nat) : Int), .int .u8 ((0 : Nat) : Int), .int .u8 ((0 : Nat) : Int), .int .u8 ((0 : Nat) : Int), .int .u8 ((0 : Nat) : Int)] 0 false true) := by rw [← hM1]; exact fput_same _ _ _
  have hD1 := h.keep (show n ≤ n + 1 by omega) l1
  have hr1 := (l1 i.R (by omega)).trans hr
  have hen1 := (l1 i.EN (by omega)).trans hen
  refine use_pure (state_spec F hD1) fun r1 => ?_
  simp (implicitDefEqProofs := false) (disch := omega) only [W2, opds, Nat.testBit, Nat.reduceAdd, Nat.reduceShiftRight, Nat.reduceAnd, Nat.reduceBNe, Nat.reduceMul, l0]
  refine use_pure (dhasb_spec F hD1 hke) fun r2 => ?_
  simp (implicitDefEqProofs := false) (disch := omega) only [W2, opds, Nat.testBit, Nat.reduceAdd, Nat.reduceShiftRight, Nat.reduceAnd, Nat.reduceBNe, Nat.reduceMul, l0, hr1, hen1, hix, a3]
  refine wr_kont ((dput_L0 F (i := i) (N1 := n + 1) (n := n) (pb0 := pb) (tb := t + 320) (M1 := M1) (vs := vs) hvl (by omega) (by omega) (by omega) _ _ _ _ _ _ _ (fun pb4 M4 N4 w4 hN4 hI4 hpb4 hf4 => ?_) (usedN bs) pb M1 (n + 1) 0 xs c es bs t rfl hD1 hp (hc.keep (by omega) l1 (by omega)) hver hf1 (by have := free_used hp hf1; omega) hct (Nat.le_refl _) (.inl rfl) (fun b _ _ _ => ⟨rfl, Nat.zero_testBit _⟩)).mono fun X e m' n' w hq => by simpa only [zero_lor'] using hq)
  intro rr
  obtain ⟨xs4, c4, es4, bs4, t4, hD4, hp4, hc4, hver4, hf4', ht4, hct4⟩ := hI4
  have b0 := (hf4 n (by omega) (by omega) (by omega)).1.trans l0
  have hel4 : es4.length = 4 * T := by rw [← hvl, ← hver4, List.length_map]
  have hke4 : k < es4.length := by omega
  have hub := free_used hp4 (by omega)
  simp (implicitDefEqProofs := false) (disch := omega) only [W2, opds, Nat.testBit, Nat.reduceAdd, Nat.reduceShiftRight, Nat.reduceAnd, Nat.reduceBNe, Nat.reduceMul, b0]
  refine use_rt (dappend F hD4 (by omega) hp4.ok (z := -1) (.inl (by omega)) (room_of hp4 (by omega)) hke4 (hp4.unl hT4 hke4) (ver := ver) (d0 := (ver - 1) % 256) (d1 := k % 256) (d2 := 0) (d3 := 0) (d4 := 0) (d5 := 0) (d6 := 0) (d7 := 0) hv1 (by omega)) fun r5 M5 N5 r6 w5 hh => ?_
  obtain ⟨z0, q, pb', v', hq, hqt, z1, z2, z3, rfl, hD5, hB5⟩ := hh
  simp (implicitDefEqProofs := false) (disch := omega) only [W2, opds, Nat.testBit, Nat.reduceAdd, Nat.reduceShiftRight, Nat.reduceAnd, Nat.reduceBNe, Nat.reduceMul]
  have hpb4n := hD4.dsk.cc.pbN
  refine hQ _ _ _ _ _ (by simp only [lor_test, z0]; simp) ⟨pb', by omega, fun b hb hkk hne => ⟨?_, ?_⟩, by omega, rfl, _, _, _, _, _, hD5, hp4.app hT hqt hke4 hv1 hq, (hc4.fr z2 h9 z1 (.inr z3)).app hp4 hq hqt.2.1 hke4 hD4.dsk.cc.con.len (by omega) hv64 hB5, ?_, ?_, by omega, by omega⟩
  · rw [(z2 b (by omega) hkk (by omega)).1, (hf4 b (by omega) hkk hne).1, l1 b hb]
  · simp only [lor_test, bit_ne (show b ≠ n by omega), (hf4 b (by omega) hkk hne).2, (z2 b (by omega) hkk (by omega)).2]; rfl
  · rw [← hver4, List.map_set]
  · have := freeN_app (S := T * 2) (t := t4 + 1) (x := es4[k]) hq
    omega
end Go.Am.CS
namespace Go.Am.CS
set_option maxRecDepth 100000
open Go Go.Am
variable {E : Nat → Option AFn} {Y : Nat → List Value → FM → Nat → OR FM}
theorem DrI.keep {i : Ids} {T O pb tb : Nat} {vs : List Nat} {M M' : FM} {N N' : Nat} (h : DrI i T O vs tb pb M N) (hN : N ≤ N') (hf : ∀ b, b < N → M' b = M b) : DrI i T O vs tb pb M' N' := by
  obtain ⟨xs, c, es, bs, t, h, hp, hc, hver, hf1, ht, hct⟩ := h
  have := h.dsk.cc.ok.h9
  exact ⟨xs, c, es, bs, t, h.keep hN hf, hp, hc.keep hN hf (by omega), hver, hf1, ht, hct⟩
theorem DrI.ids {i : Ids} {T O pb tb : Nat} {vs : List Nat} {M : FM} {N : Nat} (h : DrI i T O vs tb pb M N) : i.Ok ∧ i.K ≤ N ∧ pb < N ∧ (i.K ≤ pb ∨ pb = i.sd) := by
  obtain ⟨xs, c, es, bs, t, h, _⟩ := h
  exact ⟨h.dsk.cc.ok, h.dsk.cc.KN, h.dsk.cc.pbN, h.dsk.cc.pbk⟩
theorem drive_write {T O : Nat} (F : Fn3 E Y T O) (hE : E 11 = some ac11) {i : Ids} {pb : Nat} {m : FM} {n : Nat} {vs : List Nat} {tb : Nat} (h : DrI i T O vs tb pb m n) (hvl : vs.length = 4 * T) (htb : tb ≤ 50000) {k ver : Nat} (hk : k < vs.length) (hv1 : 1 ≤ ver) (hv2 : vs[k] ≤ ver) (hv64 : ver < 2 ^ 64) :
    Rt (callW PG E Y 11 [.pointer (some ⟨i.R, 0, none⟩), .int .i64 (k : Int), .int .u64 (ver : Int), .agg #[.int .u8 (((ver - 1) % 256 : Nat) : Int), .int .u8 ((k % 256 : Nat) : Int), .int .u8 0, .int .u8 0, .int .u8 0, .int .u8 0, .int .u8 0, .int .u8 0]] m n) fun r m' n' w => Nat.testBit w i.P = true ∧ (∃ pb', n ≤ n' ∧ Fr i.P i.EN pb n m m' w ∧ n ≤ pb' ∧ r = .int .i64 0 ∧ DrI i T O (vs.set k ver) (tb + 400) pb' m' n') := by
  obtain ⟨⟨h0, h1, h2, h3, h4, h5, h6, h7, h8, h9⟩, hKN, hpN, hpk⟩ := h.ids
  refine wrt_spec (R := fun r m' n' w => ∃ pb', n ≤ n' ∧ Fr i.P i.EN pb n m m' w ∧ n ≤ pb' ∧ r = .int .i64 0 ∧ DrI i T O (vs.set k ver) (tb + 400) pb' m' n') hE rfl (show i.P < n by omega) fun Q hQ => ?_
  simp only [ac11]
  simp (implicitDefEqProofs := false) (disch := omega) only [W2, opds, Nat.testBit, Nat.reduceAdd, Nat.reduceShiftRight, Nat.reduceAnd, Nat.reduceBNe, Nat.reduceMul]
  generalize hM1 : (AMem.put m n _ : FM) = M1
  have l1 : ∀ b, b < n → M1 b = m b := fun b hb => by rw [← hM1, fput_ne _ _ _ _ (by omega)]
  refine use_rt (dput F (h.keep (show n ≤ n + 1 by omega) l1) hvl htb hk hv1 hv2 hv64) fun r1 m2 n2 r2 w2 hh => ?_
  obtain ⟨q0, pb', q1, q2, q3, rfl, q4⟩ := hh
  simp (implicitDefEqProofs := false) (disch := omega) only [W2, opds, Nat.testBit, Nat.reduceAdd, Nat.reduceShiftRight, Nat.reduceAnd, Nat.reduceBNe, Nat.reduceMul]
  refine hQ _ _ _ _ _ (by simp only [lor_test, q0]; simp) ⟨pb', by omega, fun b hb hkk hne => ⟨by rw [(q2 b (by omega) hkk hne).1, l1 b hb], by simp only [lor_test, bit_ne (show b ≠ n by omega), (q2 b (by omega) hkk hne).2]; rfl⟩, by omega, rfl, q4⟩
theorem drive_read {T O : Nat} (F : Fn3 E Y T O) (hE : E 12 = some ac12) {i : Ids} {pb : Nat} {m : FM} {n : Nat} {vs : List Nat} {tb : Nat} (h : DrI i T O vs tb pb m n) (hvl : vs.length = 4 * T) {k : Nat} (hk : k < vs.length) :
    Rt (callW PG E Y 12 [.pointer (some ⟨i.R, 0, none⟩), .int .i64 (k : Int)] m n) fun r m' n' w => n ≤ n' ∧ Fr i.P i.EN pb n m m' w ∧ DrI i T O vs tb pb m' n' ∧ ((vs[k] = 0 ∧ r = .tuple #[.int .u64 0, .agg #[.int .u8 0, .int .u8 0, .int .u8 0, .int .u8 0, .int .u8 0, .int .u8 0, .int .u8 0, .int .u8 0], .int .i64 9]) ∨ (¬ vs[k] = 0 ∧ r = .tuple #[.int .u64 (vs[k] : Int), .agg #[.int .u8 (((vs[k] - 1) % 256 : Nat) : Int), .int .u8 ((k % 256 : Nat) : Int), .int .u8 0, .int .u8 0, .int .u8 0, .int .u8 0, .int .u8 0, .int .u8 0], .int .i64 0])) := by
  have hI := h
  obtain ⟨xs, c, es, bs, t, h, hp, hc, hver, hf1, ht, hct⟩ := h
  obtain ⟨h0, h1, h2, h3, h4, h5, h6, h7, h8, h9⟩ := h.dsk.cc.ok
  have hKN := h.dsk.cc.KN
  have hpN := h.dsk.cc.pbN
  have hpk := h.dsk.cc.pbk
  have hT := F.G.ok.t1
  have hT4 := F.G.ok.t2
  have hel : es.length = 4 * T := by rw [← hvl, ← hver, List.length_map]
  have hke : k < es.length := by omega
  have hvk : vs[k] = es[k].ver := by subst hver; rw [List.getElem_map]
  obtain ⟨bv, hr, hb⟩ := h.r
  simp only [drC] at hr
  have hix := idx_ent (b := i.EN) (c := UNK) hke
  obtain ⟨a1, a2, a3, a4⟩ := ecells_at hke
  have hen := h.en
  refine ret_spec (R := fun r m' n' w => n ≤ n' ∧ Fr i.P i.EN pb n m m' w ∧ DrI i T O vs tb pb m' n' ∧ ((vs[k] = 0 ∧ r = .tuple #[.int .u64 0, .agg #[.int .u8 0, .int .u8 0, .int .u8 0, .int .u8 0, .int .u8 0, .int .u8 0, .int .u8 0, .int .u8 0], .int .i64 9]) ∨ (¬ vs[k] = 0 ∧ r = .tuple #[.int .u64 (vs[k] : Int), .agg #[.int .u8 (((vs[k] - 1) % 256 : Nat) : Int), .int .u8 ((k % 256 : Nat) : Int), .int .u8 0, .int .u8 0, .int .u8 0, .int .u8 0, .int .u8 0, .int .u8 0], .int .i64 0]))) hE rfl fun Q hQ => ?_
  simp only [ac12]
  simp (implicitDefEqProofs := false) (disch := omega) only [W2, opds, Nat.testBit, Nat.reduceAdd, Nat.reduceShiftRight, Nat.reduceAnd, Nat.reduceBNe, Nat.reduceMul]
  generalize hM1 : (AMem.put m n _ : FM) = M1
  have l1 : ∀ b, b < n → M1 b = m b := fun b hb => by rw [← hM1, fput_ne _ _ _ _ (by omega)]
  have l0 : M1 n = some (.cells [.int .u8 0, .int .u8 0, .int .u8 0, .int .u8 0, .int .u8 0, .int .u8 0, .int .u8 0, .int .u8 0] 0 false true) := by rw [← hM1]; exact fput_same _ _ _
  have hD1 := h.keep (show n ≤ n + 1 by omega) l1
  have hr1 := (l1 i.R (by omega)).trans hr
  have hen1 := (l1 i.EN (by omega)).trans hen
  refine use_pure (state_spec F hD1) fun r1 => ?_
  simp (implicitDefEqProofs := false) (disch := omega) only [W2, opds, Nat.testBit, Nat.reduceAdd, Nat.reduceShiftRight, Nat.reduceAnd, Nat.reduceBNe, Nat.reduceMul]
  refine use_pure (dhasb_spec F hD1 hke) fun r2 => ?_
  by_cases hv : es[k].ver = 0
  · have ea : es[k].a = -1 := if_pos hv
    rw [ea] at a4
    simp (implicitDefEqProofs := false) (disch := omega) only [W2, opds, Nat.testBit, Nat.reduceAdd, Nat.reduceShiftRight, Nat.reduceAnd, Nat.reduceBNe, Nat.reduceMul, hr1, hen1, hix, a4, l0]
    refine hQ _ _ _ _ _ rfl ⟨by omega, fun b hb hkk hne => ⟨by rw [fput_ne _ _ _ _ (by omega), l1 b hb], by simp only [lor_test, bit_ne (show b ≠ n by omega)]; rfl⟩, hI.keep (by omega) fun b hb => by rw [fput_ne _ _ _ _ (by omega), l1 b hb], .inl ⟨by rw [hvk, hv], rfl⟩⟩
  · have ea : es[k].a = (es[k].adr : Int) := if_neg hv
    have ek : es[k].k = 1 := if_neg hv
    rw [ea] at a4
    rw [ek] at a2
    obtain ⟨hv64, v, ts, hxv, hts, hby⟩ := hc.ent _ hke hv
    have hxl := h.dsk.cc.con.len
    have hal : es[k].adr < xs.length := by
      have := (hp.ent _ hke hv).2.1
      omega
    have hx : xs[es[k].adr] = (1, v) := by
      rw [List.getElem?_eq_getElem hal] at hxv
      injection hxv
    have hby1 : By i pb M1 (n + 1) v 37 _ := hby.fr (lo := 0) (hi := 0) (w := 0) (fun b hb _ _ => ⟨l1 b hb, Nat.zero_testBit _⟩) (by omega) (by omega) (.inl rfl)
    simp (implicitDefEqProofs := false) (disch := omega) only [W2, opds, Nat.testBit, Nat.reduceAdd, Nat.reduceShiftRight, Nat.reduceAnd, Nat.reduceBNe, Nat.reduceMul, hr1, hen1, hix, a4, a2]
    refine use_rt (dfetch F hD1 hke (by omega) hv64 hal hx hts (dsOf_lt _ _) hby1) fun r3 M2 N2 r4 w2 hh => ?_
    obtain ⟨q0, q1, q2, q3, q4, rfl⟩ := hh
    simp only [entA]
    have l0' := (q2 n (by omega) (by omega) (by omega)).trans l0
    simp (implicitDefEqProofs := false) (disch := omega) only [W2, opds, Nat.testBit, Nat.reduceAdd, Nat.reduceShiftRight, Nat.reduceAnd, Nat.reduceBNe, Nat.reduceMul, extr_mk, l0']
    generalize hM3 : (AMem.put (AMem.put M2 N2 _) n _ : FM) = M3
    have l3 : ∀ b, b ≠ n → b < N2 → M3 b = M2 b := fun b f1 f2 => by rw [← hM3, fput_ne _ _ _ _ f1, fput_ne _ _ _ _ (by omega)]
    have fr : ∀ b, b < n → b ≠ i.P → b ≠ i.D → M3 b = m b := fun b hb f1 f2 => by rw [l3 b (by omega) (by omega), q2 b (by omega) f1 f2, l1 b hb]
    have hfr : Fr i.P i.D pb n m M3 0 := fun b hb hkk _ => ⟨fr b hb (by omega) (by omega), Nat.zero_testBit _⟩
    refine hQ _ _ _ _ _ rfl ⟨by omega, fun b hb hkk hne => ⟨fr b hb (by omega) (by omega), ?_⟩, ⟨xs, c, es, bs, t, h.disk (by omega) hfr (.inl rfl) (h.dsk.re (by omega) fr q4 (l3 _ (by omega) (by omega)) (l3 _ (by omega) (by omega))), hp, hc.fr hfr (by omega) (by omega) (.inl rfl), hver, hf1, ht, hct⟩, .inr ⟨by rw [hvk]; exact hv, by rw [hvk]; rfl⟩⟩
    simp only [lor_test, bit_ne (show b ≠ n by omega), (q3 b (by omega) hkk hne).2, bit_ne (show b ≠ N2 by omega)]; rfl
end Go.Am.CS
namespace Go.Am.CS
set_option maxRecDepth 100000
open Go Go.Am
variable {E : Nat → Option AFn} {Y : Nat → List Value → FM → Nat → OR FM}
theorem power_spec (hE : E 7 = some ac7) (m : FM) (n : Nat) : Rt (callW PG E Y 7 [] m n) fun r m' n' w => n ≤ n' ∧ (∀ b, b < n → m' b = m b) ∧ (∀ j, j ≤ n → Nat.mod w (bit j) = 0) ∧ r = .pointer (some ⟨n, 0, none⟩) ∧ n < n' ∧ m' n = some (.cells (pwC 0) 0 false true) := by
  refine kept_specQ (R := fun r m' n' => r = .pointer (some ⟨n, 0, none⟩) ∧ n < n' ∧ m' n = some (.cells (pwC 0) 0 false true)) hE rfl fun Q hQ => ?_
  simp only [ac7]
  simp (implicitDefEqProofs := false) (disch := omega) only [W2, opds, Nat.testBit, Nat.reduceAdd, Nat.reduceShiftRight, Nat.reduceAnd, Nat.reduceBNe, Nat.reduceMul]
  exact hQ _ _ _ _ _ (by omega) (fun b hb => fput_ne _ _ _ _ (by omega)) (frz_bit (Nat.le_refl _)) rfl ⟨rfl, by omega, fput_same _ _ _⟩
theorem reps_secs (len : Nat) : reps [.int .i64 0, .slice none 0 0] len = secs (List.replicate len (0, .slice none 0 0)) := by
  induction len with
  | zero => rfl
  | succ k ih => rw [List.replicate_succ, secs, ← ih]; rfl
def emptyX (T : Nat) : List (Int × Value) := List.replicate (4 + 5 * (T * 2)) (0, .slice none 0 0)
theorem emptyX_len (T : Nat) : (emptyX T).length = 4 + 5 * (T * 2) := List.length_replicate
theorem emptyX_one (T : Nat) : ∀ x ∈ emptyX T, Am.one x.2 = true := fun x hx => by rw [List.eq_of_mem_replicate hx]; rfl
theorem secs_one : ∀ xs : List (Int × Value), (∀ x ∈ xs, Am.one x.2 = true) → (secs xs).all Am.one = true
  | [], _ => rfl
  | x :: xs, h => by
    rw [secs, List.all_cons, List.all_cons, secs_one xs fun y hy => h y (List.mem_cons_of_mem _ hy), h x (List.mem_cons_self ..)]; rfl
theorem mnew_spec (hE : E 16 = some ac16) (h49 : E 49 = some ac49) (h50 : E 50 = some ac50) (h54 : E 54 = some ac54) {T O : Nat} (G : Geo E Y T O) (m : FM) (n : Nat) : Rt (callW PG E Y 16 [gV T O] m n) fun r m' n' w => n ≤ n' ∧ (∀ b, b < n → m' b = m b) ∧ (∀ j, j ≤ n → Nat.mod w (bit j) = 0) ∧ r = .tuple #[.pointer (some ⟨n + 2, 0, none⟩), .int .i64 0] ∧ n' = n + 3 ∧ m' (n + 1) = some (.cells (secs (emptyX T)) 2 false true) ∧ m' (n + 2) = some (.cells [.int .i64 4, .int .i64 5, .int .i64 (T : Int), .int .i64 2, .int .i64 (O : Int), .slice (some ⟨n + 1, 0, none⟩) (4 + 5 * (T * 2)) (4 + 5 * (T * 2))] 0 false true) := by
  refine kept_specQ (R := fun r m' n' => r = .tuple #[.pointer (some ⟨n + 2, 0, none⟩), .int .i64 0] ∧ n' = n + 3 ∧ m' (n + 1) = some (.cells (secs (emptyX T)) 2 false true) ∧ m' (n + 2) = some (.cells [.int .i64 4, .int .i64 5, .int .i64 (T : Int), .int .i64 2, .int .i64 (O : Int), .slice (some ⟨n + 1, 0, none⟩) (4 + 5 * (T * 2)) (4 + 5 * (T * 2))] 0 false true)) hE rfl fun Q hQ => ?_
  have hT := G.ok.t1
  have hT4 := G.ok.t2
  simp only [ac16, gV]
  simp (implicitDefEqProofs := false) (disch := omega) only [W2, opds, Nat.testBit, Nat.reduceAdd, Nat.reduceShiftRight, Nat.reduceAnd, Nat.reduceBNe, Nat.reduceMul]
  refine use_pure (G.valid _ _) fun r1 => ?_
  simp (implicitDefEqProofs := false) (disch := omega) only [W2, opds, Nat.testBit, Nat.reduceAdd, Nat.reduceShiftRight, Nat.reduceAnd, Nat.reduceBNe, Nat.reduceMul]
  refine use_pureX (size_spec h50 h54 G _ _) fun r2 => ?_
  simp (implicitDefEqProofs := false) (disch := omega) only [W2, opds, Nat.testBit, Nat.reduceAdd, Nat.reduceShiftRight, Nat.reduceAnd, Nat.reduceBNe, Nat.reduceMul]
  rw [reps_secs]
  refine hQ _ _ _ _ _ (by omega) (fun b hb => by rw [fput_ne _ _ _ _ (by omega), fput_ne _ _ _ _ (by omega), fput_ne _ _ _ _ (by omega)]) ?_ rfl ⟨rfl, rfl, by rw [fput_ne _ _ _ _ (by omega)]; exact fput_same _ _ _, fput_same _ _ _⟩
  simp only [frz_iff]
  exact ⟨frz_bit (Nat.le_refl _), frz_bit (by omega), frz_bit (by omega)⟩
theorem clone94 (hE : E 94 = some ac94) (m : FM) (n : Nat) {v : Value} {len : Nat} {cs : List Value} (h : Sh 2 m n v len cs) (hone : cs.all Am.one = true) (hl : len ≤ 1000000) :
    Rt (callW PG E Y 94 [v] m n) fun v' m' n' w => n ≤ n' ∧ (∀ b, b < n → m' b = m b) ∧ (∀ j, j ≤ n → Nat.mod w (bit j) = 0) ∧ SlZ 2 m' n n' v' len cs := by
  refine kept_specQ (R := fun v m' n' => SlZ 2 m' n n' v len cs) hE rfl fun Q hQ => ?_
  have e22 : binV PG .eql 116 v (.slice none 0 0) = some (.bool false) := by
    obtain ⟨b, o, c, rfl, hb, h0⟩ := h.sl
    exact eqlnil_slc (P := PG) (t := 116) (by kernel_rfl) (some ⟨b, o, none⟩) len c
  have hone1 := h.one
  simp only [ac94]
  simp (implicitDefEqProofs := false) (disch := omega) only [W2, opds, Nat.testBit, Nat.reduceAdd, Nat.reduceShiftRight, Nat.reduceAnd, Nat.reduceBNe, Nat.reduceMul, e22, hone1]
  generalize hM1 : (AMem.put m n (some (.cells [] 2 false true)) : FM) = M1
  have lo1 : ∀ b, b < n → M1 b = m b := fun b hb => by rw [← hM1, fput_ne _ _ _ _ (by omega)]
  obtain ⟨b', hb', hsh⟩ := (h.frame (show n ≤ n + 1 by omega) lo1).shows
  obtain ⟨b, o, c, rfl, hb, h0⟩ := h.sl
  rw [hsh]
  refine use_rt (app_lit (n0 := n) (Nat.le_refl _) (by omega) (by omega) h0 hone h.clen _ _ _ (by omega) (by omega)) fun v2 M2 N2 r2 w2 ⟨n2, hS2, lo2, hw2⟩ => ?_
  subst n2; subst hw2
  simp (implicitDefEqProofs := false) (disch := omega) only [W2, opds, Nat.testBit, Nat.reduceAdd, Nat.reduceShiftRight, Nat.reduceAnd, Nat.reduceBNe, Nat.reduceMul]
  refine hQ _ _ _ _ _ (by omega) (fun b hb => by rw [lo2 b (by omega), lo1 b hb]) ?_ ?_ hS2
  · simp (implicitDefEqProofs := false) (disch := omega) only [W2, opds, Nat.testBit, Nat.reduceAdd, Nat.reduceShiftRight, Nat.reduceAnd, Nat.reduceBNe, Nat.reduceMul]
  · rcases hS2 with ⟨q, _⟩ | ⟨_, _, b, rfl, _⟩
    · omega
    · rfl
theorem mclone_spec (hE : E 52 = some ac52) (h94 : E 94 = some ac94) {T O : Nat} {m : FM} {n mb : Nat} {sv : Value} {xs : List (Int × Value)} (hmb : mb < n) (hm : m mb = some (.cells [.int .i64 4, .int .i64 5, .int .i64 (T : Int), .int .i64 2, .int .i64 (O : Int), sv] 0 false true)) (hs : Sh 2 m n sv xs.length (secs xs)) (hone : ∀ x ∈ xs, Am.one x.2 = true) (hlen : xs.length = 4 + 5 * (T * 2)) (hT : T ≤ 4) :
    Rt (callW PG E Y 52 [.pointer (some ⟨mb, 0, none⟩)] m n) fun r m' n' w => n ≤ n' ∧ (∀ b, b < n → m' b = m b) ∧ (∀ j, j ≤ n → Nat.mod w (bit j) = 0) ∧ ∃ nb cb, r = .pointer (some ⟨nb, 0, none⟩) ∧ n ≤ cb ∧ cb < nb ∧ nb < n' ∧ Med m' n' nb cb T O xs := by
  refine kept_specQ (R := fun r m' n' => ∃ nb cb, r = .pointer (some ⟨nb, 0, none⟩) ∧ n ≤ cb ∧ cb < nb ∧ nb < n' ∧ Med m' n' nb cb T O xs) hE rfl fun Q hQ => ?_
  have hso := hs.one
  simp only [ac52]
  simp (implicitDefEqProofs := false) (disch := omega) only [W2, opds, Nat.testBit, Nat.reduceAdd, Nat.reduceShiftRight, Nat.reduceAnd, Nat.reduceBNe, Nat.reduceMul, eqlnil57, hm, hso, hs.bel]
  refine use_rtX (clone94 h94 m n hs (secs_one xs hone) (by omega)) fun v1 m1 n1 r1 w1 hh => ?_
  obtain ⟨q1, q2, q3, q4⟩ := hh
  have hvo := q4.one
  rcases q4 with ⟨z, _⟩ | ⟨_, hcl, cb, rfl, e1, e2, e3⟩
  · omega
  obtain ⟨k1, k2⟩ := land_frz (q3 n (Nat.le_refl _)) hmb
  simp (implicitDefEqProofs := false) (disch := omega) only [W2, opds, Nat.testBit, Nat.reduceAdd, Nat.reduceShiftRight, Nat.reduceAnd, Nat.reduceBNe, Nat.reduceMul, k1, k2]
  generalize hM2 : (AMem.put m1 n1 _ : FM) = M2
  have l2 : ∀ b, b ≠ n1 → M2 b = m1 b := fun b hb => by rw [← hM2, fput_ne _ _ _ _ hb]
  refine hQ _ _ _ _ _ (by omega) (fun b hb => by rw [l2 b (by omega), q2 b hb]) ?_ rfl ⟨n1, cb, rfl, e1, e2, by omega, ⟨by rw [← hM2]; exact fput_same _ _ _, (l2 cb (by omega)).trans e3, hlen, by omega, by omega, by omega, hone⟩⟩
  simp only [frz_iff]
  exact ⟨q3 n (Nat.le_refl _), frz_bit (by omega)⟩
structure NewC (T O n0 : Nat) (M : FM) (N sd md sc mc C : Nat) : Prop where
  h0 : n0 ≤ sd
  h1 : sd < md
  h2 : md < sc
  h3 : sc < mc
  h4 : mc < C
  h5 : C < N
  dur : Med M N md sd T O (emptyX T)
  con : Med M N mc sc T O (emptyX T)
  st : M C = some (.cells [.pointer (some ⟨md, 0, none⟩), .pointer (some ⟨mc, 0, none⟩), .slice none 0 0] 0 false true)
theorem cnew_spec (hE : E 18 = some ac18) (h52 : E 52 = some ac52) (h94 : E 94 = some ac94) {T O : Nat} {m : FM} {n mb : Nat} {sv : Value} (hmb : mb < n) (hm : m mb = some (.cells [.int .i64 4, .int .i64 5, .int .i64 (T : Int), .int .i64 2, .int .i64 (O : Int), sv] 0 false true)) (hs : Sh 2 m n sv (emptyX T).length (secs (emptyX T))) (hT : T ≤ 4) :
    Rt (callW PG E Y 18 [.pointer (some ⟨mb, 0, none⟩)] m n) fun r m' n' w => n ≤ n' ∧ (∀ b, b < n → m' b = m b) ∧ (∀ j, j ≤ n → Nat.mod w (bit j) = 0) ∧ ∃ sd md sc mc C, r = .pointer (some ⟨C, 0, none⟩) ∧ NewC T O n m' n' sd md sc mc C := by
  refine kept_specQ (R := fun r m' n' => ∃ sd md sc mc C, r = .pointer (some ⟨C, 0, none⟩) ∧ NewC T O n m' n' sd md sc mc C) hE rfl fun Q hQ => ?_
  simp only [ac18]
  simp (implicitDefEqProofs := false) (disch := omega) only [W2, opds, Nat.testBit, Nat.reduceAdd, Nat.reduceShiftRight, Nat.reduceAnd, Nat.reduceBNe, Nat.reduceMul, eqlnil57]
  refine use_rt (mclone_spec h52 h94 hmb hm hs (emptyX_one T) (emptyX_len T) hT) fun r1 m1 n1 r2 w1 hh => ?_
  obtain ⟨q1, q2, q3, md, sd, rfl, e1, e2, e3, e4⟩ := hh
  simp (implicitDefEqProofs := false) (disch := omega) only [W2, opds, Nat.testBit, Nat.reduceAdd, Nat.reduceShiftRight, Nat.reduceAnd, Nat.reduceBNe, Nat.reduceMul]
  refine use_rt (mclone_spec h52 h94 (show mb < n1 by omega) ((q2 mb hmb).trans hm) (hs.frame q1 q2) (emptyX_one T) (emptyX_len T) hT) fun r3 m2 n2 r4 w2 hh => ?_
  obtain ⟨z1, z2, z3, mc, sc, rfl, f1, f2, f3, f4⟩ := hh
  simp (implicitDefEqProofs := false) (disch := omega) only [W2, opds, Nat.testBit, Nat.reduceAdd, Nat.reduceShiftRight, Nat.reduceAnd, Nat.reduceBNe, Nat.reduceMul]
  generalize hM3 : (AMem.put m2 n2 _ : FM) = M3
  have l3 : ∀ b, b < n2 → M3 b = m2 b := fun b hb => by rw [← hM3, fput_ne _ _ _ _ (by omega)]
  refine hQ _ _ _ _ _ (by omega) (fun b hb => by rw [l3 b (by omega), z2 b (by omega), q2 b hb]) ?_ rfl ⟨sd, md, sc, mc, n2, rfl, ⟨e1, e2, by omega, f2, by omega, by omega, (e4.keep z1 z2).keep (by omega) l3, f4.keep (by omega) l3, by rw [← hM3]; exact fput_same _ _ _⟩⟩
  simp only [frz_iff]
  exact ⟨⟨q3 n (Nat.le_refl _), z3 n q1⟩, frz_bit (by omega)⟩
theorem fvalid0 (hE : E 17 = some ac17) (m : FM) (n : Nat) : Pure (callW PG E Y 17 [.slice none 0 0] m n) m n (.bool true) := by
  refine pure_spec hE rfl rfl ?_
  simp only [ac17]
  simp (implicitDefEqProofs := false) (disch := omega) only [W2, opds, Nat.testBit, Nat.reduceAdd, Nat.reduceShiftRight, Nat.reduceAnd, Nat.reduceBNe, Nat.reduceMul]
  refine wr_kont (wr_loopN (L := ac17L0) (b := ac17L0b) rfl ?_)
  simp only [ac17L0b]
  simp (implicitDefEqProofs := false) (disch := omega) only [W2, opds, Nat.testBit, Nat.reduceAdd, Nat.reduceShiftRight, Nat.reduceAnd, Nat.reduceBNe, Nat.reduceMul]
  intro rr
  simp (implicitDefEqProofs := false) (disch := omega) only [W2, opds, Nat.testBit, Nat.reduceAdd, Nat.reduceShiftRight, Nat.reduceAnd, Nat.reduceBNe, Nat.reduceMul]
theorem fclone0 (hE : E 19 = some ac19) (m : FM) (n : Nat) : Pure (callW PG E Y 19 [.slice none 0 0] m n) m n (.slice none 0 0) := by
  refine pure_spec hE rfl rfl ?_
  simp only [ac19]
  simp (implicitDefEqProofs := false) (disch := omega) only [W2, opds, Nat.testBit, Nat.reduceAdd, Nat.reduceShiftRight, Nat.reduceAnd, Nat.reduceBNe, Nat.reduceMul, show binV PG .eql 56 (.slice none 0 0) (.slice none 0 0) = some (.bool true) from by kernel_rfl]
theorem eqlnil31 (a : Addr) : binV PG .eql 31 (.pointer (some a)) (.pointer none) = some (.bool false) := by
  rw [eqlnil_ptr (by kernel_rfl)]; rfl
def ids0 (P sd md sc mc C D : Nat) : Ids := ⟨0, P, sd, md, sc, mc, C, D, D + 1, D + 2, D + 3⟩
structure FnN (E : Nat → Option AFn) : Prop where
  e6 : E 6 = some ac6
  e7 : E 7 = some ac7
  e16 : E 16 = some ac16
  e17 : E 17 = some ac17
  e18 : E 18 = some ac18
  e19 : E 19 = some ac19
  e49 : E 49 = some ac49
  e50 : E 50 = some ac50
  e52 : E 52 = some ac52
  e54 : E 54 = some ac54
  e94 : E 94 = some ac94
theorem dnew_spec (hU : YUp Y) (F : FnN E) {T O : Nat} (G : Geo E Y T O) {m : FM} {n P : Nat} (hP : P < n) (hm : m P = some (.cells (pwC 0) 0 false true)) : Rt (callW PG E Y 6 [gV T O, .slice none 0 0, .pointer (some ⟨P, 0, none⟩)] m n) fun r m' n' w => n ≤ n' ∧ (∀ b, b < n → m' b = m b) ∧ (∀ j, j ≤ n → Nat.mod w (bit j) = 0) ∧ ∃ sd md sc mc C D, r = .tuple #[.pointer (some ⟨D, 0, none⟩), .int .i64 0] ∧ NewC T O n m' n' sd md sc mc C ∧ C < D ∧ D < n' ∧ m' D = some (.cells (dkC (ids0 P sd md sc mc C D) T O 0 0 0 0 0) 0 false true) := by
  have hT := G.ok.t1
  have hT4 := G.ok.t2
  refine kept_specQ (R := fun r m' n' => ∃ sd md sc mc C D, r = .tuple #[.pointer (some ⟨D, 0, none⟩), .int .i64 0] ∧ NewC T O n m' n' sd md sc mc C ∧ C < D ∧ D < n' ∧ m' D = some (.cells (dkC (ids0 P sd md sc mc C D) T O 0 0 0 0 0) 0 false true)) F.e6 rfl fun Q hQ => ?_
  simp only [pwC] at hm
  simp only [ac6, gV]
  simp (implicitDefEqProofs := false) (disch := omega) only [W2, opds, Nat.testBit, Nat.reduceAdd, Nat.reduceShiftRight, Nat.reduceAnd, Nat.reduceBNe, Nat.reduceMul]
  generalize hM1 : (AMem.put m n _ : FM) = M1
  have l1 : ∀ b, b < n → M1 b = m b := fun b hb => by rw [← hM1, fput_ne _ _ _ _ (by omega)]
  have l0 : M1 n = some (.cells [.int .i64 4, .int .i64 5, .int .i64 (T : Int), .int .i64 2, .int .i64 (O : Int)] 0 false true) := by rw [← hM1]; exact fput_same _ _ _
  refine use_rt (mnew_spec F.e16 F.e49 F.e50 F.e54 G M1 (n + 1)) fun r1 m2 n2 r2 w2 hh => ?_
  obtain ⟨q1, q2, q3, rfl, rfl, q4, q5⟩ := hh
  simp (implicitDefEqProofs := false) (disch := omega) only [W2, opds, Nat.testBit, Nat.reduceAdd, Nat.reduceShiftRight, Nat.reduceAnd, Nat.reduceBNe, Nat.reduceMul, extr_mk]
  refine use_pure (fvalid0 F.e17 _ _) fun r3 => ?_
  have l0' := (q2 n (by omega)).trans l0
  simp (implicitDefEqProofs := false) (disch := omega) only [W2, opds, Nat.testBit, Nat.reduceAdd, Nat.reduceShiftRight, Nat.reduceAnd, Nat.reduceBNe, Nat.reduceMul, eqlnil31, l0']
  have hs : Sh 2 m2 (n + 1 + 3) (.slice (some ⟨n + 1 + 1, 0, none⟩) (4 + 5 * (T * 2)) (4 + 5 * (T * 2))) (emptyX T).length (secs (emptyX T)) := by
    rw [emptyX_len]
    exact ⟨_, 0, _, _, _, _, rfl, by omega, q4, by rw [cellsAt_mk, ldrop_z]; exact cells_all (by rw [secs_len, emptyX_len]), by omega⟩
  refine use_rtXU hU (cnew_spec F.e18 F.e52 F.e94 (show n + 1 + 2 < n + 1 + 3 by omega) q5 hs hT4) fun r4 m3 n3 r5 w3 hh hu => ?_
  obtain ⟨z1, z2, z3, sd, md, sc, mc, C, rfl, hC⟩ := hh
  obtain ⟨k1, k2⟩ := land_frz (z3 (n + 1 + 3) (Nat.le_refl _)) (show n < n + 1 + 3 by omega)
  obtain ⟨k3, k4⟩ := land_frz (z3 (n + 1 + 3) (Nat.le_refl _)) (show P < n + 1 + 3 by omega)
  have hc5 := hC.h5
  simp (implicitDefEqProofs := false) (disch := omega) only [W2, opds, Nat.testBit, Nat.reduceAdd, Nat.reduceShiftRight, Nat.reduceAnd, Nat.reduceBNe, Nat.reduceMul, k1, k2]
  refine use_pureX (fclone0 F.e19 _ _) fun r6 => ?_
  have hm3 := (z2 P (by omega)).trans ((q2 P (by omega)).trans ((l1 P hP).trans hm))
  simp (implicitDefEqProofs := false) (disch := omega) only [W2, opds, Nat.testBit, Nat.reduceAdd, Nat.reduceShiftRight, Nat.reduceAnd, Nat.reduceBNe, Nat.reduceMul, hm3, k3, k4]
  generalize hM4 : (AMem.put m3 n3 _ : FM) = M4
  have l4 : ∀ b, b < n3 → M4 b = m3 b := fun b hb => by rw [← hM4, fput_ne _ _ _ _ (by omega)]
  obtain ⟨c0, c1, c2, c3, c4, c5, c6, c7, c8⟩ := hC
  refine hQ _ _ _ _ _ (by omega) (fun b hb => by rw [l4 b (by omega), z2 b (by omega), q2 b (by omega), l1 b hb]) ?_ rfl ⟨sd, md, sc, mc, C, n3, rfl, ⟨by omega, c1, c2, c3, c4, by omega, c6.keep (by omega) l4, c7.keep (by omega) l4, (l4 C c5).trans c8⟩, c5, by omega, by rw [← hM4]; exact fput_same _ _ _⟩
  simp only [frz_iff]
  exact ⟨⟨frz_bit (Nat.le_refl _), q3 n (by omega)⟩, z3 n (by omega), frz_bit (by omega)⟩
end Go.Am.CS
namespace Go.Am.CS
set_option maxRecDepth 100000
open Go Go.Am
variable {E : Nat → Option AFn} {Y : Nat → List Value → FM → Nat → OR FM}
theorem geom0 (hE : E 53 = some ac53) {i : Ids} {T O : Nat} {m : FM} {n : Nat} {s0 s1 s2 s3 op : Int} (hD : i.D < n) (hd : m i.D = some (.cells (dkC i T O s0 s1 s2 s3 op) 0 false true)) : Pure (callW PG E Y 53 [.pointer (some ⟨i.D, 0, none⟩)] m n) m n (gV T O) := by
  simp only [dkC] at hd
  refine pure_spec hE rfl rfl ?_
  simp only [ac53, gV]
  simp (implicitDefEqProofs := false) (disch := omega) only [W2, opds, Nat.testBit, Nat.reduceAdd, Nat.reduceShiftRight, Nat.reduceAnd, Nat.reduceBNe, Nat.reduceMul, eqlnil27, hd]
def noEnt (k : Nat) : List Ent := List.replicate k ⟨0, 0⟩
theorem noEnt_succ (k : Nat) : ecells (noEnt k) ++ [.int .i64 0, .int .u64 0, .int .i64 (-1)] = ecells (noEnt (k + 1)) := by
  have : noEnt (k + 1) = noEnt k ++ [⟨0, 0⟩] := by rw [noEnt, List.replicate_succ', noEnt]
  rw [this, ecells_app]; rfl
theorem create_L0 {n R nb : Nat} {M0 : FM} {bv dp : Value} (hR : R < n) (hnb : nb ≤ 100) (ho : Am.one bv = true ∧ Am.one dp = true) (x1 x3 x4 x5 x6 x7 x8 : Value) {Q : AX → List Value → FM → Nat → Nat → Prop}
    (hQ : ∀ M N w ev, n ≤ N → (∀ b, b < n → b ≠ R → M b = M0 b) → (∀ b, b < n → b ≠ R → Nat.testBit w b = false) → M R = some (.cells [dp, .int .u64 0, ev, bv, .int .u64 0, .int .i64 0] 0 false true) → SlZ 3 M n N ev nb (ecells (noEnt nb)) → Q (.exit 0) [x1, .pointer (some ⟨R, 0, none⟩), x3, x4, x5, x6, x7, x8, .int .i64 (nb : Int)] M N w) :
    ∀ (d j : Nat), j + d = nb → ∀ (M : FM) (N w0 : Nat) (ev : Value), n ≤ N → (∀ b, b < n → b ≠ R → M b = M0 b) → (∀ b, b < n → b ≠ R → Nat.testBit w0 b = false) → M R = some (.cells [dp, .int .u64 0, ev, bv, .int .u64 0, .int .i64 0] 0 false true) → SlZ 3 M n N ev j (ecells (noEnt j)) →
    Gv (execW PG E Y ac20L0 [.int .i64 (j : Int), x1, .pointer (some ⟨R, 0, none⟩), x3, x4, x5, x6, x7, x8, .int .i64 (nb : Int)] M N) fun X e m n w => Q X e m n (Nat.lor w0 w) := by
  obtain ⟨ho1, ho2⟩ := ho
  intro d
  induction d with
  | zero =>
    intro j hj M N w0 ev hN hM hw hr hS
    refine wr_loopN (L := ac20L0) (b := ac20L0b) rfl ?_
    simp only [ac20L0b]
    obtain rfl : j = nb := by omega
    simp (implicitDefEqProofs := false) (disch := omega) only [W2, opds, Nat.testBit, Nat.reduceAdd, Nat.reduceShiftRight, Nat.reduceAnd, Nat.reduceBNe, Nat.reduceMul]
    exact hQ _ _ _ _ hN hM hw hr hS
  | succ d ih =>
    intro j hj M N w0 ev hN hM hw hr hS
    have hone := hS.one
    refine wr_loopN (L := ac20L0) (b := ac20L0b) rfl ?_
    simp only [ac20L0b]
    simp (implicitDefEqProofs := false) (disch := omega) only [W2, opds, Nat.testBit, Nat.reduceAdd, Nat.reduceShiftRight, Nat.reduceAnd, Nat.reduceBNe, Nat.reduceMul, hr, hone]
    generalize hM1 : (AMem.put M N _ : FM) = M1
    have l1 : ∀ b, b < N → M1 b = M b := fun b hb => by rw [← hM1, fput_ne _ _ _ _ (by omega)]
    have hS1 : SlZ 3 M1 n (N + 1) ev j (ecells (noEnt j)) := hS.frame (by omega) fun b _ h2 => l1 b h2
    have hr1 := (l1 R (by omega)).trans hr
    refine use_rt (app_slZ (sz := 3) (bytes := 24) (zs := [.int .i64 0, .int .u64 0, .int .i64 (-1)]) hS1 _ _ _ (by omega) (by omega) rfl rfl (by omega) (by omega)) fun v1 M2 N2 r1 w1 hh => ?_
    obtain ⟨hv1, hn1, hs1, hl1, hw1⟩ := hh
    subst hn1
    have ho1' := hs1.one
    have hr2 := (hl1 R hR).trans hr1
    rw [noEnt_succ] at hs1
    simp (implicitDefEqProofs := false) (disch := omega) only [W2, opds, Nat.testBit, Nat.reduceAdd, Nat.reduceShiftRight, Nat.reduceAnd, Nat.reduceBNe, Nat.reduceMul, hr2, ho1', cells_of_one ho1']
    generalize hM3 : (AMem.put M2 R _ : FM) = M3
    have l3 : ∀ b, b ≠ R → M3 b = M2 b := fun b hb => by rw [← hM3, fput_ne _ _ _ _ hb]
    refine wr_end (ih (j + 1) (by omega) M3 (N + 2) (Nat.lor w0 (Nat.lor (Nat.lor (bit N) w1) (bit R))) v1 (by omega) (fun b h1 h2 => by rw [l3 b h2, hl1 b h1, l1 b (by omega), hM b h1 h2]) (fun b h1 h2 => by simp only [lor_test, hw b h1 h2, bit_ne (show b ≠ N by omega), mod_bit (hw1 n (Nat.le_refl _)) b h1, bit_ne h2]; rfl) (by rw [← hM3]; exact fput_same _ _ _) (hs1.frame (Nat.le_refl _) fun b h1 h2 => l3 b (by omega))) fun X e m n w hq => ?_
    rw [show Nat.lor w0 (Nat.lor (Nat.lor (Nat.lor (bit N) w1) (bit R)) w) = Nat.lor (Nat.lor w0 (Nat.lor (Nat.lor (bit N) w1) (bit R))) w from (lor_assoc' _ _ _).symm]
    exact hq
theorem create_spec (hU : YUp Y) (hE : E 20 = some ac20) (h53 : E 53 = some ac53) (h54 : E 54 = some ac54) {i : Ids} {T O : Nat} (G : Geo E Y T O) {m : FM} {n : Nat} {s0 s1 s2 s3 op : Int} (hD : i.D < n) (hd : m i.D = some (.cells (dkC i T O s0 s1 s2 s3 op) 0 false true)) :
    Rt (callW PG E Y 20 [.pointer (some ⟨i.D, 0, none⟩), .int .u64 0, .int .i64 ((4 * T : Nat) : Int)] m n) fun r m' n' w => n ≤ n' ∧ (∀ b, b < n → m' b = m b) ∧ (∀ j, j ≤ n → Nat.mod w (bit j) = 0) ∧ ∃ R EN, r = .tuple #[.pointer (some ⟨R, 0, none⟩), .int .i64 0] ∧ n ≤ R - 1 ∧ 1 ≤ R ∧ R < EN ∧ EN < n' ∧ m' R = some (.cells [.pointer (some ⟨i.D, 0, none⟩), .int .u64 0, .slice (some ⟨EN, 0, none⟩) (4 * T) UNK, .slice (some ⟨R - 1, 0, none⟩) 5 5, .int .u64 0, .int .i64 0] 0 false true) ∧ m' EN = some (.cells (ecells (noEnt (4 * T))) 3 true true) ∧ m' (R - 1) = some (.cells (bcells (List.replicate 5 ⟨0, 0, 0, 0⟩)) 4 false true) := by
  have hT := G.ok.t1
  have hT4 := G.ok.t2
  refine kept_specQ (R := fun r m' n' => ∃ R EN, r = .tuple #[.pointer (some ⟨R, 0, none⟩), .int .i64 0] ∧ n ≤ R - 1 ∧ 1 ≤ R ∧ R < EN ∧ EN < n' ∧ m' R = some (.cells [.pointer (some ⟨i.D, 0, none⟩), .int .u64 0, .slice (some ⟨EN, 0, none⟩) (4 * T) UNK, .slice (some ⟨R - 1, 0, none⟩) 5 5, .int .u64 0, .int .i64 0] 0 false true) ∧ m' EN = some (.cells (ecells (noEnt (4 * T))) 3 true true) ∧ m' (R - 1) = some (.cells (bcells (List.replicate 5 ⟨0, 0, 0, 0⟩)) 4 false true)) hE rfl fun Q hQ => ?_
  simp only [ac20]
  simp (implicitDefEqProofs := false) (disch := omega) only [W2, opds, Nat.testBit, Nat.reduceAdd, Nat.reduceShiftRight, Nat.reduceAnd, Nat.reduceBNe, Nat.reduceMul]
  refine use_pure (geom0 h53 hD hd) fun r1 => ?_
  simp only [gV]
  simp (implicitDefEqProofs := false) (disch := omega) only [W2, opds, Nat.testBit, Nat.reduceAdd, Nat.reduceShiftRight, Nat.reduceAnd, Nat.reduceBNe, Nat.reduceMul]
  generalize hM1 : (AMem.put m n _ : FM) = M1
  have l1 : ∀ b, b < n → M1 b = m b := fun b hb => by rw [← hM1, fput_ne _ _ _ _ (by omega)]
  have l0 : M1 n = some (.cells [.int .i64 4, .int .i64 5, .int .i64 (T : Int), .int .i64 2, .int .i64 (O : Int)] 0 false true) := by rw [← hM1]; exact fput_same _ _ _
  simp (implicitDefEqProofs := false) (disch := omega) only [W2, opds, Nat.testBit, Nat.reduceAdd, Nat.reduceShiftRight, Nat.reduceAnd, Nat.reduceBNe, Nat.reduceMul, eqlnil27, l0, show ∀ k, belowV k (.pointer none) = true from fun _ => rfl]
  refine use_pureX (bandSize_spec h54 G _ _) fun r2 => ?_
  simp (implicitDefEqProofs := false) (disch := omega) only [W2, opds, Nat.testBit, Nat.reduceAdd, Nat.reduceShiftRight, Nat.reduceAnd, Nat.reduceBNe, Nat.reduceMul, l0]
  generalize hM2 : (AMem.put (AMem.put M1 (n + 1) _) (n + 2) _ : FM) = M2
  have l2 : ∀ b, b < n + 1 → M2 b = M1 b := fun b hb => by rw [← hM2, fput_ne _ _ _ _ (by omega), fput_ne _ _ _ _ (by omega)]
  have k1 : M2 (n + 1) = some (.cells (bcells (List.replicate 5 ⟨0, 0, 0, 0⟩)) 4 false true) := by rw [← hM2, fput_ne _ _ _ _ (by omega)]; exact fput_same _ _ _
  have k2 : M2 (n + 2) = some (.cells [.pointer (some ⟨i.D, 0, none⟩), .int .u64 0, .slice none 0 0, .slice (some ⟨n + 1, 0, none⟩) 5 5, .int .u64 0, .int .i64 0] 0 false true) := by rw [← hM2]; exact fput_same _ _ _
  refine wr_kont ((create_L0 (n := n + 3) (R := n + 2) (nb := 4 * T) (M0 := M2) (bv := .slice (some ⟨n + 1, 0, none⟩) 5 5) (dp := .pointer (some ⟨i.D, 0, none⟩)) (by omega) (by omega) ⟨rfl, rfl⟩ _ _ _ _ _ _ _ (fun M N w ev hN hM hw hr hS => ?_) (4 * T) 0 (Nat.zero_add _) M2 (n + 3) 0 (.slice none 0 0) (Nat.le_refl _) (fun _ _ _ => rfl) (fun b _ _ => Nat.zero_testBit _) k2 (.inl ⟨rfl, rfl, rfl⟩)).mono fun X e m' n' w hq => by simpa only [zero_lor'] using hq)
  intro rr
  simp (implicitDefEqProofs := false) (disch := omega) only [W2, opds, Nat.testBit, Nat.reduceAdd, Nat.reduceShiftRight, Nat.reduceAnd, Nat.reduceBNe, Nat.reduceMul]
  rcases hS with ⟨z, _⟩ | ⟨_, hcl, EN, rfl, e1, e2, e3⟩
  · omega
  refine hQ _ _ _ _ _ (by omega) (fun b hb => by rw [hM b (by omega) (by omega), l2 b (by omega), l1 b hb]) ?_ rfl ⟨n + 2, EN, rfl, by omega, by omega, by omega, e2, hr, e3, ?_⟩
  · refine bit_mod fun b hb => ?_
    simp only [lor_test, bit_ne (show b ≠ n by omega), bit_ne (show b ≠ n + 1 by omega), bit_ne (show b ≠ n + 2 by omega), hw b (by omega) (by omega)]; rfl
  · rw [show n + 2 - 1 = n + 1 by omega, hM _ (by omega) (by omega)]; exact k1
end Go.Am.CS
namespace Go.Am.CS
set_option maxRecDepth 100000
open Go Go.Am
variable {E : Nat → Option AFn} {Y : Nat → List Value → FM → Nat → OR FM}
theorem c22_spec {T O : Nat} (F : Fn2 E Y T O) (hE : E 22 = some ac22) {i : Ids} {pb : Nat} {m : FM} {n : Nat} {xs : List (Int × Value)} {c : Nat} (h : Dsk i T O pb m n xs c) (hc : c ≤ 100000) {bd bk ba a : Nat} (ha : a < 5) (kd : bd < n ∧ m bd = some (.cells [.pointer (some ⟨i.D, 0, none⟩)] 0 false true)) (kk : bk < n ∧ m bk = some (.cells [.int .u64 0] 0 false true)) (ka : ba < n ∧ m ba = some (.cells [.int .i64 (a : Int)] 0 false true)) :
    Rt (callW PG E Y 22 [.pointer (some ⟨bd, 0, none⟩), .pointer (some ⟨bk, 0, none⟩), .pointer (some ⟨ba, 0, none⟩)] m n) fun r m' n' w => Nat.testBit w i.P = true ∧ (r = .int .i64 0 ∧ (∃ pb' xs', n ≤ n' ∧ Fr i.P i.D pb n m m' w ∧ n ≤ pb' ∧ xs'.length = xs.length ∧ Dsk i T O pb' m' n' xs' (c + 1))) := by
  obtain ⟨h0, h1, h2, h3, h4, h5, h6, h7, h8, h9⟩ := h.cc.ok
  have hKN := h.cc.KN
  obtain ⟨kd1, kd2⟩ := kd
  obtain ⟨kk1, kk2⟩ := kk
  obtain ⟨ka1, ka2⟩ := ka
  refine wrt_spec (R := fun r m' n' w => r = .int .i64 0 ∧ (∃ pb' xs', n ≤ n' ∧ Fr i.P i.D pb n m m' w ∧ n ≤ pb' ∧ xs'.length = xs.length ∧ Dsk i T O pb' m' n' xs' (c + 1))) hE rfl (show i.P < n by omega) fun Q hQ => ?_
  simp only [ac22]
  simp (implicitDefEqProofs := false) (disch := omega) only [W2, opds, Nat.testBit, Nat.reduceAdd, Nat.reduceShiftRight, Nat.reduceAnd, Nat.reduceBNe, Nat.reduceMul, kd2, kk2, ka2]
  refine use_rt (disk_erase F h hc ha) fun r1 m1 n1 r2 w1 hh => ?_
  obtain ⟨q0, pb', q1, q2, q3, rfl, q4⟩ := hh
  simp (implicitDefEqProofs := false) (disch := omega) only [W2, opds, Nat.testBit, Nat.reduceAdd, Nat.reduceShiftRight, Nat.reduceAnd, Nat.reduceBNe, Nat.reduceMul]
  exact hQ _ _ _ _ _ q0 ⟨rfl, pb', _, q1, q2, q3, blankX_len _ _ _, q4⟩
theorem c24_spec {T O : Nat} (F : Fn2 E Y T O) (hE : E 24 = some ac24) {i : Ids} {pb : Nat} {m : FM} {n : Nat} {xs : List (Int × Value)} {c : Nat} (h : Dsk i T O pb m n xs c) (hc : c ≤ 100000) {bd bk : Nat} (kd : bd < n ∧ m bd = some (.cells [.pointer (some ⟨i.D, 0, none⟩)] 0 false true)) (kk : bk < n ∧ m bk = some (.cells [.int .u64 0] 0 false true)) :
    Rt (callW PG E Y 24 [.pointer (some ⟨bd, 0, none⟩), .pointer (some ⟨bk, 0, none⟩)] m n) fun r m' n' w => Nat.testBit w i.P = true ∧ (r = .int .i64 0 ∧ (n ≤ n' ∧ Fr i.P i.D pb n m m' w ∧ Dsk i T O pb m' n' xs 0)) := by
  obtain ⟨h0, h1, h2, h3, h4, h5, h6, h7, h8, h9⟩ := h.cc.ok
  have hKN := h.cc.KN
  obtain ⟨kd1, kd2⟩ := kd
  obtain ⟨kk1, kk2⟩ := kk
  refine wrt_spec (R := fun r m' n' w => r = .int .i64 0 ∧ (n ≤ n' ∧ Fr i.P i.D pb n m m' w ∧ Dsk i T O pb m' n' xs 0)) hE rfl (show i.P < n by omega) fun Q hQ => ?_
  simp only [ac24]
  simp (implicitDefEqProofs := false) (disch := omega) only [W2, opds, Nat.testBit, Nat.reduceAdd, Nat.reduceShiftRight, Nat.reduceAnd, Nat.reduceBNe, Nat.reduceMul, kd2, kk2]
  refine use_rt (disk_flush F h hc) fun r1 m1 n1 r2 w1 hh => ?_
  obtain ⟨q0, q1, q2, rfl, q3⟩ := hh
  simp (implicitDefEqProofs := false) (disch := omega) only [W2, opds, Nat.testBit, Nat.reduceAdd, Nat.reduceShiftRight, Nat.reduceAnd, Nat.reduceBNe, Nat.reduceMul]
  exact hQ _ _ _ _ _ q0 ⟨rfl, q1, q2, q3⟩
theorem new_L0 {T O : Nat} (F : Fn3 E Y T O) (h22 : E 22 = some ac22) {i : Ids} {N1 bd bk : Nat} {M1 : FM} (hi : i.D < N1) (hbd : bd < N1 ∧ ¬ (i.P ≤ bd ∧ bd ≤ i.D) ∧ M1 bd = some (.cells [.pointer (some ⟨i.D, 0, none⟩)] 0 false true)) (hbk : bk < N1 ∧ ¬ (i.P ≤ bk ∧ bk ≤ i.D) ∧ M1 bk = some (.cells [.int .u64 0] 0 false true)) (L : Nat) (x4 x5 x6 x7 x8 x9 x10 x11 : Value) {Q : AX → List Value → FM → Nat → Nat → Prop}
    (hQ : ∀ y0 y1 y3 pb M N w xs, N1 ≤ N → Dsk i T O pb M N xs 5 → xs.length = L → (pb = i.sd ∨ N1 ≤ pb) → (∀ b, b < N1 → ¬ (i.P ≤ b ∧ b ≤ i.D) → M b = M1 b ∧ Nat.testBit w b = false) → Q (.exit 0) [y0, y1, y3, .int .i64 5, x4, x5, x6, x7, x8, .pointer (some ⟨bk, 0, none⟩), .pointer (some ⟨bd, 0, none⟩), x9, x10, x11] M N w) :
    ∀ (d j : Nat), j + d = 5 → ∀ (y0 y1 y3 : Value) (pb : Nat) (M : FM) (N w0 : Nat) (xs : List (Int × Value)), N1 ≤ N → Dsk i T O pb M N xs j → xs.length = L → (pb = i.sd ∨ N1 ≤ pb) → (∀ b, b < N1 → ¬ (i.P ≤ b ∧ b ≤ i.D) → M b = M1 b ∧ Nat.testBit w0 b = false) →
    Gv (execW PG E Y ac9L0 [y0, y1, .int .i64 (j : Int), y3, .int .i64 5, x4, x5, x6, x7, x8, .pointer (some ⟨bk, 0, none⟩), .pointer (some ⟨bd, 0, none⟩), x9, x10, x11] M N) fun X e m n w => Q X e m n (Nat.lor w0 w) := by
  obtain ⟨bd1, bd2, bd3⟩ := hbd
  obtain ⟨bk1, bk2, bk3⟩ := hbk
  intro d
  induction d with
  | zero =>
    intro j hj y0 y1 y3 pb M N w0 xs hN hD hxl hpb hf
    refine wr_loopN (L := ac9L0) (b := ac9L0b) rfl ?_
    simp only [ac9L0b]
    obtain rfl : j = 5 := by omega
    simp (implicitDefEqProofs := false) (disch := omega) only [W2, opds, Nat.testBit, Nat.reduceAdd, Nat.reduceShiftRight, Nat.reduceAnd, Nat.reduceBNe, Nat.reduceMul]
    exact hQ _ _ _ _ _ _ _ _ hN hD hxl hpb hf
  | succ d ih =>
    intro j hj y0 y1 y3 pb M N w0 xs hN hD hxl hpb hf
    obtain ⟨h0, h1, h2, h3, h4, h5, h6, h7, h8, h9⟩ := hD.cc.ok
    have hKN := hD.cc.KN
    have m2 := (hf bd bd1 bd2).1.trans bd3
    have m3 := (hf bk bk1 bk2).1.trans bk3
    refine wr_loopN (L := ac9L0) (b := ac9L0b) rfl ?_
    simp only [ac9L0b]
    simp (implicitDefEqProofs := false) (disch := omega) only [W2, opds, Nat.testBit, Nat.reduceAdd, Nat.reduceShiftRight, Nat.reduceAnd, Nat.reduceBNe, Nat.reduceMul, s_func]
    generalize hM2 : (AMem.put M N _ : FM) = M2
    have l2 : ∀ b, b < N → M2 b = M b := fun b hb => by rw [← hM2, fput_ne _ _ _ _ (by omega)]
    refine use_rt (retry_spec F.e21 (f := 22) (cs := [.pointer (some ⟨bd, 0, none⟩), .pointer (some ⟨bk, 0, none⟩), .pointer (some ⟨N, 0, none⟩)]) (show i.P < N + 1 by omega) (c22_spec F.toFn2 h22 (hD.keep (show N ≤ N + 1 by omega) l2) (by omega) (a := j) (by omega) ⟨by omega, (l2 bd (by omega)).trans m2⟩ ⟨by omega, (l2 bk (by omega)).trans m3⟩ ⟨by omega, by rw [← hM2]; exact fput_same _ _ _⟩)) fun r3 M3 N3 r4 w3 hh => ?_
    obtain ⟨q0, rfl, pb', xs', q1, q2, q3, q4, q5⟩ := hh
    simp (implicitDefEqProofs := false) (disch := omega) only [W2, opds, Nat.testBit, Nat.reduceAdd, Nat.reduceShiftRight, Nat.reduceAnd, Nat.reduceBNe, Nat.reduceMul]
    refine wr_end (ih (j + 1) (by omega) y0 y1 y3 pb' M3 N3 (Nat.lor w0 (Nat.lor (Nat.lor (bit N) (bit N)) w3)) xs' (by omega) q5 (by omega) (.inr (by omega)) (fun b hb hk => ?_)) fun X e m n w hq => ?_
    · have hpe : b ≠ pb := by omega
      refine ⟨by rw [(q2 b (by omega) hk hpe).1, l2 b (by omega), (hf b hb hk).1], ?_⟩
      simp only [lor_test, (hf b hb hk).2, bit_ne (show b ≠ N by omega), (q2 b (by omega) hk hpe).2]; rfl
    · rw [show Nat.lor w0 (Nat.lor (Nat.lor (Nat.lor (bit N) (bit N)) w3) w) = Nat.lor (Nat.lor w0 (Nat.lor (Nat.lor (bit N) (bit N)) w3)) w from (lor_assoc' _ _ _).symm]
      exact hq
theorem new9 {T O : Nat} (F : Fn3 E Y T O) (hE : E 9 = some ac9) (h20 : E 20 = some ac20) (h22 : E 22 = some ac22) (h24 : E 24 = some ac24) {m : FM} {n n0 P sd md sc mc C D : Nat} (hP : P < n0) (hPm : m P = some (.cells (pwC 0) 0 false true)) (hC : NewC T O n0 m n sd md sc mc C) (hCD : C < D) (hDn : D < n) (hDm : m D = some (.cells (dkC (ids0 P sd md sc mc C D) T O 0 0 0 0 0) 0 false true)) :
    Rt (callW PG E Y 9 [.pointer (some ⟨D, 0, none⟩), .int .u64 0, .int .i64 ((4 * T : Nat) : Int)] m n) fun r m' n' w => Nat.testBit w P = true ∧ (∃ (i : Ids) (pb' : Nat) (xs' : List (Int × Value)), i.P = P ∧ i.D = D ∧ n ≤ i.R ∧ n ≤ n' ∧ r = .tuple #[.pointer (some ⟨i.R, 0, none⟩), .int .i64 0] ∧ Drv i T O pb' m' n' xs' 0 (noEnt (4 * T)) (List.replicate 5 ⟨0, 0, 0, 0⟩) 0 ∧ (∀ b, b < n → ¬ (i.P ≤ b ∧ b ≤ i.D) → m' b = m b ∧ Nat.testBit w b = false)) := by
  obtain ⟨c0, c1, c2, c3, c4, c5, c6, c7, c8⟩ := hC
  refine wrt_spec (R := fun r m' n' w => ∃ (i : Ids) (pb' : Nat) (xs' : List (Int × Value)), i.P = P ∧ i.D = D ∧ n ≤ i.R ∧ n ≤ n' ∧ r = .tuple #[.pointer (some ⟨i.R, 0, none⟩), .int .i64 0] ∧ Drv i T O pb' m' n' xs' 0 (noEnt (4 * T)) (List.replicate 5 ⟨0, 0, 0, 0⟩) 0 ∧ (∀ b, b < n → ¬ (i.P ≤ b ∧ b ≤ i.D) → m' b = m b ∧ Nat.testBit w b = false)) hE rfl (show P < n by omega) fun Q hQ => ?_
  simp only [ac9]
  simp (implicitDefEqProofs := false) (disch := omega) only [W2, opds, Nat.testBit, Nat.reduceAdd, Nat.reduceShiftRight, Nat.reduceAnd, Nat.reduceBNe, Nat.reduceMul]
  generalize hM1 : (AMem.put (AMem.put m n _) (n + 1) _ : FM) = M1
  have l1 : ∀ b, b < n → M1 b = m b := fun b hb => by rw [← hM1, fput_ne _ _ _ _ (by omega), fput_ne _ _ _ _ (by omega)]
  have p0 : M1 n = some (.cells [.pointer (some ⟨D, 0, none⟩)] 0 false true) := by rw [← hM1, fput_ne _ _ _ _ (by omega)]; exact fput_same _ _ _
  have p1 : M1 (n + 1) = some (.cells [.int .u64 0] 0 false true) := by rw [← hM1]; exact fput_same _ _ _
  refine use_rt (create_spec F.up h20 F.e53 F.e54 F.G (i := ids0 P sd md sc mc C D) (show D < n + 2 by omega) ((l1 D hDn).trans hDm)) fun r1 m2 n2 r2 w2 hh => ?_
  obtain ⟨q1, q2, q3, R, EN, rfl, e1, e2, e3, e4, e5, e6, e7⟩ := hh
  simp (implicitDefEqProofs := false) (disch := omega) only [W2, opds, Nat.testBit, Nat.reduceAdd, Nat.reduceShiftRight, Nat.reduceAnd, Nat.reduceBNe, Nat.reduceMul, extr_mk, e5]
  have hT := F.G.ok.t1
  have hT4 := F.G.ok.t2
  have hal : ∀ b, b < n → m2 b = m b := fun b hb => by rw [q2 b (by omega), l1 b hb]
  have hmN := c7.mbN
  have hcN := c7.cbN
  have hmN' := c6.mbN
  have hcN' := c6.cbN
  have hok : Ids.Ok ⟨0, P, sd, md, sc, mc, C, D, R, EN, n2⟩ := ⟨Nat.zero_le _, by show P < sd; omega, c1, c2, c3, c4, hCD, by show D < R; omega, e3, e4⟩
  have hDsk : Dsk ⟨0, P, sd, md, sc, mc, C, D, R, EN, n2⟩ T O sd m2 n2 (emptyX T) 0 := by
    refine ⟨⟨hok, Nat.le_refl _, .inr rfl, by omega, ⟨.slice none 0 0, by rw [hal _ (by show C < n; omega)]; exact c8, [], Nat.le_refl _, fun o ho => (by cases ho), .inl ⟨rfl, rfl⟩⟩, c7.frame (by omega) (hal _ hmN) (hal _ hcN), emptyX T, c6.frame (by omega) (hal _ hmN') (hal _ hcN')⟩, ⟨0, 0, 0, 0, 0, by rw [hal _ (by show D < n; omega)]; exact hDm⟩, 0, by rw [hal _ (by show P < n; omega)]; exact hPm⟩
  have k0 := (q2 n (by omega)).trans p0
  have k1 := (q2 (n + 1) (by omega)).trans p1
  refine wr_kont ((new_L0 F h22 (i := ⟨0, P, sd, md, sc, mc, C, D, R, EN, n2⟩) (N1 := n2) (bd := n) (bk := n + 1) (M1 := m2) (show D < n2 by omega) ⟨by omega, by show ¬ (P ≤ n ∧ n ≤ D); omega, k0⟩ ⟨by omega, by show ¬ (P ≤ n + 1 ∧ n + 1 ≤ D); omega, k1⟩ (emptyX T).length _ _ _ _ _ _ _ _ (fun y0 y1 y3 pb3 M3 N3 w3 xs3 hN3 hD3 hxl3 hpb3 hf3 => ?_) 5 0 (Nat.zero_add _) _ _ _ sd m2 n2 0 (emptyX T) (Nat.le_refl _) hDsk rfl (.inl rfl) (fun b _ _ => ⟨rfl, Nat.zero_testBit _⟩)).mono fun X e m' n' w hq => by simpa only [zero_lor'] using hq)
  intro rr
  have f0 := (hf3 n (by omega) (by show ¬ (P ≤ n ∧ n ≤ D); omega)).1.trans k0
  have f1 := (hf3 (n + 1) (by omega) (by show ¬ (P ≤ n + 1 ∧ n + 1 ≤ D); omega)).1.trans k1
  simp (implicitDefEqProofs := false) (disch := omega) only [W2, opds, Nat.testBit, Nat.reduceAdd, Nat.reduceShiftRight, Nat.reduceAnd, Nat.reduceBNe, Nat.reduceMul, s_func]
  refine use_rt (retry_spec F.e21 (f := 24) (cs := [.pointer (some ⟨n, 0, none⟩), .pointer (some ⟨n + 1, 0, none⟩)]) (show P < N3 by omega) (c24_spec F.toFn2 h24 hD3 (by omega) ⟨by omega, f0⟩ ⟨by omega, f1⟩)) fun r5 M5 N5 r6 w5 hh => ?_
  obtain ⟨y0', rfl, y1', y2', y3'⟩ := hh
  simp (implicitDefEqProofs := false) (disch := omega) only [W2, opds, Nat.testBit, Nat.reduceAdd, Nat.reduceShiftRight, Nat.reduceAnd, Nat.reduceBNe, Nat.reduceMul]
  have hsd : pb3 = sd ∨ n2 ≤ pb3 := hpb3
  have fr : ∀ b, b < n2 → ¬ (P ≤ b ∧ b ≤ D) → M5 b = m2 b := fun b hb hk => by rw [(y2' b (by omega) hk (by omega)).1, (hf3 b hb hk).1]
  refine hQ _ _ _ _ _ (by simp only [lor_test, y0']; simp) ⟨⟨0, P, sd, md, sc, mc, C, D, R, EN, n2⟩, pb3, xs3, rfl, rfl, by show n ≤ R; omega, by omega, rfl, ⟨y3', ⟨.slice (some ⟨R - 1, 0, none⟩) 5 5, ?_, R - 1, 5, false, true, rfl, ?_, ?_, ?_, ?_, ?_, ?_⟩, ?_, rfl, ?_⟩, fun b hb hk => ⟨?_, ?_⟩⟩
  · show M5 R = _
    rw [fr R (by omega) (by omega), e5]
    rw [show (4 * T) = (noEnt (4 * T)).length by rw [noEnt, List.length_replicate]]
    simp only [noEnt, List.length_replicate]; rfl
  · refine .inr ⟨by show D < R - 1; omega, by show R - 1 ≠ R; omega, by show R - 1 ≠ EN; omega⟩
  · omega
  · omega
  · rw [fr _ (by omega) (by omega)]; exact e7
  · simp
  · simp
  · show M5 EN = _
    rw [fr EN (by omega) (by omega)]; exact e6
  · rw [noEnt, List.length_replicate]; omega
  · rw [fr b (by omega) hk, hal b hb]
  · have hk' : ¬ (P ≤ b ∧ b ≤ D) := hk
    simp only [lor_test, bit_ne (show b ≠ n by omega), bit_ne (show b ≠ n + 1 by omega), mod_bit (q3 (n + 2) (Nat.le_refl _)) b (by omega), (hf3 b (by omega) hk).2, (y2' b (by omega) hk (by omega)).2]; rfl
end Go.Am.CS
namespace Go.Am
open Go
section
variable {P : Program}
def eqItemsA (d : Nat) (e : TypeId) (xs ys : Array Value) : List Nat → Sem Bool
  | [] => pure true
  | i :: is => do
    let a ← part e xs (i * 1)
    let b ← part e ys (i * 1)
    let r ← Op.equalIn d e a b
    if (!r) = true then pure false else eqItemsA d e xs ys is
theorem pr_sizeOf {e n : Nat} (h : isSz P e n = true) : pureRun P (sizeOf e) = some n := by
  obtain ⟨i, hi, hs⟩ := isSz_run h
  unfold sizeOf typeInfo
  rw [pr_bind, pr_bind, pr_program, Option.bind_some, hi]
  show some i.size = some n
  rw [hs]
theorem pr_equal_array (d : Nat) {t e : TypeId} {n : Nat} (xs ys : Array Value) (hu : P.underlying t = some (.array n e)) (hi : isSz P e 1 = true) :
    pureRun P (Op.equalIn (d + 1) t (.agg xs) (.agg ys)) = pureRun P (eqItemsA d e xs ys (List.range' 0 n)) := by
  simp only [Op.equalIn, pr_bind, pr_underlying hu, pr_sizeOf hi, Option.bind_some]
  simp only [Std.Legacy.Range.forIn_eq_forIn_range', Std.Legacy.Range.size, Nat.sub_zero, Nat.add_one_sub_one, Nat.div_one]
  generalize List.range' 0 n = is
  induction is with
  | nil => rfl
  | cons j is ih =>
    simp only [List.forIn_cons, eqItemsA, pr_bind]
    cases pureRun P (part e xs (j * 1)) with
    | none => rfl
    | some a =>
      simp only [Option.bind_some]
      cases pureRun P (part e ys (j * 1)) with
      | none => rfl
      | some b =>
        simp only [Option.bind_some]
        cases pureRun P (Op.equalIn d e a b) with
        | none => rfl
        | some r =>
          cases r
          · rfl
          · exact ih
theorem pr_items {d : Nat} {e : TypeId} {asl bs : List Int} (hu : P.underlying e = some (.int .u8)) : ∀ (k j : Nat), asl.length = j + k → bs.length = j + k →
    pureRun P (eqItemsA (d + 1) e (asl.map (Value.int .u8)).toArray (bs.map (Value.int .u8)).toArray (List.range' j k)) = some (decide (asl.drop j = bs.drop j))
  | 0, j, ha, hb => by
    rw [List.drop_eq_nil_of_le (by omega), List.drop_eq_nil_of_le (by omega)]
    rfl
  | k + 1, j, ha, hb => by
    have hai : j < asl.length := by omega
    have hbi : j < bs.length := by omega
    have ih := pr_items (d := d) (asl := asl) (bs := bs) hu k (j + 1) (by omega) (by omega)
    rw [List.range'_succ, eqItemsA, pr_bind, pr_part hu (v := .int .u8 asl[j]) (by simp [hai]), Option.bind_some, pr_bind, pr_part hu (v := .int .u8 bs[j]) (by simp [hbi]), Option.bind_some, pr_bind, pr_equal_int hu, Option.bind_some]
    rw [List.drop_eq_getElem_cons hai, List.drop_eq_getElem_cons hbi]
    by_cases he : asl[j] = bs[j]
    · have hb2 : (!(asl[j] == bs[j])) = false := by simp [he]
      rw [hb2]
      show pureRun P (eqItemsA (d + 1) e _ _ (List.range' (j + 1) k)) = _
      rw [ih]
      congr 1
      rw [he]
      simp only [List.cons.injEq, true_and]
    · have hb2 : (!(asl[j] == bs[j])) = true := by simp [he]
      rw [hb2]
      show some false = _
      simp only [List.cons.injEq, he, false_and, decide_false]
def bytesT (P : Program) (t n e : Nat) : Bool :=
  (match P.underlying t with | some (.array k f) => k == n && f == e | _ => false) && (match P.underlying e with | some (.int .u8) => true | _ => false) && isSz P e 1 && !P.eqGuardType P.depth t
theorem pr_bytes {t n e : Nat} (h : bytesT P t n e = true) (op : BinOp) (hop : op = .eql ∨ op = .neq) {asl bs : List Int} (ha : asl.length = n) (hb : bs.length = n) :
    binV P op t (.agg (asl.map (Value.int .u8)).toArray) (.agg (bs.map (Value.int .u8)).toArray) = some (.bool (match op with | .neq => !decide (asl = bs) | _ => decide (asl = bs))) := by
  rw [bytesT, Bool.and_eq_true, Bool.and_eq_true, Bool.and_eq_true] at h
  obtain ⟨⟨⟨h1, h2⟩, h3⟩, h5⟩ := h
  have hu : P.underlying t = some (.array n e) := by
    split at h1
    · rename_i k f hk
      simp only [Bool.and_eq_true, beq_iff_eq] at h1
      rw [hk, h1.1, h1.2]
    · cases h1
  have he : P.underlying e = some (.int .u8) := by
    split at h2
    · assumption
    · cases h2
  have hg : P.eqGuardType P.depth t = false := by simpa using h5
  have hfree : ∀ l : List Int, addrFree (.agg (l.map (Value.int .u8)).toArray) = true := fun l => by
    show (l.map (Value.int .u8)).all Am.flat = true
    rw [List.all_map, List.all_eq_true]; intro x _; rfl
  have e2 : pureRun P (Op.equal t (.agg (asl.map (Value.int .u8)).toArray) (.agg (bs.map (Value.int .u8)).toArray)) = some (decide (asl = bs)) := by
    show pureRun P (Op.equalIn (9999 + 1) t _ _) = _
    rw [pr_equal_array _ _ _ hu h3]
    have := pr_items (P := P) (d := 9998) (asl := asl) (bs := bs) he n 0 (by omega) (by omega)
    simpa using this
  have e1 : ∀ op, op = .eql ∨ op = .neq → pureRun P (eqGuard op t (.tmp 0) (.tmp 0) (.agg (asl.map (Value.int .u8)).toArray) (.agg (bs.map (Value.int .u8)).toArray)) = some () := by
    intro op ho
    have : pureRun P (program >>= fun p => program >>= fun q => if (!p.eqGuardType q.depth t) = true then pure () else (do if ← Op.eqGuardIn Op.maxDepth t (.agg (asl.map (Value.int .u8)).toArray) (.agg (bs.map (Value.int .u8)).toArray) then unsupported (.noEntry "binop/eql: two nil values of an interface type with methods, in a part of a struct or an array"))) = some () := by
      rw [pr_bind, pr_program, Option.bind_some, pr_bind, pr_program, Option.bind_some, hg]; rfl
    rcases ho with rfl | rfl <;> exact this
  show cond (addrFree _ && addrFree _ && notIface _) (flatO (pureRun P _)) none = _
  rw [hfree, hfree]
  show flatO (pureRun P (do eqGuard op t (.tmp 0) (.tmp 0) (.agg _) (.agg _); binOp op t (.agg _) (.agg _))) = _
  rw [pr_bind, e1 op hop, Option.bind_some]
  rcases hop with rfl | rfl
  · show flatO (pureRun P (Op.equal t (.agg _) (.agg _) >>= fun r => pure (.bool r))) = _
    rw [pr_bind, e2]; rfl
  · show flatO (pureRun P (Op.equal t (.agg _) (.agg _) >>= fun r => pure (.bool (!r)))) = _
    rw [pr_bind, e2]; rfl
end
end Go.Am
namespace Go.Am.CS
set_option maxRecDepth 100000
open Go Go.Am
variable {E : Nat → Option AFn} {Y : Nat → List Value → FM → Nat → OR FM}
def RnI (i : Ids) (T O j pb : Nat) (M : FM) (N : Nat) : Prop :=
  ∃ xs, Drv i T O pb M N xs j (noEnt (4 * T)) (List.replicate 5 ⟨0, 0, 0, 0⟩) 0 ∧ ∀ a : Nat, a < j → ∃ v, xs[a]? = some (1, v) ∧ By i pb M N v 1 [.int .u8 (a : Int)]
theorem writeX_rand {T O a : Nat} (ha : a < 4) (v : Value) (xs : List (Int × Value)) : writeX T O a v xs = xs.set a (1, v) := by
  have : shads T O a = [] := by rw [shads, shn, if_pos ha]; rfl
  rw [writeX, this]; rfl
theorem wr8 {a : Nat} : convV .u8 (.int .i64 (a : Int)) = some (.int .u8 ((a % 256 : Nat) : Int)) := by
  show some (Value.int .u8 (wrapF .u8 (a : Int))) = _
  rw [wrap8_nat]
theorem rem_u8 (x : Nat) : intBin .rem .u8 (x : Int) 4 = some (.int .u8 ((x % 4 : Nat) : Int)) := by
  rw [i_rem, if_neg (by omega)]
  rfl
theorem c8i (x : Nat) (h : x < 2 ^ 62) : convV .i64 (.int .u8 (x : Int)) = some (.int .i64 (x : Int)) := by
  show some (Value.int .i64 (wrapF .i64 (x : Int))) = _
  rw [wrapF_eq, wrap_i64 (by omega) (by omega)]
theorem rand_L0 {T O : Nat} (F : Fn3 E Y T O) {i : Ids} {N1 pb0 : Nat} {M1 : FM} (x2 x3 x4 x6 x7 x9 x10 x11 x12 x13 x14 x15 x16 : Value) {Q : AX → List Value → FM → Nat → Nat → Prop}
    (hQ : ∀ M N w pb y0, N1 ≤ N → RnI i T O 4 pb M N → (pb = pb0 ∨ N1 ≤ pb) → (∀ b, b < N1 → ¬ (i.P ≤ b ∧ b ≤ i.D) → b ≠ pb0 → M b = M1 b ∧ Nat.testBit w b = false) → Q (.exit 0) [y0, x2, x3, x4, .pointer (some ⟨i.R, 0, none⟩), x6, x7, .pointer (some ⟨i.D, 0, none⟩), x9, x10, x11, x12, x13, x14, x15, x16] M N w) :
    ∀ (d j : Nat), j + d = 4 → ∀ (y0 : Value) (pb : Nat) (M : FM) (N w0 : Nat), N1 ≤ N → RnI i T O j pb M N → (pb = pb0 ∨ N1 ≤ pb) → (∀ b, b < N1 → ¬ (i.P ≤ b ∧ b ≤ i.D) → b ≠ pb0 → M b = M1 b ∧ Nat.testBit w0 b = false) →
    Gv (execW PG E Y ac3L0 [y0, .int .i64 (j : Int), x2, x3, x4, .pointer (some ⟨i.R, 0, none⟩), x6, x7, .pointer (some ⟨i.D, 0, none⟩), x9, x10, x11, x12, x13, x14, x15, x16] M N) fun X e m n w => Q X e m n (Nat.lor w0 w) := by
  intro d
  induction d with
  | zero =>
    intro j hj y0 pb M N w0 hN hI hpb hf
    refine wr_loopN (L := ac3L0) (b := ac3L0b) rfl ?_
    simp only [ac3L0b]
    obtain rfl : j = 4 := by omega
    simp (implicitDefEqProofs := false) (disch := omega) only [W2, opds, Nat.testBit, Nat.reduceAdd, Nat.reduceShiftRight, Nat.reduceAnd, Nat.reduceBNe, Nat.reduceMul]
    exact hQ _ _ _ _ _ hN hI hpb hf
  | succ d ih =>
    intro j hj y0 pb M N w0 hN hI hpb hf
    obtain ⟨xs, hD, hx⟩ := hI
    obtain ⟨h0, h1, h2, h3, h4, h5, h6, h7, h8, h9⟩ := hD.dsk.cc.ok
    have hKN := hD.dsk.cc.KN
    have hpN := hD.dsk.cc.pbN
    refine wr_loopN (L := ac3L0) (b := ac3L0b) rfl ?_
    simp only [ac3L0b]
    simp (implicitDefEqProofs := false) (disch := omega) only [W2, opds, Nat.testBit, Nat.reduceAdd, Nat.reduceShiftRight, Nat.reduceAnd, Nat.reduceBNe, Nat.reduceMul, wr8]
    rw [Nat.mod_eq_of_lt (show j < 256 by omega)]
    generalize hM2 : (AMem.put M N _ : FM) = M2
    have l2 : ∀ b, b < N → M2 b = M b := fun b hb => by rw [← hM2, fput_ne _ _ _ _ (by omega)]
    have hby : By i pb M2 (N + 1) (.slice (some ⟨N, 0, none⟩) 1 1) 1 [.int .u8 (j : Int)] := ⟨N, 0, 1, _, false, true, rfl, by omega, by omega, by omega, by rw [← hM2]; exact fput_same _ _ _, rfl, by omega, rfl⟩
    have hD2 := hD.keep (show N ≤ N + 1 by omega) l2
    have hxl := hD.dsk.cc.con.len
    refine use_rt (disk_write F.toFn2 hD2.dsk (by omega) (a := j) (by omega) hby rfl (by omega)) fun r3 M3 N3 r4 w3 hh => ?_
    obtain ⟨q0, pb', v', q1, q2, q3, rfl, q4, q5⟩ := hh
    have hD3 := hD2.disk q1 q2 (.inr q3) q4
    rw [writeX_rand (by omega)] at hD3
    have hI3 : RnI i T O (j + 1) pb' M3 N3 := by
      refine ⟨_, hD3, fun a ha => ?_⟩
      by_cases haj : a = j
      · subst haj
        exact ⟨v', List.getElem?_set_self (by omega), q5⟩
      · obtain ⟨v, e1, e2⟩ := hx a (by omega)
        refine ⟨v, by rw [List.getElem?_set_ne (by omega)]; exact e1, ?_⟩
        exact (e2.fr (lo := 0) (hi := 0) (w := 0) (pb' := pb) (fun b hb _ _ => ⟨l2 b hb, Nat.zero_testBit _⟩) (by omega) (by omega) (.inl rfl)).fr q2 (by omega) q1 (.inr q3)
    simp (implicitDefEqProofs := false) (disch := omega) only [W2, opds, Nat.testBit, Nat.reduceAdd, Nat.reduceShiftRight, Nat.reduceAnd, Nat.reduceBNe, Nat.reduceMul]
    refine wr_end (ih (j + 1) (by omega) y0 pb' M3 N3 (Nat.lor w0 (Nat.lor (bit N) w3)) (by omega) hI3 (.inr (by omega)) (fun b hb hk hne => ?_)) fun X e m n w hq => ?_
    · have hpe : b ≠ pb := by omega
      refine ⟨by rw [(q2 b (by omega) hk hpe).1, l2 b (by omega), (hf b hb hk hne).1], ?_⟩
      simp only [lor_test, (hf b hb hk hne).2, bit_ne (show b ≠ N by omega), (q2 b (by omega) hk hpe).2]; rfl
    · rw [show Nat.lor w0 (Nat.lor (Nat.lor (bit N) w3) w) = Nat.lor (Nat.lor w0 (Nat.lor (bit N) w3)) w from (lor_assoc' _ _ _).symm]
      exact hq
end Go.Am.CS
namespace Go.Am.CS
set_option maxRecDepth 100000
open Go Go.Am
variable {E : Nat → Option AFn} {Y : Nat → List Value → FM → Nat → OR FM}
theorem ne_lb {M : FM} {b lb : Nat} {xs : List Value} {sz : Nat} {opn wr : Bool} {vs : List Nat} (h : M b = some (.cells xs sz opn wr)) (hl : M lb = some (.cells (intsV vs) 1 false true)) (hd : sz = 1 → opn = false → False) : b ≠ lb := fun e => by
  subst e
  rw [h] at hl
  injection hl with hl
  injection hl with h1 h2 h3 h4
  exact hd h2 h3
theorem By.ne {i : Ids} {pb : Nat} {M : FM} {N : Nat} {v : Value} {len : Nat} {cs : List Value} {lb : Nat} {vs : List Nat} (h : By i pb M N v len cs) (hl : M lb = some (.cells (intsV vs) 1 false true)) {M' : FM} (hM : ∀ b, b ≠ lb → M' b = M b) : By i pb M' N v len cs := by
  obtain ⟨b, o, c, xs, opn, wr, h1, h2, h3, h4, h5, h6, h7, h8⟩ := h
  have hne : b ≠ lb := fun e => by
    subst e
    rw [h5] at hl
    injection hl with hl
    injection hl with e1 e2 e3 e4
    subst e1
    obtain ⟨k1, k2, k3⟩ := cellsAt_some h6
    have k4 := k3 0 (by omega)
    have k5 : 0 < cs.length := by omega
    rw [List.getElem?_eq_getElem k5, Nat.add_zero, intsV, List.getElem?_map] at k4
    rw [List.all_eq_true] at h8
    have k6 := h8 _ (List.getElem_mem k5)
    cases k7 : vs[o]? with
    | none => rw [k7] at k4; cases k4
    | some z =>
      rw [k7] at k4
      injection k4 with k4
      rw [k4] at k6
      cases k6
  exact ⟨b, o, c, xs, opn, wr, h1, h2, h3, h4, (hM b hne).trans h5, h6, h7, h8⟩
theorem Pop.ne {i : Ids} {T pb : Nat} {M : FM} {N : Nat} {o : Value} {lb : Nat} {vs : List Nat} (h : Pop i T pb M N o) (hl : M lb = some (.cells (intsV vs) 1 false true)) {M' : FM} (hM : ∀ b, b ≠ lb → M' b = M b) : Pop i T pb M' N o := by
  rcases h with ⟨ba, bb, a, v, len, bs, h1, h2, h3, h4, h5, h6, h7, h8, h9, h10, h11, h12, h13⟩ | ⟨ba, b, h1, h2, h3, h4, h5, h6⟩
  · exact .inl ⟨ba, bb, a, v, len, bs, h1, h2, h3, h4, h5, h6, h7, (hM _ (ne_lb h8 hl (by simp))).trans h8, (hM _ (ne_lb h9 hl (by simp))).trans h9, h10, h11.ne hl hM, h12, h13⟩
  · exact .inr ⟨ba, b, h1, h2, h3, h4, (hM _ (ne_lb h5 hl (by simp))).trans h5, h6⟩
theorem Med.nel {T O mb cb : Nat} {M : FM} {N : Nat} {xs : List (Int × Value)} {lb : Nat} {vs : List Nat} (h : Med M N mb cb T O xs) (hl : M lb = some (.cells (intsV vs) 1 false true)) {M' : FM} (hM : ∀ b, b ≠ lb → M' b = M b) : Med M' N mb cb T O xs :=
  h.frame (Nat.le_refl _) (hM _ (ne_lb h.st hl (by simp))) (hM _ (ne_lb h.sc hl (by simp)))
theorem Drv.ne {i : Ids} {T O pb : Nat} {M : FM} {N : Nat} {xs : List (Int × Value)} {c : Nat} {es : List Ent} {bs : List Bnd} {t lb : Nat} {vs : List Nat} (h : Drv i T O pb M N xs c es bs t) (hl : M lb = some (.cells (intsV vs) 1 false true)) {M' : FM} (hM : ∀ b, b ≠ lb → M' b = M b) : Drv i T O pb M' N xs c es bs t := by
  obtain ⟨pv, hst, pcs, k1, k2, k3⟩ := h.dsk.cc.st
  obtain ⟨ys, hy⟩ := h.dsk.cc.dur
  obtain ⟨s0, s1, s2, s3, op, hd⟩ := h.dsk.dk
  obtain ⟨lf, hp⟩ := h.dsk.pw
  obtain ⟨bv, hr, b, c, opn, wr, h1, h2, h3, h4, h5, h6, h7⟩ := h.r
  refine ⟨⟨⟨h.dsk.cc.ok, h.dsk.cc.KN, h.dsk.cc.pbk, h.dsk.cc.pbN, ⟨pv, (hM _ (ne_lb hst hl (by simp))).trans hst, pcs, k1, fun o ho => (k2 o ho).ne hl hM, ?_⟩, h.dsk.cc.con.nel hl hM, ys, hy.nel hl hM⟩, ⟨s0, s1, s2, s3, op, (hM _ (ne_lb hd hl (by simp))).trans hd⟩, lf, (hM _ (ne_lb hp hl (by simp))).trans hp⟩, ⟨bv, (hM _ (ne_lb hr hl (by simp))).trans hr, b, c, opn, wr, h1, h2, h3, h4, (hM _ (ne_lb h5 hl (by simp))).trans h5, h6, h7⟩, (hM _ (ne_lb h.en hl (by simp))).trans h.en, h.bl, h.el⟩
  rcases k3 with k3 | ⟨q1, q2, q3, q4, q5⟩
  · exact .inl k3
  · exact .inr ⟨q1, q2, q3, q4, (hM _ (ne_lb q5 hl (by simp))).trans q5⟩
theorem DrI.ne {i : Ids} {T O pb tb : Nat} {us : List Nat} {M : FM} {N lb : Nat} {vs : List Nat} (h : DrI i T O us tb pb M N) (hl : M lb = some (.cells (intsV vs) 1 false true)) {M' : FM} (hM : ∀ b, b ≠ lb → M' b = M b) : DrI i T O us tb pb M' N := by
  obtain ⟨xs, c, es, bs, t, h, hp, hc, hver, hf1, ht, hct⟩ := h
  refine ⟨xs, c, es, bs, t, h.ne hl hM, hp, ⟨fun k hk hv => ?_, fun a ha => ?_⟩, hver, hf1, ht, hct⟩
  · obtain ⟨h1, v, t0, h2, h3, h4⟩ := hc.ent k hk hv
    exact ⟨h1, v, t0, h2, h3, h4.ne hl hM⟩
  · obtain ⟨v, h1, h2⟩ := hc.rand a ha
    exact ⟨v, h1, h2.ne hl hM⟩
theorem RnI.dri {i : Ids} {T O pb : Nat} {M : FM} {N : Nat} (h : RnI i T O 4 pb M N) (hT : 1 ≤ T) : DrI i T O (List.replicate (4 * T) 0) 0 pb M N := by
  obtain ⟨xs, hD, hx⟩ := h
  have hve : ∀ k, (hk : k < (noEnt (4 * T)).length) → (noEnt (4 * T))[k].ver = 0 := fun k hk => by simp [noEnt]
  refine ⟨xs, 4, _, _, 0, hD, ⟨rfl, fun x hx => ?_, fun b hb => ?_, fun p q hp hq => ?_, fun k hk hv => absurd (hve k hk) hv⟩, ⟨fun k hk hv => absurd (hve k hk) hv, hx⟩, ?_, ?_, Nat.le_refl _, by omega⟩
  · rw [List.eq_of_mem_replicate hx]; exact ⟨Nat.le_refl _, Nat.zero_le _⟩
  · rw [List.getElem_replicate]
    refine (List.countP_eq_zero.2 fun x hx => ?_).symm
    rw [List.eq_of_mem_replicate hx]
    simp [liveIn]
  · rw [List.getElem_replicate]; intro h; exact absurd h (Nat.lt_irrefl _)
  · rw [noEnt, List.map_replicate]
  · exact (by decide : 1 ≤ freeN (List.replicate 5 ⟨0, 0, 0, 0⟩))
end Go.Am.CS
namespace Go.Am.CS
set_option maxRecDepth 100000
open Go Go.Am
variable {E : Nat → Option AFn} {Y : Nat → List Value → FM → Nat → OR FM}
def WrI (i : Ids) (T O lb j pb : Nat) (M : FM) (N : Nat) : Prop :=
  ∃ vs : List Nat, vs.length = 4 * T ∧ (∀ x ∈ vs, x ≤ j) ∧ DrI i T O vs (400 * j) pb M N ∧ M lb = some (.cells (intsV vs) 1 false true)
theorem write_L1 {T O : Nat} (F : Fn3 E Y T O) (h11 : E 11 = some ac11) {i : Ids} {N1 pb0 lb ab ao ac : Nat} {M1 : FM} {bs : List Nat} {acs : List Value} {aop awr : Bool} (hlb : lb < N1) (hlK : i.EN < lb) (hlp : lb ≠ pb0) (hb : ∀ x ∈ bs, x < 256) (hl : bs.length ≤ 120) {v : Value} (hv : 0 < bs.length → v = .slice (some ⟨ab, ao, none⟩) bs.length ac ∧ ab < i.P ∧ ab < N1 ∧ M1 ab = some (.cells acs 1 aop awr) ∧ cellsAt acs ao (bs.length * 1) = some (n8s bs)) (hvo : Am.one v = true) (hpb0 : i.K ≤ pb0 ∨ pb0 = i.sd) (z5 z6 z7 z8 z11 z13 z14 z15 z16 z17 z19 z20 : Value) {Q : AX → List Value → FM → Nat → Nat → Prop}
    (hQ : ∀ M N w pb y0 y2, N1 ≤ N → WrI i T O lb bs.length pb M N → (pb = pb0 ∨ N1 ≤ pb) → (∀ b, b < N1 → ¬ (i.P ≤ b ∧ b ≤ i.EN) → b ≠ pb0 → b ≠ lb → M b = M1 b ∧ Nat.testBit w b = false) → Q (.exit 2) [y0, y2, .int .i64 (bs.length : Int), .slice (some ⟨lb, 0, none⟩) (4 * T) (4 * T), z5, z6, z7, z8, .pointer (some ⟨i.R, 0, none⟩), .int .i64 ((4 * T : Nat) : Int), z11, .pointer (some ⟨i.D, 0, none⟩), z13, z14, z15, z16, z17, v, z19, z20] M N w) :
    ∀ (d j : Nat), j + d = bs.length → ∀ (y0 y2 : Value) (pb : Nat) (M : FM) (N w0 : Nat), N1 ≤ N → WrI i T O lb j pb M N → (pb = pb0 ∨ N1 ≤ pb) → (∀ b, b < N1 → ¬ (i.P ≤ b ∧ b ≤ i.EN) → b ≠ pb0 → b ≠ lb → M b = M1 b ∧ Nat.testBit w0 b = false) →
    Gv (execW PG E Y ac3L1 [y0, .int .i64 (j : Int), y2, .int .i64 (bs.length : Int), .slice (some ⟨lb, 0, none⟩) (4 * T) (4 * T), z5, z6, z7, z8, .pointer (some ⟨i.R, 0, none⟩), .int .i64 ((4 * T : Nat) : Int), z11, .pointer (some ⟨i.D, 0, none⟩), z13, z14, z15, z16, z17, v, z19, z20] M N) fun X e m n w => Q X e m n (Nat.lor w0 w) := by
  have hT := F.G.ok.t1
  have hT4 := F.G.ok.t2
  intro d
  induction d with
  | zero =>
    intro j hj y0 y2 pb M N w0 hN hI hpb hf
    refine wr_loopN (L := ac3L1) (b := ac3L1b) rfl ?_
    simp only [ac3L1b]
    obtain rfl : j = bs.length := by omega
    simp (implicitDefEqProofs := false) (disch := omega) only [W2, opds, Nat.testBit, Nat.reduceAdd, Nat.reduceShiftRight, Nat.reduceAnd, Nat.reduceBNe, Nat.reduceMul]
    exact hQ _ _ _ _ _ _ hN hI hpb hf
  | succ d ih =>
    intro j hj y0 y2 pb M N w0 hN hI hpb hf
    obtain ⟨vs, hvl, hvj, hD, hlm⟩ := hI
    obtain ⟨⟨h0, h1, h2, h3, h4, h5, h6, h7, h8, h9⟩, hKN, hpN, hpk⟩ := hD.ids
    have hj1 : j < bs.length := by omega
    obtain ⟨rfl, v1, v2, v3, v4⟩ := hv (by omega)
    have mv := (hf ab v2 (by omega) (by omega) (by omega)).1.trans v3
    have hix : idxV 1 j (.slice (some ⟨ab, ao, none⟩) bs.length ac) = some (.pointer (some ⟨ab, ao + j, none⟩)) := by rw [idx_mk hj1, Nat.mul_one]
    have hat : cget acs (ao + j) = some (.int .u8 ((bs[j] : Nat) : Int)) := by
      obtain ⟨e1, e2, e3⟩ := cellsAt_some v4
      rw [cget_eq, ← e3 j (by omega), n8s, List.getElem?_map, List.getElem?_eq_getElem hj1]; rfl
    have hbj := hb _ (List.getElem_mem hj1)
    have hk : bs[j] % (4 * T) < vs.length := by rw [hvl]; exact Nat.mod_lt _ (by omega)
    have hixl : idxV 1 (bs[j] % (4 * T)) (.slice (some ⟨lb, 0, none⟩) (4 * T) (4 * T)) = some (.pointer (some ⟨lb, bs[j] % (4 * T), none⟩)) := by rw [idx_mk (by omega), Nat.zero_add, Nat.mul_one]
    have hsc := sc_ints vs (bs[j] % (4 * T)) (j + 1) hk
    refine wr_loopN (L := ac3L1) (b := ac3L1b) rfl ?_
    simp only [ac3L1b]
    simp (implicitDefEqProofs := false) (disch := omega) only [W2, opds, Nat.testBit, Nat.reduceAdd, Nat.reduceShiftRight, Nat.reduceAnd, Nat.reduceBNe, Nat.reduceMul, hix, mv, hat, c8i bs[j] (by omega), hixl, hlm, hsc, cvi_nat (x := j + 1) (by omega), wr8]
    generalize hM2 : (AMem.put M lb _ : FM) = M2
    have l2 : ∀ b, b ≠ lb → M2 b = M b := fun b hb => by rw [← hM2, fput_ne _ _ _ _ hb]
    have hlm2 : M2 lb = some (.cells (intsV (vs.set (bs[j] % (4 * T)) (j + 1))) 1 false true) := by rw [← hM2]; exact fput_same _ _ _
    have hvk := hvj _ (List.getElem_mem hk)
    have hw := drive_write F h11 (hD.ne hlm l2) hvl (by omega) (k := bs[j] % (4 * T)) (ver := j + 1) hk (by omega) (by omega) (by omega)
    rw [Nat.add_sub_cancel] at hw
    refine use_rt hw fun r3 M3 N3 r4 w3 hh => ?_
    obtain ⟨q0, pb', q1, q2, q3, rfl, q4⟩ := hh
    have hlb2 : lb ≠ pb := by omega
    have hI3 : WrI i T O lb (j + 1) pb' M3 N3 := by
      refine ⟨vs.set (bs[j] % (4 * T)) (j + 1), by rw [List.length_set]; exact hvl, fun x hx => ?_, by rw [show 400 * (j + 1) = 400 * j + 400 by omega]; exact q4, by rw [(q2 lb (by omega) (by omega) hlb2).1]; exact hlm2⟩
      rcases List.mem_or_eq_of_mem_set hx with hx | rfl
      · have := hvj x hx; omega
      · omega
    simp (implicitDefEqProofs := false) (disch := omega) only [W2, opds, Nat.testBit, Nat.reduceAdd, Nat.reduceShiftRight, Nat.reduceAnd, Nat.reduceBNe, Nat.reduceMul]
    refine wr_end (ih (j + 1) (by omega) y0 y2 pb' M3 N3 (Nat.lor w0 (Nat.lor (bit lb) w3)) (by omega) hI3 (.inr (by omega)) (fun b hb hk hne hnl => ?_)) fun X e m n w hq => ?_
    · have hpe : b ≠ pb := by omega
      refine ⟨by rw [(q2 b (by omega) hk hpe).1, l2 b hnl, (hf b hb hk hne hnl).1], ?_⟩
      simp only [lor_test, (hf b hb hk hne hnl).2, bit_ne hnl, (q2 b (by omega) hk hpe).2]; rfl
    · rw [show Nat.lor w0 (Nat.lor (Nat.lor (bit lb) w3) w) = Nat.lor (Nat.lor w0 (Nat.lor (bit lb) w3)) w from (lor_assoc' _ _ _).symm]
      exact hq
end Go.Am.CS
namespace Go.Am.CS
set_option maxRecDepth 100000
open Go Go.Am
variable {E : Nat → Option AFn} {Y : Nat → List Value → FM → Nat → OR FM}
theorem neq_blk (a b : Nat) : binV PG .neq 42 (.agg #[.int .u8 (a : Int), .int .u8 (b : Int), .int .u8 0, .int .u8 0, .int .u8 0, .int .u8 0, .int .u8 0, .int .u8 0]) (.agg #[.int .u8 (a : Int), .int .u8 (b : Int), .int .u8 0, .int .u8 0, .int .u8 0, .int .u8 0, .int .u8 0, .int .u8 0]) = some (.bool false) := by
  have := pr_bytes (P := PG) (t := 42) (n := 8) (e := 5) (by kernel_rfl) .neq (.inr rfl) (asl := [(a : Int), (b : Int), 0, 0, 0, 0, 0, 0]) (bs := [(a : Int), (b : Int), 0, 0, 0, 0, 0, 0]) rfl rfl
  refine Eq.trans this ?_
  simp
theorem read_L2 {T O : Nat} (F : Fn3 E Y T O) (h12 : E 12 = some ac12) {i : Ids} {N1 pb lb tb : Nat} {M1 : FM} {vs : List Nat} (hlb : lb < N1) (hlK : i.EN < lb) (hlp : lb ≠ pb) (hvl : vs.length = 4 * T) (hv120 : ∀ x ∈ vs, x ≤ 120) (hlm : M1 lb = some (.cells (intsV vs) 1 false true)) (z4 z5 z6 z8 z9 z10 z11 z13 z14 z15 z16 z17 z18 z19 z20 z21 z22 z23 : Value) {Q : AX → List Value → FM → Nat → Nat → Prop}
    (hQ : ∀ M N w y0 y2, N1 ≤ N → DrI i T O vs tb pb M N → (∀ b, b < N1 → ¬ (i.P ≤ b ∧ b ≤ i.EN) → b ≠ pb → M b = M1 b ∧ Nat.testBit w b = false) → Q (.exit 4) [y0, y2, .int .i64 ((4 * T : Nat) : Int), z4, z5, z6, .slice (some ⟨lb, 0, none⟩) (4 * T) (4 * T), z8, z9, z10, z11, .pointer (some ⟨i.R, 0, none⟩), z13, z14, z15, z16, z17, z18, z19, z20, z21, z22, z23] M N w) :
    ∀ (d j : Nat), j + d = 4 * T → ∀ (y0 y2 : Value) (M : FM) (N w0 : Nat), N1 ≤ N → DrI i T O vs tb pb M N → (∀ b, b < N1 → ¬ (i.P ≤ b ∧ b ≤ i.EN) → b ≠ pb → M b = M1 b ∧ Nat.testBit w0 b = false) →
    Gv (execW PG E Y ac3L2 [y0, .int .i64 (j : Int), y2, .int .i64 ((4 * T : Nat) : Int), z4, z5, z6, .slice (some ⟨lb, 0, none⟩) (4 * T) (4 * T), z8, z9, z10, z11, .pointer (some ⟨i.R, 0, none⟩), z13, z14, z15, z16, z17, z18, z19, z20, z21, z22, z23] M N) fun X e m n w => Q X e m n (Nat.lor w0 w) := by
  have hT := F.G.ok.t1
  have hT4 := F.G.ok.t2
  intro d
  induction d with
  | zero =>
    intro j hj y0 y2 M N w0 hN hD hf
    refine wr_loopN (L := ac3L2) (b := ac3L2b) rfl ?_
    simp only [ac3L2b]
    obtain rfl : j = 4 * T := by omega
    simp (implicitDefEqProofs := false) (disch := omega) only [W2, opds, Nat.testBit, Nat.reduceAdd, Nat.reduceShiftRight, Nat.reduceAnd, Nat.reduceBNe, Nat.reduceMul]
    exact hQ _ _ _ _ _ hN hD hf
  | succ d ih =>
    intro j hj y0 y2 M N w0 hN hD hf
    obtain ⟨⟨h0, h1, h2, h3, h4, h5, h6, h7, h8, h9⟩, hKN, hpN, hpk⟩ := hD.ids
    have hk : j < vs.length := by omega
    have mv := (hf lb hlb (by omega) hlp).1.trans hlm
    have hix : idxV 1 j (.slice (some ⟨lb, 0, none⟩) (4 * T) (4 * T)) = some (.pointer (some ⟨lb, j, none⟩)) := by rw [idx_mk (by omega), Nat.zero_add, Nat.mul_one]
    have hat := cget_ints hk
    have hle := hv120 _ (List.getElem_mem hk)
    refine wr_loopN (L := ac3L2) (b := ac3L2b) rfl ?_
    simp only [ac3L2b]
    simp (implicitDefEqProofs := false) (disch := omega) only [W2, opds, Nat.testBit, Nat.reduceAdd, Nat.reduceShiftRight, Nat.reduceAnd, Nat.reduceBNe, Nat.reduceMul]
    refine use_rt (drive_read F h12 hD hvl (k := j) hk) fun r1 M2 N2 r2 w2 hh => ?_
    obtain ⟨q1, q2, q3, q4⟩ := hh
    have mv2 := (q2 lb (by omega) (by omega) hlp).1.trans mv
    have fin : ∀ (cs : List Value), Wr PG E Y [] (Nat.lor (Nat.lor w2 (bit N2)) (bit N2)) (execW PG E Y ac3L2 [y0, .int .i64 ((j + 1 : Nat) : Int), y2, .int .i64 ((4 * T : Nat) : Int), z4, z5, z6, .slice (some ⟨lb, 0, none⟩) (4 * T) (4 * T), z8, z9, z10, z11, .pointer (some ⟨i.R, 0, none⟩), z13, z14, z15, z16, z17, z18, z19, z20, z21, z22, z23] (AMem.put M2 N2 (some (.cells cs 0 false true))) (N2 + 1)) fun X e m n w => Q X e m n (Nat.lor w0 w) := fun cs => by
      generalize hM3 : (AMem.put M2 N2 _ : FM) = M3
      have l3 : ∀ b, b < N2 → M3 b = M2 b := fun b hb => by rw [← hM3, fput_ne _ _ _ _ (by omega)]
      refine wr_end (ih (j + 1) (by omega) y0 y2 M3 (N2 + 1) (Nat.lor w0 (Nat.lor (Nat.lor w2 (bit N2)) (bit N2))) (by omega) (q3.keep (by omega) l3) (fun b hb hk hne => ⟨by rw [l3 b (by omega), (q2 b (by omega) hk hne).1, (hf b hb hk hne).1], ?_⟩)) fun X e m n w hq => ?_
      · simp only [lor_test, (hf b hb hk hne).2, bit_ne (show b ≠ N2 by omega), (q2 b (by omega) hk hne).2]; rfl
      · rw [show Nat.lor w0 (Nat.lor (Nat.lor (Nat.lor w2 (bit N2)) (bit N2)) w) = Nat.lor (Nat.lor w0 (Nat.lor (Nat.lor w2 (bit N2)) (bit N2))) w from (lor_assoc' _ _ _).symm]
        exact hq
    rcases q4 with ⟨hv0, rfl⟩ | ⟨hv0, rfl⟩
    · rw [hv0] at hat
      simp (implicitDefEqProofs := false) (disch := omega) only [W2, opds, Nat.testBit, Nat.reduceAdd, Nat.reduceShiftRight, Nat.reduceAnd, Nat.reduceBNe, Nat.reduceMul, extr_mk, hix, mv2, hat]
      exact fin _
    · simp (implicitDefEqProofs := false) (disch := omega) only [W2, opds, Nat.testBit, Nat.reduceAdd, Nat.reduceShiftRight, Nat.reduceAnd, Nat.reduceBNe, Nat.reduceMul, extr_mk, hix, mv2, hat, cvi_nat (x := vs[j]) (by omega), wr8, neq_blk]
      exact fin _
end Go.Am.CS
namespace Go.Am.CS
set_option maxRecDepth 100000
open Go Go.Am
variable {E : Nat → Option AFn} {Y : Nat → List Value → FM → Nat → OR FM}
theorem rread_L3 {T O : Nat} (F : Fn3 E Y T O) {i : Ids} {N1 pb tb : Nat} {M1 : FM} {vs : List Nat} (z3 z4 z5 z6 z7 z8 z9 z10 z11 z12 z13 z14 z15 z16 z18 z19 z20 z21 z22 z23 z24 z25 : Value) {Q : AX → List Value → FM → Nat → Nat → Prop}
    (hQ : ∀ M N w y0 y2, N1 ≤ N → (∀ b, b < N1 → ¬ (i.P ≤ b ∧ b ≤ i.EN) → b ≠ pb → M b = M1 b ∧ Nat.testBit w b = false) → Q (.exit 6) [y0, y2, z3, z4, z5, z6, z7, z8, z9, z10, z11, z12, z13, z14, z15, z16, .pointer (some ⟨i.D, 0, none⟩), z18, z19, z20, z21, z22, z23, z24, z25] M N w) :
    ∀ (d j : Nat), j + d = 4 → ∀ (y0 y2 : Value) (M : FM) (N w0 : Nat), N1 ≤ N → DrI i T O vs tb pb M N → (∀ b, b < N1 → ¬ (i.P ≤ b ∧ b ≤ i.EN) → b ≠ pb → M b = M1 b ∧ Nat.testBit w0 b = false) →
    Gv (execW PG E Y ac3L3 [y0, .int .i64 (j : Int), y2, z3, z4, z5, z6, z7, z8, z9, z10, z11, z12, z13, z14, z15, z16, .pointer (some ⟨i.D, 0, none⟩), z18, z19, z20, z21, z22, z23, z24, z25] M N) fun X e m n w => Q X e m n (Nat.lor w0 w) := by
  intro d
  induction d with
  | zero =>
    intro j hj y0 y2 M N w0 hN hD hf
    refine wr_loopN (L := ac3L3) (b := ac3L3b) rfl ?_
    simp only [ac3L3b]
    obtain rfl : j = 4 := by omega
    simp (implicitDefEqProofs := false) (disch := omega) only [W2, opds, Nat.testBit, Nat.reduceAdd, Nat.reduceShiftRight, Nat.reduceAnd, Nat.reduceBNe, Nat.reduceMul]
    exact hQ _ _ _ _ _ hN hf
  | succ d ih =>
    intro j hj y0 y2 M N w0 hN hD hf
    obtain ⟨xs, c, es, bs, t, h, hp, hc, hver, hf1, ht, hct⟩ := hD
    obtain ⟨h0, h1, h2, h3, h4, h5, h6, h7, h8, h9⟩ := h.dsk.cc.ok
    have hKN := h.dsk.cc.KN
    have hpN := h.dsk.cc.pbN
    have hxl := h.dsk.cc.con.len
    obtain ⟨v, hx, hv⟩ := hc.rand j (by omega)
    have hal : j < xs.length := by omega
    have hx1 : xs[j] = (1, v) := by
      rw [List.getElem?_eq_getElem hal] at hx
      injection hx
    refine wr_loopN (L := ac3L3) (b := ac3L3b) rfl ?_
    simp only [ac3L3b]
    simp (implicitDefEqProofs := false) (disch := omega) only [W2, opds, Nat.testBit, Nat.reduceAdd, Nat.reduceShiftRight, Nat.reduceAnd, Nat.reduceBNe, Nat.reduceMul]
    refine use_rt (disk_read F.toFn2 h.dsk hal hx1 hv rfl (by omega)) fun r1 M2 N2 r2 w2 hh => ?_
    obtain ⟨q0, q1, q2, q3, q4, v', rfl, hS⟩ := hh
    rcases hS with ⟨z, _⟩ | ⟨_, hcl, b2, rfl, e1, e2, e3⟩
    · omega
    have hix : idxV 1 0 (.slice (some ⟨b2, 0, none⟩) 1 UNK) = some (.pointer (some ⟨b2, 0, none⟩)) := by rw [idx_mk (by omega)]
    simp (implicitDefEqProofs := false) (disch := omega) only [W2, opds, Nat.testBit, Nat.reduceAdd, Nat.reduceShiftRight, Nat.reduceAnd, Nat.reduceBNe, Nat.reduceMul, extr_mk, hix, e3, wr8, Nat.mod_eq_of_lt (show j < 256 by omega)]
    have hfr : Fr i.P i.D pb N M M2 0 := fun b hb hkk hne => ⟨q2 b hb (by omega) (by omega), Nat.zero_testBit _⟩
    refine wr_end (ih (j + 1) (by omega) y0 y2 M2 N2 (Nat.lor w0 w2) (by omega) ⟨xs, c, es, bs, t, h.disk q1 hfr (.inl rfl) q4, hp, hc.fr hfr (by omega) q1 (.inl rfl), hver, hf1, ht, hct⟩ (fun b hb hk hne => ⟨by rw [q2 b (by omega) (by omega) (by omega), (hf b hb hk hne).1], ?_⟩)) fun X e m n w hq => ?_
    · simp only [lor_test, (hf b hb hk hne).2, (q3 b (by omega) (by omega) hne).2]; rfl
    · rw [show Nat.lor w0 (Nat.lor w2 w) = Nat.lor (Nat.lor w0 w2) w from (lor_assoc' _ _ _).symm]
      exact hq
end Go.Am.CS
