/- The machine and its runs, part 12: AxTf AxTg AxTh AxTi AxTj AxTk AxTl AxTm AxTn AxTo AxTp. -/
import Derived.Test.YtkdbakhcpciacaaGreatDoorB11
set_option linter.unusedVariables false
set_option linter.unusedSimpArgs false
set_option linter.unusedSectionVars false
namespace Go.Am.CS
set_option maxRecDepth 100000
open Go Go.Am
variable {E : Nat → Option AFn} {Y : Nat → List Value → FM → Nat → OR FM}
theorem use_pureXU {P : Program} {K : List Frm} {l : List (AI × Nat)} {w0 r0 w1 : Nat} {e : List Value} {Q : AX → List Value → FM → Nat → Nat → Prop} {b k : Nat} {kv : Bool} {done : List (Nat × Nat × Nat)} {f : Nat} {args : List Value} {m : FM} {n : Nat} {v : Value} (hY : YUp Y) (h : Pure (callW P E Y f args m n) m n v) (hk : ∀ r', (∀ i, n ≤ i → Nat.land (bit i) r' = 0) → Wr P E Y K w0 (outX (runX P (callW P E Y) l (keepD b kv k done e r0 w1 (.ok v m n r' 0)))) Q) : Wr P E Y K w0 (outX (runX P (callW P E Y) l (keepD b kv k done e r0 w1 (callW P E Y f args m n)))) Q := by
  obtain ⟨r', hx⟩ := h
  rw [hx]
  have hu := callW_up hY hx
  exact hk _ fun i hi => land_of_test (hu.2 i hi).1
def appB (t : Nat) (q : Nat) (l : List Bnd) : List Bnd := match l[q]? with
  | some y => l.set q ⟨y.used + 1, y.live + 1, (t : Int), y.wear⟩
  | none => l
theorem appB_len (t q : Nat) (l : List Bnd) : (appB t q l).length = l.length := by
  unfold appB; split <;> simp
theorem appB_eq {t q : Nat} {l : List Bnd} (h : q < l.length) : appB t q l = l.set q ⟨l[q].used + 1, l[q].live + 1, (t : Int), l[q].wear⟩ := by
  rw [appB, List.getElem?_eq_getElem h]
theorem unlB_at (S : Nat) (x : Ent) (l : List Bnd) (q : Nat) (hq : q < l.length) (h : q < (unlB S x l).length) : (unlB S x l)[q].used = l[q].used ∧ (unlB S x l)[q].live ≤ l[q].live := by
  by_cases hv : x.ver = 0
  · have e : unlB S x l = l := by rw [unlB, if_pos hv]
    simp only [e]; exact ⟨trivial, Nat.le_refl _⟩
  · by_cases hb : (x.adr - 4) / S < l.length
    · have e := unlB_eq hv hb
      simp only [e, List.getElem_set]
      split
      · rename_i hh; subst hh; exact ⟨rfl, Nat.sub_le _ _⟩
      · exact ⟨rfl, Nat.le_refl _⟩
    · have e : unlB S x l = l := by rw [unlB, if_neg hv, List.getElem?_eq_none (by omega)]
      simp only [e]; exact ⟨trivial, Nat.le_refl _⟩
theorem c112_spec {T O : Nat} (F : Fn3 E Y T O) {i : Ids} {pb : Nat} {m : FM} {n : Nat} {xs : List (Int × Value)} {c : Nat} {es : List Ent} {bs : List Bnd} {t : Nat} (h : Drv i T O pb m n xs c es bs t) (hc : c ≤ 100000) {bd ba bb a : Nat} (kd : bd < n ∧ m bd = some (.cells [.pointer (some ⟨i.R, 0, none⟩)] 0 false true)) (ka : ba < n ∧ m ba = some (.cells [.int .i64 (a : Int)] 0 false true)) {v : Value} (kb : bb < n ∧ m bb = some (.cells [v] 0 false true)) {len : Nat} {cs : List Value} (ha : a < 4 + 5 * (T * 2)) (hv : By i pb m n v len cs) (hone : cs.all Am.one = true) (hl : len ≤ 64) :
    Rt (callW PG E Y 112 [.pointer (some ⟨bd, 0, none⟩), .pointer (some ⟨ba, 0, none⟩), .pointer (some ⟨bb, 0, none⟩)] m n) fun r m' n' w => Nat.testBit w i.P = true ∧ (r = .int .i64 0 ∧ (∃ pb' v', n ≤ n' ∧ Fr i.P i.D pb n m m' w ∧ n ≤ pb' ∧ Dsk i T O pb' m' n' (writeX T O a v' xs) (c + 1) ∧ By i pb' m' n' v' len cs)) := by
  obtain ⟨h0, h1, h2, h3, h4, h5, h6, h7, h8, h9⟩ := h.dsk.cc.ok
  have hKN := h.dsk.cc.KN
  obtain ⟨bv, hr, hb⟩ := h.r
  simp only [drC] at hr
  obtain ⟨kd1, kd2⟩ := kd
  obtain ⟨ka1, ka2⟩ := ka
  obtain ⟨kb1, kb2⟩ := kb
  have hvo := hv.sh.one
  refine wrt_spec (R := fun r m' n' w => r = .int .i64 0 ∧ (∃ pb' v', n ≤ n' ∧ Fr i.P i.D pb n m m' w ∧ n ≤ pb' ∧ Dsk i T O pb' m' n' (writeX T O a v' xs) (c + 1) ∧ By i pb' m' n' v' len cs)) F.e112 rfl (show i.P < n by omega) fun Q hQ => ?_
  simp only [ac112]
  simp (implicitDefEqProofs := false) (disch := omega) only [W2, opds, Nat.testBit, Nat.reduceAdd, Nat.reduceShiftRight, Nat.reduceAnd, Nat.reduceBNe, Nat.reduceMul, kd2, hr, ka2, kb2, hvo, hv.sh.bel]
  refine use_rtX (disk_write F.toFn2 h.dsk hc ha hv hone hl) fun r1 m1 n1 r2 w1 hh => ?_
  obtain ⟨q0, pb', v', q1, q2, q3, rfl, q4, q5⟩ := hh
  simp (implicitDefEqProofs := false) (disch := omega) only [W2, opds, Nat.testBit, Nat.reduceAdd, Nat.reduceShiftRight, Nat.reduceAnd, Nat.reduceBNe, Nat.reduceMul]
  exact hQ _ _ _ _ _ q0 ⟨rfl, pb', v', q1, q2, q3, q4, q5⟩
theorem dappend {T O : Nat} (F : Fn3 E Y T O) {i : Ids} {pb : Nat} {m : FM} {n : Nat} {xs : List (Int × Value)} {c : Nat} {es : List Ent} {bs : List Bnd} {t : Nat} (h : Drv i T O pb m n xs c es bs t) (hc : c ≤ 100000) (ho : BOk (T * 2) bs) {z : Int} (hz : z < 0 ∨ ∃ (e : Nat) (he : e < bs.length), z = (e : Int) ∧ bs[e].used = T * 2) (hroom : ∃ (q : Nat) (hq : q < bs.length), bs[q].used < T * 2) {k : Nat} (hk : k < es.length) (hx : ¬ es[k].ver = 0 → 4 ≤ es[k].adr ∧ es[k].adr < 4 + 5 * (T * 2) ∧ ∀ hb : (es[k].adr - 4) / (T * 2) < bs.length, 1 ≤ bs[(es[k].adr - 4) / (T * 2)].live ∧ bs[(es[k].adr - 4) / (T * 2)].live ≤ 100) {ver d0 d1 d2 d3 d4 d5 d6 d7 : Nat} (hv1 : 1 ≤ ver) (ht : t + 1 < 2 ^ 64) :
    Rt (callW PG E Y 69 [.pointer (some ⟨i.R, 0, none⟩), entA k ver d0 d1 d2 d3 d4 d5 d6 d7, .int .i64 z] m n) fun r m' n' w => Nat.testBit w i.P = true ∧ (∃ q pb' v', ∃ hq : q < bs.length, Takes (T * 2) bs q ∧ n ≤ n' ∧ Fr i.P i.EN pb n m m' w ∧ n ≤ pb' ∧ r = .int .i64 0 ∧ Drv i T O pb' m' n' (writeX T O (4 + (q * (T * 2) + bs[q].used)) v' xs) (c + 1) (es.set k ⟨ver, 4 + (q * (T * 2) + bs[q].used)⟩) (appB (t + 1) q (unlB (T * 2) es[k] bs)) (t + 1) ∧ By i pb' m' n' v' 37 (n8s (encN k ver [d0, d1, d2, d3, d4, d5, d6, d7] (t + 1)))) := by
  obtain ⟨h0, h1, h2, h3, h4, h5, h6, h7, h8, h9⟩ := h.dsk.cc.ok
  have hKN := h.dsk.cc.KN
  have hpN := h.dsk.cc.pbN
  have hpk := h.dsk.cc.pbk
  have hbl := h.bl
  have hel := h.el
  have g1 := F.G.ok.t1
  have g2 := F.G.ok.t2
  obtain ⟨bv, hr, hb⟩ := h.r
  simp only [drC] at hr
  refine wrt_spec (R := fun r m' n' w => (∃ q pb' v', ∃ hq : q < bs.length, Takes (T * 2) bs q ∧ n ≤ n' ∧ Fr i.P i.EN pb n m m' w ∧ n ≤ pb' ∧ r = .int .i64 0 ∧ Drv i T O pb' m' n' (writeX T O (4 + (q * (T * 2) + bs[q].used)) v' xs) (c + 1) (es.set k ⟨ver, 4 + (q * (T * 2) + bs[q].used)⟩) (appB (t + 1) q (unlB (T * 2) es[k] bs)) (t + 1) ∧ By i pb' m' n' v' 37 (n8s (encN k ver [d0, d1, d2, d3, d4, d5, d6, d7] (t + 1))))) F.e69 rfl (show i.P < n by omega) fun Q hQ => ?_
  simp only [ac69, entA]
  simp (implicitDefEqProofs := false) (disch := omega) only [W2, opds, Nat.testBit, Nat.reduceAdd, Nat.reduceShiftRight, Nat.reduceAnd, Nat.reduceBNe, Nat.reduceMul]
  generalize hM1 : (AMem.put (AMem.put m n _) (n + 1) _ : FM) = M1
  have l1 : ∀ b, b < n → M1 b = m b := fun b hb => by rw [← hM1, fput_ne _ _ _ _ (by omega), fput_ne _ _ _ _ (by omega)]
  have p0 : M1 n = some (.cells [.pointer (some ⟨i.R, 0, none⟩)] 0 false true) := by rw [← hM1, fput_ne _ _ _ _ (by omega)]; exact fput_same _ _ _
  have p1 : M1 (n + 1) = some (.cells [.int .i64 1, .int .i64 (k : Int), .int .u64 (ver : Int), .int .u8 (d0 : Int), .int .u8 (d1 : Int), .int .u8 (d2 : Int), .int .u8 (d3 : Int), .int .u8 (d4 : Int), .int .u8 (d5 : Int), .int .u8 (d6 : Int), .int .u8 (d7 : Int)] 0 false true) := by rw [← hM1]; exact fput_same _ _ _
  have hD1 := h.keep (show n ≤ n + 2 by omega) l1
  obtain ⟨q, hq, hop⟩ := dopen F hD1 ho hz hroom
  have hq1 := hq.1
  refine use_pure hop fun r1 => ?_
  have hr1 := (l1 i.R (by omega)).trans hr
  simp (implicitDefEqProofs := false) (disch := omega) only [W2, opds, Nat.testBit, Nat.reduceAdd, Nat.reduceShiftRight, Nat.reduceAnd, Nat.reduceBNe, Nat.reduceMul, extr_mk, p0, p1, hr1, wrap_small ht]
  refine use_rtXU F.up (encode_spec F.e111 F.e116 F.e147 F.e92 F.e134 F.e168 M1 (n + 2) (b := k) (by omega) hv1) fun r2 m2 n2 r3 w2 hh hu => ?_
  obtain ⟨hn2, hf2, hw2, ev, rfl, hS2⟩ := hh
  have hvo := hS2.one
  obtain ⟨u1, u2⟩ := hu n2 (Nat.le_refl _)
  simp (implicitDefEqProofs := false) (disch := omega) only [W2, opds, Nat.testBit, Nat.reduceAdd, Nat.reduceShiftRight, Nat.reduceAnd, Nat.reduceBNe, Nat.reduceMul, extr_mk, slz_bt hS2, hvo, cells_of_one hvo, hS2.bel, hS2.belF, u1, u2]
  generalize hM3 : (AMem.put m2 n2 _ : FM) = M3
  have l3 : ∀ b, b < n2 → M3 b = m2 b := fun b hb => by rw [← hM3, fput_ne _ _ _ _ (by omega)]
  have p2 : M3 n2 = some (.cells [ev] 0 false true) := by rw [← hM3]; exact fput_same _ _ _
  have z0 := (l3 n (by omega)).trans ((hf2 n (by omega)).trans p0)
  have z1 := (l3 (n + 1) (by omega)).trans ((hf2 (n + 1) (by omega)).trans p1)
  have hD3 := hD1.keep (show n + 2 ≤ n2 + 1 by omega) fun b hb => (l3 b (by omega)).trans (hf2 b hb)
  have l4 : ∀ b, b < n → M3 b = m b := fun b hb => by rw [l3 b (by omega), hf2 b (by omega), l1 b hb]
  obtain ⟨bk, bc, bo, bw, rfl, b1, b2, b3, b4, b5, b6⟩ := hb
  have z2 := (l4 i.R (by omega)).trans hr
  have z3 := (l4 bk b3).trans b4
  have hix := (show idxV 4 q (.slice (some ⟨bk, 0, none⟩) bs.length bc) = some (.pointer (some ⟨bk, q * 4, none⟩)) by rw [idx_mk hq1, Nat.zero_add])
  obtain ⟨c1, c2, c3, c4, c5⟩ := bcells_at hq1
  rw [← l3 n (by omega)]
  simp (implicitDefEqProofs := false) (disch := omega) only [W2, opds, Nat.testBit, Nat.reduceAdd, Nat.reduceShiftRight, Nat.reduceAnd, Nat.reduceBNe, Nat.reduceMul, z0, z2]
  refine use_pureXU F.up (geom_spec F.e53 hD3.dsk) fun r4 hu4 => ?_
  simp only [gV]
  simp (implicitDefEqProofs := false) (disch := omega) only [W2, opds, Nat.testBit, Nat.reduceAdd, Nat.reduceShiftRight, Nat.reduceAnd, Nat.reduceBNe, Nat.reduceMul, s_fldV, fie_mk, z0]
  refine use_pureXU F.up (dsize_spec F hD3) fun r5 hu5 => ?_
  have hq3 : q * (T * 2) ≤ 4 * (T * 2) := Nat.mul_le_mul_right _ (by omega)
  have hus := hq.2.1
  simp (implicitDefEqProofs := false) (disch := omega) only [W2, opds, Nat.testBit, Nat.reduceAdd, Nat.reduceShiftRight, Nat.reduceAnd, Nat.reduceBNe, Nat.reduceMul, z0, z2, z3, hix, c2, hu4 (n2 + 1) (Nat.le_refl _), hu5 (n2 + 1) (Nat.le_refl _)]
  generalize hM4 : (AMem.put M3 (n2 + 1) _ : FM) = M4
  have l5 : ∀ b, b < n2 + 1 → M4 b = M3 b := fun b hb => by rw [← hM4, fput_ne _ _ _ _ (by omega)]
  have p3 : M4 (n2 + 1) = some (.cells [.int .i64 ((4 + (q * (T * 2) + bs[q].used) : Nat) : Int)] 0 false true) := by rw [← hM4]; exact fput_same _ _ _
  have hD4 := hD3.keep (show n2 + 1 ≤ n2 + 2 by omega) l5
  have hvE : By i pb M4 (n2 + 2) ev 37 (n8s (encN k ver [d0, d1, d2, d3, d4, d5, d6, d7] (t + 1))) := SlZ.by (hS2.frame (M' := M4) (N' := n2 + 2) (by omega) fun b e1 e2 => by rw [l5 b (by omega), l3 b e2]) (by omega) (by omega) (.inl (by omega)) (n8s_u8 _)
  simp (implicitDefEqProofs := false) (disch := omega) only [W2, opds, Nat.testBit, Nat.reduceAdd, Nat.reduceShiftRight, Nat.reduceAnd, Nat.reduceBNe, Nat.reduceMul, s_func]
  refine use_rt (retry_spec F.e21 (f := 112) (cs := [.pointer (some ⟨n, 0, none⟩), .pointer (some ⟨n2 + 1, 0, none⟩), .pointer (some ⟨n2, 0, none⟩)]) (show i.P < n2 + 2 by omega) (c112_spec F hD4 hc ⟨by omega, (l5 n (by omega)).trans z0⟩ ⟨by omega, p3⟩ ⟨by omega, (l5 n2 (by omega)).trans p2⟩ (show 4 + (q * (T * 2) + bs[q].used) < 4 + 5 * (T * 2) by omega) hvE (n8s_one _) (by omega))) fun r6 m6 n6 r7 w6 hh => ?_
  obtain ⟨y0, rfl, pb', v', y1, y2, y3, y4, y5⟩ := hh
  have hpb' := y4.cc.pbN
  have hD6 := hD4.disk y1 y2 (.inr y3) y4
  have k0 := (y2 n (by omega) (by omega) (by omega)).1.trans ((l5 n (by omega)).trans z0)
  have k1 := (y2 (n + 1) (by omega) (by omega) (by omega)).1.trans ((l5 (n + 1) (by omega)).trans z1)
  obtain ⟨bv6, hr6, hb6⟩ := hD6.r
  simp only [drC] at hr6
  simp (implicitDefEqProofs := false) (disch := omega) only [W2, opds, Nat.testBit, Nat.reduceAdd, Nat.reduceShiftRight, Nat.reduceAnd, Nat.reduceBNe, Nat.reduceMul, k0, hr6, wrap_small ht]
  generalize hM7 : (AMem.put m6 i.R _ : FM) = M7
  have l7 : ∀ b, b ≠ i.R → M7 b = m6 b := fun b hb => by rw [← hM7, fput_ne _ _ _ _ hb]
  have hR7 : M7 i.R = some (.cells (drC i es.length bv6 (t + 1)) 0 false true) := by rw [← hM7]; exact fput_same _ _ _
  have hD7 : Drv i T O pb' M7 n6 (writeX T O (4 + (q * (T * 2) + bs[q].used)) v' xs) (c + 1) es bs (t + 1) := ⟨hD6.dsk.keepX (Nat.le_refl _) fun b _ e1 e2 => l7 b e1, ⟨bv6, hR7, hb6.fr2 (by omega) h9 fun b _ e1 _ => l7 b e1⟩, (l7 _ (by omega)).trans hD6.en, hbl, hel⟩
  have k1' := (l7 (n + 1) (by omega)).trans k1
  have k0' := (l7 n (by omega)).trans k0
  rw [← l7 (n + 1) (by omega)]
  simp (implicitDefEqProofs := false) (disch := omega) only [W2, opds, Nat.testBit, Nat.reduceAdd, Nat.reduceShiftRight, Nat.reduceAnd, Nat.reduceBNe, Nat.reduceMul, k1']
  refine use_rt (dunlink F hD7 hk hx) fun r8 m8 n8 r9 w8 hh => ?_
  obtain ⟨x0, x1, x2, hD8⟩ := hh
  have j0 := (x2 n (by omega) (by omega) (by omega)).1.trans k0'
  have j1 := (x2 (n + 1) (by omega) (by omega) (by omega)).1.trans k1'
  obtain ⟨bv8, hr8, hb8⟩ := hD8.r
  simp only [drC] at hr8
  have hlu : (unlB (T * 2) es[k] bs).length = bs.length := unlB_len _ _ _
  have hus8 : ∀ (h : q < (unlB (T * 2) es[k] bs).length), (unlB (T * 2) es[k] bs)[q].used = bs[q].used ∧ (unlB (T * 2) es[k] bs)[q].live ≤ bs[q].live := fun h => unlB_at _ _ _ _ hq1 h
  obtain ⟨u8, v8⟩ := hus8 (by omega)
  have hbo := ho _ (List.getElem_mem hq1)
  obtain ⟨pp1, pp2, pp3, pp4⟩ := hb8.p
  simp (implicitDefEqProofs := false) (disch := omega) only [W2, opds, Nat.testBit, Nat.reduceAdd, Nat.reduceShiftRight, Nat.reduceAnd, Nat.reduceBNe, Nat.reduceMul, j0, hr8, pp2, pp3]
  refine use_pureX (dsize_spec F hD8) fun r10 => ?_
  simp (implicitDefEqProofs := false) (disch := omega) only [W2, opds, Nat.testBit, Nat.reduceAdd, Nat.reduceShiftRight, Nat.reduceAnd, Nat.reduceBNe, Nat.reduceMul, j0, hr8, pp2, pp3]
  refine use_rtX (bappend_spec F.e113 F.e143 F.e145 F.e148 hb8 (k := q) (S := T * 2) (by omega) (by omega) (by omega) (by omega) (((t + 1 : Nat) : Int))) fun r11 m9 n9 r12 w9 hh => ?_
  obtain ⟨f1, f2, f3, bv9, rfl, hS9⟩ := hh
  have hvo9 := hS9.one
  obtain ⟨lw1, lw2⟩ := land_frz (f3 n8 (Nat.le_refl _)) (show i.R < n8 by omega)
  have hr9 := (f2 i.R (by omega)).trans hr8
  obtain ⟨lw3, lw4⟩ := land_frz (f3 n8 (Nat.le_refl _)) (show n < n8 by omega)
  simp (implicitDefEqProofs := false) (disch := omega) only [W2, opds, Nat.testBit, Nat.reduceAdd, Nat.reduceShiftRight, Nat.reduceAnd, Nat.reduceBNe, Nat.reduceMul, extr_mk, slz_bt hS9, hvo9, cells_of_one hvo9, hS9.bel, hS9.belF, hr9, lw1, lw2, lw3, lw4]
  generalize hM10 : (AMem.put m9 i.R _ : FM) = M10
  have l10 : ∀ b, b ≠ i.R → M10 b = m9 b := fun b hb => by rw [← hM10, fput_ne _ _ _ _ hb]
  have hR10 : M10 i.R = some (.cells (drC i es.length bv9 (t + 1)) 0 false true) := by rw [← hM10, show es.length = (es.set k ⟨0, 0⟩).length by rw [List.length_set]]; exact fput_same _ _ _
  simp only [drC] at hR10
  have j0' := (l10 n (by omega)).trans ((f2 n (by omega)).trans j0)
  have j1' := (l10 (n + 1) (by omega)).trans ((f2 (n + 1) (by omega)).trans j1)
  have he10 := (l10 i.EN (by omega)).trans ((f2 i.EN (by omega)).trans hD8.en)
  have hixE := idx_ent (b := i.EN) (c := UNK) hk
  have hsetE := ecells_set (es.set k ⟨0, 0⟩) k (by rw [List.length_set]; exact hk) ⟨ver, 4 + (q * (T * 2) + bs[q].used)⟩
  rw [List.set_set, show Ent.k ⟨ver, 4 + (q * (T * 2) + bs[q].used)⟩ = 1 from if_neg (show ¬ ver = 0 by omega), show Ent.a ⟨ver, 4 + (q * (T * 2) + bs[q].used)⟩ = ((4 + (q * (T * 2) + bs[q].used) : Nat) : Int) from if_neg (show ¬ ver = 0 by omega)] at hsetE
  have p3' : M10 (n2 + 1) = some (.cells [.int .i64 ((4 + (q * (T * 2) + bs[q].used) : Nat) : Int)] 0 false true) := by
    rw [l10 _ (by omega), f2 _ (by omega), (x2 _ (by omega) (by omega) (by omega)).1, l7 _ (by omega), (y2 _ (by omega) (by omega) (by omega)).1, p3]
  rw [← l10 n (by omega)]
  simp (implicitDefEqProofs := false) (disch := omega) only [W2, opds, Nat.testBit, Nat.reduceAdd, Nat.reduceShiftRight, Nat.reduceAnd, Nat.reduceBNe, Nat.reduceMul, j0', hR10, j1', p3', hixE, he10, hsetE]
  generalize hM11 : (AMem.put M10 i.EN _ : FM) = M11
  have l11 : ∀ b, b ≠ i.EN → M11 b = M10 b := fun b hb => by rw [← hM11, fput_ne _ _ _ _ hb]
  have hl9 : (appB (t + 1) q (unlB (T * 2) es[k] bs)).length = 5 := by rw [appB_len, hlu, hbl]
  rw [← appB_eq (t := t + 1) (by omega)] at hS9
  refine hQ _ _ _ _ _ (by simp only [lor_test, y0]; simp) ⟨q, pb', v', hq1, hq, by omega, fun b hb hkk hne => ⟨?_, ?_⟩, by omega, rfl, ⟨?_, ⟨bv9, ?_, ?_⟩, by rw [← hM11]; exact fput_same _ _ _, hl9, by rw [List.length_set]; exact hel⟩, ?_⟩
  · rw [l11 b (by omega), l10 b (by omega), f2 b (by omega), (x2 b (by omega) hkk (by omega)).1, l7 b (by omega), (y2 b (by omega) (by omega) hne).1, l5 b (by omega), l4 b hb]
  · simp only [lor_test, bit_ne (show b ≠ n by omega), bit_ne (show b ≠ n + 1 by omega), bit_ne (show b ≠ n2 by omega), bit_ne (show b ≠ n2 + 1 by omega), mod_bit (hw2 (n + 2) (Nat.le_refl _)) b (by omega), (y2 b (by omega) (by omega) hne).2, bit_ne (show b ≠ i.R by omega), (x2 b (by omega) hkk (by omega)).2, mod_bit (f3 n8 (Nat.le_refl _)) b (by omega), bit_ne (show b ≠ i.EN by omega)]; rfl
  · exact hD8.dsk.keepX (by omega) fun b hb e1 e2 => by rw [l11 b e2, l10 b e1, f2 b hb]
  · rw [List.length_set, l11 _ (by omega)]; exact hR10
  · exact slz_bs' hS9 (fun b e1 e2 => by rw [l11 b (by omega), l10 b (by omega)]) (Nat.le_refl _) hl9 (by omega) (.inl (by omega))
  · exact y5.fr (lo := i.P) (hi := i.EN) (w := 0) (fun b hb hkk hne => ⟨by rw [l11 b (by omega), l10 b (by omega), f2 b (by omega), (x2 b (by omega) hkk hne).1, l7 b (by omega)], Nat.zero_testBit _⟩) (by omega) (by omega) (.inl rfl)
end Go.Am.CS
namespace Go.Am.CS
set_option maxRecDepth 100000
open Go Go.Am
variable {E : Nat → Option AFn} {Y : Nat → List Value → FM → Nat → OR FM}
theorem Ent.a_rng (x : Ent) (h : x.adr < 1000) : -1 ≤ x.a ∧ x.a < 1000 := by
  unfold Ent.a
  split <;> omega
theorem c105_spec {T O : Nat} (F : Fn3 E Y T O) {i : Ids} {pb : Nat} {m : FM} {n : Nat} {xs : List (Int × Value)} {c : Nat} {es : List Ent} {bs : List Bnd} {t : Nat} (h : Drv i T O pb m n xs c es bs t) {bd : Nat} (kd : bd < n ∧ m bd = some (.cells [.pointer (some ⟨i.R, 0, none⟩)] 0 false true)) {a b : Nat} (ha : a < es.length) (hb : b < es.length) (ha2 : es[a].adr < 1000) (hb2 : es[b].adr < 1000) : Pure (callW PG E Y 105 [.int .i64 (a : Int), .int .i64 (b : Int), .pointer (some ⟨bd, 0, none⟩)] m n) m n (.int .i64 (es[a].a - es[b].a)) := by
  obtain ⟨h0, h1, h2, h3, h4, h5, h6, h7, h8, h9⟩ := h.dsk.cc.ok
  have hKN := h.dsk.cc.KN
  have hel := h.el
  obtain ⟨bv, hr, hbv⟩ := h.r
  simp only [drC] at hr
  have hen := h.en
  obtain ⟨kd1, kd2⟩ := kd
  obtain ⟨a1, a2, a3, a4⟩ := ecells_at ha
  obtain ⟨b1, b2, b3, b4⟩ := ecells_at hb
  have hix := idx_ent (b := i.EN) (c := UNK) ha
  have hiy := idx_ent (b := i.EN) (c := UNK) hb
  have r1 := Ent.a_rng es[a] ha2
  have r2 := Ent.a_rng es[b] hb2
  refine pure_spec F.e105 rfl rfl ?_
  simp only [ac105]
  simp (implicitDefEqProofs := false) (disch := omega) only [W2, opds, Nat.testBit, Nat.reduceAdd, Nat.reduceShiftRight, Nat.reduceAnd, Nat.reduceBNe, Nat.reduceMul, kd2, hr, hen, hix, hiy, a4, b4]
theorem cget_ints {l : List Nat} {j : Nat} (h : j < l.length) : cget (intsV l) j = some (.int .i64 ((l[j] : Nat) : Int)) := by
  rw [cget_eq, intsV, List.getElem?_map, List.getElem?_eq_getElem h]; rfl
theorem sc_ints (l : List Nat) (j x : Nat) (h : j < l.length) : setCells (intsV l) j [.int .i64 (x : Int)] = some (intsV (l.set j x)) := by
  rw [setCells_eq, if_pos (by rw [intsV, List.length_map]; simp; omega)]
  simp only [intsV, List.map_set]
  rw [List.set_eq_take_append_cons_drop, if_pos (by rw [List.length_map]; exact h)]
  simp
theorem swap_perm : ∀ (l : List Nat) (j : Nat) (h : j + 1 < l.length), ((l.set (j + 1) l[j]).set j l[j + 1]).Perm l
  | [], j, h => absurd h (Nat.not_lt_zero _)
  | [x], j, h => by rw [List.length_singleton] at h; omega
  | x :: y :: r, 0, h => by simpa using List.Perm.swap x y r
  | x :: y :: r, j + 1, h => by
    have := swap_perm (y :: r) j (by rw [List.length_cons] at h; omega)
    simpa using this
def Cmp (E : Nat → Option AFn) (Y : Nat → List Value → FM → Nat → OR FM) (n vb : Nat) (l0 : List Nat) (cf : Nat) (ccs : List Value) (M0 : FM) : Prop :=
  ∀ M : FM, (∀ b, b ≠ vb → M b = M0 b) → ∀ a b, a ∈ l0 → b ∈ l0 → ∃ z : Int, -1000000 < z ∧ z < 1000000 ∧ Pure (callW PG E Y cf ([.int .i64 (a : Int), .int .i64 (b : Int)] ++ ccs) M n) M n (.int .i64 z)
theorem sort_L0 {n vb cf : Nat} {l0 : List Nat} {ccs : List Value} {M0 : FM} (C : Cmp E Y n vb l0 cf ccs M0) (hcb : ccs.all (below1 n) = true) (hvb : vb < n) (hlen : l0.length ≤ 12) (i0 : Nat) (hi0 : i0 < l0.length) (x1 x3 : Value) {Q : AX → List Value → FM → Nat → Nat → Prop}
    (hQ : ∀ j M w l, l.Perm l0 → (∀ b, b ≠ vb → M b = M0 b) → M vb = some (.cells (intsV l) 1 true true) → (∀ b, b ≠ vb → Nat.testBit w b = false) → Q (.exit 2) [j, x1, .int .i64 (i0 : Int), x3, .slice (some ⟨vb, 0, none⟩) l0.length UNK, .int .i64 0, .int .i64 (l0.length : Int), .func (.func cf) #[] ccs.toArray] M n w) :
    ∀ (j : Nat), j ≤ i0 → ∀ (M : FM) (l : List Nat) (w0 : Nat), l.Perm l0 → (∀ b, b ≠ vb → M b = M0 b) → M vb = some (.cells (intsV l) 1 true true) → (∀ b, b ≠ vb → Nat.testBit w0 b = false) →
    Gv (execW PG E Y ac175L0 [.int .i64 (j : Int), x1, .int .i64 (i0 : Int), x3, .slice (some ⟨vb, 0, none⟩) l0.length UNK, .int .i64 0, .int .i64 (l0.length : Int), .func (.func cf) #[] ccs.toArray] M n) fun X e m n w => Q X e m n (Nat.lor w0 w) := by
  intro j
  induction j with
  | zero =>
    intro hj M l w0 hl hM hv hw
    refine wr_loopN (L := ac175L0) (b := ac175L0b) rfl ?_
    simp only [ac175L0b]
    simp (implicitDefEqProofs := false) (disch := omega) only [W2, opds, Nat.testBit, Nat.reduceAdd, Nat.reduceShiftRight, Nat.reduceAnd, Nat.reduceBNe, Nat.reduceMul]
    exact hQ _ _ _ _ hl hM hv hw
  | succ j ih =>
    intro hj M l w0 hl hM hv hw
    have hll := hl.length_eq
    have hbf : belowV n (.func (.func cf) #[] ccs.toArray) = true := by
      have e := belowV_func n cf [] ccs
      rw [hcb] at e
      exact e
    have hi1 : idxV 1 (j + 1) (.slice (some ⟨vb, 0, none⟩) l0.length UNK) = some (.pointer (some ⟨vb, j + 1, none⟩)) := by rw [idx_mk (by omega), Nat.zero_add, Nat.mul_one]
    have hi2 : idxV 1 j (.slice (some ⟨vb, 0, none⟩) l0.length UNK) = some (.pointer (some ⟨vb, j, none⟩)) := by rw [idx_mk (by omega), Nat.zero_add, Nat.mul_one]
    have g1 := cget_ints (l := l) (j := j + 1) (by omega)
    have g2 := cget_ints (l := l) (j := j) (by omega)
    obtain ⟨z, z1, z2, hz⟩ := C M hM l[j + 1] l[j] (hl.subset (List.getElem_mem (by omega))) (hl.subset (List.getElem_mem (by omega)))
    have s1 := sc_ints l (j + 1) l[j] (by omega)
    have s2 := sc_ints (l.set (j + 1) l[j]) j l[j + 1] (by rw [List.length_set]; omega)
    refine wr_loopN (L := ac175L0) (b := ac175L0b) rfl ?_
    simp only [ac175L0b]
    simp (implicitDefEqProofs := false) (disch := omega) only [W2, opds, Nat.testBit, Nat.reduceAdd, Nat.reduceShiftRight, Nat.reduceAnd, Nat.reduceBNe, Nat.reduceMul, hbf, hi1, hi2, hv, g1, g2, s_callv, callv0, Nat.add_sub_cancel]
    refine use_pureX hz fun r1 => ?_
    by_cases hzz : z < 0
    · simp (implicitDefEqProofs := false) (disch := omega) only [W2, opds, Nat.testBit, Nat.reduceAdd, Nat.reduceShiftRight, Nat.reduceAnd, Nat.reduceBNe, Nat.reduceMul, hbf, hi1, hi2, hv, g1, g2, s1, s2, Nat.add_sub_cancel]
      refine wr_end (ih (by omega) _ _ (Nat.lor w0 (Nat.lor (bit vb) (bit vb))) ((swap_perm l j (by omega)).trans hl) (fun b hb => by rw [fput_ne _ _ _ _ hb, hM b hb]) (fput_same _ _ _) (fun b hb => by simp only [lor_test, hw b hb, bit_ne hb]; rfl)) fun X e m n w hq => ?_
      rw [show Nat.lor w0 (Nat.lor (Nat.lor (bit vb) (bit vb)) w) = Nat.lor (Nat.lor w0 (Nat.lor (bit vb) (bit vb))) w from (lor_assoc' _ _ _).symm]
      exact hq
    · simp (implicitDefEqProofs := false) (disch := omega) only [W2, opds, Nat.testBit, Nat.reduceAdd, Nat.reduceShiftRight, Nat.reduceAnd, Nat.reduceBNe, Nat.reduceMul, hbf, hi1, hi2, hv, g1, g2]
      exact hQ _ _ _ _ hl hM hv hw
theorem sort_L1 {n vb cf : Nat} {l0 : List Nat} {ccs : List Value} {M0 : FM} (C : Cmp E Y n vb l0 cf ccs M0) (hcb : ccs.all (below1 n) = true) (hvb : vb < n) (hlen : l0.length ≤ 12) (x1 : Value) {Q : AX → List Value → FM → Nat → Nat → Prop}
    (hQ : ∀ M w l, l.Perm l0 → (∀ b, b ≠ vb → M b = M0 b) → M vb = some (.cells (intsV l) 1 true true) → (∀ b, b ≠ vb → Nat.testBit w b = false) → Q (.exit 0) [x1, .slice (some ⟨vb, 0, none⟩) l0.length UNK, .int .i64 0, .int .i64 (l0.length : Int), .func (.func cf) #[] ccs.toArray] M n w) :
    ∀ (d i0 : Nat), i0 + d = l0.length + 1 → 1 ≤ i0 → ∀ (M : FM) (l : List Nat) (w0 : Nat), l.Perm l0 → (∀ b, b ≠ vb → M b = M0 b) → M vb = some (.cells (intsV l) 1 true true) → (∀ b, b ≠ vb → Nat.testBit w0 b = false) →
    Gv (execW PG E Y ac175L1 [.int .i64 (i0 : Int), x1, .slice (some ⟨vb, 0, none⟩) l0.length UNK, .int .i64 0, .int .i64 (l0.length : Int), .func (.func cf) #[] ccs.toArray] M n) fun X e m n w => Q X e m n (Nat.lor w0 w) := by
  intro d
  induction d with
  | zero =>
    intro i0 hi hi1 M l w0 hl hM hv hw
    refine wr_loopN (L := ac175L1) (b := ac175L1b) rfl ?_
    simp only [ac175L1b]
    simp (implicitDefEqProofs := false) (disch := omega) only [W2, opds, Nat.testBit, Nat.reduceAdd, Nat.reduceShiftRight, Nat.reduceAnd, Nat.reduceBNe, Nat.reduceMul]
    exact hQ _ _ _ hl hM hv hw
  | succ d ih =>
    intro i0 hi hi1 M l w0 hl hM hv hw
    refine wr_loopN (L := ac175L1) (b := ac175L1b) rfl ?_
    simp only [ac175L1b]
    by_cases hlt : i0 < l0.length
    · simp (implicitDefEqProofs := false) (disch := omega) only [W2, opds, Nat.testBit, Nat.reduceAdd, Nat.reduceShiftRight, Nat.reduceAnd, Nat.reduceBNe, Nat.reduceMul]
      refine wr_kont ((sort_L0 C hcb hvb hlen i0 hlt _ _ (fun j M w l hl hM hv hw2 => ?_) i0 (Nat.le_refl _) M l 0 hl hM hv (fun b _ => Nat.zero_testBit _)).mono fun X e m' n' w hq => by simpa only [zero_lor'] using hq)
      intro rr
      simp (implicitDefEqProofs := false) (disch := omega) only [W2, opds, Nat.testBit, Nat.reduceAdd, Nat.reduceShiftRight, Nat.reduceAnd, Nat.reduceBNe, Nat.reduceMul]
      refine wr_end (ih (i0 + 1) (by omega) (by omega) _ _ (Nat.lor w0 w) hl hM hv (fun b hb => by rw [lor_test, hw b hb, hw2 b hb]; rfl)) fun X e m n w2 hq => ?_
      rw [show Nat.lor w0 (Nat.lor w w2) = Nat.lor (Nat.lor w0 w) w2 from (lor_assoc' _ _ _).symm]
      exact hq
    · simp (implicitDefEqProofs := false) (disch := omega) only [W2, opds, Nat.testBit, Nat.reduceAdd, Nat.reduceShiftRight, Nat.reduceAnd, Nat.reduceBNe, Nat.reduceMul]
      exact hQ _ _ _ hl hM hv hw
theorem void_spec {P : Program} {m : FM} {n : Nat} {f : Nat} {fn : AFn} {args : List Value} {R : FM → Nat → Nat → Prop} (hE : E f = some fn) (ha : llen args = fn.na) (he : fn.endrs = []) (h0 : R m n 0) (h : ∀ Q : AX → List Value → FM → Nat → Nat → Prop, (∀ X e m' n' w, X = .norm ∨ X = .ret (.tuple #[]) → R m' n' w → Q X e m' n' w) → Wr P E Y [] 0 (execW P E Y fn.code args m n) Q) : Rt (callW P E Y f args m n) fun v m' n' w => R m' n' w := by
  rw [callW_fn hE ha]
  obtain ⟨X, e', m', n', r, w, hx, hX, h2⟩ := Gv_some (wr_start (h (fun X _ m' n' w => (X = .norm ∨ X = .ret (.tuple #[])) ∧ R m' n' w) fun _ _ m' n' w k1 k2 => ⟨k1, k2⟩))
  rw [hx]
  have fin : ∀ r, Rt (leaveA m n (.tuple #[]) m' n' r w) fun v m' n' w => R m' n' w := fun r => by
    unfold leaveA
    cases hc : (addrFree (.tuple #[]) && Nat.beq (Nat.mod w (bit n)) 0)
    · exact h2
    · rw [cond_true, forceN_eq]; exact h0
  rcases hX with rfl | rfl
  · have e1 : leaveC fn m n (.ok .norm e' m' n' r w) = leaveA m n (.tuple #[]) m' n' (Nat.lor r 0) w := by
      show leaveO m n m' n' r w (resA e' m' n' fn.endrs) = _
      rw [he]; rfl
    rw [e1]
    exact fin _
  · rw [leave_ret]
    exact fin _
theorem isort {n vb cf : Nat} {l0 : List Nat} {ccs : List Value} {m : FM} (hE : E 175 = some ac175) (C : Cmp E Y n vb l0 cf ccs m) (hcb : ccs.all (below1 n) = true) (hvb : vb < n) (hlen : l0.length ≤ 12) (hm : m vb = some (.cells (intsV l0) 1 true true)) :
    Rt (callW PG E Y 175 [.slice (some ⟨vb, 0, none⟩) l0.length UNK, .int .i64 0, .int .i64 (l0.length : Int), .func (.func cf) #[] ccs.toArray] m n) fun r m' n' w => n' = n ∧ (∀ b, b ≠ vb → m' b = m b ∧ Nat.testBit w b = false) ∧ ∃ l, l.Perm l0 ∧ m' vb = some (.cells (intsV l) 1 true true) := by
  refine void_spec (args := [.slice (some ⟨vb, 0, none⟩) l0.length UNK, .int .i64 0, .int .i64 (l0.length : Int), .func (.func cf) #[] ccs.toArray]) (R := fun m' n' w => n' = n ∧ (∀ b, b ≠ vb → m' b = m b ∧ Nat.testBit w b = false) ∧ ∃ l, l.Perm l0 ∧ m' vb = some (.cells (intsV l) 1 true true)) hE (by rfl) (by rfl) ⟨rfl, fun b _ => ⟨rfl, Nat.zero_testBit _⟩, l0, List.Perm.refl _, hm⟩ fun Q hQ => ?_
  simp only [ac175]
  simp (implicitDefEqProofs := false) (disch := omega) only [W2, opds, Nat.testBit, Nat.reduceAdd, Nat.reduceShiftRight, Nat.reduceAnd, Nat.reduceBNe, Nat.reduceMul]
  refine wr_kont ((sort_L1 C hcb hvb hlen _ (fun M w l hl hM hv hw => ?_) l0.length 1 (by omega) (by omega) m l0 0 (List.Perm.refl _) (fun _ _ => rfl) hm (fun b _ => Nat.zero_testBit _)).mono fun X e m' n' w hq => by simpa only [zero_lor'] using hq)
  intro rr
  simp (implicitDefEqProofs := false) (disch := omega) only [W2, opds, Nat.testBit, Nat.reduceAdd, Nat.reduceShiftRight, Nat.reduceAnd, Nat.reduceBNe, Nat.reduceMul]
  exact hQ _ _ _ _ _ (.inl rfl) ⟨rfl, fun b hb => ⟨hM b hb, hw b hb⟩, l, hl, hv⟩
end Go.Am.CS
namespace Go.Am.CS
set_option maxRecDepth 100000
open Go Go.Am
variable {E : Nat → Option AFn} {Y : Nat → List Value → FM → Nat → OR FM}
theorem pdq_spec (hE : E 140 = some ac140) (h175 : E 175 = some ac175) {n vb cf : Nat} {l0 : List Nat} {ccs : List Value} {m : FM} (C : Cmp E Y n vb l0 cf ccs m) (hcb : ccs.all (below1 n) = true) (hvb : vb < n) (hlen : l0.length ≤ 12) (hm : m vb = some (.cells (intsV l0) 1 true true)) (z : Int) :
    Rt (callW PG E Y 140 [.slice (some ⟨vb, 0, none⟩) l0.length UNK, .int .i64 0, .int .i64 (l0.length : Int), .int .i64 z, .func (.func cf) #[] ccs.toArray] m n) fun r m' n' w => n' = n ∧ (∀ b, b ≠ vb → m' b = m b ∧ Nat.testBit w b = false) ∧ ∃ l, l.Perm l0 ∧ m' vb = some (.cells (intsV l) 1 true true) := by
  refine void_spec (args := [.slice (some ⟨vb, 0, none⟩) l0.length UNK, .int .i64 0, .int .i64 (l0.length : Int), .int .i64 z, .func (.func cf) #[] ccs.toArray]) (R := fun m' n' w => n' = n ∧ (∀ b, b ≠ vb → m' b = m b ∧ Nat.testBit w b = false) ∧ ∃ l, l.Perm l0 ∧ m' vb = some (.cells (intsV l) 1 true true)) hE rfl rfl ⟨rfl, fun b _ => ⟨rfl, Nat.zero_testBit _⟩, l0, List.Perm.refl _, hm⟩ fun Q hQ => ?_
  simp only [ac140]
  simp (implicitDefEqProofs := false) (disch := omega) only [W2, opds, Nat.testBit, Nat.reduceAdd, Nat.reduceShiftRight, Nat.reduceAnd, Nat.reduceBNe, Nat.reduceMul]
  refine wr_kont (wr_loopN (L := ac140L0) (b := ac140L0b) rfl ?_)
  simp only [ac140L0b]
  simp (implicitDefEqProofs := false) (disch := omega) only [W2, opds, Nat.testBit, Nat.reduceAdd, Nat.reduceShiftRight, Nat.reduceAnd, Nat.reduceBNe, Nat.reduceMul]
  refine use_rt (isort h175 C hcb hvb hlen hm) fun r1 m1 n1 r2 w1 hh => ?_
  simp (implicitDefEqProofs := false) (disch := omega) only [W2, opds, Nat.testBit, Nat.reduceAdd, Nat.reduceShiftRight, Nat.reduceAnd, Nat.reduceBNe, Nat.reduceMul]
  intro rr
  simp (implicitDefEqProofs := false) (disch := omega) only [W2, opds, Nat.testBit, Nat.reduceAdd, Nat.reduceShiftRight, Nat.reduceAnd, Nat.reduceBNe, Nat.reduceMul]
  exact hQ _ _ _ _ _ (.inr rfl) hh
theorem chr13 (x : Nat) (hx : x < 13) : ∃ k : Nat, k ≤ 8 ∧ chrV x (.string ⟨#[0, 1, 2, 2, 3, 3, 3, 3, 4, 4, 4, 4, 4, 4, 4, 4, 5, 5, 5, 5, 5, 5, 5, 5, 5, 5, 5, 5, 5, 5, 5, 5, 6, 6, 6, 6, 6, 6, 6, 6, 6, 6, 6, 6, 6, 6, 6, 6, 6, 6, 6, 6, 6, 6, 6, 6, 6, 6, 6, 6, 6, 6, 6, 6, 7, 7, 7, 7, 7, 7, 7, 7, 7, 7, 7, 7, 7, 7, 7, 7, 7, 7, 7, 7, 7, 7, 7, 7, 7, 7, 7, 7, 7, 7, 7, 7, 7, 7, 7, 7, 7, 7, 7, 7, 7, 7, 7, 7, 7, 7, 7, 7, 7, 7, 7, 7, 7, 7, 7, 7, 7, 7, 7, 7, 7, 7, 7, 7, 8, 8, 8, 8, 8, 8, 8, 8, 8, 8, 8, 8, 8, 8, 8, 8, 8, 8, 8, 8, 8, 8, 8, 8, 8, 8, 8, 8, 8, 8, 8, 8, 8, 8, 8, 8, 8, 8, 8, 8, 8, 8, 8, 8, 8, 8, 8, 8, 8, 8, 8, 8, 8, 8, 8, 8, 8, 8, 8, 8, 8, 8, 8, 8, 8, 8, 8, 8, 8, 8, 8, 8, 8, 8, 8, 8, 8, 8, 8, 8, 8, 8, 8, 8, 8, 8, 8, 8, 8, 8, 8, 8, 8, 8, 8, 8, 8, 8, 8, 8, 8, 8, 8, 8, 8, 8, 8, 8, 8, 8, 8, 8, 8, 8, 8, 8, 8, 8, 8, 8, 8, 8, 8, 8, 8, 8, 8, 8]⟩) = some (.int .u8 (k : Int)) :=
  match x, hx with
  | 0, _ => ⟨0, by omega, by kernel_rfl⟩
  | 1, _ => ⟨1, by omega, by kernel_rfl⟩
  | 2, _ => ⟨2, by omega, by kernel_rfl⟩
  | 3, _ => ⟨2, by omega, by kernel_rfl⟩
  | 4, _ => ⟨3, by omega, by kernel_rfl⟩
  | 5, _ => ⟨3, by omega, by kernel_rfl⟩
  | 6, _ => ⟨3, by omega, by kernel_rfl⟩
  | 7, _ => ⟨3, by omega, by kernel_rfl⟩
  | 8, _ => ⟨4, by omega, by kernel_rfl⟩
  | 9, _ => ⟨4, by omega, by kernel_rfl⟩
  | 10, _ => ⟨4, by omega, by kernel_rfl⟩
  | 11, _ => ⟨4, by omega, by kernel_rfl⟩
  | 12, _ => ⟨4, by omega, by kernel_rfl⟩
  | x + 13, h => absurd h (by omega)
theorem len64_spec (hE : E 184 = some ac184) (m : FM) (n : Nat) (x : Nat) (hx : x < 13) : ∃ z : Nat, Pure (callW PG E Y 184 [.int .u64 (x : Int)] m n) m n (.int .i64 (z : Int)) := by
  obtain ⟨k, hk, hc⟩ := chr13 x hx
  refine ⟨k, pure_spec hE rfl rfl ?_⟩
  have c1 : convV .u8 (.int .u64 (x : Int)) = some (.int .u8 (x : Int)) := by
    show some (Value.int .u8 (wrapF .u8 (x : Int))) = _
    rw [wrap8_nat, Nat.mod_eq_of_lt (by omega)]
  have c2 : convV .i64 (.int .u8 (k : Int)) = some (.int .i64 (k : Int)) := by
    show some (Value.int .i64 (wrapF .i64 (k : Int))) = _
    rw [wrapF_eq, wrap_i64 (by omega) (by omega)]
  simp only [ac184]
  simp (implicitDefEqProofs := false) (disch := omega) only [W2, opds, Nat.testBit, Nat.reduceAdd, Nat.reduceShiftRight, Nat.reduceAnd, Nat.reduceBNe, Nat.reduceMul, c1, show ∀ (x y : Opd) (e : List Value) (m : FM) (n : Nat), stepA PG (callW PG E Y) e m n (.pur .byte [x, y]) = valO m n (obind (fun i => chrV i (ev e x)) (natOf (ev e y))) from fun _ _ _ _ _ => rfl]
  generalize hS : chrV x _ = cv
  have hcv : cv = some (.int .u8 (k : Int)) := hS.symm.trans hc
  subst hcv
  simp (implicitDefEqProofs := false) (disch := omega) only [W2, opds, Nat.testBit, Nat.reduceAdd, Nat.reduceShiftRight, Nat.reduceAnd, Nat.reduceBNe, Nat.reduceMul, c2, Int.zero_add]
theorem len_spec (hE : E 141 = some ac141) (h184 : E 184 = some ac184) (m : FM) (n : Nat) (x : Nat) (hx : x < 13) : ∃ z : Nat, Pure (callW PG E Y 141 [.int .u64 (x : Int)] m n) m n (.int .i64 (z : Int)) := by
  obtain ⟨k, hk⟩ := len64_spec (Y := Y) h184 m n x hx
  refine ⟨k, pure_spec hE rfl rfl ?_⟩
  simp only [ac141]
  simp (implicitDefEqProofs := false) (disch := omega) only [W2, opds, Nat.testBit, Nat.reduceAdd, Nat.reduceShiftRight, Nat.reduceAnd, Nat.reduceBNe, Nat.reduceMul]
  refine use_pure hk fun r1 => ?_
  simp (implicitDefEqProofs := false) (disch := omega) only [W2, opds, Nat.testBit, Nat.reduceAdd, Nat.reduceShiftRight, Nat.reduceAnd, Nat.reduceBNe, Nat.reduceMul]
theorem sort_spec (hE : E 104 = some ac104) (h140 : E 140 = some ac140) (h141 : E 141 = some ac141) (h184 : E 184 = some ac184) (h175 : E 175 = some ac175) {n vb cf : Nat} {l0 : List Nat} {ccs : List Value} {m : FM} (C : Cmp E Y n vb l0 cf ccs m) (hcb : ccs.all (below1 n) = true) (hvb : vb < n) (hlen : l0.length ≤ 12) (hm : m vb = some (.cells (intsV l0) 1 true true)) :
    Rt (callW PG E Y 104 [.slice (some ⟨vb, 0, none⟩) l0.length UNK, .func (.func cf) #[] ccs.toArray] m n) fun r m' n' w => n' = n ∧ (∀ b, b ≠ vb → m' b = m b ∧ Nat.testBit w b = false) ∧ ∃ l, l.Perm l0 ∧ m' vb = some (.cells (intsV l) 1 true true) := by
  refine void_spec (args := [.slice (some ⟨vb, 0, none⟩) l0.length UNK, .func (.func cf) #[] ccs.toArray]) (R := fun m' n' w => n' = n ∧ (∀ b, b ≠ vb → m' b = m b ∧ Nat.testBit w b = false) ∧ ∃ l, l.Perm l0 ∧ m' vb = some (.cells (intsV l) 1 true true)) hE rfl rfl ⟨rfl, fun b _ => ⟨rfl, Nat.zero_testBit _⟩, l0, List.Perm.refl _, hm⟩ fun Q hQ => ?_
  obtain ⟨z, hz⟩ := len_spec (Y := Y) h141 h184 m n l0.length (by omega)
  simp only [ac104]
  simp (implicitDefEqProofs := false) (disch := omega) only [W2, opds, Nat.testBit, Nat.reduceAdd, Nat.reduceShiftRight, Nat.reduceAnd, Nat.reduceBNe, Nat.reduceMul, cvi_nat (x := l0.length) (by omega)]
  refine use_pure hz fun r1 => ?_
  simp (implicitDefEqProofs := false) (disch := omega) only [W2, opds, Nat.testBit, Nat.reduceAdd, Nat.reduceShiftRight, Nat.reduceAnd, Nat.reduceBNe, Nat.reduceMul]
  refine use_rt (pdq_spec h140 h175 C hcb hvb hlen hm _) fun r1 m1 n1 r2 w1 hh => ?_
  simp (implicitDefEqProofs := false) (disch := omega) only [W2, opds, Nat.testBit, Nat.reduceAdd, Nat.reduceShiftRight, Nat.reduceAnd, Nat.reduceBNe, Nat.reduceMul]
  exact hQ _ _ _ _ _ (.inl rfl) hh
end Go.Am.CS
namespace Go.Am.CS
set_option maxRecDepth 100000
open Go Go.Am
variable {E : Nat → Option AFn} {Y : Nat → List Value → FM → Nat → OR FM}
theorem dvictim {T O : Nat} (F : Fn3 E Y T O) {i : Ids} {pb : Nat} {m : FM} {n : Nat} {xs : List (Int × Value)} {c : Nat} {es : List Ent} {bs : List Bnd} {t : Nat} (h : Drv i T O pb m n xs c es bs t) (ho : BOk (T * 2) bs) (hf : 1 ≤ freeN bs) (hex : ∃ k, candB (T * 2) (opF (T * 2) bs bs.length) bs k) :
    ∃ k : Nat, candB (T * 2) (opF (T * 2) bs bs.length) bs k ∧ Pure (callW PG E Y 67 [.pointer (some ⟨i.R, 0, none⟩)] m n) m n (.tuple #[.int .i64 (k : Int), .int .i64 0]) := by
  obtain ⟨h0, h1, h2, h3, h4, h5, h6, h7, h8, h9⟩ := h.dsk.cc.ok
  have hKN := h.dsk.cc.KN
  have g1 := F.G.ok.t1
  have g2 := F.G.ok.t2
  obtain ⟨bv, hr, hb⟩ := h.r
  simp only [drC] at hr
  obtain ⟨p1, p2, p3, p4⟩ := hb.p
  obtain ⟨k, hk, hp⟩ := choose_spec (Y := Y) F.e99 F.e137 F.e169 F.e192 F.e170 F.e138 F.e171 F.e173 F.e174 hb (S := T * 2) (by omega) (by omega) ho (t : Int) _ hex
  refine ⟨k, hk, pure_spec F.e67 rfl rfl ?_⟩
  simp only [ac67]
  simp (implicitDefEqProofs := false) (disch := omega) only [W2, opds, Nat.testBit, Nat.reduceAdd, Nat.reduceShiftRight, Nat.reduceAnd, Nat.reduceBNe, Nat.reduceMul, hr, p2, p3]
  refine use_pure (free_spec F.e66 hb) fun r1 => ?_
  simp (implicitDefEqProofs := false) (disch := omega) only [W2, opds, Nat.testBit, Nat.reduceAdd, Nat.reduceShiftRight, Nat.reduceAnd, Nat.reduceBNe, Nat.reduceMul, hr, p2, p3]
  refine use_pureX (dsize_spec F h) fun r2 => ?_
  simp (implicitDefEqProofs := false) (disch := omega) only [W2, opds, Nat.testBit, Nat.reduceAdd, Nat.reduceShiftRight, Nat.reduceAnd, Nat.reduceBNe, Nat.reduceMul, hr, p2, p3]
  refine use_pureX (dsize_spec F h) fun r3 => ?_
  simp (implicitDefEqProofs := false) (disch := omega) only [W2, opds, Nat.testBit, Nat.reduceAdd, Nat.reduceShiftRight, Nat.reduceAnd, Nat.reduceBNe, Nat.reduceMul, hr, p2, p3]
  refine use_pureX (bopen_spec F.e101 F.e137 F.e139 F.e169 F.e192 F.e170 hb (S := T * 2) (by omega) (by omega) ho) fun r4 => ?_
  simp (implicitDefEqProofs := false) (disch := omega) only [W2, opds, Nat.testBit, Nat.reduceAdd, Nat.reduceShiftRight, Nat.reduceAnd, Nat.reduceBNe, Nat.reduceMul, hr, p2, p3]
  refine use_pureX hp fun r5 => ?_
  simp (implicitDefEqProofs := false) (disch := omega) only [W2, opds, Nat.testBit, Nat.reduceAdd, Nat.reduceShiftRight, Nat.reduceAnd, Nat.reduceBNe, Nat.reduceMul, extr_mk, show ∀ k a b, belowV k (.tuple #[.int .i64 a, .int .i64 b]) = true from fun _ _ _ => rfl]
end Go.Am.CS
namespace Go.Am.CS
set_option maxRecDepth 100000
open Go Go.Am
def liveIn (S b : Nat) (x : Ent) : Bool := decide (¬ x.ver = 0 ∧ (x.adr - 4) / S = b)
def liveN (S b : Nat) (es : List Ent) : Nat := es.countP (liveIn S b)
theorem liveN_set {S b : Nat} {es : List Ent} {k : Nat} (hk : k < es.length) (x : Ent) : liveN S b (es.set k x) + (if liveIn S b es[k] then 1 else 0) = liveN S b es + (if liveIn S b x then 1 else 0) := by
  unfold liveN
  rw [List.countP_set hk]
  have : (if liveIn S b es[k] = true then 1 else 0) ≤ es.countP (liveIn S b) := by
    split
    · exact List.countP_pos_iff.2 ⟨_, List.getElem_mem hk, by assumption⟩
    · exact Nat.zero_le _
  omega
structure Pl (T : Nat) (es : List Ent) (bs : List Bnd) : Prop where
  bl : bs.length = 5
  ok : BOk (T * 2) bs
  live : ∀ b, (h : b < bs.length) → bs[b].live = liveN (T * 2) b es
  part : ∀ p q, (hp : p < bs.length) → (hq : q < bs.length) → 0 < bs[p].used → bs[p].used < T * 2 → 0 < bs[q].used → bs[q].used < T * 2 → p = q
  ent : ∀ k, (h : k < es.length) → ¬ es[k].ver = 0 → 4 ≤ es[k].adr ∧ es[k].adr < 4 + 5 * (T * 2) ∧ ∀ hb : (es[k].adr - 4) / (T * 2) < bs.length, (es[k].adr - 4) % (T * 2) < bs[(es[k].adr - 4) / (T * 2)].used
theorem Pl.band {T : Nat} {es : List Ent} {bs : List Bnd} (h : Pl T es bs) {k : Nat} (hk : k < es.length) (hv : ¬ es[k].ver = 0) : (es[k].adr - 4) / (T * 2) < bs.length := by
  obtain ⟨h1, h2, _⟩ := h.ent k hk hv
  rw [h.bl]
  exact Nat.div_lt_of_lt_mul (by omega)
theorem Pl.unl {T : Nat} {es : List Ent} {bs : List Bnd} (hT : T ≤ 4) (h : Pl T es bs) {k : Nat} (hk : k < es.length) : ¬ es[k].ver = 0 → 4 ≤ es[k].adr ∧ es[k].adr < 4 + 5 * (T * 2) ∧ ∀ hb : (es[k].adr - 4) / (T * 2) < bs.length, 1 ≤ bs[(es[k].adr - 4) / (T * 2)].live ∧ bs[(es[k].adr - 4) / (T * 2)].live ≤ 100 := fun hv => by
  obtain ⟨h1, h2, h3⟩ := h.ent k hk hv
  refine ⟨h1, h2, fun hb => ⟨?_, ?_⟩⟩
  · rw [h.live _ hb]
    exact List.countP_pos_iff.2 ⟨_, List.getElem_mem hk, by rw [liveIn, decide_eq_true_eq]; exact ⟨hv, rfl⟩⟩
  · have := h.ok _ (List.getElem_mem hb)
    omega
theorem band_of {q S u : Nat} (hu : u < S) : (4 + (q * S + u) - 4) / S = q ∧ (4 + (q * S + u) - 4) % S = u := by
  have e : 4 + (q * S + u) - 4 = u + q * S := by omega
  rw [e]
  refine ⟨?_, ?_⟩
  · rw [Nat.add_mul_div_right _ _ (by omega), Nat.div_eq_of_lt hu, Nat.zero_add]
  · rw [Nat.add_mul_mod_self_right, Nat.mod_eq_of_lt hu]
theorem app_at {S t q : Nat} {x : Ent} {bs : List Bnd} (hq : q < bs.length) (b : Nat) (hb : b < bs.length) (h : b < (appB t q (unlB S x bs)).length) : (appB t q (unlB S x bs))[b].used = bs[b].used + (if b = q then 1 else 0) ∧ (appB t q (unlB S x bs))[b].live = bs[b].live - (if ¬ x.ver = 0 ∧ (x.adr - 4) / S = b then 1 else 0) + (if b = q then 1 else 0) := by
  have hul : ∀ b, (hb : b < bs.length) → (h' : b < (unlB S x bs).length) → (unlB S x bs)[b].used = bs[b].used ∧ (unlB S x bs)[b].live = bs[b].live - (if ¬ x.ver = 0 ∧ (x.adr - 4) / S = b then 1 else 0) := fun b hb h' => by
    by_cases hv : x.ver = 0
    · have e : unlB S x bs = bs := by rw [unlB, if_pos hv]
      simp only [e]
      rw [if_neg (fun h => h.1 hv)]
      exact ⟨trivial, rfl⟩
    · by_cases hc : (x.adr - 4) / S < bs.length
      · have e := unlB_eq hv hc
        simp only [e, List.getElem_set]
        by_cases hbb : (x.adr - 4) / S = b
        · subst hbb
          rw [if_pos rfl, if_pos ⟨hv, rfl⟩]; exact ⟨rfl, rfl⟩
        · rw [if_neg hbb, if_neg (fun h => hbb h.2)]
          exact ⟨rfl, rfl⟩
      · have e : unlB S x bs = bs := by rw [unlB, if_neg hv, List.getElem?_eq_none (by omega)]
        simp only [e]
        rw [if_neg (fun h => hc (by omega))]
        exact ⟨trivial, rfl⟩
  have hlu := unlB_len S x bs
  have e := appB_eq (t := t) (q := q) (l := unlB S x bs) (by omega)
  obtain ⟨u1, u2⟩ := hul b hb (by omega)
  obtain ⟨u3, u4⟩ := hul q hq (by omega)
  simp only [e, List.getElem_set]
  by_cases hbq : q = b
  · subst hbq
    rw [if_pos rfl]
    rw [if_pos rfl]
    simp only [u1, u2]
    exact ⟨trivial, trivial⟩
  · rw [if_neg hbq, u1, u2, if_neg (fun h => hbq h.symm)]
    exact ⟨rfl, rfl⟩
theorem Pl.app {T : Nat} {es : List Ent} {bs : List Bnd} (h : Pl T es bs) (hT : 1 ≤ T) {q : Nat} (hq : Takes (T * 2) bs q) {k ver t : Nat} (hk : k < es.length) (hv : 1 ≤ ver) (hq1 : q < bs.length) : Pl T (es.set k ⟨ver, 4 + (q * (T * 2) + bs[q].used)⟩) (appB t q (unlB (T * 2) es[k] bs)) := by
  obtain ⟨_, hu, hpart⟩ := hq
  have hbl := h.bl
  have hlen : (appB t q (unlB (T * 2) es[k] bs)).length = bs.length := by rw [appB_len, unlB_len]
  have at' : ∀ b, (hb : b < bs.length) → (h' : b < (appB t q (unlB (T * 2) es[k] bs)).length) → _ := fun b hb h' => app_at (t := t) (x := es[k]) (S := T * 2) hq1 b hb h'
  obtain ⟨e1, e2⟩ := band_of (q := q) hu
  have hlive : ∀ b, (hb : b < bs.length) → (if ¬ es[k].ver = 0 ∧ (es[k].adr - 4) / (T * 2) = b then 1 else 0) ≤ bs[b].live := fun b hb => by
    rw [h.live b hb]
    split
    · rename_i hh
      exact List.countP_pos_iff.2 ⟨_, List.getElem_mem hk, by rw [liveIn, decide_eq_true_eq]; exact hh⟩
    · exact Nat.zero_le _
  refine ⟨by rw [hlen]; exact hbl, fun x hx => ?_, fun b hb => ?_, fun p r hp hr => ?_, fun j hj => ?_⟩
  · obtain ⟨b, hb, rfl⟩ := List.getElem_of_mem hx
    obtain ⟨a1, a2⟩ := at' b (by omega) hb
    rw [a1, a2]
    have := h.ok _ (List.getElem_mem (show b < bs.length by omega))
    by_cases hbq : b = q
    · subst hbq; simp only [if_true]; omega
    · simp only [if_neg hbq]; omega
  · obtain ⟨a1, a2⟩ := at' b (by omega) hb
    rw [a2]
    have hs := liveN_set (S := T * 2) (b := b) hk ⟨ver, 4 + (q * (T * 2) + bs[q].used)⟩
    have f1 : (if liveIn (T * 2) b es[k] = true then 1 else 0) = (if ¬ es[k].ver = 0 ∧ (es[k].adr - 4) / (T * 2) = b then 1 else 0) := by
      simp only [liveIn, decide_eq_true_eq]
    have f2 : (if liveIn (T * 2) b ⟨ver, 4 + (q * (T * 2) + bs[q].used)⟩ = true then 1 else 0) = (if b = q then 1 else 0) := by
      simp only [liveIn, decide_eq_true_eq, e1]
      by_cases hbq : b = q
      · rw [if_pos ⟨by omega, hbq.symm⟩, if_pos hbq]
      · rw [if_neg (fun h => hbq h.2.symm), if_neg hbq]
    rw [f1, f2] at hs
    have := hlive b (by omega)
    have := h.live b (by omega)
    omega
  · obtain ⟨a1, _⟩ := at' p (by omega) hp
    obtain ⟨a2, _⟩ := at' r (by omega) hr
    rw [a1, a2]
    intro k1 k2 k3 k4
    by_cases hpq : p = q
    · by_cases hrq : r = q
      · omega
      · rw [if_neg hrq] at k3 k4
        rcases hpart with h0 | h0
        · have := h.part q r hq1 (by omega) h0 hu (by omega) (by omega)
          omega
        · exact absurd ⟨by omega, by omega⟩ (h0 r (by omega))
    · rw [if_neg hpq] at k1 k2
      by_cases hrq : r = q
      · rcases hpart with h0 | h0
        · have := h.part q p hq1 (by omega) h0 hu (by omega) (by omega)
          omega
        · exact absurd ⟨by omega, by omega⟩ (h0 p (by omega))
      · rw [if_neg hrq] at k3 k4
        exact h.part p r (by omega) (by omega) (by omega) (by omega) (by omega) (by omega)
  · rw [List.length_set] at hj
    rw [List.getElem_set]
    by_cases hjk : k = j
    · rw [if_pos hjk]
      intro _
      have hq4 : q * (T * 2) ≤ 4 * (T * 2) := Nat.mul_le_mul_right _ (by omega)
      refine ⟨by show 4 ≤ 4 + (q * (T * 2) + bs[q].used); omega, by show 4 + (q * (T * 2) + bs[q].used) < _; omega, ?_⟩
      show ∀ hb : (4 + (q * (T * 2) + bs[q].used) - 4) / (T * 2) < _, (4 + (q * (T * 2) + bs[q].used) - 4) % (T * 2) < _
      intro hb
      have := (at' _ (by omega) hb).1
      rw [this, e2]
      simp only [e1, if_true]
      omega
    · rw [if_neg hjk]
      intro hv
      obtain ⟨g1, g2, g3⟩ := h.ent j hj hv
      refine ⟨g1, g2, fun hb => ?_⟩
      have := (at' _ (by omega) hb).1
      rw [this]
      have := g3 (by omega)
      omega
theorem Pl.reset {T : Nat} {es : List Ent} {bs : List Bnd} (h : Pl T es bs) {e : Nat} (he : e < bs.length) (hl : liveN (T * 2) e es = 0) (wr : Int) : Pl T es (bs.set e ⟨0, 0, 0, wr⟩) := by
  refine ⟨by rw [List.length_set]; exact h.bl, fun x hx => ?_, fun b hb => ?_, fun p r hp hr => ?_, fun j hj hv => ?_⟩
  · rcases List.mem_or_eq_of_mem_set hx with hx | rfl
    · exact h.ok x hx
    · exact ⟨Nat.le_refl _, Nat.zero_le _⟩
  · rw [List.length_set] at hb
    rw [List.getElem_set]
    by_cases hbe : e = b
    · subst hbe; rw [if_pos rfl, hl]
    · rw [if_neg hbe]; exact h.live b hb
  · rw [List.length_set] at hp hr
    rw [List.getElem_set, List.getElem_set]
    by_cases hpe : e = p
    · rw [if_pos hpe]; intro k1; exact absurd k1 (Nat.lt_irrefl _)
    · rw [if_neg hpe]
      by_cases hre : e = r
      · rw [if_pos hre]; intro _ _ k1; exact absurd k1 (Nat.lt_irrefl _)
      · rw [if_neg hre]; exact h.part p r hp hr
  · obtain ⟨g1, g2, g3⟩ := h.ent j hj hv
    refine ⟨g1, g2, fun hb => ?_⟩
    rw [List.length_set] at hb
    rw [List.getElem_set]
    by_cases hbe : e = (es[j].adr - 4) / (T * 2)
    · exact absurd (List.countP_eq_zero.1 hl es[j] (List.getElem_mem hj)) (by rw [liveIn, decide_eq_true_eq]; exact fun k => k ⟨hv, hbe.symm⟩)
    · rw [if_neg hbe]; exact g3 hb
end Go.Am.CS
namespace Go.Am.CS
set_option maxRecDepth 100000
open Go Go.Am
theorem killX_get : ∀ (l : List Nat) (xs : List (Int × Value)) (j : Nat), (∀ s ∈ l, s ≠ j) → (killX xs l)[j]? = xs[j]?
  | [], xs, j, _ => rfl
  | s :: l, xs, j, h => by
    show (killX (xs.set s _) l)[j]? = _
    rw [killX_get l _ j fun x hx => h x (List.mem_cons_of_mem _ hx), List.getElem?_set_ne (h s (List.mem_cons_self ..))]
theorem blankX_get (xs : List (Int × Value)) (a : Nat) (j : Nat) : ∀ i, (j < a ∨ a + i ≤ j) → (blankX xs a i)[j]? = xs[j]?
  | 0, _ => rfl
  | i + 1, h => by rw [blankX, List.getElem?_set_ne (by omega), blankX_get xs a j i (by omega)]
theorem shads_band {T O q u : Nat} (hu : u < T * 2) {s : Nat} (hs : s ∈ shads T O (4 + (q * (T * 2) + u))) : 4 + (q * (T * 2) + u) < s ∧ s < 4 + (q * (T * 2) + T * 2) := by
  obtain ⟨i, hi, rfl⟩ := List.mem_map.1 hs
  rw [List.mem_range] at hi
  unfold shn at hi
  rw [if_neg (by omega)] at hi
  have h1 := Nat.min_le_right O (T - 1 - trk T (4 + (q * (T * 2) + u)))
  have h2 : trk T (4 + (q * (T * 2) + u)) = u / 2 := by
    unfold trk
    rw [show 4 + (q * (T * 2) + u) - 4 = u + q * T * 2 by rw [Nat.mul_assoc]; omega, Nat.add_mul_div_right _ _ (by omega), Nat.add_mul_mod_self_right, Nat.mod_eq_of_lt (by omega)]
  omega
theorem writeX_get {T O q u : Nat} (hu : u < T * 2) (v : Value) (xs : List (Int × Value)) {j : Nat} (hj : j < 4 + (q * (T * 2) + u) ∨ 4 + (q * (T * 2) + T * 2) ≤ j) : (writeX T O (4 + (q * (T * 2) + u)) v xs)[j]? = xs[j]? := by
  rw [writeX, killX_get _ _ _ fun s hs => by have := shads_band hu hs; omega, List.getElem?_set_ne (by omega)]
theorem writeX_self {T O q u : Nat} (hu : u < T * 2) (v : Value) (xs : List (Int × Value)) (hl : 4 + (q * (T * 2) + u) < xs.length) : (writeX T O (4 + (q * (T * 2) + u)) v xs)[4 + (q * (T * 2) + u)]? = some (1, v) := by
  rw [writeX, killX_get _ _ _ fun s hs => by have := shads_band hu hs; omega, List.getElem?_set_self hl]
def dsOf (k ver : Nat) : List Nat := [(ver - 1) % 256, k % 256, 0, 0, 0, 0, 0, 0]
theorem dsOf_lt (k ver : Nat) : ∀ x ∈ dsOf k ver, x < 256 := fun x hx => by
  simp only [dsOf, List.mem_cons, List.not_mem_nil, or_false] at hx
  rcases hx with rfl | rfl | rfl | rfl | rfl | rfl | rfl | rfl <;> omega
structure Con (i : Ids) (pb : Nat) (M : FM) (N : Nat) (xs : List (Int × Value)) (es : List Ent) : Prop where
  ent : ∀ k, (h : k < es.length) → ¬ es[k].ver = 0 → es[k].ver < 2 ^ 64 ∧ ∃ v t0, xs[es[k].adr]? = some (1, v) ∧ t0 < 2 ^ 64 ∧ By i pb M N v 37 (n8s (encN k es[k].ver (dsOf k es[k].ver) t0))
  rand : ∀ a : Nat, a < 4 → ∃ v, xs[a]? = some (1, v) ∧ By i pb M N v 1 [.int .u8 (a : Int)]
theorem Con.fr {i : Ids} {lo hi pb pb' : Nat} {M M' : FM} {N N' w : Nat} {xs : List (Int × Value)} {es : List Ent} (h : Con i pb M N xs es) (hf : Fr lo hi pb N M M' w) (hh : hi < i.K) (hN : N ≤ N') (hp : pb' = pb ∨ N ≤ pb') : Con i pb' M' N' xs es := by
  refine ⟨fun k hk hv => ?_, fun a ha => ?_⟩
  · obtain ⟨h1, v, t0, h2, h3, h4⟩ := h.ent k hk hv
    exact ⟨h1, v, t0, h2, h3, h4.fr hf hh hN hp⟩
  · obtain ⟨v, h1, h2⟩ := h.rand a ha
    exact ⟨v, h1, h2.fr hf hh hN hp⟩
theorem Con.keep {i : Ids} {pb : Nat} {M M' : FM} {N N' : Nat} {xs : List (Int × Value)} {es : List Ent} (h : Con i pb M N xs es) (hN : N ≤ N') (hf : ∀ b, b < N → M' b = M b) (hK : 0 < i.K) : Con i pb M' N' xs es := h.fr (lo := 0) (hi := 0) (w := 0) (fun b hb _ _ => ⟨hf b hb, Nat.zero_testBit _⟩) hK hN (.inl rfl)
theorem div_lt_band {S a q u : Nat} (h1 : a / S = q) (h2 : a % S < u) : a < q * S + u := by
  have := Nat.div_add_mod a S
  rw [h1, Nat.mul_comm] at this; omega
theorem Con.app {i : Ids} {pb : Nat} {M : FM} {N : Nat} {T O : Nat} {xs : List (Int × Value)} {es : List Ent} {bs : List Bnd} (h : Con i pb M N xs es) (hp : Pl T es bs) {q k ver t0 : Nat} (hq : q < bs.length) (hu : bs[q].used < T * 2) (hk : k < es.length) (hxl : xs.length = 4 + 5 * (T * 2)) {v : Value} (ht : t0 < 2 ^ 64) (hver : ver < 2 ^ 64) (hv : By i pb M N v 37 (n8s (encN k ver (dsOf k ver) t0))) : Con i pb M N (writeX T O (4 + (q * (T * 2) + bs[q].used)) v xs) (es.set k ⟨ver, 4 + (q * (T * 2) + bs[q].used)⟩) := by
  have hbl := hp.bl
  have hq4 : q * (T * 2) ≤ 4 * (T * 2) := Nat.mul_le_mul_right _ (by omega)
  refine ⟨fun j hj => ?_, fun a ha => ?_⟩
  · rw [List.length_set] at hj
    rw [List.getElem_set]
    by_cases hjk : k = j
    · subst hjk
      rw [if_pos rfl]
      intro _
      exact ⟨hver, v, t0, writeX_self hu v xs (by omega), ht, hv⟩
    · rw [if_neg hjk]
      intro hv'
      obtain ⟨h1, v', t', h2, h3, h4⟩ := h.ent j hj hv'
      obtain ⟨g1, g2, g3⟩ := hp.ent j hj hv'
      refine ⟨h1, v', t', ?_, h3, h4⟩
      rw [writeX_get hu, h2]
      have hb := hp.band hj hv'
      have g4 := g3 hb
      by_cases hbq : (es[j].adr - 4) / (T * 2) = q
      · simp only [hbq] at g4
        have := div_lt_band hbq g4
        omega
      · have hdm := Nat.div_add_mod (es[j].adr - 4) (T * 2)
        have hm := Nat.mod_lt (es[j].adr - 4) (show 0 < T * 2 by omega)
        generalize (es[j].adr - 4) / (T * 2) = b' at *
        rw [Nat.mul_comm] at hdm
        by_cases hlt : b' < q
        · have : (b' + 1) * (T * 2) ≤ q * (T * 2) := Nat.mul_le_mul_right _ (by omega)
          rw [Nat.add_mul, Nat.one_mul] at this
          omega
        · have : (q + 1) * (T * 2) ≤ b' * (T * 2) := Nat.mul_le_mul_right _ (by omega)
          rw [Nat.add_mul, Nat.one_mul] at this
          omega
  · obtain ⟨v', h1, h2⟩ := h.rand a ha
    exact ⟨v', by rw [writeX_get hu _ _ (.inl (by omega)), h1], h2⟩
theorem Con.erase {i : Ids} {pb : Nat} {M : FM} {N : Nat} {T : Nat} {xs : List (Int × Value)} {es : List Ent} {bs : List Bnd} (h : Con i pb M N xs es) (hp : Pl T es bs) {e : Nat} (hl : liveN (T * 2) e es = 0) : Con i pb M N (blankX xs (4 + e * T * 2) (T * 2)) es := by
  refine ⟨fun j hj hv => ?_, fun a ha => ?_⟩
  · obtain ⟨h1, v', t', h2, h3, h4⟩ := h.ent j hj hv
    obtain ⟨g1, g2, g3⟩ := hp.ent j hj hv
    refine ⟨h1, v', t', ?_, h3, h4⟩
    rw [blankX_get, h2]
    have hbe : ¬ (es[j].adr - 4) / (T * 2) = e := fun hbe => absurd (List.countP_eq_zero.1 hl es[j] (List.getElem_mem hj)) (by rw [liveIn, decide_eq_true_eq]; exact fun k => k ⟨hv, hbe⟩)
    clear g3
    have hdm := Nat.div_add_mod (es[j].adr - 4) (T * 2)
    have hm := Nat.mod_lt (es[j].adr - 4) (show 0 < T * 2 by omega)
    rw [Nat.mul_assoc]
    generalize (es[j].adr - 4) / (T * 2) = b' at *
    rw [Nat.mul_comm] at hdm
    by_cases hlt : b' < e
    · have : (b' + 1) * (T * 2) ≤ e * (T * 2) := Nat.mul_le_mul_right _ (by omega)
      rw [Nat.add_mul, Nat.one_mul] at this
      omega
    · have : (e + 1) * (T * 2) ≤ b' * (T * 2) := Nat.mul_le_mul_right _ (by omega)
      rw [Nat.add_mul, Nat.one_mul] at this
      omega
  · obtain ⟨v', h1, h2⟩ := h.rand a ha
    exact ⟨v', by rw [blankX_get _ _ _ _ (.inl (by omega)), h1], h2⟩
end Go.Am.CS
namespace Go.Am.CS
set_option maxRecDepth 100000
open Go Go.Am
variable {E : Nat → Option AFn} {Y : Nat → List Value → FM → Nat → OR FM}
def inBand (S k : Nat) (es : List Ent) (b : Nat) : Bool := match es[b]? with | some x => liveIn S k x | none => false
def blocksOf (S k : Nat) (es : List Ent) (j : Nat) : List Nat := (List.range j).filter (inBand S k es)
theorem blocksOf_succ (S k : Nat) (es : List Ent) (j : Nat) (h : j < es.length) : blocksOf S k es (j + 1) = bif liveIn S k es[j] then blocksOf S k es j ++ [j] else blocksOf S k es j := by
  rw [blocksOf, List.range_succ, List.filter_append, blocksOf]
  have e : inBand S k es j = liveIn S k es[j] := by rw [inBand, List.getElem?_eq_getElem h]
  cases hl : liveIn S k es[j]
  · rw [cond_false, List.filter_cons_of_neg (by rw [e, hl]; simp), List.filter_nil, List.append_nil]
  · rw [cond_true, List.filter_cons_of_pos (by rw [e, hl]), List.filter_nil]
theorem intsV_len (l : List Nat) : (intsV l).length = l.length := List.length_map _
theorem blocks_L0 {T O : Nat} (F : Fn3 E Y T O) {i : Ids} {pb : Nat} {m : FM} {n : Nat} {xs : List (Int × Value)} {c : Nat} {es : List Ent} {bs : List Bnd} {t : Nat} (h : Drv i T O pb m n xs c es bs t) (hp : Pl T es bs) {k bd bk : Nat} (kd : bd < n ∧ m bd = some (.cells [.pointer (some ⟨i.R, 0, none⟩)] 0 false true)) (kk : bk < n ∧ m bk = some (.cells [.int .i64 (k : Int)] 0 false true)) (x5 x6 x7 x9 x10 : Value) {Q : AX → List Value → FM → Nat → Nat → Prop}
    (hQ : ∀ v x2 M N w, n ≤ N → (∀ b, b < n → M b = m b) → (∀ j, j ≤ n → Nat.mod w (bit j) = 0) → SlZ 1 M n N v (blocksOf (T * 2) k es es.length).length (intsV (blocksOf (T * 2) k es es.length)) → Q (.exit 0) [v, x2, .int .i64 (es.length : Int), .slice (some ⟨i.EN, 0, none⟩) es.length UNK, x5, x6, x7, .pointer (some ⟨bk, 0, none⟩), .pointer (some ⟨bd, 0, none⟩), x9, x10] M N w) :
    ∀ (d j : Nat), j + d = es.length → ∀ (v x2 : Value) (M : FM) (N w0 : Nat), n ≤ N → (∀ b, b < n → M b = m b) → (∀ j, j ≤ n → Nat.mod w0 (bit j) = 0) → SlZ 1 M n N v (blocksOf (T * 2) k es j).length (intsV (blocksOf (T * 2) k es j)) →
    Gv (execW PG E Y ac68L0 [v, .int .i64 (j : Int), x2, .int .i64 (es.length : Int), .slice (some ⟨i.EN, 0, none⟩) es.length UNK, x5, x6, x7, .pointer (some ⟨bk, 0, none⟩), .pointer (some ⟨bd, 0, none⟩), x9, x10] M N) fun X e m n w => Q X e m n (Nat.lor w0 w) := by
  obtain ⟨h0, h1, h2, h3, h4, h5, h6, h7, h8, h9⟩ := h.dsk.cc.ok
  have hKN := h.dsk.cc.KN
  have hel := h.el
  have hen := h.en
  obtain ⟨kd1, kd2⟩ := kd
  obtain ⟨kk1, kk2⟩ := kk
  intro d
  induction d with
  | zero =>
    intro j hj v x2 M N w0 hN hf hw hS
    refine wr_loopN (L := ac68L0) (b := ac68L0b) rfl ?_
    simp only [ac68L0b]
    obtain rfl : j = es.length := by omega
    simp (implicitDefEqProofs := false) (disch := omega) only [W2, opds, Nat.testBit, Nat.reduceAdd, Nat.reduceShiftRight, Nat.reduceAnd, Nat.reduceBNe, Nat.reduceMul]
    exact hQ _ _ _ _ _ hN hf hw hS
  | succ d ih =>
    intro j hj v x2 M N w0 hN hf hw hS
    have hj1 : j < es.length := by omega
    have henM := (hf i.EN (by omega)).trans hen
    have hix := idx_ent (b := i.EN) (c := UNK) hj1
    obtain ⟨a1, a2, a3, a4⟩ := ecells_at hj1
    have hvo := hS.one
    have kdM := (hf bd kd1).trans kd2
    have kkM := (hf bk kk1).trans kk2
    have hbs := blocksOf_succ (T * 2) k es j hj1
    refine wr_loopN (L := ac68L0) (b := ac68L0b) rfl ?_
    simp only [ac68L0b]
    generalize hM1 : (AMem.put M N (some (Blk.cells [.int .i64 es[j].k, .int .u64 (es[j].ver : Int), .int .i64 es[j].a] 0 false true)) : FM) = M1
    have l1 : ∀ b, b < N → M1 b = M b := fun b hb => by rw [← hM1, fput_ne _ _ _ _ (by omega)]
    have l0 : M1 N = some (.cells [.int .i64 es[j].k, .int .u64 (es[j].ver : Int), .int .i64 es[j].a] 0 false true) := by rw [← hM1]; exact fput_same _ _ _
    have hD1 := h.keep (M' := M1) (show n ≤ N + 1 by omega) fun b hb => by rw [l1 b (by omega), hf b hb]
    have kdM1 := (l1 bd (by omega)).trans kdM
    have kkM1 := (l1 bk (by omega)).trans kkM
    have fin : liveIn (T * 2) k es[j] = false → Wr PG E Y [] (Nat.lor (bit N) (bit N)) (execW PG E Y ac68L0 [v, .int .i64 ((j + 1 : Nat) : Int), x2, .int .i64 (es.length : Int), .slice (some ⟨i.EN, 0, none⟩) es.length UNK, x5, x6, x7, .pointer (some ⟨bk, 0, none⟩), .pointer (some ⟨bd, 0, none⟩), x9, x10] M1 (N + 1)) fun X e m n w => Q X e m n (Nat.lor w0 w) := fun hl => by
      rw [hl, cond_false] at hbs
      refine wr_end (ih (j + 1) (by omega) _ _ _ _ (Nat.lor w0 (Nat.lor (bit N) (bit N))) (by omega) (fun b hb => by rw [l1 b (by omega), hf b hb]) (fun b hb => by simp only [frz_iff]; exact ⟨hw b hb, frz_bit (by omega), frz_bit (by omega)⟩) (by rw [hbs]; exact hS.frame (by omega) fun b _ hb => l1 b hb)) fun X e m n w hq => ?_
      rw [show Nat.lor w0 (Nat.lor (Nat.lor (bit N) (bit N)) w) = Nat.lor (Nat.lor w0 (Nat.lor (bit N) (bit N))) w from (lor_assoc' _ _ _).symm]
      exact hq
    by_cases hv : es[j].ver = 0
    · have ea : es[j].a = -1 := if_pos hv
      have hl : liveIn (T * 2) k es[j] = false := by rw [liveIn, decide_eq_false_iff_not]; exact fun h => h.1 hv
      rw [ea] at l0 hM1 a1
      simp (implicitDefEqProofs := false) (disch := omega) only [W2, opds, Nat.testBit, Nat.reduceAdd, Nat.reduceShiftRight, Nat.reduceAnd, Nat.reduceBNe, Nat.reduceMul, hix, henM, a1, hM1, l0]
      exact fin hl
    · have ea : es[j].a = (es[j].adr : Int) := if_neg hv
      rw [ea] at l0 hM1 a1
      obtain ⟨g1, g2, g3⟩ := hp.ent j hj1 hv
      simp (implicitDefEqProofs := false) (disch := omega) only [W2, opds, Nat.testBit, Nat.reduceAdd, Nat.reduceShiftRight, Nat.reduceAnd, Nat.reduceBNe, Nat.reduceMul, hix, henM, a1, hM1, l0, kdM1]
      refine use_pureX (dband_spec F hD1 _ g1 g2) fun r1 => ?_
      by_cases hbk : (es[j].adr - 4) / (T * 2) = k
      · simp (implicitDefEqProofs := false) (disch := omega) only [W2, opds, Nat.testBit, Nat.reduceAdd, Nat.reduceShiftRight, Nat.reduceAnd, Nat.reduceBNe, Nat.reduceMul, kkM1]
        have hl : liveIn (T * 2) k es[j] = true := by rw [liveIn, decide_eq_true_eq]; exact ⟨hv, hbk⟩
        rw [hl, cond_true] at hbs
        generalize hM2 : (AMem.put M1 (N + 1) _ : FM) = M2
        have l2 : ∀ b, b < N + 1 → M2 b = M1 b := fun b hb => by rw [← hM2, fput_ne _ _ _ _ (by omega)]
        have hS2 : SlZ 1 M2 n (N + 2) v (blocksOf (T * 2) k es j).length (intsV (blocksOf (T * 2) k es j)) := hS.frame (by omega) fun b _ hb => by rw [l2 b (by omega), l1 b hb]
        have hbl : (blocksOf (T * 2) k es j).length ≤ j := by
          have := List.length_filter_le (inBand (T * 2) k es) (List.range j)
          rw [List.length_range] at this; exact this
        refine use_rt (app_slZ1 hS2 _ rfl _ _ _ (by omega) (by omega)) fun v1 M3 N3 r1 w1 hh => ?_
        obtain ⟨hv1, hn1, hs1, hl1, hw1⟩ := hh
        subst hn1
        have e1 : intsV (blocksOf (T * 2) k es j) ++ [Value.int .i64 ((j : Nat) : Int)] = intsV (blocksOf (T * 2) k es (j + 1)) := by
          rw [hbs]; unfold intsV; rw [List.map_append]; rfl
        have e2 : (blocksOf (T * 2) k es j).length + 1 = (blocksOf (T * 2) k es (j + 1)).length := by rw [hbs, List.length_append]; rfl
        rw [e1, e2] at hs1
        simp (implicitDefEqProofs := false) (disch := omega) only [W2, opds, Nat.testBit, Nat.reduceAdd, Nat.reduceShiftRight, Nat.reduceAnd, Nat.reduceBNe, Nat.reduceMul]
        refine wr_end (ih (j + 1) (by omega) v1 _ M3 (N + 3) (Nat.lor w0 (Nat.lor (Nat.lor (bit N) (bit N)) (Nat.lor (bit (N + 1)) w1))) (by omega) (fun b hb => by rw [hl1 b (by omega), l2 b (by omega), l1 b (by omega), hf b hb]) (fun b hb => by simp only [frz_iff]; exact ⟨hw b hb, ⟨frz_bit (by omega), frz_bit (by omega)⟩, frz_bit (by omega), hw1 b hb⟩) hs1) fun X e m n w hq => ?_
        rw [show Nat.lor w0 (Nat.lor (Nat.lor (Nat.lor (bit N) (bit N)) (Nat.lor (bit (N + 1)) w1)) w) = Nat.lor (Nat.lor w0 (Nat.lor (Nat.lor (bit N) (bit N)) (Nat.lor (bit (N + 1)) w1))) w from (lor_assoc' _ _ _).symm]
        exact hq
      · simp (implicitDefEqProofs := false) (disch := omega) only [W2, opds, Nat.testBit, Nat.reduceAdd, Nat.reduceShiftRight, Nat.reduceAnd, Nat.reduceBNe, Nat.reduceMul, kkM1]
        exact fin (by rw [liveIn, decide_eq_false_iff_not]; exact fun h => hbk h.2)
end Go.Am.CS
namespace Go.Am.CS
set_option maxRecDepth 100000
open Go Go.Am
variable {E : Nat → Option AFn} {Y : Nat → List Value → FM → Nat → OR FM}
def Same (m : FM) (n : Nat) (m' : FM) (n' w : Nat) : Prop := n' = n ∧ ∀ b, m' b = m b ∧ Nat.testBit w b = false
theorem Same.rfl' (m : FM) (n : Nat) : Same m n m n 0 := ⟨rfl, fun b => ⟨rfl, Nat.zero_testBit _⟩⟩
theorem isort0 (hE : E 175 = some ac175) {m : FM} {n cf : Nat} {ccs : List Value} : Rt (callW PG E Y 175 [.slice none 0 0, .int .i64 0, .int .i64 0, .func (.func cf) #[] ccs.toArray] m n) fun r m' n' w => Same m n m' n' w := by
  refine void_spec (args := [.slice none 0 0, .int .i64 0, .int .i64 0, .func (.func cf) #[] ccs.toArray]) (R := fun m' n' w => Same m n m' n' w) hE rfl rfl (Same.rfl' m n) fun Q hQ => ?_
  simp only [ac175]
  simp (implicitDefEqProofs := false) (disch := omega) only [W2, opds, Nat.testBit, Nat.reduceAdd, Nat.reduceShiftRight, Nat.reduceAnd, Nat.reduceBNe, Nat.reduceMul]
  refine wr_kont (wr_loopN (L := ac175L1) (b := ac175L1b) rfl ?_)
  simp only [ac175L1b]
  simp (implicitDefEqProofs := false) (disch := omega) only [W2, opds, Nat.testBit, Nat.reduceAdd, Nat.reduceShiftRight, Nat.reduceAnd, Nat.reduceBNe, Nat.reduceMul]
  intro rr
  simp (implicitDefEqProofs := false) (disch := omega) only [W2, opds, Nat.testBit, Nat.reduceAdd, Nat.reduceShiftRight, Nat.reduceAnd, Nat.reduceBNe, Nat.reduceMul]
  exact hQ _ _ _ _ _ (.inl rfl) (Same.rfl' m n)
theorem pdq0 (hE : E 140 = some ac140) (h175 : E 175 = some ac175) {m : FM} {n cf : Nat} {ccs : List Value} (z : Int) : Rt (callW PG E Y 140 [.slice none 0 0, .int .i64 0, .int .i64 0, .int .i64 z, .func (.func cf) #[] ccs.toArray] m n) fun r m' n' w => Same m n m' n' w := by
  refine void_spec (args := [.slice none 0 0, .int .i64 0, .int .i64 0, .int .i64 z, .func (.func cf) #[] ccs.toArray]) (R := fun m' n' w => Same m n m' n' w) hE rfl rfl (Same.rfl' m n) fun Q hQ => ?_
  simp only [ac140]
  simp (implicitDefEqProofs := false) (disch := omega) only [W2, opds, Nat.testBit, Nat.reduceAdd, Nat.reduceShiftRight, Nat.reduceAnd, Nat.reduceBNe, Nat.reduceMul]
  refine wr_kont (wr_loopN (L := ac140L0) (b := ac140L0b) rfl ?_)
  simp only [ac140L0b]
  simp (implicitDefEqProofs := false) (disch := omega) only [W2, opds, Nat.testBit, Nat.reduceAdd, Nat.reduceShiftRight, Nat.reduceAnd, Nat.reduceBNe, Nat.reduceMul, Int.sub_self]
  refine use_rt (isort0 h175) fun r1 m1 n1 r2 w1 hh => ?_
  simp (implicitDefEqProofs := false) (disch := omega) only [W2, opds, Nat.testBit, Nat.reduceAdd, Nat.reduceShiftRight, Nat.reduceAnd, Nat.reduceBNe, Nat.reduceMul]
  intro rr
  simp (implicitDefEqProofs := false) (disch := omega) only [W2, opds, Nat.testBit, Nat.reduceAdd, Nat.reduceShiftRight, Nat.reduceAnd, Nat.reduceBNe, Nat.reduceMul]
  exact hQ _ _ _ _ _ (.inr rfl) hh
theorem sort0 (hE : E 104 = some ac104) (h140 : E 140 = some ac140) (h141 : E 141 = some ac141) (h184 : E 184 = some ac184) (h175 : E 175 = some ac175) {m : FM} {n cf : Nat} {ccs : List Value} : Rt (callW PG E Y 104 [.slice none 0 0, .func (.func cf) #[] ccs.toArray] m n) fun r m' n' w => Same m n m' n' w := by
  refine void_spec (args := [.slice none 0 0, .func (.func cf) #[] ccs.toArray]) (R := fun m' n' w => Same m n m' n' w) hE rfl rfl (Same.rfl' m n) fun Q hQ => ?_
  obtain ⟨z, hz⟩ := len_spec (Y := Y) h141 h184 m n 0 (by omega)
  simp only [ac104]
  simp (implicitDefEqProofs := false) (disch := omega) only [W2, opds, Nat.testBit, Nat.reduceAdd, Nat.reduceShiftRight, Nat.reduceAnd, Nat.reduceBNe, Nat.reduceMul, show lenV false (.slice none 0 0) = some (.int .i64 ((0 : Nat) : Int)) from rfl, cvi_nat (x := 0) (by omega)]
  refine use_pure hz fun r1 => ?_
  simp (implicitDefEqProofs := false) (disch := omega) only [W2, opds, Nat.testBit, Nat.reduceAdd, Nat.reduceShiftRight, Nat.reduceAnd, Nat.reduceBNe, Nat.reduceMul]
  refine use_rt (pdq0 h140 h175 _) fun r1 m1 n1 r2 w1 hh => ?_
  simp (implicitDefEqProofs := false) (disch := omega) only [W2, opds, Nat.testBit, Nat.reduceAdd, Nat.reduceShiftRight, Nat.reduceAnd, Nat.reduceBNe, Nat.reduceMul]
  exact hQ _ _ _ _ _ (.inl rfl) hh
theorem dsort {T O : Nat} (F : Fn3 E Y T O) {i : Ids} {pb : Nat} {m : FM} {n : Nat} {xs : List (Int × Value)} {c : Nat} {es : List Ent} {bs : List Bnd} {t : Nat} (h : Drv i T O pb m n xs c es bs t) (hp : Pl T es bs) {n0 bd : Nat} (hn0 : i.K ≤ n0) (hpn : pb < n0) (kd : bd < n0 ∧ m bd = some (.cells [.pointer (some ⟨i.R, 0, none⟩)] 0 false true)) {v : Value} {l0 : List Nat} (hlen : l0.length ≤ 12) (hl : ∀ x ∈ l0, ∃ hx : x < es.length, ¬ es[x].ver = 0) (hS : SlZ 1 m n0 n v l0.length (intsV l0)) (h0n : ∀ m', (∀ b, b < n0 → m' b = m b) → Drv i T O pb m' n xs c es bs t) :
    Rt (callW PG E Y 104 [v, .func (.func 105) #[] #[.pointer (some ⟨bd, 0, none⟩)]] m n) fun r m' n' w => n' = n ∧ (∀ b, b < n0 → m' b = m b ∧ Nat.testBit w b = false) ∧ ∃ l, l.Perm l0 ∧ SlZ 1 m' n0 n v l0.length (intsV l) := by
  have g2 := F.G.ok.t2
  obtain ⟨kd1, kd2⟩ := kd
  have hn0n := h.dsk.cc.KN
  rcases hS with ⟨h1, h2, rfl⟩ | ⟨h1, h2, vb, rfl, h3, h4, h5⟩
  · have e : l0 = [] := List.length_eq_zero_iff.1 h1
    subst e
    exact (sort0 (ccs := [.pointer (some ⟨bd, 0, none⟩)]) F.e104 F.e140 F.e141 F.e184 F.e175).mono fun r m' n' w hh => ⟨hh.1, fun b _ => hh.2 b, [], List.Perm.refl _, .inl ⟨rfl, rfl, rfl⟩⟩
  · have h5 : m vb = some (.cells (intsV l0) 1 true true) := h5
    refine (sort_spec (cf := 105) (ccs := [.pointer (some ⟨bd, 0, none⟩)]) (vb := vb) F.e104 F.e140 F.e141 F.e184 F.e175 (fun M hM a b ha hb => ?_) ?_ h4 hlen h5).mono fun r m' n' w hh => ?_
    · obtain ⟨ha1, ha2⟩ := hl a ha
      obtain ⟨hb1, hb2⟩ := hl b hb
      have gb := (hp.ent b hb1 hb2).2.1
      have ga := (hp.ent a ha1 ha2).2.1
      have ra := Ent.a_rng es[a] (by omega)
      have rb := Ent.a_rng es[b] (by omega)
      exact ⟨_, by omega, by omega, c105_spec F (h0n M fun b hb => hM b (by omega)) ⟨by omega, by rw [hM _ (by omega)]; exact kd2⟩ ha1 hb1 (by omega) (by omega)⟩
    · simp [below1_ptr, blt_true (show bd < n by omega)]
    · obtain ⟨q1, q2, l, q3, q4⟩ := hh
      refine ⟨q1, fun b hb => q2 b (by omega), l, q3, .inr ⟨h1, by rw [intsV_len, q3.length_eq]; omega, vb, rfl, h3, h4, q4⟩⟩
end Go.Am.CS
namespace Go.Am.CS
set_option maxRecDepth 100000
open Go Go.Am
variable {E : Nat → Option AFn} {Y : Nat → List Value → FM → Nat → OR FM}
def usedN (l : List Bnd) : Nat := (l.map Bnd.used).sum
theorem sum_set : ∀ (l : List Nat) (k x : Nat) (h : k < l.length), (l.set k x).sum + l[k] = l.sum + x
  | [], k, x, h => absurd h (Nat.not_lt_zero _)
  | y :: l, 0, x, h => by simp only [List.set_cons_zero, List.sum_cons, List.getElem_cons_zero]; omega
  | y :: l, k + 1, x, h => by
    have := sum_set l k x (by rw [List.length_cons] at h; omega)
    simp only [List.set_cons_succ, List.sum_cons, List.getElem_cons_succ]; omega
theorem usedN_app {S t q : Nat} {x : Ent} {bs : List Bnd} (hq : q < bs.length) : usedN (appB t q (unlB S x bs)) = usedN bs + 1 := by
  have hlen : (appB t q (unlB S x bs)).length = bs.length := by rw [appB_len, unlB_len]
  have e : (appB t q (unlB S x bs)).map Bnd.used = (bs.map Bnd.used).set q (bs[q].used + 1) := by
    apply List.ext_getElem
    · simp [hlen]
    · intro j h1 h2
      rw [List.length_map] at h1
      rw [List.getElem_map, List.getElem_set, (app_at hq j (by omega) h1).1]
      by_cases hj : q = j
      · subst hj; rw [if_pos rfl, if_pos rfl]
      · rw [if_neg hj, if_neg (fun h => hj h.symm), List.getElem_map]; rfl
  have := sum_set (bs.map Bnd.used) q (bs[q].used + 1) (by rw [List.length_map]; exact hq)
  rw [List.getElem_map] at this
  unfold usedN
  rw [e]; omega
theorem usedN_reset {bs : List Bnd} {k : Nat} (hk : k < bs.length) (wr : Int) : usedN (bs.set k ⟨0, 0, 0, wr⟩) + bs[k].used = usedN bs := by
  have := sum_set (bs.map Bnd.used) k 0 (by rw [List.length_map]; exact hk)
  rw [List.getElem_map] at this
  unfold usedN
  rw [List.map_set]; exact this
theorem sum_full : ∀ (l : List Nat) (S : Nat), (∀ x ∈ l, S ≤ x) → l.length * S ≤ l.sum
  | [], S, _ => by simp
  | y :: l, S, h => by
    have := sum_full l S fun x hx => h x (List.mem_cons_of_mem _ hx)
    have := h y (List.mem_cons_self ..)
    rw [List.length_cons, List.sum_cons, Nat.add_mul]; omega
theorem room_of {T : Nat} {es : List Ent} {bs : List Bnd} (h : Pl T es bs) (hu : usedN bs < 5 * (T * 2)) : ∃ (q : Nat) (hq : q < bs.length), bs[q].used < T * 2 := by
  apply Classical.byContradiction
  intro hn
  have := sum_full (bs.map Bnd.used) (T * 2) fun x hx => by
    obtain ⟨b, hb, rfl⟩ := List.mem_map.1 hx
    obtain ⟨q, hq, rfl⟩ := List.getElem_of_mem hb
    apply Classical.byContradiction
    intro hlt
    exact hn ⟨q, hq, by omega⟩
  rw [List.length_map, h.bl] at this
  unfold usedN at hu
  omega
def MvI (i : Ids) (T O k : Nat) (es0 : List Ent) (bs0 : List Bnd) (t0 c0 : Nat) (l : List Nat) (j pb : Nat) (M : FM) (N : Nat) : Prop :=
  ∃ xs es bs, Drv i T O pb M N xs (c0 + j) es bs (t0 + j) ∧ Pl T es bs ∧ Con i pb M N xs es ∧ usedN bs = usedN bs0 + j ∧ es.length = es0.length ∧ es.map Ent.ver = es0.map Ent.ver ∧ (∃ hk : k < bs.length, bs[k].used = T * 2) ∧ (∀ b ∈ l.drop j, ∃ hb : b < es.length, ¬ es[b].ver = 0 ∧ (es[b].adr - 4) / (T * 2) = k) ∧ (∀ b, inBand (T * 2) k es b = true → b ∈ l.drop j)
theorem mv_next {i : Ids} {T O k : Nat} {es0 : List Ent} {bs0 : List Bnd} {t0 c0 : Nat} {l : List Nat} {j pb pb' : Nat} {M M' : FM} {N N' w : Nat} {xs : List (Int × Value)} {es : List Ent} {bs : List Bnd} (hT : 1 ≤ T) (hj : j < l.length) (hnd : l.Nodup) (hp : Pl T es bs) (hc : Con i pb M N xs es) (hu : usedN bs = usedN bs0 + j) (hel : es.length = es0.length) (hver : es.map Ent.ver = es0.map Ent.ver) (hk : k < bs.length) (hku : bs[k].used = T * 2) (hrem : ∀ b ∈ l.drop j, ∃ hb : b < es.length, ¬ es[b].ver = 0 ∧ (es[b].adr - 4) / (T * 2) = k) (hall : ∀ b, inBand (T * 2) k es b = true → b ∈ l.drop j) (hxl : xs.length = 4 + 5 * (T * 2)) (hlj : l[j] < es.length) {q : Nat} (hq : q < bs.length) (hqt : Takes (T * 2) bs q) {v' : Value} (hf : Fr i.P i.EN pb N M M' w) (hN : N ≤ N') (hpb : N ≤ pb') (hiK : i.EN < i.K) (ht : t0 + j + 1 < 2 ^ 64)
    (hD : Drv i T O pb' M' N' (writeX T O (4 + (q * (T * 2) + bs[q].used)) v' xs) (c0 + j + 1) (es.set l[j] ⟨es[l[j]].ver, 4 + (q * (T * 2) + bs[q].used)⟩) (appB (t0 + j + 1) q (unlB (T * 2) es[l[j]] bs)) (t0 + j + 1)) (hB : By i pb' M' N' v' 37 (n8s (encN l[j] es[l[j]].ver (dsOf l[j] es[l[j]].ver) (t0 + j + 1)))) : MvI i T O k es0 bs0 t0 c0 l (j + 1) pb' M' N' := by
  have hdrop : l.drop j = l[j] :: l.drop (j + 1) := List.drop_eq_getElem_cons hj
  have hnd' : l[j] ∉ l.drop (j + 1) := by
    have : (l.drop j).Nodup := hnd.sublist (List.drop_sublist _ _)
    rw [hdrop] at this
    exact (List.nodup_cons.1 this).1
  obtain ⟨_, hv0, hb0⟩ := hrem l[j] (by rw [hdrop]; exact List.mem_cons_self ..)
  obtain ⟨hv64, _⟩ := hc.ent _ hlj hv0
  have hqk : ¬ q = k := fun h => by subst h; have := hqt.2.1; omega
  obtain ⟨e1, e2⟩ := band_of (q := q) hqt.2.1
  refine ⟨_, _, _, hD, hp.app hT hqt hlj (by omega) hq, (hc.fr hf hiK hN (.inr hpb)).app hp hq hqt.2.1 hlj hxl ht hv64 hB, by rw [usedN_app hq, hu]; omega, by rw [List.length_set]; exact hel, ?_, ⟨by rw [appB_len, unlB_len]; exact hk, ?_⟩, fun b hb => ?_, fun b hb => ?_⟩
  · rw [← hver]
    apply List.ext_getElem
    · simp
    · intro a h1 h2
      rw [List.getElem_map, List.getElem_map, List.getElem_set]
      by_cases ha : l[j] = a
      · subst ha; rw [if_pos rfl]
      · rw [if_neg ha]
  · rw [(app_at hq k hk _).1, if_neg (fun h => hqk h.symm), hku]; rfl
  · obtain ⟨g1, g2, g3⟩ := hrem b (by rw [hdrop]; exact List.mem_cons_of_mem _ hb)
    refine ⟨by rw [List.length_set]; exact g1, ?_⟩
    have hne : l[j] ≠ b := fun h => hnd' (by rw [h]; exact hb)
    rw [List.getElem_set_ne hne]
    exact ⟨g2, g3⟩
  · by_cases hbl : b = l[j]
    · subst hbl
      rw [inBand, List.getElem?_set_self hlj] at hb
      simp only [liveIn, decide_eq_true_eq, e1] at hb
      exact absurd hb.2 hqk
    · have : inBand (T * 2) k es b = true := by
        rw [inBand, List.getElem?_set_ne (fun h => hbl h.symm)] at hb
        exact hb
      have := hall b this
      rw [hdrop] at this
      rcases List.mem_cons.1 this with h | h
      · exact absurd h hbl
      · exact h
end Go.Am.CS
namespace Go.Am.CS
set_option maxRecDepth 100000
open Go Go.Am
variable {E : Nat → Option AFn} {Y : Nat → List Value → FM → Nat → OR FM}
theorem move_L1 {T O : Nat} (F : Fn3 E Y T O) {i : Ids} {n N1 k bd bk pb0 t0 c0 : Nat} {M1 : FM} {es0 : List Ent} {bs0 : List Bnd} {l : List Nat} {v : Value} (hn : i.K ≤ n) (hpn : pb0 < n) (hbd : n ≤ bd ∧ bd < N1 ∧ M1 bd = some (.cells [.pointer (some ⟨i.R, 0, none⟩)] 0 false true)) (hbk : n ≤ bk ∧ bk < N1 ∧ M1 bk = some (.cells [.int .i64 (k : Int)] 0 false true)) (hS : SlZ 1 M1 n N1 v l.length (intsV l)) (hl : l.length ≤ 12) (hnd : l.Nodup) (hu : usedN bs0 + l.length ≤ 5 * (T * 2)) (ht : t0 + 12 < 2 ^ 62) (hc0 : c0 ≤ 90000) (x8 x9 x10 x11 x12 x13 x16 x17 : Value) {Q : AX → List Value → FM → Nat → Nat → Prop}
    (hQ : ∀ y0 y1 y4 pb M N w, N1 ≤ N → MvI i T O k es0 bs0 t0 c0 l l.length pb M N → (pb = pb0 ∨ N1 ≤ pb) → (∀ b, b < N1 → ¬ (i.P ≤ b ∧ b ≤ i.EN) → b ≠ pb0 → M b = M1 b ∧ Nat.testBit w b = false) → Q (.exit 2) [y0, y1, .int .i64 (l.length : Int), y4, .int .i64 (l.length : Int), x8, v, x9, x10, x11, x12, x13, .int .i64 0, .pointer (some ⟨bk, 0, none⟩), .pointer (some ⟨bd, 0, none⟩), x16, x17] M N w) :
    ∀ (d j : Nat), j + d = l.length → ∀ (y0 y1 y4 : Value) (pb : Nat) (M : FM) (N w0 : Nat), N1 ≤ N → MvI i T O k es0 bs0 t0 c0 l j pb M N → (pb = pb0 ∨ N1 ≤ pb) → (∀ b, b < N1 → ¬ (i.P ≤ b ∧ b ≤ i.EN) → b ≠ pb0 → M b = M1 b ∧ Nat.testBit w0 b = false) →
    Gv (execW PG E Y ac68L1 [y0, y1, .int .i64 (j : Int), .int .i64 (j : Int), y4, .int .i64 (l.length : Int), x8, v, x9, x10, x11, x12, x13, .int .i64 0, .pointer (some ⟨bk, 0, none⟩), .pointer (some ⟨bd, 0, none⟩), x16, x17] M N) fun X e m n w => Q X e m n (Nat.lor w0 w) := by
  obtain ⟨bd1, bd2, bd3⟩ := hbd
  obtain ⟨bk1, bk2, bk3⟩ := hbk
  have hvo := hS.one
  have hT := F.G.ok.t1
  have hT4 := F.G.ok.t2
  intro d
  induction d with
  | zero =>
    intro j hj y0 y1 y4 pb M N w0 hN hI hpb hf
    refine wr_loopN (L := ac68L1) (b := ac68L1b) rfl ?_
    simp only [ac68L1b]
    obtain rfl : j = l.length := by omega
    simp (implicitDefEqProofs := false) (disch := omega) only [W2, opds, Nat.testBit, Nat.reduceAdd, Nat.reduceShiftRight, Nat.reduceAnd, Nat.reduceBNe, Nat.reduceMul]
    exact hQ _ _ _ _ _ _ _ hN hI hpb hf
  | succ d ih =>
    intro j hj y0 y1 y4 pb M N w0 hN hI hpb hf
    have hI0 := hI
    obtain ⟨xs, es, bs, hD, hp, hc, hun, hel, hver, ⟨hk, hku⟩, hrem, hall⟩ := hI
    obtain ⟨h0, h1, h2, h3, h4, h5, h6, h7, h8, h9⟩ := hD.dsk.cc.ok
    have hjl : j < l.length := by omega
    rcases hS with ⟨q, _⟩ | ⟨_, hcl, vb, rfl, vb1, vb2, vb3⟩
    · omega
    have hix : idxV 1 j (.slice (some ⟨vb, 0, none⟩) l.length UNK) = some (.pointer (some ⟨vb, j, none⟩)) := by rw [idx_mk hjl, Nat.zero_add, Nat.mul_one]
    have hat := cget_ints (l := l) (j := j) hjl
    have m1 := (hf vb vb2 (by omega) (by omega)).1.trans vb3
    have m2 := (hf bd bd2 (by omega) (by omega)).1.trans bd3
    have m3 := (hf bk bk2 (by omega) (by omega)).1.trans bk3
    obtain ⟨hlj, hv0, hb0⟩ := hrem l[j] (by rw [List.drop_eq_getElem_cons hjl]; exact List.mem_cons_self ..)
    obtain ⟨hv64, v, ts, hxv, hts, hby⟩ := hc.ent _ hlj hv0
    have hxl := hD.dsk.cc.con.len
    have hal : es[l[j]].adr < xs.length := by
      have := (hp.ent _ hlj hv0).2.1
      omega
    have hx : xs[es[l[j]].adr] = (1, v) := by
      rw [List.getElem?_eq_getElem hal] at hxv
      injection hxv
    refine wr_loopN (L := ac68L1) (b := ac68L1b) rfl ?_
    simp only [ac68L1b]
    simp (implicitDefEqProofs := false) (disch := omega) only [W2, opds, Nat.testBit, Nat.reduceAdd, Nat.reduceShiftRight, Nat.reduceAnd, Nat.reduceBNe, Nat.reduceMul, hix, m1, hat, m2]
    refine use_rt (dfetch F hD hlj (by omega) hv64 hal hx hts (dsOf_lt _ _) hby) fun r1 M2 N2 r2 w2 hh => ?_
    obtain ⟨q0, q1, q2, q3, q4, rfl⟩ := hh
    simp only [entA]
    have m2' := (q2 bd (by omega) (by omega) (by omega)).trans m2
    have m3' := (q2 bk (by omega) (by omega) (by omega)).trans m3
    simp (implicitDefEqProofs := false) (disch := omega) only [W2, opds, Nat.testBit, Nat.reduceAdd, Nat.reduceShiftRight, Nat.reduceAnd, Nat.reduceBNe, Nat.reduceMul, extr_mk, m2', m3']
    generalize hM3 : (AMem.put M2 N2 _ : FM) = M3
    have l3 : ∀ b, b < N2 → M3 b = M2 b := fun b hb => by rw [← hM3, fput_ne _ _ _ _ (by omega)]
    have fr : ∀ b, b < N → b ≠ i.P → b ≠ i.D → M3 b = M b := fun b hb f1 f2 => by rw [l3 b (by omega), q2 b hb f1 f2]
    have hD3 : Drv i T O pb M3 (N2 + 1) xs (c0 + j) es bs (t0 + j) := hD.disk (w := 0) (by omega) (fun b hb hk _ => ⟨fr b hb (by omega) (by omega), Nat.zero_testBit _⟩) (.inl rfl) (q4.keep (by omega) l3)
    have hc3 : Con i pb M3 (N2 + 1) xs es := hc.fr (w := 0) (lo := i.P) (hi := i.D) (fun b hb hk _ => ⟨fr b hb (by omega) (by omega), Nat.zero_testBit _⟩) (by omega) (by omega) (.inl rfl)
    have hroom := room_of hp (by rw [hun]; omega)
    refine use_rt (dappend F hD3 (by omega) hp.ok (z := (k : Int)) (.inr ⟨k, hk, rfl, hku⟩) hroom hlj (hp.unl hT4 hlj) (ver := es[l[j]].ver) (d0 := (es[l[j]].ver - 1) % 256) (d1 := l[j] % 256) (d2 := 0) (d3 := 0) (d4 := 0) (d5 := 0) (d6 := 0) (d7 := 0) (by omega) (by omega)) fun r4 M4 N4 r5 w4 hh => ?_
    obtain ⟨z0, q, pb', v', hq, hqt, z1, z2, z3, rfl, hD4, hB4⟩ := hh
    have hI4 := mv_next (w := w4) hT hjl hnd hp hc3 hun hel hver hk hku hrem hall hxl hlj hq hqt z2 z1 z3 h9 (by omega) hD4 hB4
    simp (implicitDefEqProofs := false) (disch := omega) only [W2, opds, Nat.testBit, Nat.reduceAdd, Nat.reduceShiftRight, Nat.reduceAnd, Nat.reduceBNe, Nat.reduceMul]
    have hq1 := hD4.dsk.cc.pbN
    refine wr_end (ih (j + 1) (by omega) y0 y1 y4 pb' M4 N4 (Nat.lor w0 (Nat.lor (Nat.lor (Nat.lor w2 (bit N2)) (bit N2)) w4)) (by omega) hI4 (.inr (by omega)) (fun b hb hk' hne => ?_)) fun X e m n w hq => ?_
    · have hpe : b ≠ pb := by omega
      refine ⟨by rw [(z2 b (by omega) hk' hpe).1, fr b (by omega) (by omega) (by omega), (hf b hb hk' hne).1], ?_⟩
      simp only [lor_test, (hf b hb hk' hne).2, (q3 b (by omega) hk' hpe).2, bit_ne (show b ≠ N2 by omega), (z2 b (by omega) hk' hpe).2]; rfl
    · rw [show Nat.lor w0 (Nat.lor (Nat.lor (Nat.lor (Nat.lor w2 (bit N2)) (bit N2)) w4) w) = Nat.lor (Nat.lor w0 (Nat.lor (Nat.lor (Nat.lor w2 (bit N2)) (bit N2)) w4)) w from (lor_assoc' _ _ _).symm]
      exact hq
end Go.Am.CS
namespace Go.Am.CS
set_option maxRecDepth 100000
open Go Go.Am
variable {E : Nat → Option AFn} {Y : Nat → List Value → FM → Nat → OR FM}
theorem blocksOf_len (S k : Nat) (es : List Ent) : ∀ j, j ≤ es.length → (blocksOf S k es j).length = (es.take j).countP (liveIn S k)
  | 0, _ => rfl
  | j + 1, hj => by
    have ih := blocksOf_len S k es j (by omega)
    rw [blocksOf_succ S k es j (by omega), List.take_succ_eq_append_getElem (by omega), List.countP_append, ← ih]
    cases h : liveIn S k (es[j]'(by omega))
    · simp [h]
    · simp [h]
theorem blocks_live (S k : Nat) (es : List Ent) : (blocksOf S k es es.length).length = liveN S k es := by
  rw [blocksOf_len S k es _ (Nat.le_refl _), List.take_length]; rfl
theorem blocks_mem {S k : Nat} {es : List Ent} {x : Nat} : x ∈ blocksOf S k es es.length ↔ inBand S k es x = true := by
  rw [blocksOf, List.mem_filter, List.mem_range]
  refine ⟨fun h => h.2, fun h => ⟨?_, h⟩⟩
  rw [inBand] at h
  by_cases hx : x < es.length
  · exact hx
  · rw [List.getElem?_eq_none (by omega)] at h; cases h
theorem inBand_at {S k : Nat} {es : List Ent} {x : Nat} (h : inBand S k es x = true) : ∃ hx : x < es.length, ¬ es[x].ver = 0 ∧ (es[x].adr - 4) / S = k := by
  rw [inBand] at h
  by_cases hx : x < es.length
  · rw [List.getElem?_eq_getElem hx] at h
    exact ⟨hx, by simpa only [liveIn, decide_eq_true_eq] using h⟩
  · rw [List.getElem?_eq_none (by omega)] at h; cases h
theorem blocks_nodup (S k : Nat) (es : List Ent) (j : Nat) : (blocksOf S k es j).Nodup := (List.nodup_range (n := j)).sublist List.filter_sublist
theorem c107_spec {T O : Nat} (F : Fn3 E Y T O) {i : Ids} {pb : Nat} {m : FM} {n : Nat} {xs : List (Int × Value)} {c : Nat} {es : List Ent} {bs : List Bnd} {t : Nat} (h : Drv i T O pb m n xs c es bs t) (hc : c ≤ 100000) {bd : Nat} (kd : bd < n ∧ m bd = some (.cells [.pointer (some ⟨i.R, 0, none⟩)] 0 false true)) :
    Rt (callW PG E Y 107 [.pointer (some ⟨bd, 0, none⟩)] m n) fun r m' n' w => Nat.testBit w i.P = true ∧ (r = .int .i64 0 ∧ (n ≤ n' ∧ Fr i.P i.D pb n m m' w ∧ Dsk i T O pb m' n' xs 0)) := by
  obtain ⟨h0, h1, h2, h3, h4, h5, h6, h7, h8, h9⟩ := h.dsk.cc.ok
  have hKN := h.dsk.cc.KN
  obtain ⟨bv, hr, hb⟩ := h.r
  simp only [drC] at hr
  obtain ⟨kd1, kd2⟩ := kd
  refine wrt_spec (R := fun r m' n' w => r = .int .i64 0 ∧ (n ≤ n' ∧ Fr i.P i.D pb n m m' w ∧ Dsk i T O pb m' n' xs 0)) F.e107 rfl (show i.P < n by omega) fun Q hQ => ?_
  simp only [ac107]
  simp (implicitDefEqProofs := false) (disch := omega) only [W2, opds, Nat.testBit, Nat.reduceAdd, Nat.reduceShiftRight, Nat.reduceAnd, Nat.reduceBNe, Nat.reduceMul, kd2, hr]
  refine use_rtX (disk_flush F.toFn2 h.dsk hc) fun r1 m1 n1 r2 w1 hh => ?_
  obtain ⟨q0, q1, q2, rfl, q3⟩ := hh
  simp (implicitDefEqProofs := false) (disch := omega) only [W2, opds, Nat.testBit, Nat.reduceAdd, Nat.reduceShiftRight, Nat.reduceAnd, Nat.reduceBNe, Nat.reduceMul]
  exact hQ _ _ _ _ _ q0 ⟨rfl, q1, q2, q3⟩
theorem c108_spec {T O : Nat} (F : Fn3 E Y T O) {i : Ids} {pb : Nat} {m : FM} {n : Nat} {xs : List (Int × Value)} {c : Nat} {es : List Ent} {bs : List Bnd} {t : Nat} (h : Drv i T O pb m n xs c es bs t) (hc : c ≤ 100000) {bd bk a : Nat} (ha : a < 5) (kd : bd < n ∧ m bd = some (.cells [.pointer (some ⟨i.R, 0, none⟩)] 0 false true)) (kk : bk < n ∧ m bk = some (.cells [.int .i64 (a : Int)] 0 false true)) :
    Rt (callW PG E Y 108 [.pointer (some ⟨bd, 0, none⟩), .pointer (some ⟨bk, 0, none⟩)] m n) fun r m' n' w => Nat.testBit w i.P = true ∧ (r = .int .i64 0 ∧ (∃ pb', n ≤ n' ∧ Fr i.P i.D pb n m m' w ∧ n ≤ pb' ∧ Dsk i T O pb' m' n' (blankX xs (4 + a * T * 2) (T * 2)) (c + 1))) := by
  obtain ⟨h0, h1, h2, h3, h4, h5, h6, h7, h8, h9⟩ := h.dsk.cc.ok
  have hKN := h.dsk.cc.KN
  obtain ⟨bv, hr, hb⟩ := h.r
  simp only [drC] at hr
  obtain ⟨kd1, kd2⟩ := kd
  obtain ⟨kk1, kk2⟩ := kk
  refine wrt_spec (R := fun r m' n' w => r = .int .i64 0 ∧ (∃ pb', n ≤ n' ∧ Fr i.P i.D pb n m m' w ∧ n ≤ pb' ∧ Dsk i T O pb' m' n' (blankX xs (4 + a * T * 2) (T * 2)) (c + 1))) F.e108 rfl (show i.P < n by omega) fun Q hQ => ?_
  simp only [ac108]
  simp (implicitDefEqProofs := false) (disch := omega) only [W2, opds, Nat.testBit, Nat.reduceAdd, Nat.reduceShiftRight, Nat.reduceAnd, Nat.reduceBNe, Nat.reduceMul, kd2, hr, kk2]
  refine use_rtX (disk_erase F.toFn2 h.dsk hc ha) fun r1 m1 n1 r2 w1 hh => ?_
  obtain ⟨q0, pb', q1, q2, q3, rfl, q4⟩ := hh
  simp (implicitDefEqProofs := false) (disch := omega) only [W2, opds, Nat.testBit, Nat.reduceAdd, Nat.reduceShiftRight, Nat.reduceAnd, Nat.reduceBNe, Nat.reduceMul]
  exact hQ _ _ _ _ _ q0 ⟨rfl, pb', q1, q2, q3, q4⟩
theorem dclean {T O : Nat} (F : Fn3 E Y T O) {i : Ids} {pb : Nat} {m : FM} {n : Nat} {xs : List (Int × Value)} {c : Nat} {es : List Ent} {bs : List Bnd} {t : Nat} (h : Drv i T O pb m n xs c es bs t) (hp : Pl T es bs) (hc : Con i pb m n xs es) {k : Nat} (hk : k < bs.length) (hku : bs[k].used = T * 2) (hkl : bs[k].live < T * 2) (hu : usedN bs ≤ 4 * (T * 2)) (ht : t + 100 < 2 ^ 62) (hcc : c ≤ 80000) :
    Rt (callW PG E Y 68 [.pointer (some ⟨i.R, 0, none⟩), .int .i64 (k : Int)] m n) fun r m' n' w => Nat.testBit w i.P = true ∧ (∃ (mv pb' : Nat) (xs' : List (Int × Value)) (es' : List Ent) (bs' : List Bnd), n ≤ n' ∧ Fr i.P i.EN pb n m m' w ∧ n ≤ pb' ∧ r = .tuple #[.int .i64 (mv : Int), .int .i64 0] ∧ Drv i T O pb' m' n' xs' 1 es' bs' (t + mv) ∧ Pl T es' bs' ∧ Con i pb' m' n' xs' es' ∧ usedN bs' + T * 2 = usedN bs + mv ∧ mv < T * 2 ∧ es'.map Ent.ver = es.map Ent.ver ∧ 1 ≤ freeN bs') := by
  obtain ⟨h0, h1, h2, h3, h4, h5, h6, h7, h8, h9⟩ := h.dsk.cc.ok
  have hKN := h.dsk.cc.KN
  have hpN := h.dsk.cc.pbN
  have hel := h.el
  have hT := F.G.ok.t1
  have hT4 := F.G.ok.t2
  obtain ⟨bv, hr, hb⟩ := h.r
  simp only [drC] at hr
  have hbl : (blocksOf (T * 2) k es es.length).length = bs[k].live := by rw [blocks_live, hp.live k hk]
  have hbm : ∀ x ∈ blocksOf (T * 2) k es es.length, ∃ hx : x < es.length, ¬ es[x].ver = 0 := fun x hx => by
    obtain ⟨h1, h2, _⟩ := inBand_at (blocks_mem.1 hx)
    exact ⟨h1, h2⟩
  refine wrt_spec (R := fun r m' n' w => ∃ (mv pb' : Nat) (xs' : List (Int × Value)) (es' : List Ent) (bs' : List Bnd), n ≤ n' ∧ Fr i.P i.EN pb n m m' w ∧ n ≤ pb' ∧ r = .tuple #[.int .i64 (mv : Int), .int .i64 0] ∧ Drv i T O pb' m' n' xs' 1 es' bs' (t + mv) ∧ Pl T es' bs' ∧ Con i pb' m' n' xs' es' ∧ usedN bs' + T * 2 = usedN bs + mv ∧ mv < T * 2 ∧ es'.map Ent.ver = es.map Ent.ver ∧ 1 ≤ freeN bs') F.e68 rfl (show i.P < n by omega) fun Q hQ => ?_
  simp only [ac68]
  simp (implicitDefEqProofs := false) (disch := omega) only [W2, opds, Nat.testBit, Nat.reduceAdd, Nat.reduceShiftRight, Nat.reduceAnd, Nat.reduceBNe, Nat.reduceMul, hr]
  generalize hM1 : (AMem.put (AMem.put m n _) (n + 1) _ : FM) = M1
  have l1 : ∀ b, b < n → M1 b = m b := fun b hb => by rw [← hM1, fput_ne _ _ _ _ (by omega), fput_ne _ _ _ _ (by omega)]
  have p0 : M1 n = some (.cells [.pointer (some ⟨i.R, 0, none⟩)] 0 false true) := by rw [← hM1, fput_ne _ _ _ _ (by omega)]; exact fput_same _ _ _
  have p1 : M1 (n + 1) = some (.cells [.int .i64 (k : Int)] 0 false true) := by rw [← hM1]; exact fput_same _ _ _
  have hD1 := h.keep (show n ≤ n + 2 by omega) l1
  refine wr_kont ((blocks_L0 F hD1 hp (k := k) (bd := n) (bk := n + 1) ⟨by omega, p0⟩ ⟨by omega, p1⟩ _ _ _ _ _ (fun v x2 M N w hN hM hw hS => ?_) es.length 0 (Nat.zero_add _) _ _ M1 (n + 2) 0 (Nat.le_refl _) (fun _ _ => rfl) (fun j _ => frz_zero _) (.inl ⟨rfl, rfl, rfl⟩)).mono fun X e m' n' w hq => by simpa only [zero_lor'] using hq)
  intro rr
  have hvo := hS.one
  simp (implicitDefEqProofs := false) (disch := omega) only [W2, opds, Nat.testBit, Nat.reduceAdd, Nat.reduceShiftRight, Nat.reduceAnd, Nat.reduceBNe, Nat.reduceMul, s_func, hvo, hS.bel]
  have hD2 : ∀ m', (∀ b, b < n + 2 → m' b = M b) → Drv i T O pb m' N xs c es bs t := fun m' hm' => hD1.keep hN fun b hb => by rw [hm' b hb, hM b hb]
  refine use_rt (dsort F (hD2 M fun _ _ => rfl) hp (n0 := n + 2) (bd := n) (by omega) (by omega) ⟨by omega, by rw [hM n (by omega)]; exact p0⟩ (by omega) hbm hS hD2) fun r3 m3 n3 r4 w3 hh => ?_
  obtain ⟨rfl, hf3, l, hl, hS3⟩ := hh
  rw [← hl.length_eq] at hS3
  have hll : l.length = bs[k].live := by rw [hl.length_eq, hbl]
  have hS3' : SlZ 1 m3 n n3 v l.length (intsV l) := hS3.low (by omega)
  have hc3 : Con i pb m3 n3 xs es := hc.keep (by omega) (fun b hb => by rw [(hf3 b (by omega)).1, hM b (by omega), l1 b hb]) (by omega)
  have hI : MvI i T O k es bs t c l 0 pb m3 n3 := by
    refine ⟨xs, es, bs, hD2 m3 fun b hb => (hf3 b hb).1, hp, hc3, rfl, rfl, rfl, ⟨hk, hku⟩, fun b hb => ?_, fun b hb => ?_⟩
    · rw [List.drop_zero] at hb
      exact inBand_at (blocks_mem.1 (hl.subset hb))
    · rw [List.drop_zero]
      exact hl.symm.subset (blocks_mem.2 hb)
  simp (implicitDefEqProofs := false) (disch := omega) only [W2, opds, Nat.testBit, Nat.reduceAdd, Nat.reduceShiftRight, Nat.reduceAnd, Nat.reduceBNe, Nat.reduceMul, hS3.len, hS3.one]
  refine wr_kont ((move_L1 F (i := i) (n := n) (N1 := n3) (k := k) (bd := n) (bk := n + 1) (pb0 := pb) (t0 := t) (c0 := c) (es0 := es) (bs0 := bs) (l := l) (by omega) hpN ⟨by omega, by omega, by rw [(hf3 n (by omega)).1, hM n (by omega)]; exact p0⟩ ⟨by omega, by omega, by rw [(hf3 (n + 1) (by omega)).1, hM (n + 1) (by omega)]; exact p1⟩ hS3' (by omega) (hl.symm.nodup (blocks_nodup _ _ _ _)) (by omega) (by omega) (by omega) _ _ _ _ _ _ _ _ (fun y0 y1 y4 pb4 M4 N4 w4 hN4 hI4 hpb4 hf4 => ?_) l.length 0 (Nat.zero_add _) _ _ _ pb m3 n3 0 (Nat.le_refl _) hI (.inl rfl) (fun b _ _ _ => ⟨rfl, Nat.zero_testBit _⟩)).mono fun X e m' n' w hq => by simpa only [zero_lor'] using hq)
  intro rr2
  obtain ⟨xs4, es4, bs4, hD4, hp4, hc4, hu4, hel4, hver4, ⟨hk4, hku4⟩, hrem4, hall4⟩ := hI4
  have hpbn4 := hD4.dsk.cc.pbN
  have b0 : M4 n = some (.cells [.pointer (some ⟨i.R, 0, none⟩)] 0 false true) := by rw [(hf4 n (by omega) (by omega) (by omega)).1, (hf3 n (by omega)).1, hM n (by omega)]; exact p0
  have b1 : M4 (n + 1) = some (.cells [.int .i64 (k : Int)] 0 false true) := by rw [(hf4 (n + 1) (by omega) (by omega) (by omega)).1, (hf3 (n + 1) (by omega)).1, hM (n + 1) (by omega)]; exact p1
  simp (implicitDefEqProofs := false) (disch := omega) only [W2, opds, Nat.testBit, Nat.reduceAdd, Nat.reduceShiftRight, Nat.reduceAnd, Nat.reduceBNe, Nat.reduceMul, s_func]
  refine use_rt (retry_spec F.e21 (f := 107) (cs := [.pointer (some ⟨n, 0, none⟩)]) (show i.P < N4 by omega) (c107_spec F hD4 (by omega) ⟨by omega, b0⟩)) fun r5 M5 N5 r6 w5 hh => ?_
  obtain ⟨y0', rfl, y1', y2', y3'⟩ := hh
  have hD5 := hD4.disk y1' y2' (.inl rfl) y3'
  have hc5 := hc4.fr y2' (by omega) y1' (.inl rfl)
  have e0 := (y2' n (by omega) (by omega) (by omega)).1.trans b0
  have e1 := (y2' (n + 1) (by omega) (by omega) (by omega)).1.trans b1
  simp (implicitDefEqProofs := false) (disch := omega) only [W2, opds, Nat.testBit, Nat.reduceAdd, Nat.reduceShiftRight, Nat.reduceAnd, Nat.reduceBNe, Nat.reduceMul, s_func]
  refine use_rt (retry_spec F.e21 (f := 108) (cs := [.pointer (some ⟨n, 0, none⟩), .pointer (some ⟨n + 1, 0, none⟩)]) (show i.P < N5 by omega) (c108_spec F hD5 (by omega) (a := k) (by have := hp.bl; omega) ⟨by omega, e0⟩ ⟨by omega, e1⟩)) fun r7 M6 N6 r8 w6 hh => ?_
  obtain ⟨z0, rfl, pb6, z1, z2, z3, z4⟩ := hh
  have hD6 := hD5.disk z1 z2 (.inr z3) z4
  have hl4 : liveN (T * 2) k es4 = 0 := List.countP_eq_zero.2 fun x hx hlx => by
    obtain ⟨b, hb, rfl⟩ := List.getElem_of_mem hx
    have : inBand (T * 2) k es4 b = true := by rw [inBand, List.getElem?_eq_getElem hb]; exact hlx
    have := hall4 b this
    rw [List.drop_length] at this
    cases this
  have hc6 := (hc5.erase hp4 hl4).fr z2 (by omega) z1 (.inr z3)
  have f0 := (z2 n (by omega) (by omega) (by omega)).1.trans e0
  have f1 := (z2 (n + 1) (by omega) (by omega) (by omega)).1.trans e1
  obtain ⟨bv6, hr6, hb6⟩ := hD6.r
  simp only [drC] at hr6
  obtain ⟨pp1, pp2, pp3, pp4⟩ := hb6.p
  simp (implicitDefEqProofs := false) (disch := omega) only [W2, opds, Nat.testBit, Nat.reduceAdd, Nat.reduceShiftRight, Nat.reduceAnd, Nat.reduceBNe, Nat.reduceMul, f0, hr6, f1, pp2, pp3]
  refine use_rtX (breset_spec F.e109 F.e143 F.e145 F.e144 hb6 hk4) fun r9 M7 N7 r10 w7 hh => ?_
  obtain ⟨g1, g2, g3, bv7, wr, rfl, hS7⟩ := hh
  have hvo7 := hS7.one
  obtain ⟨lw1, lw2⟩ := land_frz (g3 N6 (Nat.le_refl _)) (show i.R < N6 by omega)
  obtain ⟨lw3, lw4⟩ := land_frz (g3 N6 (Nat.le_refl _)) (show n < N6 by omega)
  have hr7 := (g2 i.R (by omega)).trans hr6
  simp (implicitDefEqProofs := false) (disch := omega) only [W2, opds, Nat.testBit, Nat.reduceAdd, Nat.reduceShiftRight, Nat.reduceAnd, Nat.reduceBNe, Nat.reduceMul, extr_mk, slz_bt hS7, hvo7, cells_of_one hvo7, hS7.bel, hS7.belF, hr7, lw1, lw2, lw3, lw4]
  generalize hM8 : (AMem.put M7 i.R _ : FM) = M8
  have l8 : ∀ b, b ≠ i.R → M8 b = M7 b := fun b hb => by rw [← hM8, fput_ne _ _ _ _ hb]
  have hR8 : M8 i.R = some (.cells (drC i es4.length bv7 (t + l.length)) 0 false true) := by rw [← hM8]; exact fput_same _ _ _
  have hl9 : (bs4.set k ⟨0, 0, 0, wr⟩).length = 5 := by rw [List.length_set]; exact hp4.bl
  have hus := usedN_reset hk4 wr
  refine hQ _ _ _ _ _ (by simp only [lor_test, z0]; simp) ⟨l.length, pb6, blankX xs4 (4 + k * T * 2) (T * 2), es4, bs4.set k ⟨0, 0, 0, wr⟩, by omega, fun b hb hkk hne => ⟨?_, ?_⟩, by omega, rfl, ⟨?_, ⟨bv7, hR8, ?_⟩, ?_, hl9, hD4.el⟩, hp4.reset hk4 hl4 wr, ?_, by omega, by omega, hver4, ?_⟩
  · rw [l8 b (by omega), g2 b (by omega), (z2 b (by omega) (by omega) (by omega)).1, (y2' b (by omega) (by omega) (by omega)).1, (hf4 b (by omega) hkk hne).1, (hf3 b (by omega)).1, hM b (by omega), l1 b hb]
  · simp only [lor_test, bit_ne (show b ≠ n by omega), bit_ne (show b ≠ n + 1 by omega), mod_bit (hw (n + 2) (Nat.le_refl _)) b (by omega), (hf3 b (by omega)).2, (hf4 b (by omega) hkk hne).2, (y2' b (by omega) (by omega) (by omega)).2, (z2 b (by omega) (by omega) (by omega)).2, mod_bit (g3 N6 (Nat.le_refl _)) b (by omega), bit_ne (show b ≠ i.R by omega)]; rfl
  · exact hD6.dsk.keepX (by omega) fun b hb k1 k2 => by rw [l8 b k1, g2 b hb]
  · exact slz_bs' hS7 (fun b k1 k2 => l8 b (by omega)) (Nat.le_refl _) hl9 (by omega) (.inl z4.cc.pbN)
  · rw [l8 _ (by omega), g2 _ (by omega)]; exact hD6.en
  · exact hc6.fr (w := 0) (lo := i.P) (hi := i.EN) (fun b hb hkk _ => ⟨by rw [l8 b (by omega), g2 b hb], Nat.zero_testBit _⟩) (by omega) (by omega) (.inl rfl)
  · exact List.countP_pos_iff.2 ⟨_, List.mem_set hk4 _, rfl⟩
end Go.Am.CS
