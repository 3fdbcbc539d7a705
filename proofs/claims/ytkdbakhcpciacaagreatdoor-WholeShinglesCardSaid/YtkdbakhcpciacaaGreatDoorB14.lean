/- The machine and its runs, part 14: AxUd AxArgs AxWorld AxTrod AxTrod2 AxVals AxAa AxAb AxAc AxAd AxAe AxAf AxAg AxTt AxPost. -/
import Derived.OpenShut
import Derived.Test.YtkdbakhcpciacaaGreatDoorWB2
import Derived.Test.YtkdbakhcpciacaaGreatDoorRows
import Derived.Lib.LaidU8
import Derived.Lib.SmallJoins
import Derived.Lib.AppendIntMem
import Derived.HandedShaped
import Derived.SizedLaws
import Derived.LaidLaws
import Derived.Stop.Joined
import Derived.Deep.DeepHandedRow
import Derived.ProofKit
import Derived.Test.YtkdbakhcpciacaaGreatDoorB13
set_option linter.unusedVariables false
set_option linter.unusedSimpArgs false
set_option linter.unusedSectionVars false
namespace Go.Am.CS
set_option maxRecDepth 100000
open Go Go.Am
variable {E : Nat → Option AFn} {Y : Nat → List Value → FM → Nat → OR FM}
theorem rvalid_spec (hE : E 5 = some ac5) (m : FM) (n : Nat) {T O : Nat} (g : GOk T O) : Pure (callW PG E Y 5 [gV T O] m n) m n (.bool true) := by
  have h1 := g.t1
  have h2 := g.t2
  have h3 := g.o
  refine pure_spec hE rfl rfl ?_
  simp only [ac5, gV]
  simp (implicitDefEqProofs := false) (disch := omega) only [W2, opds, Nat.testBit, Nat.reduceAdd, Nat.reduceShiftRight, Nat.reduceAnd, Nat.reduceBNe, Nat.reduceMul]
theorem rsize_spec (hE : E 8 = some ac8) (h5 : E 5 = some ac5) (m : FM) (n : Nat) {T O : Nat} (g : GOk T O) : Pure (callW PG E Y 8 [gV T O] m n) m n (.int .i64 ((T * 2 : Nat) : Int)) := by
  have h1 := g.t1
  have h2 := g.t2
  have hv := fun m n => rvalid_spec (Y := Y) h5 m n g
  simp only [gV] at hv
  refine pure_spec hE rfl rfl ?_
  simp only [ac8, gV]
  simp (implicitDefEqProofs := false) (disch := omega) only [W2, opds, Nat.testBit, Nat.reduceAdd, Nat.reduceShiftRight, Nat.reduceAnd, Nat.reduceBNe, Nat.reduceMul]
  refine use_pure (hv _ _) fun r1 => ?_
  simp (implicitDefEqProofs := false) (disch := omega) only [W2, opds, Nat.testBit, Nat.reduceAdd, Nat.reduceShiftRight, Nat.reduceAnd, Nat.reduceBNe, Nat.reduceMul]
theorem law_spec (hE : E 3 = some ac3) {T O : Nat} (F : Fn3 E Y T O) (FN : FnN E) (h4 : ∀ m n, Pure (callW PG E Y 4 [] m n) m n (.bool true)) (h5 : E 5 = some ac5) (h8 : E 8 = some ac8) (h9 : E 9 = some ac9) (h11 : E 11 = some ac11) (h12 : E 12 = some ac12) (h20 : E 20 = some ac20) (h22 : E 22 = some ac22) (h24 : E 24 = some ac24) {m : FM} {n : Nat} {v : Value} {bs : List Nat} (hv : (bs = [] ∧ lenV false v = some (.int .i64 0) ∧ Am.one v = true) ∨ Sh 1 m n v bs.length (n8s bs)) (hb : ∀ x ∈ bs, x < 256) {ov tr : Nat} (hO : ov % 4 = O) (hT : tr % 4 + 1 = T) (ho : ov < 256) (ht : tr < 256) (hl : bs.length ≤ 120) : Pure (callW PG E Y 3 [v, .int .u8 (ov : Int), .int .u8 (tr : Int)] m n) m n (.bool true) := by
  have hlen : lenV false v = some (.int .i64 (bs.length : Int)) := by
    rcases hv with ⟨rfl, h, _⟩ | h
    · exact h
    · exact h.len
  have hvo : Am.one v = true := by
    rcases hv with ⟨rfl, _, h⟩ | h
    · exact h
    · exact h.one
  refine pure_spec hE rfl rfl ?_
  simp only [ac3]
  simp (implicitDefEqProofs := false) (disch := omega) only [W2, opds, Nat.testBit, Nat.reduceAdd, Nat.reduceShiftRight, Nat.reduceAnd, Nat.reduceBNe, Nat.reduceMul]
  refine use_pure (h4 _ _) fun r1 => ?_
  simp (implicitDefEqProofs := false) (disch := omega) only [W2, opds, Nat.testBit, Nat.reduceAdd, Nat.reduceShiftRight, Nat.reduceAnd, Nat.reduceBNe, Nat.reduceMul, hlen, hvo]
  simp (implicitDefEqProofs := false) (disch := omega) only [W2, opds, Nat.testBit, Nat.reduceAdd, Nat.reduceShiftRight, Nat.reduceAnd, Nat.reduceBNe, Nat.reduceMul, rem_u8, c8i (tr % 4) (by omega), c8i (ov % 4) (by omega)]
  rw [hO, show ((1 + (tr % 4)) : Nat) = T by omega]
  have g : GOk T O := F.G.ok
  have g1 := g.t1
  have g2 := g.t2
  have hg5 := fun m n => rvalid_spec (Y := Y) h5 m n g
  have hg8 := fun m n => rsize_spec (Y := Y) h8 h5 m n g
  have hd6 := fun (m : FM) (n P : Nat) (hP : P < n) (hm : m P = some (.cells (pwC 0) 0 false true)) => dnew_spec (T := T) (O := O) F.up FN F.G hP hm
  simp only [gV] at hg5 hg8 hd6
  refine use_pure (hg5 _ _) fun r2 => ?_
  generalize hM1 : (AMem.put m n _ : FM) = M1
  have l1 : ∀ b, b < n → M1 b = m b := fun b hb => by rw [← hM1, fput_ne _ _ _ _ (by omega)]
  have l0 : M1 n = some (.cells [.int .i64 4, .int .i64 5, .int .i64 (T : Int), .int .i64 2, .int .i64 (O : Int)] 0 false true) := by rw [← hM1]; exact fput_same _ _ _
  simp (implicitDefEqProofs := false) (disch := omega) only [W2, opds, Nat.testBit, Nat.reduceAdd, Nat.reduceShiftRight, Nat.reduceAnd, Nat.reduceBNe, Nat.reduceMul, l0]
  refine use_rtXU F.up (power_spec FN.e7 M1 (n + 1)) fun r3 m2 n2 r4 w2 hh hu2 => ?_
  obtain ⟨q1, q2, q3, rfl, q4, q5⟩ := hh
  obtain ⟨k1, k2⟩ := land_frz (q3 (n + 1) (Nat.le_refl _)) (show n < n + 1 by omega)
  simp (implicitDefEqProofs := false) (disch := omega) only [W2, opds, Nat.testBit, Nat.reduceAdd, Nat.reduceShiftRight, Nat.reduceAnd, Nat.reduceBNe, Nat.reduceMul, k1, k2]
  refine use_rtX (hd6 m2 n2 (n + 1) q4 q5) fun r5 m3 n3 r6 w3 hh => ?_
  obtain ⟨z1, z2, z3, sd, md, sc, mc, C, D, rfl, hC, hCD, hDn, hDm⟩ := hh
  obtain ⟨k3, k4⟩ := land_frz (z3 n2 (Nat.le_refl _)) (show n < n2 by omega)
  have l0' := (z2 n (by omega)).trans ((q2 n (by omega)).trans l0)
  simp (implicitDefEqProofs := false) (disch := omega) only [W2, opds, Nat.testBit, Nat.reduceAdd, Nat.reduceShiftRight, Nat.reduceAnd, Nat.reduceBNe, Nat.reduceMul, extr_mk, k3, k4, l0', show ∀ k a b, belowV k (.tuple #[.pointer (some ⟨a, 0, none⟩), .int .i64 b]) = (Nat.blt a k && (true && true)) from fun _ _ _ => rfl]
  refine use_pure (hg8 _ _) fun r7 => ?_
  simp (implicitDefEqProofs := false) (disch := omega) only [W2, opds, Nat.testBit, Nat.reduceAdd, Nat.reduceShiftRight, Nat.reduceAnd, Nat.reduceBNe, Nat.reduceMul]
  rw [show (2 : Int) * ((T * 2 : Nat) : Int) = ((4 * T : Nat) : Int) by omega]
  refine use_rt (new9 F h9 h20 h22 h24 (P := n + 1) (show n + 1 < n2 by omega) ((z2 (n + 1) q4).trans q5) hC hCD hDn hDm) fun r8 m4 n4 r9 w4 hh => ?_
  obtain ⟨y0, i, pb4, xs4, hiP, hiD, y1, y2, rfl, hD4, y3⟩ := hh
  obtain ⟨i0, i1, i2, i3, i4, i5, i6, i7, i8, i9⟩ := hD4.dsk.cc.ok
  have hKN := hD4.dsk.cc.KN
  have hpk4 := hD4.dsk.cc.pbk
  have l0'' := (y3 n (by omega) (by omega)).1.trans l0'
  simp (implicitDefEqProofs := false) (disch := omega) only [W2, opds, Nat.testBit, Nat.reduceAdd, Nat.reduceShiftRight, Nat.reduceAnd, Nat.reduceBNe, Nat.reduceMul, extr_mk]
  have hR0 : RnI i T O 0 pb4 m4 n4 := ⟨xs4, hD4, fun a ha => absurd ha (Nat.not_lt_zero _)⟩
  rw [← hiD]
  refine wr_kont ((rand_L0 F (i := i) (N1 := n4) (pb0 := pb4) (M1 := m4) _ _ _ _ _ _ _ _ _ _ _ _ _ (fun M5 N5 w5 pb5 y0 hN5 hR5 hpb5 hf5 => ?_) 4 0 (Nat.zero_add _) _ pb4 m4 n4 0 (Nat.le_refl _) hR0 (.inl rfl) (fun b _ _ _ => ⟨rfl, Nat.zero_testBit _⟩)).mono fun X e m' n' w hq => by simpa only [zero_lor'] using hq)
  intro rr5
  simp (implicitDefEqProofs := false) (disch := omega) only [W2, opds, Nat.testBit, Nat.reduceAdd, Nat.reduceShiftRight, Nat.reduceAnd, Nat.reduceBNe, Nat.reduceMul, hlen, hvo]
  generalize hM6 : (AMem.put M5 N5 _ : FM) = M6
  have l6 : ∀ b, b < N5 → M6 b = M5 b := fun b hb => by rw [← hM6, fput_ne _ _ _ _ (by omega)]
  have hk6 : M6 N5 = some (.cells (intsV (List.replicate (4 * T) 0)) 1 false true) := by rw [← hM6, intsV, List.map_replicate]; exact fput_same _ _ _
  have hI6 : WrI i T O N5 0 pb5 M6 (N5 + 1) := ⟨List.replicate (4 * T) 0, List.length_replicate, fun x hx => by rw [List.eq_of_mem_replicate hx]; omega, (hR5.dri g1).keep (by omega) l6, hk6⟩
  have hp5 := hI6
  obtain ⟨_, _, _, hd5, _⟩ := hp5
  obtain ⟨_, hKN5, hpN5, hpk5⟩ := hd5.ids
  have hpb5N : pb5 < N5 := by
    obtain ⟨xs5, hD5, _⟩ := hR5
    exact hD5.dsk.cc.pbN
  have hvv : ∃ ab ao ac acs aop awr, 0 < bs.length → v = .slice (some ⟨ab, ao, none⟩) bs.length ac ∧ ab < i.P ∧ ab < N5 + 1 ∧ M6 ab = some (.cells acs 1 aop awr) ∧ cellsAt acs ao (bs.length * 1) = some (n8s bs) := by
    rcases hv with ⟨rfl, _⟩ | ⟨b, o, c, xs, opn, wr, e1, e2, e3, e4, e5⟩
    · exact ⟨0, 0, 0, [], false, false, fun h => absurd h (Nat.lt_irrefl _)⟩
    · refine ⟨b, o, c, xs, opn, wr, fun _ => ⟨e1, by omega, by omega, ?_, e4⟩⟩
      rw [l6 b (by omega), (hf5 b (by omega) (by omega) (by omega)).1, (y3 b (by omega) (by omega)).1, z2 b (by omega), q2 b (by omega), l1 b e2]; exact e3
  obtain ⟨ab, ao, ac, acs, aop, awr, hvv⟩ := hvv
  refine wr_kont ((write_L1 F h11 (i := i) (N1 := N5 + 1) (pb0 := pb5) (lb := N5) (M1 := M6) (bs := bs) (by omega) (by omega) (by omega) hb hl hvv hvo hpk5 _ _ _ _ _ _ _ _ _ _ _ _ (fun M7 N7 w7 pb7 y7 y7' hN7 hI7 hpb7 hf7 => ?_) bs.length 0 (Nat.zero_add _) _ _ pb5 M6 (N5 + 1) 0 (Nat.le_refl _) hI6 (.inl rfl) (fun b _ _ _ _ => ⟨rfl, Nat.zero_testBit _⟩)).mono fun X e m' n' w hq => by simpa only [zero_lor'] using hq)
  intro rr7
  obtain ⟨vs, hvl, hvj, hD7, hlm7⟩ := hI7
  have hpN7 := hD7.ids.2.2.1
  simp (implicitDefEqProofs := false) (disch := omega) only [W2, opds, Nat.testBit, Nat.reduceAdd, Nat.reduceShiftRight, Nat.reduceAnd, Nat.reduceBNe, Nat.reduceMul]
  refine wr_kont ((read_L2 F h12 (i := i) (N1 := N7) (pb := pb7) (lb := N5) (M1 := M7) (vs := vs) (by omega) (by omega) (by omega) hvl (fun x hx => by have := hvj x hx; omega) hlm7 _ _ _ _ _ _ _ _ _ _ _ _ _ _ _ _ _ _ (fun M8 N8 w8 y8 y8' hN8 hD8 hf8 => ?_) (4 * T) 0 (Nat.zero_add _) _ _ M7 N7 0 (Nat.le_refl _) hD7 (fun b _ _ _ => ⟨rfl, Nat.zero_testBit _⟩)).mono fun X e m' n' w hq => by simpa only [zero_lor'] using hq)
  intro rr8
  simp (implicitDefEqProofs := false) (disch := omega) only [W2, opds, Nat.testBit, Nat.reduceAdd, Nat.reduceShiftRight, Nat.reduceAnd, Nat.reduceBNe, Nat.reduceMul]
  have hpN8 := hD8.ids.2.2.1
  refine wr_kont ((rread_L3 F (i := i) (N1 := N8) (pb := pb7) (M1 := M8) (vs := vs) (tb := 400 * bs.length) _ _ _ _ _ _ _ _ _ _ _ _ _ _ _ _ _ _ _ _ _ _ (fun M9 N9 w9 y9 y9' hN9 hf9 => ?_) 4 0 (Nat.zero_add _) _ _ M8 N8 0 (Nat.le_refl _) hD8 (fun b _ _ _ => ⟨rfl, Nat.zero_testBit _⟩)).mono fun X e m' n' w hq => by simpa only [zero_lor'] using hq)
  intro rr9
  simp (implicitDefEqProofs := false) (disch := omega) only [W2, opds, Nat.testBit, Nat.reduceAdd, Nat.reduceShiftRight, Nat.reduceAnd, Nat.reduceBNe, Nat.reduceMul]
  exact ⟨⟨⟨⟨⟨⟨q3 n (by omega), z3 n (by omega)⟩, bit_mod fun b hb => (y3 b (by omega) (by omega)).2⟩, bit_mod fun b hb => (hf5 b (by omega) (by omega) (by omega)).2⟩, bit_mod fun b hb => (hf7 b (by omega) (by omega) (by omega) (by omega)).2⟩, bit_mod fun b hb => (hf8 b (by omega) (by omega) (by omega)).2⟩, bit_mod fun b hb => (hf9 b (by omega) (by omega) (by omega)).2⟩
theorem law_long (hE : E 3 = some ac3) (h4 : ∀ m n, Pure (callW PG E Y 4 [] m n) m n (.bool true)) (m : FM) (n : Nat) {v : Value} {len : Nat} (hlen : lenV false v = some (.int .i64 (len : Int))) (hvo : Am.one v = true) (hl : 120 < len) (ov tr : Int) :
    Pure (callW PG E Y 3 [v, .int .u8 ov, .int .u8 tr] m n) m n (.bool true) := by
  refine pure_spec hE rfl rfl ?_
  simp only [ac3]
  simp (implicitDefEqProofs := false) (disch := omega) only [W2, opds, Nat.testBit, Nat.reduceAdd, Nat.reduceShiftRight, Nat.reduceAnd, Nat.reduceBNe, Nat.reduceMul]
  refine use_pure (h4 _ _) fun r1 => ?_
  simp (implicitDefEqProofs := false) (disch := omega) only [W2, opds, Nat.testBit, Nat.reduceAdd, Nat.reduceShiftRight, Nat.reduceAnd, Nat.reduceBNe, Nat.reduceMul, hlen, hvo]
end Go.Am.CS
namespace Go.Am
open Go Go.Am.V Go.RowKit
theorem Env.topW {P : Program} {tab : List (Nat × AFn)} {Y : Nat → List Value → FM → Nat → OR FM} (h : Env P tab Y) {f : Nat} {args : List Value} {m0 m : FM} {n0 n r wm : Nat} (hrun : callW P (look tab) Y f args m0 n0 = .ok (.bool true) m n r wm)
    {ρ : Ren} {w : World} {args' : Array Value} (ha : LRel ρ args args'.toList) (hm : MRel ρ m0 w w.heap.size) (hf : Free ρ n0) :
    Calls P f args' w fun e w' => e = .returned (.bool true) ∧ Below w.heap.size w w' := by
  obtain ⟨k, hk⟩ := call_rch f args m0 n0 _ _ _ _ _ hrun
  obtain ⟨_, hc⟩ := h.calls k f args m0 n0 (.bool true) m n r wm (hk k (Nat.le_refl _)) ρ m0 w w.heap.size (Nat.lor r wm) args' ha (Sub.refl _) (fun b hb _ => rfl) hm hf
  refine hc.mono fun e w' hh => ?_
  obtain ⟨ρ', v', rfl, hv, hp⟩ := hh
  rw [hv.flat_eq rfl]
  exact ⟨rfl, hp.below⟩
theorem cells_row {w : World} {a : Addr} {n : Nat} {f : Nat → Value} (h0 : 0 < n) (h : ∀ i, i < n → w.cell? (a.add i) = some (f i)) :
    ∃ (blk off : Nat) (cc : Array Value) (e : TypeId) (fz : Nat × Nat), a = ⟨blk, off, none⟩ ∧ w.heap[blk]? = some (.cells cc e fz) ∧ off + n ≤ cc.size ∧ ∀ i, i < n → cc[off + i]? = some (f i) := by
  obtain ⟨blk, off, spot⟩ := a
  have ha : ∀ i, (Addr.add ⟨blk, off, spot⟩ i).block = blk ∧ (Addr.add ⟨blk, off, spot⟩ i).off = off + i := fun i => by
    unfold Addr.add
    by_cases hi : i = 0
    · rw [if_pos hi, hi]; exact ⟨rfl, rfl⟩
    · rw [if_neg hi]; exact ⟨rfl, rfl⟩
  have hc := h 0 h0
  have hadd : Addr.add ⟨blk, off, spot⟩ 0 = ⟨blk, off, spot⟩ := by unfold Addr.add; rw [if_pos rfl]
  rw [hadd] at hc
  unfold World.cell? at hc
  split at hc
  · rename_i cc e fz hh
    replace hh : w.heap[blk]? = some (.cells cc e fz) := hh
    cases spot with
    | some s => simp at hc
    | none =>
      have hall : ∀ i, i < n → cc[off + i]? = some (f i) := fun i hi => by
        have hci := h i hi
        unfold World.cell? at hci
        rw [(ha i).1, hh, (ha i).2] at hci
        replace hci : (if (Addr.add ⟨blk, off, none⟩ i).spot.isSome then none else cc[off + i]?) = some (f i) := hci
        split at hci
        · cases hci
        · exact hci
      refine ⟨blk, off, cc, e, fz, rfl, hh, ?_, hall⟩
      have := (Array.getElem?_eq_some_iff.1 (hall (n - 1) (by omega))).1
      omega
  · cases hc
end Go.Am
namespace Go.Am
open Go Go.RowKit
structure Ent where
  p : Place
  cs : List Value
def entRen (L : List (Option Ent)) : Ren := fun b => (L[b]?).bind fun o => o.map (·.p)
def entMem (L : List (Option Ent)) : FM := fun b => (L[b]?).bind fun o => o.map fun e => .cells e.cs e.p.sz false false
structure EntOk (w : World) (ρ : Ren) (e : Ent) : Prop where
  ok : ∃ (cc : Array Value) (ty : TypeId) (fz : Nat × Nat), w.heap[e.p.blk]? = some (.cells cc ty fz) ∧ e.p.base + e.cs.length ≤ cc.size ∧ ∀ (j : Nat) x, e.cs[j]? = some x → ∃ y, cc[e.p.base + j]? = some y ∧ VRel ρ x y
theorem ent_world {w : World} {L : List (Option Ent)} (hgl : Glob w.heap.size w) (h : ∀ (i : Nat) e, L[i]? = some (some e) → EntOk w (entRen L) e) : MRel (entRen L) (entMem L) w w.heap.size ∧ Free (entRen L) L.length := by
  have hlt : ∀ {b : Nat} {x}, w.heap[b]? = some x → b < w.heap.size := fun hb => (Array.getElem?_eq_some_iff.1 hb).1
  refine ⟨⟨?_, ?_, ?_, Nat.le_refl _, hgl⟩, ?_⟩
  · intro b p O hp hO
    replace hp : ((L[b]?).bind fun o => o.map (·.p)) = some p := hp
    replace hO : ((L[b]?).bind fun o => o.map fun e => Blk.cells e.cs e.p.sz false false) = some O := hO
    cases hy : L[b]? with
    | none => rw [hy] at hp; cases hp
    | some o =>
      rw [hy] at hp hO
      cases o with
      | none => cases hp
      | some e =>
      injection hp with hp; subst hp
      injection hO with hO; subst hO
      obtain ⟨cc, ty, fz, h1, h2, h3⟩ := (h b e hy).ok
      exact ⟨rfl, cc, ty, fz, h1, h3, fun h => absurd h (by decide), fun h => absurd h (by decide), h2⟩
  · intro b1 b2 p1 p2 O1 O2 _ _ hO1 _ _ hw
    replace hO1 : ((L[b1]?).bind fun o => o.map fun e => Blk.cells e.cs e.p.sz false false) = some O1 := hO1
    cases hy : L[b1]? with
    | none => rw [hy] at hO1; cases hO1
    | some o =>
      rw [hy] at hO1
      cases o with
      | none => cases hO1
      | some e => injection hO1 with hO1; subst hO1; cases hw
  · intro b p hp
    replace hp : ((L[b]?).bind fun o => o.map (·.p)) = some p := hp
    cases hy : L[b]? with
    | none => rw [hy] at hp; cases hp
    | some o =>
      rw [hy] at hp
      cases o with
      | none => cases hp
      | some e =>
      injection hp with hp; subst hp
      obtain ⟨cc, ty, fz, h1, h2, h3⟩ := (h b e hy).ok
      exact hlt h1
  · intro b hb
    show (L[b]?).bind _ = none
    rw [List.getElem?_eq_none (by omega)]; rfl
end Go.Am
namespace Go.Am
open Go Go.RowKit Go.ChangeShapes
theorem cells_at {w : World} {base k : Nat} {a : Addr} {l : List Value} (h : w.cells? base a k = some l) (hk : 0 < k) : ∃ (blk off : Nat) (cc : Array Value) (ty : TypeId) (fz : Nat × Nat), a = ⟨blk, off, none⟩ ∧ w.heap[blk]? = some (.cells cc ty fz) ∧ off + k ≤ cc.size ∧ l.length = k ∧ ∀ j, j < k → cc[off + j]? = l[j]? := by
  obtain ⟨_, hl, hc⟩ := World.cells?_some h
  have hget : ∀ i, i < k → w.cell? (a.add i) = some (l.getD i undef) := fun i hi => by
    have h1 : l[i]? = some (l.getD i undef) := by rw [List.getD_eq_getElem?_getD, List.getElem?_eq_getElem (by omega)]; rfl
    have := hc i hi
    rw [h1] at this
    exact this
  obtain ⟨blk, off, cc, ty, fz, rfl, hh, hs, hcell⟩ := cells_row hk hget
  refine ⟨blk, off, cc, ty, fz, rfl, hh, hs, hl, fun j hj => ?_⟩
  rw [hcell j hj, List.getD_eq_getElem?_getD, List.getElem?_eq_getElem (by omega)]; rfl
theorem add_mk (blk off i : Nat) : Addr.add ⟨blk, off, none⟩ i = ⟨blk, off + i, none⟩ := by
  unfold Addr.add
  by_cases h : i = 0
  · rw [if_pos h, h]; rfl
  · rw [if_neg h]
def SliceW (w : World) (k : Nat) (R : List Value → Prop) (v : Value) (len : Nat) : Prop :=
  (v = .slice none 0 0 ∧ len = 0) ∨ (∃ a c, v = .slice (some a) 0 c ∧ len = 0) ∨
    ∃ (blk off cap : Nat) (cc : Array Value) (ty : TypeId) (fz : Nat × Nat), v = .slice (some ⟨blk, off, none⟩) len cap ∧ 0 < len ∧ len ≤ cap ∧ w.heap[blk]? = some (.cells cc ty fz) ∧ off + len * k ≤ cc.size ∧
      ∀ i, i < len → ∃ l : List Value, l.length = k ∧ (∀ j, j < k → cc[off + i * k + j]? = l[j]?) ∧ R l
theorem slice_of_trod {H : Type} {enc : TypeId × Value → H} {P : Program} {w : World} {held : Bool} {sp : Nat → Bool} {t e k : Nat} {fuel : Nat} {cs : List Value} {x : DataW H × List MemPlace} (ht : P.underlying t = some (.slice e)) (ck : P.cellsOf e = k) (hk : 0 < k)
    (h : DataW.trod enc P w 0 sp held fuel t cs = some x) : ∃ v len, cs = [v] ∧ len ≤ maxLen ∧ SliceW w k (fun l => ∃ n y, DataW.trod enc P w 0 sp held n e l = some y) v len := by
  rcases DataW.trod_slice ht h with ⟨rfl, _⟩ | ⟨a, len, cap, elems, rest, n, _, rfl, _, _, hlc, hcm, hel, hi, _⟩
  · exact ⟨_, 0, rfl, Nat.zero_le _, .inl ⟨rfl, rfl⟩⟩
  · rcases Nat.eq_zero_or_pos len with h0 | h0
    · subst h0
      exact ⟨_, 0, rfl, Nat.zero_le _, .inr (.inl ⟨a, cap, rfl, rfl⟩)⟩
    · have key : ∀ i, i < len → ∃ l y, w.cells? 0 (a.add (i * k)) k = some l ∧ DataW.trod enc P w 0 sp held n e l = some y := fun i hil => by
        have h1 := hi i hil
        rw [ck, List.getElem?_eq_getElem (by omega)] at h1
        cases hc : w.cells? 0 (a.add (i * k)) k with
        | none => rw [hc] at h1; cases h1
        | some l => rw [hc] at h1; exact ⟨l, _, rfl, h1⟩
      obtain ⟨l0, y0, c0, _⟩ := key 0 h0
      have ha : a.add (0 * k) = a := by rw [Nat.zero_mul]; rfl
      rw [ha] at c0
      obtain ⟨blk, off, cc, ty, fz, rfl, hh, _, _, _⟩ := cells_at c0 hk
      have all : ∀ i, i < len → ∃ l : List Value, l.length = k ∧ off + i * k + k ≤ cc.size ∧ (∀ j, j < k → cc[off + i * k + j]? = l[j]?) ∧ ∃ n y, DataW.trod enc P w 0 sp held n e l = some y := fun i hil => by
        obtain ⟨l, y, c, hy⟩ := key i hil
        rw [add_mk] at c
        obtain ⟨blk', off', cc', ty', fz', he, hh', hs, hl, hj⟩ := cells_at c hk
        injection he with e1 e2 _
        subst e1; subst e2
        rw [hh] at hh'
        injection hh' with hh'; injection hh' with q1 q2 q3
        subst q1
        exact ⟨l, hl, hs, hj, n, y, hy⟩
      refine ⟨_, len, rfl, by omega, .inr (.inr ⟨blk, off, cap, cc, ty, fz, rfl, h0, hlc, hh, ?_, fun i hil => ?_⟩)⟩
      · obtain ⟨_, _, hs, _⟩ := all (len - 1) (by omega)
        have : len * k = (len - 1) * k + k := by
          obtain ⟨q, rfl⟩ : ∃ q, len = q + 1 := ⟨len - 1, by omega⟩
          rw [Nat.add_sub_cancel, Nat.succ_mul]
        omega
      · obtain ⟨l, hl, _, hj, hy⟩ := all i hil
        exact ⟨l, hl, hj, hy⟩
end Go.Am
namespace Go.Am
open Go Go.RowKit Go.ChangeShapes
end Go.Am
namespace Go.Am
open Go Go.RowKit Go.ChangeShapes
def ValsW (w : World) (v : Value) (vs : List Value) : Prop :=
  (v = .slice none 0 0 ∧ vs = []) ∨ (∃ a c, v = .slice (some a) 0 c ∧ vs = []) ∨
    ∃ (blk off cap : Nat) (cc : Array Value) (ty : TypeId) (fz : Nat × Nat), v = .slice (some ⟨blk, off, none⟩) vs.length cap ∧ 0 < vs.length ∧ vs.length ≤ cap ∧ w.heap[blk]? = some (.cells cc ty fz) ∧ off + vs.length ≤ cc.size ∧ ∀ i, i < vs.length → cc[off + i]? = vs[i]?
theorem vals_ent {w : World} {sv : Value} {vs : List Value} (h : ValsW w sv vs) (hf : ∀ x ∈ vs, flat x = true) (i : Nat) : ∃ (o : Option Ent) (v : Value), (∀ ρ : Ren, (∀ e, o = some e → ρ i = some e.p) → VRel ρ v sv) ∧ (∀ ρ e, o = some e → EntOk w ρ e) ∧
    ∀ (m : FM) (n : Nat), i < n → (∀ e, o = some e → m i = some (.cells e.cs e.p.sz false false)) → Sl m n v vs := by
  rcases h with ⟨rfl, rfl⟩ | ⟨a, c, rfl, rfl⟩ | ⟨blk, off, cap, cc, ty, fz, rfl, h0, h1, h2, h3, h4⟩
  · exact ⟨none, .slice none 0 0, fun ρ _ => .flat rfl, fun ρ e h => (by cases h), fun m n _ _ => .inl ⟨rfl, rfl⟩⟩
  · refine ⟨none, .slice (some ⟨0, 0, none⟩) 0 VAG, fun ρ _ => .vag, fun ρ e h => (by cases h), fun m n hi _ => .inr (.inr ⟨rfl, rfl, by omega⟩)⟩
  · refine ⟨some ⟨⟨blk, off, cap, 1⟩, vs⟩, .slice (some ⟨i, 0, none⟩) vs.length UNK, fun ρ hρ => ?_, fun ρ e he => ?_, fun m n hi hm => ?_⟩
    · exact VRel.slice (p := ⟨blk, off, cap, 1⟩) (hρ _ rfl) h1 (fun _ => by show 0 + cap * 1 = cap; omega) (fun h => absurd rfl h) (by decide)
    · injection he with he; subst he
      refine ⟨cc, ty, fz, h2, h3, fun j x hx => ?_⟩
      replace hx : vs[j]? = some x := hx
      have hj : j < vs.length := (List.getElem?_eq_some_iff.1 hx).1
      exact ⟨x, (h4 j hj).trans hx, .flat (hf x (List.mem_of_getElem? hx))⟩
    · exact .inr <| .inl ⟨i, 0, UNK, vs, false, false, rfl, hi, hm _ rfl, fun k x hx => by rw [Nat.zero_add]; exact hx⟩
theorem valsW_of_slice {α : Type} [Inhabited α] {w : World} {v : Value} {len : Nat} {F : α → Value} {R : α → Prop} (h : SliceW w 1 (fun l => ∃ x, R x ∧ l = [F x]) v len) : ∃ xs : List α, xs.length = len ∧ (∀ x ∈ xs, R x) ∧ ValsW w v (xs.map F) := by
  rcases h with ⟨rfl, rfl⟩ | ⟨a, c, rfl, rfl⟩ | ⟨blk, off, cap, cc, ty, fz, rfl, h0, h1, h2, h3, h4⟩
  · exact ⟨[], rfl, fun x hx => (by cases hx), .inl ⟨rfl, rfl⟩⟩
  · exact ⟨[], rfl, fun x hx => (by cases hx), .inr (.inl ⟨a, c, rfl, rfl⟩)⟩
  · have h5 : ∀ i, i < len → ∃ x : α, R x ∧ cc[off + i]? = some (F x) := fun i hi => by
      obtain ⟨l, hl, hj, x, hR, rfl⟩ := h4 i hi
      have := hj 0 (by omega)
      rw [Nat.mul_one, Nat.add_zero] at this
      exact ⟨x, hR, this⟩
    have h6 : ∃ f : Nat → α, ∀ i, i < len → R (f i) ∧ cc[off + i]? = some (F (f i)) :=
      ⟨fun i => if h : i < len then Classical.choose (h5 i h) else default, fun i hi => by
        simp only [dif_pos hi]
        exact Classical.choose_spec (h5 i hi)⟩
    obtain ⟨f, hf⟩ := h6
    have hl : ((List.range len).map f).length = len := by simp
    have hl2 : (((List.range len).map f).map F).length = len := by simp
    refine ⟨(List.range len).map f, hl, fun x hx => ?_, .inr (.inr ⟨blk, off, cap, cc, ty, fz, by rw [hl2], by rw [hl2]; exact h0, by rw [hl2]; exact h1, h2, by rw [hl2]; omega, fun i hi => ?_⟩)⟩
    · obtain ⟨i, hi, rfl⟩ := List.mem_map.1 hx
      exact (hf i (List.mem_range.1 hi)).1
    · rw [hl2] at hi
      rw [(hf i hi).2]; simp [hi]
theorem SliceW.mono {w : World} {k : Nat} {R R' : List Value → Prop} {v : Value} {len : Nat} (h : SliceW w k R v len) (hr : ∀ l, l.length = k → R l → R' l) : SliceW w k R' v len := by
  rcases h with h | h | ⟨blk, off, cap, cc, ty, fz, h1, h2, h3, h4, h5, h6⟩
  · exact .inl h
  · exact .inr (.inl h)
  · exact .inr (.inr ⟨blk, off, cap, cc, ty, fz, h1, h2, h3, h4, h5, fun i hi => by
      obtain ⟨l, q1, q2, q3⟩ := h6 i hi
      exact ⟨l, q1, q2, hr l q1 q3⟩⟩)
theorem ints_of_trod {H : Type} {enc : TypeId × Value → H} {P : Program} {w : World} {held : Bool} {sp : Nat → Bool} {t e : Nat} {k : IntKind} {fuel : Nat} {cs : List Value} {x : DataW H × List MemPlace} (ht : P.underlying t = some (.slice e)) (he : P.underlying e = some (.int k)) (ce : P.cellsOf e = 1)
    (h : DataW.trod enc P w 0 sp held fuel t cs = some x) : ∃ (v : Value) (xs : List Int), cs = [v] ∧ xs.length ≤ maxLen ∧ (∀ x ∈ xs, (Lit.int k x).wf = true) ∧ ValsW w v (xs.map (Value.int k)) := by
  obtain ⟨v, len, rfl, hlen, hS⟩ := slice_of_trod ht ce (by omega) h
  obtain ⟨xs, h1, h2, h3⟩ := valsW_of_slice (F := Value.int k) (R := fun x => (Lit.int k x).wf = true) (hS.mono fun l hl ⟨n, y, hy⟩ => by
    obtain ⟨z, hz, _, hw⟩ := DataW.trod_int he hy
    exact ⟨z, hw, hz⟩)
  exact ⟨v, xs, rfl, by omega, h2, h3⟩
end Go.Am
namespace Go.Am.CS
open Go Go.Am Go.Am.V Go.RowKit
def layB (bs : List Blk) (n : Nat) (m : FM) : FM := fun b => if n ≤ b ∧ b < n + bs.length then bs[b - n]? else m b
theorem layB_new {bs : List Blk} {n i : Nat} {m : FM} (h : i < bs.length) : layB bs n m (n + i) = bs[i]? := by
  unfold layB
  rw [if_pos (by omega), Nat.add_sub_cancel_left]
theorem layB_loc (bs : List Blk) (n : Nat) (m : FM) : Loc (μ := FM) m n (layB bs n m) (n + bs.length) (newW n bs.length) := by
  refine ⟨Nat.le_add_right _ _, fun b hb => ?_, fun b h1 h2 => by rw [newW_test]; simp; omega⟩
  rw [newW_test] at hb
  show layB bs n m b = m b
  unfold layB
  rw [if_neg]
  intro hh
  simp at hb
  omega
theorem post_news {ρ : Ren} {V : Nat → Option Blk} {w w' : World} {B n : Nat} (hm : MRel ρ V w B) (hfree : Free ρ n) (m : FM) (bs : List Blk) (ps : List Place) (hl : ps.length = bs.length) (hbw : Below w.heap.size w w')
    (hps : ∀ p ∈ ps, w.heap.size ≤ p.blk ∧ p.blk < w'.heap.size) (hnw : ∀ O ∈ bs, O.wr = false)
    (hr : ∀ ρ' : Ren, ρ.le ρ' → (∀ (i : Nat) p, ps[i]? = some p → ρ' (n + i) = some p) → ∀ (i : Nat) p O, ps[i]? = some p → bs[i]? = some O → BRel ρ' w' B p O) :
    ∃ ρ' : Ren, (∀ (i : Nat) p, ps[i]? = some p → ρ' (n + i) = some p) ∧ Post ρ V w B n (layB bs n m) (n + bs.length) (newW n bs.length) ρ' w' := by
  obtain ⟨ρ', hρ'⟩ : ∃ ρ' : Ren, ρ' = fun b => if b < n then ρ b else ps[b - n]? := ⟨_, rfl⟩
  have hold : ∀ b, b < n → ρ' b = ρ b := fun b hb => by rw [hρ']; simp [hb]
  have hnew : ∀ (i : Nat) p, ps[i]? = some p → ρ' (n + i) = some p := fun i p hi => by
    rw [hρ']
    simp only [if_neg (show ¬ n + i < n by omega), Nat.add_sub_cancel_left]
    exact hi
  have hle : ρ.le ρ' := fun b p hb => by
    by_cases hbn : b < n
    · rw [hold b hbn]; exact hb
    · rw [hfree b (by omega)] at hb; cases hb
  have hinv : ∀ b p, ρ' b = some p → (b < n ∧ ρ b = some p) ∨ (∃ i, i < bs.length ∧ b = n + i ∧ ps[i]? = some p) := fun b p hb => by
    by_cases h1 : b < n
    · exact .inl ⟨h1, by rw [← hold b h1]; exact hb⟩
    · rw [hρ'] at hb
      simp only [if_neg h1] at hb
      have := (List.getElem?_eq_some_iff.1 hb).1
      exact .inr ⟨b - n, by omega, by omega, hb⟩
  have hupo : ∀ b, b < n → upd V (newW n bs.length) (layB bs n m) b = V b := fun b hb => by
    unfold upd
    rw [newW_test, if_neg (by simp; omega)]
  have hupn : ∀ i, i < bs.length → upd V (newW n bs.length) (layB bs n m) (n + i) = bs[i]? := fun i hi => by
    unfold upd
    rw [newW_test, if_pos (by simp; omega)]
    exact layB_new hi
  refine ⟨ρ', hnew, hle, fun b p hb => ?_, ⟨fun b p O hb hO => ?_, fun b1 b2 p1 p2 O1 O2 h1 h2 hO1 hO2 hne hw1 => ?_, fun b p hb' => ?_, Nat.le_trans hm.le hbw.size, hm.gl.mono (hbw.mono hm.le)⟩, hbw.mono hm.le, Nat.le_add_right _ _, fun k hk _ => hbw.block k hk, fun b p hb' => ?_, fun b hb' => ?_⟩
  · rcases hinv b p hb with ⟨h1, h2⟩ | ⟨i, hi, rfl, h2⟩
    · exact .inl h2
    · exact .inr ⟨by omega, by omega⟩
  · rcases hinv b p hb with ⟨h1, h2⟩ | ⟨i, hi, rfl, h2⟩
    · rw [hupo b h1] at hO
      exact (hm.blk b p O h2 hO).mono hle (hbw.block _ (hm.fresh b p h2))
    · rw [hupn i hi] at hO
      exact hr ρ' hle hnew i p O h2 hO
  · rcases hinv b1 p1 h1 with ⟨k1, k2⟩ | ⟨i1, hi1, rfl, k2⟩ <;> rcases hinv b2 p2 h2 with ⟨q1, q2⟩ | ⟨i2, hi2, rfl, q2⟩
    · rw [hupo b1 k1] at hO1
      rw [hupo b2 q1] at hO2
      exact hm.excl b1 b2 p1 p2 O1 O2 k2 q2 hO1 hO2 hne hw1
    · have := hm.fresh b1 p1 k2
      have := (hps p2 (List.mem_of_getElem? q2)).1
      omega
    · have := hm.fresh b2 p2 q2
      have := (hps p1 (List.mem_of_getElem? k2)).1
      omega
    · rw [hupn i1 hi1] at hO1
      have := hnw O1 (List.mem_of_getElem? hO1)
      rw [this] at hw1; cases hw1
  · rcases hinv b p hb' with ⟨h1, h2⟩ | ⟨i, hi, rfl, h2⟩
    · exact Nat.lt_of_lt_of_le (hm.fresh b p h2) hbw.size
    · exact (hps p (List.mem_of_getElem? h2)).2
  · rcases hinv b p hb' with ⟨h1, h2⟩ | ⟨i, hi, rfl, h2⟩
    · exact .inl h2
    · exact .inr (.inl (hps p (List.mem_of_getElem? h2)).1)
  · rw [newW_test] at hb'
    simp at hb'
    have hi : b - n < ps.length := by omega
    refine ⟨⟨ps[b - n], ?_⟩, fun h => by omega⟩
    have := hnew (b - n) _ (List.getElem?_eq_getElem hi)
    rwa [show n + (b - n) = b by omega] at this
def placeOf : Value → Place
  | .slice (some a) _ c => ⟨a.block, 0, c, 1⟩
  | _ => ⟨0, 0, 0, 1⟩
theorem args_flat {ρ : Ren} {args : List Value} {args' : Array Value} (hargs : LRel ρ args args'.toList) (h1 : args.all flat = true) : args' = args.toArray := by
  apply Array.ext'
  apply List.ext_getElem?
  intro i
  show args'.toList[i]? = args[i]?
  cases ha : args[i]? with
  | none =>
    have hl := hargs.1
    rw [List.getElem?_eq_none_iff] at ha ⊢
    omega
  | some x =>
    have hi : i < args'.toList.length := by rw [← hargs.1]; exact (List.getElem?_eq_some_iff.1 ha).1
    have hy : args'.toList[i]? = some args'.toList[i] := List.getElem?_eq_getElem hi
    have := (hargs.2 i _ _ ha hy).flat_eq (List.all_eq_true.1 h1 x (List.mem_of_getElem? ha))
    rw [hy, this]
theorem brel_own {ρ : Ren} {w : World} {B base e n : Nat} {v : Value} {xs ys : List Value} (h : w.ownsRow base e 1 v n ys) (hn : n ≠ 0) (hxy : LRel ρ xs ys) :
    BRel ρ w B (placeOf v) (.cells xs 1 false false) ∧ ∃ g cap, v = .slice (some ⟨g, 0, none⟩) n cap ∧ n ≤ cap ∧ base ≤ g ∧ g < w.heap.size := by
  obtain ⟨hl, h2⟩ := h
  rcases h2 with ⟨_, h0⟩ | ⟨g, cap, cur, rfl, hb, hg, hc, _, hs, ht⟩
  · exact absurd h0 hn
  · refine ⟨⟨rfl, cur, e, (0, 0), hg, fun i x hx => ?_, (fun h => by cases h), (fun h => by cases h), ?_⟩, g, cap, rfl, hc, hb, (Array.getElem?_eq_some_iff.1 hg).1⟩
    · obtain ⟨y, hy, hr⟩ := hxy.get hx
      refine ⟨y, ?_, hr⟩
      rw [← ht, List.getElem?_take] at hy
      split at hy
      · show cur[0 + i]? = some y
        rw [Nat.zero_add, ← Array.getElem?_toList]; exact hy
      · cases hy
    · have := hxy.1
      show 0 + xs.length ≤ cur.size
      omega
theorem own_form {w : World} {base e n : Nat} {v : Value} {ys : List Value} (h : w.ownsRow base e 1 v n ys) (hn : n ≠ 0) : ∃ g cap, v = .slice (some ⟨g, 0, none⟩) n cap ∧ n ≤ cap ∧ base ≤ g ∧ g < w.heap.size := by
  obtain ⟨hl, h2⟩ := h
  rcases h2 with ⟨_, h0⟩ | ⟨g, cap, cur, rfl, hb, hg, hc, _, hs, ht⟩
  · exact absurd h0 hn
  · exact ⟨g, cap, rfl, hc, hb, (Array.getElem?_eq_some_iff.1 hg).1⟩
section
variable {μ : Type} [AMem μ] {ρ : Ren} {V : Nat → Option Blk} {w w' : World} {B : Nat}
theorem shown_at {m : μ} {n sz F r : Nat} {x x' : Value} {l : List Value} (hm : MRel ρ V w B) (hx : VRel ρ x x') (h : shown m n sz x = some (l, r)) (hag : Agree V m n F) (hF : Sub r F) :
    (∃ a c, x' = .slice a 0 c ∧ l = []) ∨ ∃ b o len c, x' = .slice (some ⟨b, o, none⟩) len c ∧ b < w.heap.size ∧ l.length = len * sz ∧ ∀ (j : Nat) v, l[j]? = some v → ∃ y, w.cell? ⟨b, o + j, none⟩ = some y ∧ VRel ρ v y := by
  unfold shown at h
  split at h
  · injection h with h; injection h with e1 e2; subst e1; subst e2
    exact .inl ⟨_, _, hx.flat_eq rfl, rfl⟩
  · rename_i b o ln c
    cases h0 : Nat.beq ln 0
    · rw [h0, cond_false] at h
      have hne : ln ≠ 0 := by intro e; subst e; simp at h0
      have hsh : ∃ p c', x' = .slice (some ⟨p.blk, p.base + o, none⟩) ln c' ∧ ρ b = some p := by
        cases hx with
        | flat hf => simp [flat] at hf
        | slice hp _ _ _ _ => exact ⟨_, _, rfl, hp⟩
        | vag => exact absurd rfl hne
      obtain ⟨p, c', rfl, hp⟩ := hsh
      unfold shownB at h
      split at h
      · rename_i c1 s _ _ hg
        cases hs : szF s sz
        · rw [hs, cond_false] at h; cases h
        · rw [hs, cond_true] at h
          cases hc : cellsAt c1 o (Nat.mul ln sz) with
          | none => rw [hc] at h; cases h
          | some l1 =>
            rw [hc] at h
            have h : some (l1, bit b) = some (l, r) := h
            injection h with h; injection h with e1 e2; subst e1; subst e2
            obtain ⟨_, hb⟩ := at_block hm hag (hF b (by rw [bit_test]; simp)) hg hp
            obtain ⟨_, h2, h3⟩ := cellsAt_some hc
            refine .inr ⟨_, _, _, _, rfl, hm.fresh b p hp, h2, fun j v hv => ?_⟩
            have hj : j < Nat.mul ln sz := by
              have := (List.getElem?_eq_some_iff.1 hv).1
              omega
            rw [h3 j hj] at hv
            obtain ⟨y, hy, hr⟩ := brel_cell hb hv
            exact ⟨y, by rw [← hy, Nat.add_assoc], hr⟩
      · cases h
    · rw [h0, cond_true] at h
      injection h with h; injection h with e1 e2; subst e1; subst e2
      have h0 : ln = 0 := Nat.eq_of_beq_eq_true h0
      subst h0
      have hsh : ∃ a c', x' = .slice a 0 c' := by
        cases hx with
        | flat hf => simp [flat] at hf
        | slice hp _ _ _ _ => exact ⟨_, _, rfl⟩
        | vag => exact ⟨_, _, rfl⟩
      obtain ⟨a, c', rfl⟩ := hsh
      exact .inl ⟨_, _, rfl, rfl⟩
  · cases h
end
theorem agg_same {ρ : Ren} {cs : Array Value} {y : Value} (hf : cs.toList.all flat = true) (h : VRel ρ (.agg cs) y) : y = .agg cs := by
  cases h with
  | flat h => rfl
  | agg h1 h2 =>
    rename_i cs'
    have e : cs' = cs := by
      apply Array.ext (by omega)
      intro i hi hj
      have hx : cs[i]? = some cs[i] := Array.getElem?_eq_getElem hj
      have hy : cs'[i]? = some cs'[i] := Array.getElem?_eq_getElem hi
      have hfl : flat cs[i] = true := List.all_eq_true.1 hf _ (by rw [← Array.mem_def]; exact Array.getElem_mem hj)
      exact ((h2 i _ _ hx hy).flat_eq hfl)
    rw [e]
theorem Env.topX {P : Program} {tab : List (Nat × AFn)} {Y : Nat → List Value → FM → Nat → OR FM} (h : Env P tab Y) {k f : Nat} {args : List Value} {v : Value} {m : FM} {n r wm : Nat} (ha : args.all addrFree = true) (hv : ∀ ρ y, VRel ρ v y → y = v)
    (hrun : callA (look tab) Y (exec P (look tab) Y k) f args FM0 0 = .ok v m n r wm) (w : World) (hgl : Glob w.heap.size w) : Calls P f args.toArray w fun e w' => e = .returned v ∧ Below w.heap.size w w' := by
  obtain ⟨_, hc⟩ := h.calls k f args FM0 0 v m n r wm hrun (fun _ => none) (fun _ => none) w w.heap.size (Nat.lor r wm) args.toArray ⟨rfl, fun i x y hx hy => by
      have : x = y := by simp at hy; rw [hx] at hy; injection hy
      subst this
      exact free_args ha _ x (List.mem_of_getElem? hx)⟩ (Sub.refl _) (fun b hb => by omega) (mrel_none w hgl) (fun _ _ => rfl)
  refine hc.mono fun e w' hh => ?_
  obtain ⟨ρ', v', rfl, hv', hp⟩ := hh
  rw [hv _ _ hv']
  exact ⟨rfl, hp.below⟩
end Go.Am.CS
namespace Go.Am.CS
open Go Go.Am Go.Am.V Go.RowKit
set_option maxRecDepth 100000
noncomputable def chkB (x : Value) : List Blk := [.cells [x] 0 false false, .cells [.int .i64 28] 0 false false]
noncomputable def chkI (m : FM) (n : Nat) : List Value → OR FM
  | [.slice (some a) len c, .int .i64 28] => .ok (.func (.func 88) #[] #[.pointer (some ⟨n, 0, none⟩), .pointer (some ⟨n + 1, 0, none⟩)]) (layB (chkB (.slice (some a) len c)) n m) (n + 2) 0 (newW n 2)
  | _ => .no
noncomputable def chkA (f : Nat) (args : List Value) (m : FM) (n : Nat) : OR FM := cond (Nat.beq f 44) (chkI m n args) .no
theorem chkA_ok {f : Nat} {args : List Value} {m m' : FM} {n n' r wm : Nat} {v : Value} (h : chkA f args m n = .ok v m' n' r wm) :
    f = 44 ∧ ∃ a len c, args = [.slice (some a) len c, .int .i64 28] ∧ v = .func (.func 88) #[] #[.pointer (some ⟨n, 0, none⟩), .pointer (some ⟨n + 1, 0, none⟩)] ∧ m' = layB (chkB (.slice (some a) len c)) n m ∧ n' = n + 2 ∧ r = 0 ∧ wm = newW n 2 := by
  unfold chkA at h
  cases hb : Nat.beq f 44
  · rw [hb] at h; cases h
  rw [hb, cond_true] at h
  refine ⟨Nat.eq_of_beq_eq_true hb, ?_⟩
  unfold chkI at h
  split at h
  · rename_i a len c
    injection h with e1 e2 e3 e4 e5
    exact ⟨a, len, c, rfl, e1.symm, e2.symm, e3.symm, e4.symm, e5.symm⟩
  · cases h
theorem chkA_loc : CallLoc (μ := FM) chkA := fun f args m n v m' n' r wm h => by
  obtain ⟨_, a, len, c, _, _, rfl, rfl, _, rfl⟩ := chkA_ok h
  exact layB_loc _ _ _
theorem two_args {ρ : Ren} {x y : Value} {args' : Array Value} (h : LRel ρ [x, y] args'.toList) : ∃ x' y', args' = #[x', y'] ∧ VRel ρ x x' ∧ VRel ρ y y' := by
  obtain ⟨l⟩ := args'
  match l, h with
  | [x', y'], h => exact ⟨x', y', rfl, h.2 0 _ _ rfl rfl, h.2 1 _ _ rfl rfl⟩
  | [], h => exact absurd h.1 (by simp)
  | [_], h => exact absurd h.1 (by simp)
  | _ :: _ :: _ :: _, h => exact absurd h.1 (by simp)
theorem one_arg {ρ : Ren} {x : Value} {args' : Array Value} (h : LRel ρ [x] args'.toList) : ∃ x', args' = #[x'] ∧ VRel ρ x x' := by
  obtain ⟨l⟩ := args'
  match l, h with
  | [x'], h => exact ⟨x', rfl, h.2 0 _ _ rfl rfl⟩
  | [], h => exact absurd h.1 (by simp)
  | _ :: _ :: _, h => exact absurd h.1 (by simp)
theorem chkA_sim : CallSim (μ := FM) Proofs.Tryz.prog chkA := by
  intro f args m n v m' n' r wm h ρ V w B F args' hargs hF hag hm hfree
  obtain ⟨rfl, a, len, c, rfl, rfl, rfl, rfl, rfl, rfl⟩ := chkA_ok h
  clear h
  obtain ⟨x1, x2, rfl, hr1, hr2⟩ := two_args hargs
  obtain rfl := hr2.flat_eq rfl
  refine ⟨⟨_, _, Proofs.Tryz.func44, by decide +kernel, rfl⟩, (callsIn_wide (n := 0)).1 ?_⟩
  have hx : ∃ a' c', x1 = .slice a' len c' := by
    cases hr1 with
    | flat h => simp [flat] at h
    | slice _ _ _ _ _ => exact ⟨_, _, rfl⟩
    | vag => exact ⟨_, _, rfl⟩
  obtain ⟨a', c', rfl⟩ := hx
  refine (Proofs.Ch.chunk_in Fence.wide trivial rfl 0 a' len c' 28 (by decide) w).mono ?_
  rintro e w' ⟨rfl, rfl⟩
  have hb : Below w.heap.size w ((w.alloc (.cells #[.slice a' len c'] 22)).alloc (.cells #[.int .i64 28] 3)) := ((Below.refl _ w).alloc (Nat.le_refl _) _).alloc (by simp) _
  have h0 : ((w.alloc (.cells #[.slice a' len c'] 22)).alloc (.cells #[.int .i64 28] 3)).heap[w.heap.size]? = some (.cells #[.slice a' len c'] 22) := (Below.heap_alloc _ _ _ (by simp)).trans (World.alloc_heap_new w _)
  have h1 : ((w.alloc (.cells #[.slice a' len c'] 22)).alloc (.cells #[.int .i64 28] 3)).heap[w.heap.size + 1]? = some (.cells #[.int .i64 28] 3) := by
    have := World.alloc_heap_new (w.alloc (.cells #[.slice a' len c'] 22)) (.cells #[.int .i64 28] 3)
    rwa [World.size_alloc] at this
  obtain ⟨ρ', hρ, hp⟩ := post_news hm hfree m (chkB (.slice (some a) len c)) [⟨w.heap.size, 0, 1, 0⟩, ⟨w.heap.size + 1, 0, 1, 0⟩] rfl hb (fun p hp => by
      simp only [List.mem_cons, List.not_mem_nil, or_false] at hp
      rcases hp with rfl | rfl <;> (refine ⟨?_, ?_⟩ <;> simp <;> omega)) (fun O hO => by
      simp only [chkB, List.mem_cons, List.not_mem_nil, or_false] at hO
      rcases hO with rfl | rfl <;> rfl) (fun ρ' hle hρ i p O hp hO => by
      match i, hp, hO with
      | 0, hp, hO =>
        injection hp with hp; injection hO with hO
        subst hp; subst hO
        refine ⟨rfl, _, _, _, h0, fun i x hx => ?_, (fun h => by cases h), (fun h => by cases h), by simp⟩
        match i, hx with
        | 0, hx => injection hx with hx; subst hx; exact ⟨_, rfl, hr1.mono hle⟩
      | 1, hp, hO =>
        injection hp with hp; injection hO with hO
        subst hp; subst hO
        refine ⟨rfl, _, _, _, h1, fun i x hx => ?_, (fun h => by cases h), (fun h => by cases h), by simp⟩
        match i, hx with
        | 0, hx => injection hx with hx; subst hx; exact ⟨_, rfl, .int _ _ _⟩)
  refine ⟨ρ', _, rfl, VRel.func rfl (fun i x y hx hy => by simp at hx) rfl (fun i x y hx hy => ?_), hp⟩
  match i, hx, hy with
  | 0, hx, hy => injection hx with hx; injection hy with hy; subst hx; subst hy; exact VRel.ptr (hρ 0 _ rfl)
  | 1, hx, hy => injection hx with hx; injection hy with hy; subst hx; subst hy; exact VRel.ptr (hρ 1 _ rfl)
noncomputable def colB (a : Addr) (len : Nat) : List Blk := [.cells [.slice (some a) len len] 1 false false]
noncomputable def colI (m : FM) (n : Nat) (b1 o1 b2 o2 : Nat) : Option Blk → Option Blk → OR FM
  | some (.cells c1 _ _ _), some (.cells c2 _ _ _) => (match c1[o1]?, c2[o2]? with
    | some (.slice (some a) len _), some (.int .i64 28) => cond (Nat.blt 0 len && Nat.ble len 28) (.ok (.slice (some ⟨n, 0, none⟩) 1 UNK) (layB (colB a len) n m) (n + 1) (Nat.lor (bit b1) (bit b2)) (newW n 1)) .no
    | _, _ => .no)
  | _, _ => .no
noncomputable def colL (m : FM) (n : Nat) : List Value → List Value → OR FM
  | [], [.pointer (some ⟨b1, o1, none⟩), .pointer (some ⟨b2, o2, none⟩)] => colI m n b1 o1 b2 o2 (getb m n b1) (getb m n b2)
  | _, _ => .no
noncomputable def colV (m : FM) (n : Nat) : List Value → OR FM
  | [.func (.func 88) a c] => colL m n a.toList c.toList
  | _ => .no
noncomputable def colA (f : Nat) (args : List Value) (m : FM) (n : Nat) : OR FM := cond (Nat.beq f 43) (colV m n args) .no
theorem colA_ok {f : Nat} {args : List Value} {m m' : FM} {n n' r wm : Nat} {v : Value} (h : colA f args m n = .ok v m' n' r wm) :
    f = 43 ∧ ∃ b1 o1 b2 o2 c1 s1 p1 w1 c2 s2 p2 w2 a len c, args = [.func (.func 88) #[] #[.pointer (some ⟨b1, o1, none⟩), .pointer (some ⟨b2, o2, none⟩)]] ∧ getb m n b1 = some (.cells c1 s1 p1 w1) ∧ getb m n b2 = some (.cells c2 s2 p2 w2) ∧
      c1[o1]? = some (.slice (some a) len c) ∧ c2[o2]? = some (.int .i64 28) ∧ 0 < len ∧ len ≤ 28 ∧ v = .slice (some ⟨n, 0, none⟩) 1 UNK ∧ m' = layB (colB a len) n m ∧ n' = n + 1 ∧ r = Nat.lor (bit b1) (bit b2) ∧ wm = newW n 1 := by
  unfold colA at h
  cases hb : Nat.beq f 43
  · rw [hb] at h; cases h
  rw [hb, cond_true] at h
  refine ⟨Nat.eq_of_beq_eq_true hb, ?_⟩
  unfold colV at h
  split at h
  · rename_i a c
    obtain ⟨la⟩ := a
    obtain ⟨lc⟩ := c
    replace h : colL m n la lc = _ := h
    unfold colL at h
    split at h
    · rename_i b1 o1 b2 o2
      unfold colI at h
      split at h
      · rename_i c1 s1 p1 w1 c2 s2 p2 w2 hg1 hg2
        split at h
        · rename_i a len c h1 h2
          cases hc : (Nat.blt 0 len && Nat.ble len 28)
          · rw [hc] at h; cases h
          · rw [hc, cond_true] at h
            rw [Bool.and_eq_true] at hc
            injection h with e1 e2 e3 e4 e5
            exact ⟨b1, o1, b2, o2, c1, s1, p1, w1, c2, s2, p2, w2, a, len, c, rfl, hg1, hg2, h1, h2, Nat.le_of_ble_eq_true hc.1, Nat.le_of_ble_eq_true hc.2, e1.symm, e2.symm, e3.symm, e4.symm, e5.symm⟩
        · cases h
      · cases h
    · cases h
  · cases h
theorem colA_loc : CallLoc (μ := FM) colA := fun f args m n v m' n' r wm h => by
  obtain ⟨_, b1, o1, b2, o2, c1, s1, p1, w1, c2, s2, p2, w2, a, len, c, _, _, _, _, _, _, _, _, rfl, rfl, _, rfl⟩ := colA_ok h
  exact layB_loc _ _ _
theorem colA_sim : CallSim (μ := FM) Proofs.Tryz.prog colA := by
  intro f args m n v m' n' r wm h ρ V w B F args' hargs hF hag hm hfree
  obtain ⟨rfl, b1, o1, b2, o2, c1, s1, q1, w1, c2, s2, q2, w2, a, len, c, rfl, hg1, hg2, h1, h2, hl0, hl28, rfl, rfl, rfl, rfl, rfl⟩ := colA_ok h
  clear h
  obtain ⟨x1, rfl, hr1⟩ := one_arg hargs
  refine ⟨⟨_, _, Proofs.Tryz.func43, by decide +kernel, rfl⟩, (callsIn_wide (n := 9)).1 ?_⟩
  have hx : ∃ p1 p2, x1 = .func (.func 88) #[] #[.pointer (some ⟨p1.blk, p1.base + o1, none⟩), .pointer (some ⟨p2.blk, p2.base + o2, none⟩)] ∧ ρ b1 = some p1 ∧ ρ b2 = some p2 := by
    cases hr1 with
    | flat h => simp [flat] at h
    | func k1 k2 k3 k4 =>
      rename_i a' c'
      obtain ⟨la⟩ := a'
      obtain ⟨lc⟩ := c'
      obtain rfl : la = [] := by
        simp at k1
        exact List.length_eq_zero_iff.1 k1.symm
      have hl : lc.length = 2 := by simp at k3; omega
      match lc, hl with
      | [y1, y2], _ =>
        have j1 := k4 0 _ _ rfl rfl
        have j2 := k4 1 _ _ rfl rfl
        cases j1 with
        | flat h => simp [flat] at h
        | ptr e1 =>
          cases j2 with
          | flat h => simp [flat] at h
          | ptr e2 => exact ⟨_, _, rfl, e1, e2⟩
  obtain ⟨p1, p2, rfl, e1, e2⟩ := hx
  have hb1 := (at_block hm hag (hF b1 (by rw [lor_test, lor_test, bit_test]; simp)) hg1 e1).2
  have hb2 := (at_block hm hag (hF b2 (by rw [lor_test, lor_test, bit_test, bit_test]; simp)) hg2 e2).2
  obtain ⟨y1, hy1, hv1⟩ := brel_cell hb1 h1
  obtain ⟨y2, hy2, hv2⟩ := brel_cell hb2 h2
  obtain rfl := hv2.flat_eq rfl
  have hy : ∃ bb oo cc p, y1 = .slice (some ⟨bb, oo, none⟩) len cc ∧ len ≤ cc ∧ VRel ρ (.slice (some a) len len) (.slice (some ⟨bb, oo, none⟩) len len) ∧ p = (0 : Nat) := by
    cases hv1 with
    | flat h => simp [flat] at h
    | slice hp hn hu hk hv => exact ⟨_, _, _, 0, rfl, hn, VRel.slice hp (Nat.le_refl _) (fun h => by unfold UNK at h; omega) (fun _ => rfl) (by unfold VAG; omega), rfl⟩
    | vag => exact absurd hl0 (by omega)
  obtain ⟨bb, oo, cc, _, rfl, hcc, hvv, -⟩ := hy
  refine (Proofs.Ch.collect_in Fence.wide 9 (by omega) trivial trivial trivial rfl p1.blk p2.blk (p1.base + o1) (p2.base + o2) bb oo len cc 28 hl0 (by omega) (by decide) hcc w (hm.fresh _ _ e1) (hm.fresh _ _ e2) hy1 hy2).mono ?_
  rintro e w' ⟨v, rfl, hown, hb⟩
  obtain ⟨g, cap, rfl, hc, hg0, hg1'⟩ := own_form hown (by decide)
  obtain ⟨ρ', hρ, hp⟩ := post_news hm hfree m (colB a len) [⟨g, 0, cap, 1⟩] rfl hb (fun p hp => by
      obtain rfl := List.mem_singleton.1 hp
      exact ⟨hg0, hg1'⟩) (fun O hO => by
      obtain rfl := List.mem_singleton.1 hO; rfl) (fun ρ' hle hρ i p O hp hO => by
      match i, hp, hO with
      | 0, hp, hO =>
        injection hp with hp; injection hO with hO
        subst hp; subst hO
        exact (brel_own (B := B) (xs := [.slice (some a) len len]) hown (by decide) (LRel.cons (hvv.mono hle) (.nil ρ'))).1)
  exact ⟨ρ', _, rfl, VRel.slice (o := 0) (hρ 0 _ rfl) hc (fun _ => by show 0 + cap * 1 = cap; omega) (fun h => absurd rfl h) (by unfold UNK VAG; omega), hp⟩
end Go.Am.CS
namespace Go.Am.CS
open Go Go.Am Go.Am.V Go.RowKit
set_option maxRecDepth 100000
def i64L (ns : List Int) : List Value := ns.map (Value.int .i64)
def cpL : List (List Int) := [[0, 1, 2, 3], [0, 1, 2, 4], [0, 1, 3, 4], [0, 2, 3, 4], [1, 2, 3, 4]]
def sl4 (b : Nat) : Value := .slice (some ⟨b, 0, none⟩) 4 UNK
noncomputable def cpB (n : Nat) : List Blk := [.cells (i64L [0, 1, 2, 3]) 1 false false, .cells (i64L [0, 1, 2, 4]) 1 false false, .cells (i64L [0, 1, 3, 4]) 1 false false, .cells (i64L [0, 2, 3, 4]) 1 false false, .cells (i64L [1, 2, 3, 4]) 1 false false, .cells [sl4 n, sl4 (n + 1), sl4 (n + 2), sl4 (n + 3), sl4 (n + 4)] 1 false false]
noncomputable def cpI (m : FM) (n : Nat) : List Value → OR FM
  | [.int .i64 5, .int .i64 4] => .ok (.tuple #[.agg #[.int .i64 5, .slice (some ⟨n + 5, 0, none⟩) 5 UNK], .int .i64 0]) (layB (cpB n) n m) (n + 6) 0 (newW n 6)
  | _ => .no
noncomputable def cpA (f : Nat) (args : List Value) (m : FM) (n : Nat) : OR FM := cond (Nat.beq f 82) (cpI m n args) .no
theorem cpA_ok {f : Nat} {args : List Value} {m m' : FM} {n n' r wm : Nat} {v : Value} (h : cpA f args m n = .ok v m' n' r wm) :
    f = 82 ∧ args = [.int .i64 5, .int .i64 4] ∧ v = .tuple #[.agg #[.int .i64 5, .slice (some ⟨n + 5, 0, none⟩) 5 UNK], .int .i64 0] ∧ m' = layB (cpB n) n m ∧ n' = n + 6 ∧ r = 0 ∧ wm = newW n 6 := by
  unfold cpA at h
  cases hb : Nat.beq f 82
  · rw [hb] at h; cases h
  rw [hb, cond_true] at h
  refine ⟨Nat.eq_of_beq_eq_true hb, ?_⟩
  unfold cpI at h
  split at h
  · injection h with e1 e2 e3 e4 e5
    exact ⟨rfl, e1.symm, e2.symm, e3.symm, e4.symm, e5.symm⟩
  · cases h
theorem cpA_loc : CallLoc (μ := FM) cpA := fun f args m n v m' n' r wm h => by
  obtain ⟨_, _, _, rfl, rfl, _, rfl⟩ := cpA_ok h
  exact layB_loc _ _ _
theorem i64_rel (ρ : Ren) (l : List Int) : LRel ρ (i64L l) (l.map (Value.int .i64)) := ⟨rfl, fun i a b ha hb => by
  unfold i64L at ha
  rw [ha] at hb; injection hb with hb; subst hb
  rw [List.getElem?_map, Option.map_eq_some_iff] at ha
  obtain ⟨z, _, rfl⟩ := ha
  exact .int ρ _ _⟩
theorem combs : Proofs.St.combos (5 : Nat) 4 0 [] = cpL := by decide +kernel
theorem cpA_sim : CallSim (μ := FM) Proofs.Tryz.prog cpA := by
  intro f args m n v m' n' r wm h ρ V w B F args' hargs hF hag hm hfree
  obtain ⟨rfl, rfl, rfl, rfl, rfl, rfl, rfl⟩ := cpA_ok h
  clear h
  obtain rfl := args_flat hargs rfl
  refine ⟨⟨_, _, Proofs.Tryz.func82, by decide +kernel, rfl⟩, (callsIn_wide (n := 0)).1 ?_⟩
  refine (Proofs.St.complete_ok Fence.wide trivial trivial trivial trivial trivial rfl rfl 0 5 4 (by omega) (by omega) (by omega) (by omega) (by decide +kernel) (by rw [combs]; decide) w).mono ?_
  rintro e w' ⟨v, xs, rfl, hxs, hown, hrows, hb⟩
  rw [combs] at hxs
  have hl : xs.length = 5 := by rw [← List.length_map (f := Prod.snd), hxs]; rfl
  match xs, hl with
  | [⟨x0, y0⟩, ⟨x1, y1⟩, ⟨x2, y2⟩, ⟨x3, y3⟩, ⟨x4, y4⟩], _ =>
    simp only [List.map_cons, List.map_nil, cpL, List.cons.injEq, and_true] at hxs
    obtain ⟨rfl, rfl, rfl, rfl, rfl⟩ := hxs
    have r0 : w'.ownsRow w.heap.size 3 1 x0 4 (([0, 1, 2, 3] : List Int).map (Value.int .i64)) := (hrows (x0, [0, 1, 2, 3]) (by simp)).1
    have r1 : w'.ownsRow w.heap.size 3 1 x1 4 (([0, 1, 2, 4] : List Int).map (Value.int .i64)) := (hrows (x1, [0, 1, 2, 4]) (by simp)).1
    have r2 : w'.ownsRow w.heap.size 3 1 x2 4 (([0, 1, 3, 4] : List Int).map (Value.int .i64)) := (hrows (x2, [0, 1, 3, 4]) (by simp)).1
    have r3 : w'.ownsRow w.heap.size 3 1 x3 4 (([0, 2, 3, 4] : List Int).map (Value.int .i64)) := (hrows (x3, [0, 2, 3, 4]) (by simp)).1
    have r4 : w'.ownsRow w.heap.size 3 1 x4 4 (([1, 2, 3, 4] : List Int).map (Value.int .i64)) := (hrows (x4, [1, 2, 3, 4]) (by simp)).1
    clear hrows
    replace hown : w'.ownsRow w.heap.size 39 1 v 5 [x0, x1, x2, x3, x4] := hown
    obtain ⟨g0, cap0, rfl, hc0, ha0, hz0⟩ := own_form r0 (by decide)
    obtain ⟨g1, cap1, rfl, hc1, ha1, hz1⟩ := own_form r1 (by decide)
    obtain ⟨g2, cap2, rfl, hc2, ha2, hz2⟩ := own_form r2 (by decide)
    obtain ⟨g3, cap3, rfl, hc3, ha3, hz3⟩ := own_form r3 (by decide)
    obtain ⟨g4, cap4, rfl, hc4, ha4, hz4⟩ := own_form r4 (by decide)
    obtain ⟨g5, cap5, rfl, hc5, ha5, hz5⟩ := own_form hown (by decide)
    have hsl : ∀ (ρ' : Ren) (i g cap : Nat), ρ' i = some ⟨g, 0, cap, 1⟩ → 4 ≤ cap → VRel ρ' (sl4 i) (.slice (some ⟨g, 0, none⟩) 4 cap) := fun ρ' i g cap hp hc =>
      VRel.slice (o := 0) hp hc (fun _ => by show 0 + cap * 1 = cap; omega) (fun h => absurd rfl h) (by unfold UNK VAG; omega)
    obtain ⟨ρ', hρ, hp⟩ := post_news hm hfree m (cpB n) [⟨g0, 0, cap0, 1⟩, ⟨g1, 0, cap1, 1⟩, ⟨g2, 0, cap2, 1⟩, ⟨g3, 0, cap3, 1⟩, ⟨g4, 0, cap4, 1⟩, ⟨g5, 0, cap5, 1⟩] rfl hb (fun p hp => by
        simp only [List.mem_cons, List.not_mem_nil, or_false] at hp
        rcases hp with rfl | rfl | rfl | rfl | rfl | rfl
        · exact ⟨ha0, hz0⟩
        · exact ⟨ha1, hz1⟩
        · exact ⟨ha2, hz2⟩
        · exact ⟨ha3, hz3⟩
        · exact ⟨ha4, hz4⟩
        · exact ⟨ha5, hz5⟩) (fun O hO => by
        simp only [cpB, List.mem_cons, List.not_mem_nil, or_false] at hO
        rcases hO with rfl | rfl | rfl | rfl | rfl | rfl <;> rfl) (fun ρ' hle hρ i p O hp hO => by
        match i, hp, hO with
        | 0, hp, hO => injection hp with hp; injection hO with hO; subst hp; subst hO; exact (brel_own (B := B) r0 (by decide) (i64_rel ρ' _)).1
        | 1, hp, hO => injection hp with hp; injection hO with hO; subst hp; subst hO; exact (brel_own (B := B) r1 (by decide) (i64_rel ρ' _)).1
        | 2, hp, hO => injection hp with hp; injection hO with hO; subst hp; subst hO; exact (brel_own (B := B) r2 (by decide) (i64_rel ρ' _)).1
        | 3, hp, hO => injection hp with hp; injection hO with hO; subst hp; subst hO; exact (brel_own (B := B) r3 (by decide) (i64_rel ρ' _)).1
        | 4, hp, hO => injection hp with hp; injection hO with hO; subst hp; subst hO; exact (brel_own (B := B) r4 (by decide) (i64_rel ρ' _)).1
        | 5, hp, hO =>
          injection hp with hp; injection hO with hO; subst hp; subst hO
          exact (brel_own (B := B) hown (by decide) (LRel.cons (hsl ρ' n g0 cap0 (hρ 0 _ rfl) hc0) (LRel.cons (hsl ρ' _ g1 cap1 (hρ 1 _ rfl) hc1) (LRel.cons (hsl ρ' _ g2 cap2 (hρ 2 _ rfl) hc2) (LRel.cons (hsl ρ' _ g3 cap3 (hρ 3 _ rfl) hc3) (LRel.cons (hsl ρ' _ g4 cap4 (hρ 4 _ rfl) hc4) (.nil ρ'))))))).1)
    refine ⟨ρ', _, rfl, (LRel.cons (LRel.cons (.int ρ' _ _) (LRel.cons ?_ (.nil ρ'))).agg (LRel.cons (.int ρ' _ _) (.nil ρ'))).tuple, hp⟩
    exact VRel.slice (o := 0) (hρ 5 _ rfl) hc5 (fun _ => by show 0 + cap5 * 1 = cap5; omega) (fun h => absurd rfl h) (by unfold UNK VAG; omega)
end Go.Am.CS
namespace Go.Am.CS
open Go Go.Am Go.Am.V Go.RowKit
set_option maxRecDepth 1000000
noncomputable def Y0 : Nat → List Value → FM → Nat → OR FM := fun _ _ _ _ => .no
theorem mixS : Proofs.Tryz.prog.follows .mixedOrders = true := by kernel_rfl
theorem env0 : Env Proofs.Tryz.prog tab Y0 where
  mix := mixS
  good := good
  loc := fun f args m n v m' n' r wm h => by cases h
  sim := fun f args m n v m' n' r wm h => by cases h
def exZ (j : Nat) : Int := match j with | 0 => 1 | 1 => 2 | _ => 4
def zZ (x k : Nat) : Int := if k = 0 then (x : Int) + 1 else 0
def RZ (j p k : Nat) : Int := if k = 0 then (match p with | 0 => 0 | 1 => 2 | _ => match j with | 0 => 3 | 1 => 5 | _ => 9) else 0
def gaveI (x : OR FM) (z : Int) : Bool := match x with
  | .ok (.int .u8 y) _ _ _ _ => decide (y = z)
  | _ => false
theorem gaveI_eq {x : OR FM} {z : Int} (h : gaveI x z = true) : ∃ m n r w, x = .ok (.int .u8 z) m n r w := by
  unfold gaveI at h
  split at h
  · obtain rfl := of_decide_eq_true h
    exact ⟨_, _, _, _, rfl⟩
  · cases h
def gaveB (x : OR FM) (z : List Value) : Bool := match x with
  | .ok (.agg y) _ _ _ _ => veqL y.toList z
  | _ => false
theorem gaveB_eq {x : OR FM} {z : Array Value} (h : gaveB x z.toList = true) : ∃ m n r w, x = .ok (.agg z) m n r w := by
  unfold gaveB at h
  split at h
  · rename_i y _ _ _ _
    have := veqL_eq h
    rw [show y = z from Array.ext' this]
    exact ⟨_, _, _, _, rfl⟩
  · cases h
theorem e0 : gaveI (callA (look tab) Y0 (exec PG (look tab) Y0 300) 75 [.int .i64 0] FM0 0) (exZ 0) = true := by kernel_rfl
theorem e1 : gaveI (callA (look tab) Y0 (exec PG (look tab) Y0 300) 75 [.int .i64 1] FM0 0) (exZ 1) = true := by kernel_rfl
theorem e2 : gaveI (callA (look tab) Y0 (exec PG (look tab) Y0 300) 75 [.int .i64 2] FM0 0) (exZ 2) = true := by kernel_rfl
def blC (f : Nat → Int) : Array Value := #[.int .u8 (f 0), .int .u8 (f 1), .int .u8 (f 2), .int .u8 (f 3), .int .u8 (f 4), .int .u8 (f 5), .int .u8 (f 6), .int .u8 (f 7)]
theorem b00 : gaveB (callA (look tab) Y0 (exec PG (look tab) Y0 300) 74 [.agg (blC (zZ 1)), .agg (blC (RZ 0 0)), .int .u8 (exZ 0)] FM0 0) (blC (RZ 0 1)).toList = true := by kernel_rfl
theorem b01 : gaveB (callA (look tab) Y0 (exec PG (look tab) Y0 300) 74 [.agg (blC (zZ 0)), .agg (blC (RZ 0 1)), .int .u8 (exZ 0)] FM0 0) (blC (RZ 0 2)).toList = true := by kernel_rfl
theorem b10 : gaveB (callA (look tab) Y0 (exec PG (look tab) Y0 300) 74 [.agg (blC (zZ 1)), .agg (blC (RZ 1 0)), .int .u8 (exZ 1)] FM0 0) (blC (RZ 1 1)).toList = true := by kernel_rfl
theorem b11 : gaveB (callA (look tab) Y0 (exec PG (look tab) Y0 300) 74 [.agg (blC (zZ 0)), .agg (blC (RZ 1 1)), .int .u8 (exZ 1)] FM0 0) (blC (RZ 1 2)).toList = true := by kernel_rfl
theorem b20 : gaveB (callA (look tab) Y0 (exec PG (look tab) Y0 300) 74 [.agg (blC (zZ 1)), .agg (blC (RZ 2 0)), .int .u8 (exZ 2)] FM0 0) (blC (RZ 2 1)).toList = true := by kernel_rfl
theorem b21 : gaveB (callA (look tab) Y0 (exec PG (look tab) Y0 300) 74 [.agg (blC (zZ 0)), .agg (blC (RZ 2 1)), .int .u8 (exZ 2)] FM0 0) (blC (RZ 2 2)).toList = true := by kernel_rfl
theorem c75 (w : World) (hgl : Glob w.heap.size w) (j : Nat) (hj : j < 3) : Calls Proofs.Tryz.prog 75 #[.int .i64 (j : Int)] w fun e w' => e = .returned (.int .u8 (exZ j)) ∧ Below w.heap.size w w' := by
  have hv : ∀ (x : Int) (ρ : Ren) (y : Value), VRel ρ (.int .u8 x) y → y = .int .u8 x := fun x ρ y h => h.flat_eq rfl
  match j, hj with
  | 0, _ => obtain ⟨m, n, r, wm, h⟩ := gaveI_eq e0; exact Env.topX env0 rfl (hv _) h w hgl
  | 1, _ => obtain ⟨m, n, r, wm, h⟩ := gaveI_eq e1; exact Env.topX env0 rfl (hv _) h w hgl
  | 2, _ => obtain ⟨m, n, r, wm, h⟩ := gaveI_eq e2; exact Env.topX env0 rfl (hv _) h w hgl
theorem bl_eq (f : Nat → Int) : Proofs.Bb.bl f = .agg (blC f) := rfl
theorem blC_flat (f : Nat → Int) : (blC f).toList.all flat = true := rfl
theorem c74 (w : World) (hgl : Glob w.heap.size w) (j p : Nat) (hj : j < 3) (hp : p < 2) : Calls Proofs.Tryz.prog 74 #[Proofs.Bb.bl (zZ (2 - 1 - p)), Proofs.Bb.bl (RZ j p), .int .u8 (exZ j)] w fun e w' => e = .returned (Proofs.Bb.bl (RZ j (p + 1))) ∧ Below w.heap.size w w' := by
  have hv : ∀ (f : Nat → Int) (ρ : Ren) (y : Value), VRel ρ (.agg (blC f)) y → y = .agg (blC f) := fun f ρ y h => agg_same (blC_flat f) h
  simp only [bl_eq]
  match j, hj, p, hp with
  | 0, _, 0, _ => obtain ⟨m, n, r, wm, h⟩ := gaveB_eq b00; exact Env.topX env0 rfl (hv _) h w hgl
  | 0, _, 1, _ => obtain ⟨m, n, r, wm, h⟩ := gaveB_eq b01; exact Env.topX env0 rfl (hv _) h w hgl
  | 1, _, 0, _ => obtain ⟨m, n, r, wm, h⟩ := gaveB_eq b10; exact Env.topX env0 rfl (hv _) h w hgl
  | 1, _, 1, _ => obtain ⟨m, n, r, wm, h⟩ := gaveB_eq b11; exact Env.topX env0 rfl (hv _) h w hgl
  | 2, _, 0, _ => obtain ⟨m, n, r, wm, h⟩ := gaveB_eq b20; exact Env.topX env0 rfl (hv _) h w hgl
  | 2, _, 1, _ => obtain ⟨m, n, r, wm, h⟩ := gaveB_eq b21; exact Env.topX env0 rfl (hv _) h w hgl
def u8L (ns : List Int) : List Value := ns.map (Value.int .u8)
def inZ : List Value := u8L [1, 0, 0, 0, 0, 0, 0, 0, 2, 0, 0, 0, 0, 0, 0, 0]
def outZ : List Value := u8L [3, 0, 0, 0, 0, 0, 0, 0, 5, 0, 0, 0, 0, 0, 0, 0, 9, 0, 0, 0, 0, 0, 0, 0]
noncomputable def encR (m : FM) (n : Nat) : Option (List Value × Nat) → OR FM
  | some (c, r) => cond (veqL c inZ) (.ok (.tuple #[.slice (some ⟨n, 0, none⟩) 3 UNK, .int .i64 0]) (layB [.cells outZ 8 false false] n m) (n + 1) r (newW n 1)) .no
  | none => .no
noncomputable def encI (m : FM) (n : Nat) : List Value → OR FM
  | [s] => encR m n (shown m n 8 s)
  | _ => .no
noncomputable def encA (f : Nat) (args : List Value) (m : FM) (n : Nat) : OR FM := cond (Nat.beq f 38) (encI m n args) .no
theorem encA_ok {f : Nat} {args : List Value} {m m' : FM} {n n' r wm : Nat} {v : Value} (h : encA f args m n = .ok v m' n' r wm) :
    f = 38 ∧ ∃ s, args = [s] ∧ shown m n 8 s = some (inZ, r) ∧ v = .tuple #[.slice (some ⟨n, 0, none⟩) 3 UNK, .int .i64 0] ∧ m' = layB [.cells outZ 8 false false] n m ∧ n' = n + 1 ∧ wm = newW n 1 := by
  unfold encA at h
  cases hb : Nat.beq f 38
  · rw [hb] at h; cases h
  rw [hb, cond_true] at h
  refine ⟨Nat.eq_of_beq_eq_true hb, ?_⟩
  unfold encI at h
  split at h
  · rename_i s
    unfold encR at h
    split at h
    · rename_i c r' hs
      cases hc : veqL c inZ
      · rw [hc] at h; cases h
      · rw [hc, cond_true] at h
        injection h with e1 e2 e3 e4 e5
        exact ⟨s, rfl, by rw [hs, veqL_eq hc, e4], e1.symm, e2.symm, e3.symm, e5.symm⟩
    · cases h
  · cases h
theorem encA_loc : CallLoc (μ := FM) encA := fun f args m n v m' n' r wm h => by
  obtain ⟨_, s, _, _, _, rfl, rfl, rfl⟩ := encA_ok h
  exact layB_loc _ _ _
theorem outZ_at : ∀ i, i < 24 → outZ[i]? = some (.int .u8 (Proofs.Bb.M RZ 3 0 (i / 8) (i % 8))) := by
  intro i hi
  match i, hi with
  | 0, _ => rfl
  | 1, _ => rfl
  | 2, _ => rfl
  | 3, _ => rfl
  | 4, _ => rfl
  | 5, _ => rfl
  | 6, _ => rfl
  | 7, _ => rfl
  | 8, _ => rfl
  | 9, _ => rfl
  | 10, _ => rfl
  | 11, _ => rfl
  | 12, _ => rfl
  | 13, _ => rfl
  | 14, _ => rfl
  | 15, _ => rfl
  | 16, _ => rfl
  | 17, _ => rfl
  | 18, _ => rfl
  | 19, _ => rfl
  | 20, _ => rfl
  | 21, _ => rfl
  | 22, _ => rfl
  | 23, _ => rfl
  | n + 24, h => exact absurd h (by omega)
theorem inZ_at (j k : Nat) (hj : j < 2) (hk : k < 8) : inZ[j * 8 + k]? = some (.int .u8 (zZ j k)) := by
  match j, hj, k, hk with
  | 0, _, 0, _ => rfl
  | 0, _, 1, _ => rfl
  | 0, _, 2, _ => rfl
  | 0, _, 3, _ => rfl
  | 0, _, 4, _ => rfl
  | 0, _, 5, _ => rfl
  | 0, _, 6, _ => rfl
  | 0, _, 7, _ => rfl
  | 1, _, 0, _ => rfl
  | 1, _, 1, _ => rfl
  | 1, _, 2, _ => rfl
  | 1, _, 3, _ => rfl
  | 1, _, 4, _ => rfl
  | 1, _, 5, _ => rfl
  | 1, _, 6, _ => rfl
  | 1, _, 7, _ => rfl
theorem encA_sim : CallSim (μ := FM) Proofs.Tryz.prog encA := by
  intro f args m n v m' n' r wm h ρ V w B F args' hargs hF hag hm hfree
  obtain ⟨rfl, s, rfl, hs, rfl, rfl, rfl, rfl⟩ := encA_ok h
  clear h
  obtain ⟨x1, rfl, hr1⟩ := one_arg hargs
  refine ⟨⟨_, _, Proofs.Tryz.func38, by decide +kernel, rfl⟩, (callsIn_wide (n := 9)).1 ?_⟩
  rcases shown_at hm hr1 hs hag (Sub.trans (Sub.left _ _) hF) with ⟨a, c', _, hnil⟩ | ⟨b, o, len, c', rfl, hb, hlen, hc⟩
  · cases hnil
  obtain rfl : len = 2 := by
    have : inZ.length = 16 := rfl
    omega
  have hcells : Proofs.Bb.Cells b o 2 zZ w := fun j hj k hk => by
    obtain ⟨y, hy, hr⟩ := hc (j * 8 + k) _ (inZ_at j k hj hk)
    rw [Nat.add_assoc, hy, hr.flat_eq rfl]
  have hgl : ∀ W, Below w.heap.size w W → Glob W.heap.size W := fun W hW => (hm.gl.mono (hW.mono hm.le)).up (Nat.le_trans hm.le hW.size)
  refine (Proofs.Bb.enc_in Fence.wide rfl 9 (by omega) trivial trivial trivial rfl b o c' zZ RZ exZ (fun i k => by unfold RZ; simp) w hb hcells trivial trivial
    (fun m W j hj hW => callsIn_wide.2 (c75 W (hgl W hW) j hj)) (fun m W j p hj hp hW => callsIn_wide.2 (c74 W (hgl W hW) j p hj hp))).mono ?_
  rintro e w' ⟨rfl, hE⟩
  obtain ⟨⟨cur, hcur, hsz⟩, hcl, _, hbl, hsize⟩ := hE
  obtain ⟨ρ', hρ, hp⟩ := post_news hm hfree m [.cells outZ 8 false false] [⟨w.heap.size, 0, 24, 8⟩] rfl hbl (fun p hp => by
      obtain rfl := List.mem_singleton.1 hp
      exact ⟨Nat.le_refl _, show w.heap.size < _ by omega⟩) (fun O hO => by
      obtain rfl := List.mem_singleton.1 hO; rfl) (fun ρ' hle hρ i p O hp hO => by
      match i, hp, hO with
      | 0, hp, hO =>
        injection hp with hp; injection hO with hO
        subst hp; subst hO
        refine ⟨rfl, cur, _, _, hcur, fun i x hx => ?_, (fun h => by cases h), (fun h => by cases h), by show 0 + outZ.length ≤ _; rw [hsz]; decide⟩
        have hi : i < 24 := (List.getElem?_eq_some_iff.1 hx).1
        rw [outZ_at i hi] at hx
        injection hx with hx
        subst hx
        refine ⟨.int .u8 (Proofs.Bb.M RZ 3 0 (i / 8) (i % 8)), ?_, .int _ _ _⟩
        have := hcl (i / 8) (by omega) (i % 8) (by omega)
        simp only [World.cell?, hcur] at this
        rw [show 0 + i / 8 * 8 + i % 8 = 0 + i by omega] at this
        exact this)
  refine ⟨ρ', _, rfl, (LRel.cons (VRel.slice (o := 0) (hρ 0 _ rfl) (Nat.le_refl _) (fun _ => rfl) (fun h => absurd rfl h) (by unfold UNK VAG; omega)) (LRel.cons (.int ρ' _ _) (.nil ρ'))).tuple, hp⟩
end Go.Am.CS
namespace Go.Am.CS
open Go Go.Am Go.Am.V Go.RowKit
set_option maxRecDepth 1000000
noncomputable def yS : Nat → List Value → FM → Nat → OR FM := altA encA (altA cpA (altA colA chkA))
theorem envS : Env Proofs.Tryz.prog tab yS where
  mix := mixS
  good := good
  loc := alt_loc encA_loc (alt_loc cpA_loc (alt_loc colA_loc chkA_loc))
  sim := alt_sim encA_sim (alt_sim cpA_sim (alt_sim colA_sim chkA_sim))
theorem run4 : gaveTA (callA (look tab) yS (exec PG (look tab) yS 4000) 4 [] FM0 0) = true := by kernel_rfl
theorem awake_calls (w : World) (hgl : Glob w.heap.size w) : Calls Proofs.Tryz.prog 4 #[] w fun e w' => e = .returned (.bool true) ∧ Below w.heap.size w w' := envS.lawA (free_args (args := []) rfl) run4 w hgl
noncomputable def awA (f : Nat) (args : List Value) (m : FM) (n : Nat) : OR FM := cond (Nat.beq f 4) (match args with | [] => .ok (.bool true) m n 0 0 | _ => .no) .no
theorem awA_ok {f : Nat} {args : List Value} {m m' : FM} {n n' r wm : Nat} {v : Value} (h : awA f args m n = .ok v m' n' r wm) : f = 4 ∧ args = [] ∧ v = .bool true ∧ m' = m ∧ n' = n ∧ r = 0 ∧ wm = 0 := by
  unfold awA at h
  cases hb : Nat.beq f 4
  · rw [hb] at h; cases h
  rw [hb, cond_true] at h
  refine ⟨Nat.eq_of_beq_eq_true hb, ?_⟩
  split at h
  · injection h with e1 e2 e3 e4 e5
    exact ⟨rfl, e1.symm, e2.symm, e3.symm, e4.symm, e5.symm⟩
  · cases h
theorem awA_loc : CallLoc (μ := FM) awA := fun f args m n v m' n' r wm h => by
  obtain ⟨_, _, _, rfl, rfl, _, rfl⟩ := awA_ok h
  exact Loc.refl _ _
theorem awA_sim : CallSim (μ := FM) Proofs.Tryz.prog awA := by
  intro f args m n v m' n' r wm h ρ V w B F args' hargs hF hag hm hfree
  obtain ⟨rfl, rfl, rfl, rfl, rfl, rfl, rfl⟩ := awA_ok h
  obtain rfl := args_flat hargs rfl
  refine ⟨⟨_, _, Proofs.Tryz.func4, by decide +kernel, rfl⟩, (awake_calls w (hm.gl.up hm.le)).mono ?_⟩
  rintro e w' ⟨rfl, hb⟩
  exact ⟨ρ, _, rfl, .flat rfl, Post.of_below hm hb⟩
end Go.Am.CS
namespace Go.Am.CS
open Go Go.Am Go.Am.V Go.RowKit
set_option maxRecDepth 1000000
theorem Good.filter {P : Program} {l : List (Nat × AFn)} (p : Nat × AFn → Bool) (h : Good P l) : Good P (l.filter p) := by
  induction h with
  | nil => exact .nil
  | @cons f fn af l h hc hl ih =>
    rw [List.filter_cons]
    split
    · exact .cons h hc ih
    · exact ih
noncomputable def tabB : List (Nat × AFn) := tab.filter fun p => !Nat.beq p.1 4
theorem envB : Env Proofs.Tryz.prog tabB awA where
  mix := mixS
  good := Good.filter _ good
  loc := awA_loc
  sim := awA_sim
theorem upB : YUp awA := fun f args m n v m' n' r wm h => by
  obtain ⟨_, _, _, rfl, rfl, rfl, rfl⟩ := awA_ok h
  exact ⟨Nat.le_refl _, fun b hb => ⟨by simp, by simp⟩⟩
theorem awake_pure (m : FM) (n : Nat) : Pure (callW PG (look tabB) awA 4 [] m n) m n (.bool true) := by
  have h4 : look tabB 4 = none := by kernel_rfl
  unfold callW callA
  rw [h4]
  exact ⟨0, rfl⟩
end Go.Am.CS
namespace Go.Am.CS
open Go Go.Am Go.Am.V Go.RowKit
set_option maxRecDepth 1000000
theorem geoB {T O : Nat} (g : GOk T O) : Geo (look tabB) awA T O := ⟨g, by kernel_rfl, fun m n => gvalid_spec (by kernel_rfl) (by kernel_rfl) m n g⟩
theorem fn1B {T O : Nat} (g : GOk T O) : Fn1 (look tabB) awA T O where
  G := geoB g
  e50 := by kernel_rfl
  e54 := by kernel_rfl
  e61 := by kernel_rfl
  e62 := by kernel_rfl
  e63 := by kernel_rfl
  e64 := by kernel_rfl
  e72 := by kernel_rfl
  e95 := by kernel_rfl
  e96 := by kernel_rfl
  e97 := by kernel_rfl
  e98 := by kernel_rfl
  e135 := by kernel_rfl
  e136 := by kernel_rfl
theorem fn2B {T O : Nat} (g : GOk T O) : Fn2 (look tabB) awA T O where
  toFn1 := fn1B g
  up := upB
  e10 := by kernel_rfl
  e13 := by kernel_rfl
  e23 := by kernel_rfl
  e25 := by kernel_rfl
  e26 := by kernel_rfl
  e27 := by kernel_rfl
  e28 := by kernel_rfl
  e29 := by kernel_rfl
  e30 := by kernel_rfl
  e36 := by kernel_rfl
  e37 := by kernel_rfl
  e55 := by kernel_rfl
  e56 := by kernel_rfl
  e57 := by kernel_rfl
  e58 := by kernel_rfl
  e59 := by kernel_rfl
  e60 := by kernel_rfl
  e65 := by kernel_rfl
theorem fn3B {T O : Nat} (g : GOk T O) : Fn3 (look tabB) awA T O where
  toFn2 := fn2B g
  e21 := by kernel_rfl
  e32 := by kernel_rfl
  e33 := by kernel_rfl
  e34 := by kernel_rfl
  e31 := by kernel_rfl
  e35 := by kernel_rfl
  e53 := by kernel_rfl
  e66 := by kernel_rfl
  e67 := by kernel_rfl
  e68 := by kernel_rfl
  e69 := by kernel_rfl
  e70 := by kernel_rfl
  e71 := by kernel_rfl
  e92 := by kernel_rfl
  e99 := by kernel_rfl
  e100 := by kernel_rfl
  e101 := by kernel_rfl
  e103 := by kernel_rfl
  e104 := by kernel_rfl
  e105 := by kernel_rfl
  e106 := by kernel_rfl
  e107 := by kernel_rfl
  e108 := by kernel_rfl
  e109 := by kernel_rfl
  e110 := by kernel_rfl
  e111 := by kernel_rfl
  e112 := by kernel_rfl
  e113 := by kernel_rfl
  e114 := by kernel_rfl
  e115 := by kernel_rfl
  e116 := by kernel_rfl
  e134 := by kernel_rfl
  e137 := by kernel_rfl
  e138 := by kernel_rfl
  e139 := by kernel_rfl
  e140 := by kernel_rfl
  e141 := by kernel_rfl
  e142 := by kernel_rfl
  e143 := by kernel_rfl
  e144 := by kernel_rfl
  e145 := by kernel_rfl
  e146 := by kernel_rfl
  e147 := by kernel_rfl
  e148 := by kernel_rfl
  e168 := by kernel_rfl
  e169 := by kernel_rfl
  e170 := by kernel_rfl
  e171 := by kernel_rfl
  e173 := by kernel_rfl
  e174 := by kernel_rfl
  e175 := by kernel_rfl
  e184 := by kernel_rfl
  e185 := by kernel_rfl
  e192 := by kernel_rfl
theorem fnNB : FnN (look tabB) where
  e6 := by kernel_rfl
  e7 := by kernel_rfl
  e16 := by kernel_rfl
  e17 := by kernel_rfl
  e18 := by kernel_rfl
  e19 := by kernel_rfl
  e49 := by kernel_rfl
  e50 := by kernel_rfl
  e52 := by kernel_rfl
  e54 := by kernel_rfl
  e94 := by kernel_rfl
theorem cellsAt_of {c l : List Value} {o : Nat} (h : ∀ (i : Nat) x, l[i]? = some x → c[o + i]? = some x) (hl : 0 < l.length) : cellsAt c o (l.length * 1) = some l := by
  rw [Nat.mul_one]
  have hlen : o + l.length ≤ c.length := by
    have := h (l.length - 1) l[l.length - 1] (List.getElem?_eq_getElem (by omega))
    have := (List.getElem?_eq_some_iff.1 this).1
    omega
  show ctake (ldrop c o) l.length = some l
  rw [ldrop_eq, ctake_eq, if_pos (by rw [List.length_drop]; omega)]
  congr 1
  apply List.ext_getElem?
  intro i
  rw [List.getElem?_take]
  by_cases hi : i < l.length
  · rw [if_pos hi, List.getElem?_drop, h i _ (List.getElem?_eq_getElem hi), List.getElem?_eq_getElem hi]
  · rw [if_neg hi, List.getElem?_eq_none (by omega)]
theorem law_pure (m : FM) (n : Nat) (v : Value) (bs : List Nat) (hv : Sl m n v (n8s bs)) (hb : ∀ x ∈ bs, x < 256) {ov tr : Nat} (ho : ov < 256) (ht : tr < 256) : Pure (callW PG (look tabB) awA 3 [v, .int .u8 (ov : Int), .int .u8 (tr : Int)] m n) m n (.bool true) := by
  have hlen : lenV false v = some (.int .i64 (bs.length : Int)) := by
    have := hv.len
    rwa [show (n8s bs).length = bs.length by simp [n8s]] at this
  have hone : Am.one v = true := by
    rcases hv with ⟨rfl, _⟩ | ⟨b, o, cap, c, opn, wr, rfl, _⟩ | ⟨rfl, _⟩ <;> rfl
  by_cases hl : bs.length ≤ 120
  · refine law_spec (T := tr % 4 + 1) (O := ov % 4) (by kernel_rfl) (fn3B ⟨by omega, by omega, by omega⟩) fnNB awake_pure (by kernel_rfl) (by kernel_rfl) (by kernel_rfl) (by kernel_rfl) (by kernel_rfl) (by kernel_rfl) (by kernel_rfl) (by kernel_rfl) ?_ hb rfl rfl ho ht hl
    by_cases h0 : bs = []
    · subst h0
      exact .inl ⟨rfl, hlen, hone⟩
    · have hp : 0 < bs.length := List.length_pos_iff.2 h0
      rcases hv with ⟨_, h⟩ | ⟨b, o, cap, c, opn, wr, rfl, hbn, hm, hc⟩ | ⟨_, h, _⟩
      · exact absurd (List.map_eq_nil_iff.1 h) h0
      · refine .inr ⟨b, o, cap, c, opn, wr, by simp [n8s], hbn, hm, ?_, hp⟩
        have := cellsAt_of hc (by simpa [n8s] using hp)
        simpa [n8s] using this
      · exact absurd (List.map_eq_nil_iff.1 h) h0
  · exact law_long (by kernel_rfl) awake_pure m n hlen hone (by omega) _ _
theorem n8s_flat (bs : List Nat) : ∀ x ∈ n8s bs, flat x = true := fun x hx => by
  obtain ⟨b, _, rfl⟩ := List.mem_map.1 hx; rfl
theorem wholeShingles_calls (w : World) (hgl : Glob w.heap.size w) (sv : Value) (bs : List Nat) (h : ValsW w sv (n8s bs)) (hb : ∀ x ∈ bs, x < 256) {ov tr : Nat} (ho : ov < 256) (ht : tr < 256) :
    Calls Proofs.Tryz.prog 3 #[sv, .int .u8 (ov : Int), .int .u8 (tr : Int)] w fun e w' => e = .returned (.bool true) ∧ Below w.heap.size w w' := by
  obtain ⟨o, v, k1, k2, k3⟩ := vals_ent h (n8s_flat bs) 0
  have at0 : ∀ (i : Nat) e, [o][i]? = some (some e) → i = 0 ∧ o = some e := fun i e he => by
    match i, he with
    | 0, he => injection he with he; exact ⟨rfl, he⟩
    | i + 1, he => simp at he
  have hren : ∀ e, o = some e → entRen [o] 0 = some e.p := fun e he => by subst he; rfl
  have hmem : ∀ e, o = some e → entMem [o] 0 = some (.cells e.cs e.p.sz false false) := fun e he => by subst he; rfl
  obtain ⟨hm, hf⟩ := ent_world (w := w) (L := [o]) hgl fun i e he => k2 _ e (at0 i e he).2
  obtain ⟨r, hrun⟩ := law_pure (entMem [o]) [o].length v bs (k3 _ _ (Nat.lt_succ_self 0) hmem) hb ho ht
  exact Go.Am.Env.topW envB (args' := #[sv, .int .u8 (ov : Int), .int .u8 (tr : Int)]) hrun (.cons (k1 _ hren) (.cons (.flat rfl) (.cons (.flat rfl) (.nil _)))) hm hf
end Go.Am.CS
namespace Go.Am.CS
open Go Go.Am Go.Am.V Go.RowKit Go.ChangeShapes Go.WideShapes Go.ChangeAt
set_option maxRecDepth 1000000
theorem returns_listed {H : Type} {enc : TypeId × Value → H} {a : Assume} {C : Checked} {os : Os} {f : FuncId} {fn : Func} {s : ChangeSpec} {conds : List PathCond} {apart fresh handsOn again : Bool} {X : World → Array Value → Prop}
    (hX : ∀ (w w' : World) (args : Array Value), w.heap = w'.heap → X w args → X w' args)
    (own : ownKnob C.prog.godebug = none) (started : os.Started) (noInit : C.prog.inits.idxOf? f = none) (hfn : C.prog.funcs[f]? = some fn)
    (witness : ∃ (w : World) (tape : Tape) (i : Input), w.os = os ∧ (w.forCall tape i).Shaped C.prog ∧ i.vars = [] ∧ Input.okWide C.prog (w.forCall tape i) .any w.heap.size f i ∧
      ((s.pre enc C.prog fn conds apart (w.forCall tape i).memory i.args ∧ X (w.forCall tape i).memory i.args) ∧ sizedMet enc C.prog fn (OpenSpec.ofChange s) apart (w.forCall tape i).memory i.args) ∧ a.holds C.prog (lone (Frame.enter C.prog f i.args .normal) [] (w.forCall tape i)))
    (contract : ∀ (W : World) (args : Array Value) (base : Nat) (ds gs : List (DataW H)) (before : List MemPlace),
      (∀ (j : Nat) t v, fn.params[j]? = some t → args[j]? = some v → Value.okWide C.prog W .any base t v) →
      DataW.Whole enc C.prog fn.params.toList s.vars apart W args.toList ds gs before →
      (DataW.weightsEach C.prog (fn.params.toList ++ s.plain.varTypes C.prog) (ds ++ gs)).all (· ≤ reachBytes) = true → X W args → W.ShapedOpen C.prog →
      Calls C.prog f args W fun e W' => ∃ v, e = .returned v ∧ s.post enc C.prog fn apart fresh handsOn again W args v W') :
    ReturnsInHanded a C os f .any (fun w args => (s.pre enc C.prog fn conds apart w args ∧ X w args) ∧ sizedMet enc C.prog fn (OpenSpec.ofChange s) apart w args) (s.post enc C.prog fn apart fresh handsOn again) := by
  refine returnsInHanded_of_calls own started noInit witness ?_
  intro w tape i _ hsh _ hok hpre hholds
  obtain ⟨_, _, _, fn', hfn', _, _, _, _, hval⟩ := hok
  have e : fn' = fn := Option.some.inj (hfn'.symm.trans hfn)
  subst e
  obtain ⟨⟨⟨ds, gs, before, hw, hc⟩, hx⟩, hz⟩ := hpre
  have hw' := DataW.Whole.of_heap (w' := w.forCall tape i) (by rfl) hw
  refine (contract (w.forCall tape i) i.args w.heap.size ds gs before hval hw' (hz.weights hw) (hX _ _ _ (by rfl) hx) hsh).mono fun e W' ⟨v, he, hp⟩ => ?_
  subst he
  exact ChangeSpec.post_blind hp
theorem u3 : PG.underlying 3 = some (.int .i64) := by kernel_rfl
theorem u5 : PG.underlying 5 = some (.int .u8) := by kernel_rfl
theorem u22 : PG.underlying 22 = some (.slice 5) := by kernel_rfl
theorem ce3 : PG.cellsOf 3 = 1 := by kernel_rfl
theorem ce5 : PG.cellsOf 5 = 1 := by kernel_rfl
theorem c25 : PG.cellsOf 25 = 5 := by kernel_rfl
theorem l25 : (PG.fieldsOf 25).toList.map (fun f => (f.offset, f.type)) = [(0, 3), (1, 3), (2, 3), (3, 3), (4, 3)] := by kernel_rfl
theorem u25 : PG.underlying 25 = some (.struct (PG.fieldsOf 25)) := by kernel_rfl
theorem small_is {w : World} {l : List (String × DataW Unit)} (h : laidMet PG l w) (hm : ("tegula/tegulatop.small", Go.Proofs.YtkdbakhcpciacaaGreatDoor.Rows.laid_tegula_tegulatop_small) ∈ l) :
    ∃ (cc : Array Value) (t : TypeId) (fz : Nat × Nat), w.heap[0]? = some (.cells cc t fz) ∧ cc.toList = [.int .i64 60, .int .i64 5, .int .i64 2, .int .i64 3, .int .i64 1] := by
  obtain ⟨g, t, cs, fuel, p, h1, h2, h3, h4⟩ := Lib.laidMet.reads h hm
  obtain rfl : g = 0 := Option.some.inj (h1.symm.trans (by kernel_rfl))
  obtain rfl : t = 25 := Option.some.inj (h2.symm.trans (by kernel_rfl))
  obtain ⟨xs, n, _, hx, hl, hn, hall⟩ := DataW.trod_struct u25 h4
  rw [c25] at hl
  have fld : ∀ (i off : Nat), [(0, 3), (1, 3), (2, 3), (3, 3), (4, 3)][i]? = some (off, 3) → ∃ y, xs[i]? = some y ∧ DataW.trod _ PG w _ _ _ n 3 ((cs.toList.drop off).take 1) = some y := fun i off hi => by
    rw [← l25, List.getElem?_map] at hi
    cases hf : (PG.fieldsOf 25).toList[i]? with
    | none => rw [hf] at hi; cases hi
    | some f =>
      rw [hf] at hi
      injection hi with hi; injection hi with e1 e2
      have hf' : (PG.fieldsOf 25)[i]? = some f := by simpa using hf
      have hi9 : i < xs.length := by rw [hn]; exact (Array.getElem?_eq_some_iff.1 hf').1
      have := hall i f hf'
      rw [e2, ce3, e1] at this
      exact ⟨xs[i], List.getElem?_eq_getElem hi9, by rw [this, List.getElem?_eq_getElem hi9]⟩
  obtain ⟨y0, i0, q0⟩ := fld 0 0 rfl
  obtain ⟨y1, i1, q1⟩ := fld 1 1 rfl
  obtain ⟨y2, i2, q2⟩ := fld 2 2 rfl
  obtain ⟨y3, i3, q3⟩ := fld 3 3 rfl
  obtain ⟨y4, i4, q4⟩ := fld 4 4 rfl
  obtain ⟨z0, k0, d0, _⟩ := DataW.trod_int u3 q0
  obtain ⟨z1, k1, d1, _⟩ := DataW.trod_int u3 q1
  obtain ⟨z2, k2, d2, _⟩ := DataW.trod_int u3 q2
  obtain ⟨z3, k3, d3, _⟩ := DataW.trod_int u3 q3
  obtain ⟨z4, k4, d4, _⟩ := DataW.trod_int u3 q4
  have hxs : xs = [y0, y1, y2, y3, y4] := by
    have hl5 : xs.length = 5 := by rw [hn]; kernel_rfl
    match xs, hl5 with
    | [a0, a1, a2, a3, a4], _ =>
      injection i0 with i0; injection i1 with i1; injection i2 with i2; injection i3 with i3; injection i4 with i4
      rw [i0, i1, i2, i3, i4]
  subst hxs
  injection hx with hx1 hx2
  simp only [Go.Proofs.YtkdbakhcpciacaaGreatDoor.Rows.laid_tegula_tegulatop_small, d0, d1, d2, d3, d4, List.map_cons, List.map_nil, DataW.agg.injEq, List.cons.injEq, DataW.lit.injEq, Lit.int.injEq, true_and, and_true] at hx1
  obtain ⟨rfl, rfl, rfl, rfl, rfl⟩ := hx1
  have hcs : cs.toList = [.int .i64 60, .int .i64 5, .int .i64 2, .int .i64 3, .int .i64 1] := by
    obtain ⟨cs⟩ := cs
    replace hl : cs.length = 5 := hl
    match cs, hl with
    | [a0, a1, a2, a3, a4], _ =>
      injection k0 with k0; injection k1 with k1; injection k2 with k2; injection k3 with k3; injection k4 with k4
      rw [k0, k1, k2, k3, k4]
  unfold World.var? at h3
  rw [h1] at h3
  replace h3 : (match (w.heap[(0 : Nat)]? : Option Obj) with | some (.cells cs _ _) => some cs | _ => none) = some cs := h3
  split at h3
  · rename_i c t fz hc
    injection h3 with h3
    exact ⟨c, t, fz, hc, by rw [← hcs, ← h3]⟩
  · cases h3
theorem glob_of {w : World} {l : List (String × DataW Unit)} (h : laidMet PG l w) (hm : ("tegula/tegulatop.small", Go.Proofs.YtkdbakhcpciacaaGreatDoor.Rows.laid_tegula_tegulatop_small) ∈ l) : Glob w.heap.size w := fun w' hb p hp i x hx => by
  obtain ⟨cc, t, fz, hc, hl⟩ := small_is h hm
  obtain rfl := List.mem_singleton.1 hp
  have h0 : w'.heap[0]? = some (.cells cc t fz) := (hb.block 0 (Array.getElem?_eq_some_iff.1 hc).1).trans hc
  simp only [World.cell?, h0]
  rw [← Array.getElem?_toList, hl]
  exact hx
theorem open_bytes {H : Type} {enc : TypeId × Value → H} {W : World} {base : Nat} {v : Value} {d : DataW H} {ps : List MemPlace} (h : ∃ fuel, DataW.trod enc PG W 0 (fun _ => true) true fuel 22 [v] = some (d, ps)) :
    ∃ bs : List Nat, ValsW W v (n8s bs) ∧ ∀ x ∈ bs, x < 256 := by
  obtain ⟨fuel, hf⟩ := h
  obtain ⟨v', xs, hv, _, hx, hV⟩ := ints_of_trod u22 u5 ce5 hf
  injection hv with hv
  subst hv
  have hb : ∀ x ∈ xs, 0 ≤ x ∧ x < 256 := fun x hx' => by
    have h := hx x hx'
    simp only [Lit.wf, Bool.and_eq_true, decide_eq_true_eq] at h
    have h1 : (0 : Int) ≤ x := h.1
    have h2 : x ≤ 255 := h.2
    exact ⟨h1, by omega⟩
  refine ⟨xs.map Int.toNat, ?_, fun x hx' => ?_⟩
  · have : n8s (xs.map Int.toNat) = xs.map (Value.int .u8) := by
      unfold n8s
      rw [List.map_map]
      apply List.map_congr_left
      intro x hx'
      have := (hb x hx').1
      show Value.int .u8 ((x.toNat : Nat) : Int) = _
      rw [Int.toNat_of_nonneg this]
    rw [this]; exact hV
  · obtain ⟨y, hy, rfl⟩ := List.mem_map.1 hx'
    have := hb y hy
    omega
end Go.Am.CS
namespace Go.Am
open Go Go.RowKit Go.ChangeShapes
theorem post_below {H : Type} {enc : TypeId × Value → H} {P : Program} {f : Func} {s : ChangeSpec} {apart fresh handsOn again : Bool} {W W' : World} {args : Array Value} {v : Value} {ds gs : List (DataW H)} {before pa pv : List MemPlace}
    (hW : DataW.Whole enc P f.params.toList s.vars apart W args.toList ds gs before)
    (hres : ∀ (b : Nat) (sp : Nat → Bool) (hd : Bool), DataW.TrodAll enc P W' b sp hd f.resultTypes.toList (v.resultList f.resultTypes.size) (s.fn H (ds ++ gs)).results [])
    (hargs : ∀ sp : Nat → Bool, (∀ p ∈ before, sp p.block = true) → DataW.TrodAll enc P W' 0 sp true f.params.toList args.toList (s.fn H (ds ++ gs)).args pa)
    (hvars : ∀ sp : Nat → Bool, (∀ p ∈ before, sp p.block = true) → DataW.TrodVars enc P W' sp s.vars (s.fn H (ds ++ gs)).vars pv)
    (hps : before = pa ++ pv) (hb : Below W.heap.size W W')
    (hok : ∀ (j : Nat) (t : TypeId) (r : Value), f.resultTypes[j]? = some t → (v.resultList f.resultTypes.size)[j]? = some r → Value.okWide P W' .any 0 t r) :
    s.post enc P f apart fresh handsOn again W args v W' := by
  have hlt := hW.lt
  obtain ⟨_, _, _, _, _, hz, hn⟩ := id hW
  refine ⟨ds, gs, before, [], pa, pv, hW, hres _ _ _, hargs _ fun p hp => by simpa using hlt p hp, hvars _ fun p hp => by simpa using hlt p hp, World.keptBut_mono (fun p hp => ⟨hp, ?_⟩) (hb.frame (· ∈ before)), fun _ => ⟨hok, _, _, ([] ++ pa) ++ pv, ⟨[] ++ pa, pv, trodAll_append (hargs _ fun _ _ => rfl) (hres _ _ _), hvars _ fun _ _ => rfl, rfl, fun b off hp => ?_, fun ha => ?_⟩, fun p hp _ => ?_⟩⟩
  · rw [hps, List.mem_append] at hp; exact .inr hp
  · have hm : MemPlace.cell b off ∈ before := by rw [hps]; simpa using hp
    rw [hb.frozen (p := ⟨b, off, none⟩) (hlt _ hm)]
    exact hz b off hm
  · have := hn ha
    rw [hps] at this
    simpa using this
  · rw [hps]; simpa using hp
end Go.Am
