/- The machine and its runs, part 10: AxSk AxSl1 AxSm AxSn AxSo AxSp AxSq AxSr AxSs. -/
import Derived.Test.YtkdbakhcpciacaaGreatDoorB9
set_option linter.unusedVariables false
set_option linter.unusedSimpArgs false
set_option linter.unusedSectionVars false
namespace Go.Am.CS
set_option maxRecDepth 100000
open Go Go.Am
variable {E : Nat → Option AFn} {Y : Nat → List Value → FM → Nat → OR FM}
structure Fn2 (E : Nat → Option AFn) (Y : Nat → List Value → FM → Nat → OR FM) (T O : Nat) : Prop extends Fn1 E Y T O where
  up : YUp Y
  e10 : E 10 = some ac10
  e13 : E 13 = some ac13
  e23 : E 23 = some ac23
  e25 : E 25 = some ac25
  e26 : E 26 = some ac26
  e27 : E 27 = some ac27
  e28 : E 28 = some ac28
  e29 : E 29 = some ac29
  e30 : E 30 = some ac30
  e36 : E 36 = some ac36
  e37 : E 37 = some ac37
  e55 : E 55 = some ac55
  e56 : E 56 = some ac56
  e57 : E 57 = some ac57
  e58 : E 58 = some ac58
  e59 : E 59 = some ac59
  e60 : E 60 = some ac60
  e65 : E 65 = some ac65
theorem Dsk.keep {i : Ids} {T O pb : Nat} {M M' : FM} {N N' : Nat} {xs : List (Int × Value)} {c : Nat} (h : Dsk i T O pb M N xs c) (hN : N ≤ N') (hf : ∀ b, b < N → M' b = M b) : Dsk i T O pb M' N' xs c := by
  obtain ⟨h0, h1, h2, h3, h4, h5, h6, h7, h8, h9⟩ := h.cc.ok
  have hK := h.cc.KN
  obtain ⟨s0, s1, s2, s3, op, hd⟩ := h.dk
  obtain ⟨lf, hp⟩ := h.pw
  exact ⟨h.cc.keep hN hf, ⟨s0, s1, s2, s3, op, (hf _ (by omega)).trans hd⟩, lf, (hf _ (by omega)).trans hp⟩
theorem dhas_spec {T O : Nat} (F : Fn2 E Y T O) {i : Ids} {pb : Nat} {m : FM} {n : Nat} {xs : List (Int × Value)} {c : Nat} (h : Dsk i T O pb m n xs c) {a : Nat} (ha : a < 4 + 5 * (T * 2)) : Pure (callW PG E Y 28 [.pointer (some ⟨i.D, 0, none⟩), .int .i64 (a : Int)] m n) m n (.bool true) := by
  obtain ⟨h0, h1, h2, h3, h4, h5, h6, h7, h8, h9⟩ := h.cc.ok
  have hKN := h.cc.KN
  have g2 := F.G.ok.t2
  obtain ⟨s0, s1, s2, s3, op, hd⟩ := h.dk
  simp only [dkC] at hd
  refine pure_spec F.e28 rfl rfl ?_
  simp only [ac28]
  simp (implicitDefEqProofs := false) (disch := omega) only [W2, opds, Nat.testBit, Nat.reduceAdd, Nat.reduceShiftRight, Nat.reduceAnd, Nat.reduceBNe, Nat.reduceMul, hd]
  refine use_pure (size_spec F.e50 F.e54 F.G _ _) fun r1 => ?_
  simp (implicitDefEqProofs := false) (disch := omega) only [W2, opds, Nat.testBit, Nat.reduceAdd, Nat.reduceShiftRight, Nat.reduceAnd, Nat.reduceBNe, Nat.reduceMul]
theorem dwrite1 {T O : Nat} (F : Fn2 E Y T O) {i : Ids} {pb : Nat} {m : FM} {n : Nat} {xs : List (Int × Value)} {c : Nat} (h : Dsk i T O pb m n xs c) (hc : c ≤ 100000) {bd ba bb bf a : Nat} {v : Value} {len : Nat} {bs : List Value} (kd : i.K ≤ bd ∧ bd ≠ pb ∧ bd < n ∧ m bd = some (.cells [.pointer (some ⟨i.D, 0, none⟩)] 0 false true)) (ka : ba < n ∧ m ba = some (.cells [.int .i64 (a : Int)] 0 false true)) (kb : bb < n ∧ m bb = some (.cells [v] 0 false true)) (kf : i.K ≤ bf ∧ bf ≠ pb ∧ bf < n ∧ m bf = some (.cells [.bool false] 0 false true)) (ha : a < 4 + 5 * (T * 2)) (hv : Sh 1 m n v len bs) (hone : bs.all Am.one = true) (hu8 : bs.all isU8 = true) (hl : len ≤ 64) :
    Rt (callW PG E Y 27 [fV, .pointer (some ⟨bd, 0, none⟩), .pointer (some ⟨ba, 0, none⟩), .pointer (some ⟨bb, 0, none⟩), .pointer (some ⟨bf, 0, none⟩)] m n) fun r m' n' w => Nat.testBit w i.sc = true ∧ (∃ pb' v', n ≤ n' ∧ Fr i.P i.D pb n m m' w ∧ n ≤ pb' ∧ r = .int .i64 0 ∧ Dsk i T O pb' m' n' (writeX T O a v' xs) (c + 1) ∧ By i pb' m' n' v' len bs) := by
  obtain ⟨h0, h1, h2, h3, h4, h5, h6, h7, h8, h9⟩ := h.cc.ok
  have hKN := h.cc.KN
  have hpbN := h.cc.pbN
  have hpbk := h.cc.pbk
  have hvo := hv.one
  obtain ⟨s0, s1, s2, s3, op, hd⟩ := h.dk
  simp only [dkC] at hd
  obtain ⟨kd1, kd2, kd3, kd4⟩ := kd
  obtain ⟨ka3, ka4⟩ := ka
  obtain ⟨kb3, kb4⟩ := kb
  obtain ⟨kf1, kf2, kf3, kf4⟩ := kf
  refine wrt_spec (R := fun r m' n' w => (∃ pb' v', n ≤ n' ∧ Fr i.P i.D pb n m m' w ∧ n ≤ pb' ∧ r = .int .i64 0 ∧ Dsk i T O pb' m' n' (writeX T O a v' xs) (c + 1) ∧ By i pb' m' n' v' len bs)) F.e27 rfl (show i.sc < n by omega) fun Q hQ => ?_
  simp only [ac27, fV]
  generalize hM1 : (AMem.put m n (some (Blk.cells [Value.int IntKind.i64 0, Value.int IntKind.i64 0, Value.int IntKind.i64 0] 0 false true)) : FM) = M1
  have l1 : ∀ b, b < n → M1 b = m b := fun b hb => by rw [← hM1, fput_ne _ _ _ _ (by omega)]
  have lf : M1 n = some (Blk.cells [Value.int IntKind.i64 0, Value.int IntKind.i64 0, Value.int IntKind.i64 0] 0 false true) := by rw [← hM1]; exact fput_same _ _ _
  have hD1 := h.keep (show n ≤ n + 1 by omega) l1
  have kd5 := (l1 bd kd3).trans kd4
  have ka5 := (l1 ba ka3).trans ka4
  have kb5 := (l1 bb kb3).trans kb4
  have kf5 := (l1 bf kf3).trans kf4
  have hd1 := (l1 i.D (by omega)).trans hd
  simp (implicitDefEqProofs := false) (disch := omega) only [W2, opds, Nat.testBit, Nat.reduceAdd, Nat.reduceShiftRight, Nat.reduceAnd, Nat.reduceBNe, Nat.reduceMul, hM1, kd5, ka5]
  refine use_pure (dhas_spec F hD1 ha) fun r1 => ?_
  simp (implicitDefEqProofs := false) (disch := omega) only [W2, opds, Nat.testBit, Nat.reduceAdd, Nat.reduceShiftRight, Nat.reduceAnd, Nat.reduceBNe, Nat.reduceMul, kb5, hvo, hv.len, ka5, lf, hv.bel, kd5, hd1]
  refine use_rt (cache_write F.toFn1 F.e29 hD1.cc hc ha (hv.frame (by omega) l1) hone hu8 hl) fun r2 m2 n2 r3 w2 hh => ?_
  obtain ⟨ht, pb', v', hn2, hF2, hp2, rfl, hC2, hB2⟩ := hh
  have kf6 := (hF2 bf (by omega) (by omega) kf2).1.trans kf5
  have kd6 := (hF2 bd (by omega) (by omega) kd2).1.trans kd5
  have hd2 := (hF2 i.D (by omega) (by omega) (by omega)).1.trans hd1
  simp (implicitDefEqProofs := false) (disch := omega) only [W2, opds, Nat.testBit, Nat.reduceAdd, Nat.reduceShiftRight, Nat.reduceAnd, Nat.reduceBNe, Nat.reduceMul, kf6, kd6, hd2]
  generalize hM3 : (AMem.put m2 i.D _ : FM) = M3
  have l3 : ∀ b, b ≠ i.D → M3 b = m2 b := fun b hb => by rw [← hM3, fput_ne _ _ _ _ hb]
  obtain ⟨lf2, hpw⟩ := hD1.pw
  refine hQ _ _ _ _ _ ?_ ⟨pb', v', by omega, fun b hb hk hne => ⟨?_, ?_⟩, by omega, rfl, ⟨hC2.keepX (Nat.le_refl _) fun b _ _ k _ _ => l3 b k, ⟨s0, _, s2, s3, op, by rw [← hM3]; exact fput_same _ _ _⟩, lf2, by rw [l3 _ (by omega), (hF2 i.P (by omega) (by omega) (by omega)).1]; exact hpw⟩, ?_⟩
  · simp only [lor_test, ht]; simp
  · rw [l3 b (by omega), (hF2 b (by omega) (by omega) hne).1, l1 b hb]
  · simp only [lor_test, (hF2 b (by omega) (by omega) hne).2, bit_ne (show b ≠ n by omega), bit_ne (show b ≠ i.D by omega)]; rfl
  · exact hB2.fr (lo := i.P) (hi := i.D) (w := 0) (fun b _ hk _ => ⟨l3 b (by omega), Nat.zero_testBit _⟩) (by omega) (Nat.le_refl _) (.inl rfl)
end Go.Am.CS
namespace Go.Am.CS
set_option maxRecDepth 100000
open Go Go.Am
variable {E : Nat → Option AFn} {Y : Nat → List Value → FM → Nat → OR FM}
theorem perform2 {T O : Nat} (F : Fn2 E Y T O) {i : Ids} {pb : Nat} {m : FM} {n : Nat} {xs : List (Int × Value)} {c : Nat} (h : Dsk i T O pb m n xs c) {f : Nat} {cs : List Value} {S : Value → FM → Nat → Prop} (hone : ∀ v m n, S v m n → Am.one v = true)
    (hcall : ∀ m2 n2, n ≤ n2 → Dsk i T O pb m2 n2 xs c → (∀ b, b < n → ¬ (i.P ≤ b ∧ b ≤ i.D) → m2 b = m b) → Rt (callW PG E Y f (fV :: cs) m2 n2) fun r m' n' w => n2 ≤ n' ∧ Fr i.P i.D pb n2 m2 m' w ∧ S r m' n') :
    Rt (callW PG E Y 26 [.pointer (some ⟨i.D, 0, none⟩), .int .u64 0, .func (.func f) #[] cs.toArray] m n) fun r m' n' w => Nat.testBit w i.P = true ∧ (n ≤ n' ∧ Fr i.P i.D pb n m m' w ∧ S r m' n') := by
  refine (perform_spec F.up F.e26 F.e58 F.e59 F.e60 h (R := fun r m' n' w => n ≤ n' ∧ Fr i.P i.D pb n m m' w ∧ S r m' n') (fun v m n w k => hone _ _ _ k.2.2) fun m2 n2 k1 k2 k3 => ?_).mono ?_
  · have k3 : ∀ b, b < n → ¬ (i.P ≤ b ∧ b ≤ i.D) → m2 b = m b := fun b hb hk => k3 b hb (by have := h.cc.ok.h0; have := h.cc.ok; obtain ⟨h0, h1, h2, h3, h4, h5, h6, h7, h8, h9⟩ := h.cc.ok; omega) (by obtain ⟨h0, h1, h2, h3, h4, h5, h6, h7, h8, h9⟩ := h.cc.ok; omega)
    refine (hcall m2 n2 k1 k2 k3).mono ?_
    intro r m' n' w hh
    obtain ⟨q1, q2, q3⟩ := hh
    exact ⟨by omega, fun b hb hk hne => ⟨by rw [(q2 b (by omega) hk hne).1, k3 b hb hk], (q2 b (by omega) hk hne).2⟩, q3⟩
  · intro r m' n' w hh
    obtain ⟨q1, w0, w1, rfl, q2, q3, q4, q5⟩ := hh
    exact ⟨q1, q3, fun b hb hk hne => ⟨(q4 b hb hk hne).1, by rw [lor_test, q2 b hb hk, (q4 b hb hk hne).2]; rfl⟩, q5⟩
theorem disk_write {T O : Nat} (F : Fn2 E Y T O) {i : Ids} {pb : Nat} {m : FM} {n : Nat} {xs : List (Int × Value)} {c : Nat} (h : Dsk i T O pb m n xs c) (hc : c ≤ 100000) {a : Nat} {v : Value} {len : Nat} {bs : List Value} (ha : a < 4 + 5 * (T * 2)) (hv : By i pb m n v len bs) (hone : bs.all Am.one = true) (hl : len ≤ 64) :
    Rt (callW PG E Y 10 [.pointer (some ⟨i.D, 0, none⟩), .int .u64 0, .int .i64 (a : Int), v, .bool false] m n) fun r m' n' w => Nat.testBit w i.P = true ∧ (∃ pb' v', n ≤ n' ∧ Fr i.P i.D pb n m m' w ∧ n ≤ pb' ∧ r = .int .i64 0 ∧ Dsk i T O pb' m' n' (writeX T O a v' xs) (c + 1) ∧ By i pb' m' n' v' len bs) := by
  obtain ⟨h0, h1, h2, h3, h4, h5, h6, h7, h8, h9⟩ := h.cc.ok
  have hKN := h.cc.KN
  have hpbN := h.cc.pbN
  have hpbk := h.cc.pbk
  have hvo := hv.sh.one
  refine wrt_spec (R := fun r m' n' w => (∃ pb' v', n ≤ n' ∧ Fr i.P i.D pb n m m' w ∧ n ≤ pb' ∧ r = .int .i64 0 ∧ Dsk i T O pb' m' n' (writeX T O a v' xs) (c + 1) ∧ By i pb' m' n' v' len bs)) F.e10 rfl (show i.P < n by omega) fun Q hQ => ?_
  simp only [ac10]
  simp (implicitDefEqProofs := false) (disch := omega) only [W2, opds, Nat.testBit, Nat.reduceAdd, Nat.reduceShiftRight, Nat.reduceAnd, Nat.reduceBNe, Nat.reduceMul, s_func, hvo, cells_of_one hvo]
  generalize hM1 : (AMem.put (AMem.put (AMem.put (AMem.put m n _) (n + 1) _) (n + 2) _) (n + 3) _ : FM) = M1
  have l1 : ∀ b, b < n → M1 b = m b := fun b hb => by rw [← hM1, fput_ne _ _ _ _ (by omega), fput_ne _ _ _ _ (by omega), fput_ne _ _ _ _ (by omega), fput_ne _ _ _ _ (by omega)]
  have p0 : M1 n = some (.cells [.pointer (some ⟨i.D, 0, none⟩)] 0 false true) := by rw [← hM1, fput_ne _ _ _ _ (by omega), fput_ne _ _ _ _ (by omega), fput_ne _ _ _ _ (by omega)]; exact fput_same _ _ _
  have p1 : M1 (n + 1) = some (.cells [.int .i64 (a : Int)] 0 false true) := by rw [← hM1, fput_ne _ _ _ _ (by omega), fput_ne _ _ _ _ (by omega)]; exact fput_same _ _ _
  have p2 : M1 (n + 2) = some (.cells [v] 0 false true) := by rw [← hM1, fput_ne _ _ _ _ (by omega)]; exact fput_same _ _ _
  have p3 : M1 (n + 3) = some (.cells [.bool false] 0 false true) := by rw [← hM1]; exact fput_same _ _ _
  have hv1 : By i pb M1 (n + 4) v len bs := hv.fr (lo := 0) (hi := 0) (w := 0) (fun b hb _ _ => ⟨l1 b hb, Nat.zero_testBit _⟩) (by omega) (by omega) (.inl rfl)
  refine use_rt (perform2 F (h.keep (show n ≤ n + 4 by omega) l1) (f := 27) (cs := [.pointer (some ⟨n, 0, none⟩), .pointer (some ⟨n + 1, 0, none⟩), .pointer (some ⟨n + 2, 0, none⟩), .pointer (some ⟨n + 3, 0, none⟩)]) (S := fun r m' n' => ∃ pb' v', n ≤ pb' ∧ r = .int .i64 0 ∧ Dsk i T O pb' m' n' (writeX T O a v' xs) (c + 1) ∧ By i pb' m' n' v' len bs) (fun v m n hS => by obtain ⟨_, _, _, rfl, _⟩ := hS; rfl) fun m2 n2 k1 k2 k3 => ?_) fun r3 m3 n3 r4 w3 hh => ?_
  · have hv2 : By i pb m2 n2 v len bs := hv1.fr (lo := i.P) (hi := i.D) (w := 0) (fun b hb hk _ => ⟨k3 b hb hk, Nat.zero_testBit _⟩) (by omega) k1 (.inl rfl)
    refine (dwrite1 F k2 hc (bd := n) (ba := n + 1) (bb := n + 2) (bf := n + 3) ⟨by omega, by omega, by omega, by rw [k3 n (by omega) (by omega)]; exact p0⟩ ⟨by omega, by rw [k3 _ (by omega) (by omega)]; exact p1⟩ ⟨by omega, by rw [k3 _ (by omega) (by omega)]; exact p2⟩ ⟨by omega, by omega, by omega, by rw [k3 _ (by omega) (by omega)]; exact p3⟩ ha hv2.sh hone hv.u8 hl).mono ?_
    intro r m' n' w hh
    obtain ⟨_, pb', v', q1, q2, q3, q4, q5, q6⟩ := hh
    exact ⟨q1, q2, pb', v', by omega, q4, q5, q6⟩
  · obtain ⟨q1, q2, q3, pb', v', q4, rfl, q5, q6⟩ := hh
    simp (implicitDefEqProofs := false) (disch := omega) only [W2, opds, Nat.testBit, Nat.reduceAdd, Nat.reduceShiftRight, Nat.reduceAnd, Nat.reduceBNe, Nat.reduceMul]
    refine hQ _ _ _ _ _ (by simp only [lor_test, q1]; simp) ⟨pb', v', by omega, fun b hb hk hne => ⟨by rw [(q3 b (by omega) hk hne).1, l1 b hb], ?_⟩, q4, rfl, q5, q6⟩
    simp only [lor_test, (q3 b (by omega) hk hne).2, bit_ne (show b ≠ n by omega), bit_ne (show b ≠ n + 1 by omega), bit_ne (show b ≠ n + 2 by omega), bit_ne (show b ≠ n + 3 by omega)]; rfl
theorem dflush1 {T O : Nat} (F : Fn2 E Y T O) {i : Ids} {pb : Nat} {m : FM} {n : Nat} {xs : List (Int × Value)} {c : Nat} (h : Dsk i T O pb m n xs c) (hc : c ≤ 100000) {bd : Nat} (kd : i.K ≤ bd ∧ bd ≠ pb ∧ bd < n ∧ m bd = some (.cells [.pointer (some ⟨i.D, 0, none⟩)] 0 false true)) :
    Rt (callW PG E Y 57 [fV, .pointer (some ⟨bd, 0, none⟩)] m n) fun r m' n' w => Nat.testBit w i.C = true ∧ (n ≤ n' ∧ Fr i.P i.D pb n m m' w ∧ r = .int .i64 0 ∧ Dsk i T O pb m' n' xs 0) := by
  obtain ⟨h0, h1, h2, h3, h4, h5, h6, h7, h8, h9⟩ := h.cc.ok
  have hKN := h.cc.KN
  have hpbN := h.cc.pbN
  have hpbk := h.cc.pbk
  obtain ⟨s0, s1, s2, s3, op, hd⟩ := h.dk
  simp only [dkC] at hd
  obtain ⟨kd1, kd2, kd3, kd4⟩ := kd
  refine wrt_spec (R := fun r m' n' w => (n ≤ n' ∧ Fr i.P i.D pb n m m' w ∧ r = .int .i64 0 ∧ Dsk i T O pb m' n' xs 0)) F.e57 rfl (show i.C < n by omega) fun Q hQ => ?_
  simp only [ac57, fV]
  simp (implicitDefEqProofs := false) (disch := omega) only [W2, opds, Nat.testBit, Nat.reduceAdd, Nat.reduceShiftRight, Nat.reduceAnd, Nat.reduceBNe, Nat.reduceMul, kd4, hd]
  generalize hM1 : (AMem.put m n (some (Blk.cells [Value.int IntKind.i64 0, Value.int IntKind.i64 0, Value.int IntKind.i64 0] 0 false true)) : FM) = M1
  have l1 : ∀ b, b < n → M1 b = m b := fun b hb => by rw [← hM1, fput_ne _ _ _ _ (by omega)]
  have hD1 := h.keep (show n ≤ n + 1 by omega) l1
  refine use_rt (cache_flush F.toFn1 F.e30 F.e65 hD1.cc hc) fun r2 m2 n2 r3 w2 hh => ?_
  obtain ⟨ht, hn2, hF2, hC2⟩ := hh
  have kd6 := (hF2 bd (by omega) (by omega) kd2).1.trans ((l1 bd kd3).trans kd4)
  have hd2 := (hF2 i.D (by omega) (by omega) (by omega)).1.trans ((l1 i.D (by omega)).trans hd)
  simp (implicitDefEqProofs := false) (disch := omega) only [W2, opds, Nat.testBit, Nat.reduceAdd, Nat.reduceShiftRight, Nat.reduceAnd, Nat.reduceBNe, Nat.reduceMul, kd6, hd2]
  generalize hM3 : (AMem.put m2 i.D _ : FM) = M3
  have l3 : ∀ b, b ≠ i.D → M3 b = m2 b := fun b hb => by rw [← hM3, fput_ne _ _ _ _ hb]
  obtain ⟨lf2, hpw⟩ := hD1.pw
  refine hQ _ _ _ _ _ ?_ ⟨by omega, fun b hb hk hne => ⟨?_, ?_⟩, rfl, ⟨hC2.keepX (Nat.le_refl _) fun b _ _ k _ _ => l3 b k, ⟨s0, s1, s2, _, op, by rw [← hM3]; exact fput_same _ _ _⟩, lf2, by rw [l3 _ (by omega), (hF2 i.P (by omega) (by omega) (by omega)).1]; exact hpw⟩⟩
  · simp only [lor_test, ht]; simp
  · rw [l3 b (by omega), (hF2 b (by omega) (by omega) hne).1, l1 b hb]
  · simp only [lor_test, (hF2 b (by omega) (by omega) hne).2, bit_ne (show b ≠ n by omega), bit_ne (show b ≠ i.D by omega)]; rfl
theorem derase1 {T O : Nat} (F : Fn2 E Y T O) {i : Ids} {pb : Nat} {m : FM} {n : Nat} {xs : List (Int × Value)} {c : Nat} (h : Dsk i T O pb m n xs c) (hc : c ≤ 100000) {bd ba a : Nat} (kd : i.K ≤ bd ∧ bd ≠ pb ∧ bd < n ∧ m bd = some (.cells [.pointer (some ⟨i.D, 0, none⟩)] 0 false true)) (ka : ba < n ∧ m ba = some (.cells [.int .i64 (a : Int)] 0 false true)) (ha : a < 5) :
    Rt (callW PG E Y 55 [fV, .pointer (some ⟨bd, 0, none⟩), .pointer (some ⟨ba, 0, none⟩)] m n) fun r m' n' w => Nat.testBit w i.sc = true ∧ (∃ pb', n ≤ n' ∧ Fr i.P i.D pb n m m' w ∧ n ≤ pb' ∧ r = .int .i64 0 ∧ Dsk i T O pb' m' n' (blankX xs (4 + a * T * 2) (T * 2)) (c + 1)) := by
  obtain ⟨h0, h1, h2, h3, h4, h5, h6, h7, h8, h9⟩ := h.cc.ok
  have hKN := h.cc.KN
  have hpbN := h.cc.pbN
  have hpbk := h.cc.pbk
  obtain ⟨s0, s1, s2, s3, op, hd⟩ := h.dk
  simp only [dkC] at hd
  obtain ⟨kd1, kd2, kd3, kd4⟩ := kd
  obtain ⟨ka3, ka4⟩ := ka
  refine wrt_spec (R := fun r m' n' w => (∃ pb', n ≤ n' ∧ Fr i.P i.D pb n m m' w ∧ n ≤ pb' ∧ r = .int .i64 0 ∧ Dsk i T O pb' m' n' (blankX xs (4 + a * T * 2) (T * 2)) (c + 1))) F.e55 rfl (show i.sc < n by omega) fun Q hQ => ?_
  simp only [ac55, fV]
  simp (implicitDefEqProofs := false) (disch := omega) only [W2, opds, Nat.testBit, Nat.reduceAdd, Nat.reduceShiftRight, Nat.reduceAnd, Nat.reduceBNe, Nat.reduceMul, kd4, hd, ka4]
  generalize hM1 : (AMem.put m n (some (Blk.cells [Value.int IntKind.i64 0, Value.int IntKind.i64 0, Value.int IntKind.i64 0] 0 false true)) : FM) = M1
  have l1 : ∀ b, b < n → M1 b = m b := fun b hb => by rw [← hM1, fput_ne _ _ _ _ (by omega)]
  have hD1 := h.keep (show n ≤ n + 1 by omega) l1
  refine use_rtX (cache_erase F.toFn1 F.e56 hD1.cc hc ha) fun r2 m2 n2 r3 w2 hh => ?_
  obtain ⟨ht, pb', hn2, hF2, hp2, rfl, hC2⟩ := hh
  have kd6 := (hF2 bd (by omega) (by omega) kd2).1.trans ((l1 bd kd3).trans kd4)
  have hd2 := (hF2 i.D (by omega) (by omega) (by omega)).1.trans ((l1 i.D (by omega)).trans hd)
  simp (implicitDefEqProofs := false) (disch := omega) only [W2, opds, Nat.testBit, Nat.reduceAdd, Nat.reduceShiftRight, Nat.reduceAnd, Nat.reduceBNe, Nat.reduceMul, kd6, hd2]
  generalize hM3 : (AMem.put m2 i.D _ : FM) = M3
  have l3 : ∀ b, b ≠ i.D → M3 b = m2 b := fun b hb => by rw [← hM3, fput_ne _ _ _ _ hb]
  obtain ⟨lf2, hpw⟩ := hD1.pw
  refine hQ _ _ _ _ _ ?_ ⟨pb', by omega, fun b hb hk hne => ⟨?_, ?_⟩, by omega, rfl, ⟨hC2.keepX (Nat.le_refl _) fun b _ _ k _ _ => l3 b k, ⟨s0, s1, _, s3, op, by rw [← hM3]; exact fput_same _ _ _⟩, lf2, by rw [l3 _ (by omega), (hF2 i.P (by omega) (by omega) (by omega)).1]; exact hpw⟩⟩
  · simp only [lor_test, ht]; simp
  · rw [l3 b (by omega), (hF2 b (by omega) (by omega) hne).1, l1 b hb]
  · simp only [lor_test, (hF2 b (by omega) (by omega) hne).2, bit_ne (show b ≠ n by omega), bit_ne (show b ≠ i.D by omega)]; rfl
theorem disk_erase {T O : Nat} (F : Fn2 E Y T O) {i : Ids} {pb : Nat} {m : FM} {n : Nat} {xs : List (Int × Value)} {c : Nat} (h : Dsk i T O pb m n xs c) (hc : c ≤ 100000) {a : Nat} (ha : a < 5) :
    Rt (callW PG E Y 23 [.pointer (some ⟨i.D, 0, none⟩), .int .u64 0, .int .i64 (a : Int)] m n) fun r m' n' w => Nat.testBit w i.P = true ∧ (∃ pb', n ≤ n' ∧ Fr i.P i.D pb n m m' w ∧ n ≤ pb' ∧ r = .int .i64 0 ∧ Dsk i T O pb' m' n' (blankX xs (4 + a * T * 2) (T * 2)) (c + 1)) := by
  obtain ⟨h0, h1, h2, h3, h4, h5, h6, h7, h8, h9⟩ := h.cc.ok
  have hKN := h.cc.KN
  have hpbN := h.cc.pbN
  have hpbk := h.cc.pbk
  refine wrt_spec (R := fun r m' n' w => (∃ pb', n ≤ n' ∧ Fr i.P i.D pb n m m' w ∧ n ≤ pb' ∧ r = .int .i64 0 ∧ Dsk i T O pb' m' n' (blankX xs (4 + a * T * 2) (T * 2)) (c + 1))) F.e23 rfl (show i.P < n by omega) fun Q hQ => ?_
  simp only [ac23]
  simp (implicitDefEqProofs := false) (disch := omega) only [W2, opds, Nat.testBit, Nat.reduceAdd, Nat.reduceShiftRight, Nat.reduceAnd, Nat.reduceBNe, Nat.reduceMul, s_func]
  generalize hM1 : (AMem.put (AMem.put m n _) (n + 1) _ : FM) = M1
  have l1 : ∀ b, b < n → M1 b = m b := fun b hb => by rw [← hM1, fput_ne _ _ _ _ (by omega), fput_ne _ _ _ _ (by omega)]
  have p0 : M1 n = some (.cells [.pointer (some ⟨i.D, 0, none⟩)] 0 false true) := by rw [← hM1, fput_ne _ _ _ _ (by omega)]; exact fput_same _ _ _
  have p1 : M1 (n + 1) = some (.cells [.int .i64 (a : Int)] 0 false true) := by rw [← hM1]; exact fput_same _ _ _
  refine use_rt (perform2 F (h.keep (show n ≤ n + 2 by omega) l1) (f := 55) (cs := [.pointer (some ⟨n, 0, none⟩), .pointer (some ⟨n + 1, 0, none⟩)]) (S := fun r m' n' => ∃ pb', n ≤ pb' ∧ r = .int .i64 0 ∧ Dsk i T O pb' m' n' (blankX xs (4 + a * T * 2) (T * 2)) (c + 1)) (fun v m n hS => by obtain ⟨_, _, rfl, _⟩ := hS; rfl) fun m2 n2 k1 k2 k3 => ?_) fun r3 m3 n3 r4 w3 hh => ?_
  · refine (derase1 F k2 hc (bd := n) (ba := n + 1) ⟨by omega, by omega, by omega, by rw [k3 n (by omega) (by omega)]; exact p0⟩ ⟨by omega, by rw [k3 _ (by omega) (by omega)]; exact p1⟩ ha).mono ?_
    intro r m' n' w hh
    obtain ⟨_, pb', q1, q2, q3, q4, q5⟩ := hh
    exact ⟨q1, q2, pb', by omega, q4, q5⟩
  · obtain ⟨q1, q2, q3, pb', q4, rfl, q5⟩ := hh
    simp (implicitDefEqProofs := false) (disch := omega) only [W2, opds, Nat.testBit, Nat.reduceAdd, Nat.reduceShiftRight, Nat.reduceAnd, Nat.reduceBNe, Nat.reduceMul]
    refine hQ _ _ _ _ _ (by simp only [lor_test, q1]; simp) ⟨pb', by omega, fun b hb hk hne => ⟨by rw [(q3 b (by omega) hk hne).1, l1 b hb], ?_⟩, q4, rfl, q5⟩
    simp only [lor_test, (q3 b (by omega) hk hne).2, bit_ne (show b ≠ n by omega), bit_ne (show b ≠ n + 1 by omega)]; rfl
theorem dread1 {T O : Nat} (F : Fn2 E Y T O) {i : Ids} {pb : Nat} {m : FM} {n : Nat} {xs : List (Int × Value)} {c : Nat} (h : Dsk i T O pb m n xs c) {bd ba bo a : Nat} {oc : Value} (kd : i.K ≤ bd ∧ bd ≠ bo ∧ bd < n ∧ m bd = some (.cells [.pointer (some ⟨i.D, 0, none⟩)] 0 false true)) (ka : ba < n ∧ m ba = some (.cells [.int .i64 (a : Int)] 0 false true)) (ko : i.K ≤ bo ∧ bo ≠ pb ∧ bo < n ∧ m bo = some (.cells [oc] 0 false true)) (ha : a < xs.length) {v : Value} {len : Nat} {bs : List Value} (hx : xs[a] = (1, v)) (hv : Sh 1 m n v len bs) (hone : bs.all Am.one = true) (hl : len ≤ 64) :
    Rt (callW PG E Y 36 [fV, .pointer (some ⟨bd, 0, none⟩), .pointer (some ⟨ba, 0, none⟩), .pointer (some ⟨bo, 0, none⟩)] m n) fun r m' n' w => Nat.testBit w bo = true ∧ (n ≤ n' ∧ (∀ b, b < n → b ≠ bo → b ≠ i.D → m' b = m b ∧ Nat.testBit w b = false) ∧ r = .int .i64 0 ∧ (∃ s0 s1 s2 s3 op, m' i.D = some (.cells (dkC i T O s0 s1 s2 s3 op) 0 false true)) ∧ ∃ v', m' bo = some (.cells [v'] 0 false true) ∧ SlZ 1 m' n n' v' len bs) := by
  obtain ⟨h0, h1, h2, h3, h4, h5, h6, h7, h8, h9⟩ := h.cc.ok
  have hKN := h.cc.KN
  have hpbN := h.cc.pbN
  have hpbk := h.cc.pbk
  have hxl := h.cc.con.len
  obtain ⟨s0, s1, s2, s3, op, hd⟩ := h.dk
  simp only [dkC] at hd
  obtain ⟨kd1, kd2, kd3, kd4⟩ := kd
  obtain ⟨ka3, ka4⟩ := ka
  obtain ⟨ko1, ko2, ko3, ko4⟩ := ko
  refine wrt_spec (R := fun r m' n' w => (n ≤ n' ∧ (∀ b, b < n → b ≠ bo → b ≠ i.D → m' b = m b ∧ Nat.testBit w b = false) ∧ r = .int .i64 0 ∧ (∃ s0 s1 s2 s3 op, m' i.D = some (.cells (dkC i T O s0 s1 s2 s3 op) 0 false true)) ∧ ∃ v', m' bo = some (.cells [v'] 0 false true) ∧ SlZ 1 m' n n' v' len bs)) F.e36 rfl ko3 fun Q hQ => ?_
  simp only [ac36, fV]
  generalize hM1 : (AMem.put m n (some (Blk.cells [Value.int IntKind.i64 0, Value.int IntKind.i64 0, Value.int IntKind.i64 0] 0 false true)) : FM) = M1
  have l1 : ∀ b, b < n → M1 b = m b := fun b hb => by rw [← hM1, fput_ne _ _ _ _ (by omega)]
  have lf : M1 n = some (Blk.cells [Value.int IntKind.i64 0, Value.int IntKind.i64 0, Value.int IntKind.i64 0] 0 false true) := by rw [← hM1]; exact fput_same _ _ _
  have hD1 := h.keep (show n ≤ n + 1 by omega) l1
  have kd5 := (l1 bd kd3).trans kd4
  have ka5 := (l1 ba ka3).trans ka4
  have ko5 := (l1 bo ko3).trans ko4
  have hd1 := (l1 i.D (by omega)).trans hd
  simp (implicitDefEqProofs := false) (disch := omega) only [W2, opds, Nat.testBit, Nat.reduceAdd, Nat.reduceShiftRight, Nat.reduceAnd, Nat.reduceBNe, Nat.reduceMul, hM1, kd5, ka5]
  refine use_pure (dhas_spec F hD1 (by omega)) fun r1 => ?_
  simp (implicitDefEqProofs := false) (disch := omega) only [W2, opds, Nat.testBit, Nat.reduceAdd, Nat.reduceShiftRight, Nat.reduceAnd, Nat.reduceBNe, Nat.reduceMul, ka5, lf, kd5, hd1]
  refine use_rt (cache_read F.toFn1 F.e37 hD1.cc ha hx (hv.frame (by omega) l1) hone hl) fun r2 m2 n2 r3 w2 hh => ?_
  obtain ⟨hn2, hf2, hw2, v', rfl, hS2⟩ := hh
  have ko6 := (hf2 bo (by omega)).trans ko5
  have kd6 := (hf2 bd (by omega)).trans kd5
  have hd2 := (hf2 i.D (by omega)).trans hd1
  have hvo := hS2.one
  simp (implicitDefEqProofs := false) (disch := omega) only [W2, opds, Nat.testBit, Nat.reduceAdd, Nat.reduceShiftRight, Nat.reduceAnd, Nat.reduceBNe, Nat.reduceMul, extr_mk, ko6, hvo, cells_of_one hvo, kd6, hd2]
  refine hQ _ _ _ _ _ (by simp only [lor_test, bit_test]; simp) ⟨by omega, fun b hb k1 k2 => ⟨by rw [fput_ne _ _ _ _ k2, fput_ne _ _ _ _ k1, hf2 b (by omega), l1 b hb], ?_⟩, rfl, ⟨_, _, _, _, _, fput_same _ _ _⟩, v', by rw [fput_ne _ _ _ _ (by omega)]; exact fput_same _ _ _, (hS2.low (by omega)).frame (Nat.le_refl _) ?_⟩
  · simp only [lor_test, mod_bit (hw2 (n + 1) (Nat.le_refl _)) b (by omega), bit_ne (show b ≠ n by omega), bit_ne k1, bit_ne k2]; rfl
  · intro b q1 q2
    rw [fput_ne _ _ _ _ (by omega), fput_ne _ _ _ _ (by omega)]
theorem disk_read {T O : Nat} (F : Fn2 E Y T O) {i : Ids} {pb : Nat} {m : FM} {n : Nat} {xs : List (Int × Value)} {c : Nat} (h : Dsk i T O pb m n xs c) {a : Nat} (ha : a < xs.length) {v : Value} {len : Nat} {bs : List Value} (hx : xs[a] = (1, v)) (hv : By i pb m n v len bs) (hone : bs.all Am.one = true) (hl : len ≤ 64) :
    Rt (callW PG E Y 13 [.pointer (some ⟨i.D, 0, none⟩), .int .u64 0, .int .i64 (a : Int)] m n) fun r m' n' w => Nat.testBit w i.P = true ∧ (n ≤ n' ∧ (∀ b, b < n → b ≠ i.P → b ≠ i.D → m' b = m b) ∧ Fr i.P i.D pb n m m' w ∧ Dsk i T O pb m' n' xs c ∧ ∃ v', r = .tuple #[v', .int .i64 0] ∧ SlZ 1 m' n n' v' len bs) := by
  obtain ⟨h0, h1, h2, h3, h4, h5, h6, h7, h8, h9⟩ := h.cc.ok
  have hKN := h.cc.KN
  have hpbN := h.cc.pbN
  have hpbk := h.cc.pbk
  refine wrt_spec (R := fun r m' n' w => (n ≤ n' ∧ (∀ b, b < n → b ≠ i.P → b ≠ i.D → m' b = m b) ∧ Fr i.P i.D pb n m m' w ∧ Dsk i T O pb m' n' xs c ∧ ∃ v', r = .tuple #[v', .int .i64 0] ∧ SlZ 1 m' n n' v' len bs)) F.e13 rfl (show i.P < n by omega) fun Q hQ => ?_
  simp only [ac13]
  simp (implicitDefEqProofs := false) (disch := omega) only [W2, opds, Nat.testBit, Nat.reduceAdd, Nat.reduceShiftRight, Nat.reduceAnd, Nat.reduceBNe, Nat.reduceMul, s_func]
  generalize hM1 : (AMem.put (AMem.put (AMem.put m n _) (n + 1) _) (n + 2) _ : FM) = M1
  have l1 : ∀ b, b < n → M1 b = m b := fun b hb => by rw [← hM1, fput_ne _ _ _ _ (by omega), fput_ne _ _ _ _ (by omega), fput_ne _ _ _ _ (by omega)]
  have p0 : M1 n = some (.cells [.pointer (some ⟨i.D, 0, none⟩)] 0 false true) := by rw [← hM1, fput_ne _ _ _ _ (by omega), fput_ne _ _ _ _ (by omega)]; exact fput_same _ _ _
  have p1 : M1 (n + 1) = some (.cells [.int .i64 (a : Int)] 0 false true) := by rw [← hM1, fput_ne _ _ _ _ (by omega)]; exact fput_same _ _ _
  have p2 : M1 (n + 2) = some (.cells [.slice none 0 0] 0 false true) := by rw [← hM1]; exact fput_same _ _ _
  have hv1 : By i pb M1 (n + 3) v len bs := hv.fr (lo := 0) (hi := 0) (w := 0) (fun b hb _ _ => ⟨l1 b hb, Nat.zero_testBit _⟩) (by omega) (by omega) (.inl rfl)
  have hD1 := h.keep (show n ≤ n + 3 by omega) l1
  refine use_rt (perform_spec F.up F.e26 F.e58 F.e59 F.e60 hD1 (f := 36) (cs := [.pointer (some ⟨n, 0, none⟩), .pointer (some ⟨n + 1, 0, none⟩), .pointer (some ⟨n + 2, 0, none⟩)]) (R := fun r m' n' w => r = .int .i64 0 ∧ n + 3 ≤ n' ∧ (∀ b, b < n → b ≠ i.P → b ≠ i.D → m' b = m b) ∧ (∀ b, b < n → ¬ (i.P ≤ b ∧ b ≤ i.D) → m' b = m b ∧ Nat.testBit w b = false) ∧ Dsk i T O pb m' n' xs c ∧ ∃ v', m' (n + 2) = some (.cells [v'] 0 false true) ∧ SlZ 1 m' n n' v' len bs) (fun v m n w k => by obtain ⟨rfl, _⟩ := k; rfl) fun m2 n2 k1 k2 k3 => ?_) fun r3 m3 n3 r4 w3 hh => ?_
  · have hv2 : By i pb m2 n2 v len bs := hv1.fr (lo := i.P) (hi := i.D) (w := 0) (fun b hb hk _ => ⟨k3 b hb (by omega) (by omega), Nat.zero_testBit _⟩) (by omega) k1 (.inl rfl)
    refine (dread1 F k2 (bd := n) (ba := n + 1) (bo := n + 2) (oc := .slice none 0 0) ⟨by omega, by omega, by omega, by rw [k3 n (by omega) (by omega) (by omega)]; exact p0⟩ ⟨by omega, by rw [k3 _ (by omega) (by omega) (by omega)]; exact p1⟩ ⟨by omega, by omega, by omega, by rw [k3 _ (by omega) (by omega) (by omega)]; exact p2⟩ ha hx hv2.sh hone hl).mono ?_
    intro r m' n' w hh
    obtain ⟨_, q1, q2, q3, q4, v', q5, q6⟩ := hh
    obtain ⟨lf, hpw⟩ := k2.pw
    refine ⟨q3, by omega, fun b hb e1 e2 => by rw [(q2 b (by omega) (by omega) e2).1, k3 b (by omega) e1 e2, l1 b hb], fun b hb hk => ⟨by rw [(q2 b (by omega) (by omega) (by omega)).1, k3 b (by omega) (by omega) (by omega), l1 b hb], (q2 b (by omega) (by omega) (by omega)).2⟩, ⟨?_, q4, lf, by rw [(q2 i.P (by omega) (by omega) (by omega)).1]; exact hpw⟩, v', q5, q6.low (by omega)⟩
    exact h.cc.keepX (by omega) fun b hb e1 e2 _ _ => by rw [(q2 b (by omega) (by omega) e2).1, k3 b (by omega) e1 e2, l1 b hb]
  · obtain ⟨q0, w0, w1, rfl, q1, rfl, q2, q2', q3, q4, v', q5, q6⟩ := hh
    have hvo := q6.one
    simp (implicitDefEqProofs := false) (disch := omega) only [W2, opds, Nat.testBit, Nat.reduceAdd, Nat.reduceShiftRight, Nat.reduceAnd, Nat.reduceBNe, Nat.reduceMul, q5, hvo]
    refine hQ _ _ _ _ _ (by simp only [lor_test] at q0 ⊢; simp [q0]) ⟨by omega, q2', fun b hb hk hne => ⟨(q3 b hb hk).1, ?_⟩, q4, v', rfl, q6⟩
    simp only [lor_test, q1 b (by omega) hk, (q3 b hb hk).2, bit_ne (show b ≠ n by omega), bit_ne (show b ≠ n + 1 by omega), bit_ne (show b ≠ n + 2 by omega)]; rfl
theorem disk_flush {T O : Nat} (F : Fn2 E Y T O) {i : Ids} {pb : Nat} {m : FM} {n : Nat} {xs : List (Int × Value)} {c : Nat} (h : Dsk i T O pb m n xs c) (hc : c ≤ 100000) :
    Rt (callW PG E Y 25 [.pointer (some ⟨i.D, 0, none⟩), .int .u64 0] m n) fun r m' n' w => Nat.testBit w i.P = true ∧ (n ≤ n' ∧ Fr i.P i.D pb n m m' w ∧ r = .int .i64 0 ∧ Dsk i T O pb m' n' xs 0) := by
  obtain ⟨h0, h1, h2, h3, h4, h5, h6, h7, h8, h9⟩ := h.cc.ok
  have hKN := h.cc.KN
  have hpbN := h.cc.pbN
  have hpbk := h.cc.pbk
  refine wrt_spec (R := fun r m' n' w => (n ≤ n' ∧ Fr i.P i.D pb n m m' w ∧ r = .int .i64 0 ∧ Dsk i T O pb m' n' xs 0)) F.e25 rfl (show i.P < n by omega) fun Q hQ => ?_
  simp only [ac25]
  simp (implicitDefEqProofs := false) (disch := omega) only [W2, opds, Nat.testBit, Nat.reduceAdd, Nat.reduceShiftRight, Nat.reduceAnd, Nat.reduceBNe, Nat.reduceMul, s_func]
  generalize hM1 : (AMem.put m n _ : FM) = M1
  have l1 : ∀ b, b < n → M1 b = m b := fun b hb => by rw [← hM1, fput_ne _ _ _ _ (by omega)]
  have p0 : M1 n = some (.cells [.pointer (some ⟨i.D, 0, none⟩)] 0 false true) := by rw [← hM1]; exact fput_same _ _ _
  refine use_rt (perform2 F (h.keep (show n ≤ n + 1 by omega) l1) (f := 57) (cs := [.pointer (some ⟨n, 0, none⟩)]) (S := fun r m' n' => r = .int .i64 0 ∧ Dsk i T O pb m' n' xs 0) (fun v m n hS => by obtain ⟨rfl, _⟩ := hS; rfl) fun m2 n2 k1 k2 k3 => ?_) fun r3 m3 n3 r4 w3 hh => ?_
  · exact (dflush1 F k2 hc (bd := n) ⟨by omega, by omega, by omega, by rw [k3 n (by omega) (by omega)]; exact p0⟩).mono fun r m' n' w hh => hh.2
  · obtain ⟨q1, q2, q3, rfl, q5⟩ := hh
    simp (implicitDefEqProofs := false) (disch := omega) only [W2, opds, Nat.testBit, Nat.reduceAdd, Nat.reduceShiftRight, Nat.reduceAnd, Nat.reduceBNe, Nat.reduceMul]
    refine hQ _ _ _ _ _ (by simp only [lor_test, q1]; simp) ⟨by omega, fun b hb hk hne => ⟨by rw [(q3 b (by omega) hk hne).1, l1 b hb], ?_⟩, rfl, q5⟩
    simp only [lor_test, (q3 b (by omega) hk hne).2, bit_ne (show b ≠ n by omega)]; rfl
end Go.Am.CS
namespace Go.Am.CS
set_option maxRecDepth 100000
open Go Go.Am
variable {E : Nat → Option AFn} {Y : Nat → List Value → FM → Nat → OR FM}
structure Bnd where
  used : Nat
  live : Nat
  age : Int
  wear : Int
def Bnd.cells (x : Bnd) : List Value := [.int .i64 (x.used : Int), .int .i64 (x.live : Int), .int .u64 x.age, .int .u64 x.wear]
def bcells : List Bnd → List Value
  | [] => []
  | x :: xs => .int .i64 (x.used : Int) :: .int .i64 (x.live : Int) :: .int .u64 x.age :: .int .u64 x.wear :: bcells xs
theorem bcells_len : ∀ l : List Bnd, (bcells l).length = l.length * 4
  | [] => rfl
  | x :: xs => by simp only [bcells, List.length_cons, bcells_len xs]; omega
theorem bcells_one : ∀ l : List Bnd, (bcells l).all Am.one = true
  | [] => rfl
  | x :: xs => by simp only [bcells, List.all_cons, bcells_one xs]; rfl
theorem bcells_drop (l : List Bnd) : ∀ j, (bcells l).drop (j * 4) = bcells (l.drop j) := by
  induction l with
  | nil => intro j; simp [bcells]
  | cons x xs ih =>
    intro j
    cases j with
    | zero => simp
    | succ j =>
      rw [show (j + 1) * 4 = j * 4 + 1 + 1 + 1 + 1 by omega, bcells, List.drop_succ_cons, List.drop_succ_cons, List.drop_succ_cons, List.drop_succ_cons, ih j, List.drop_succ_cons]
theorem bcells_at {l : List Bnd} {j : Nat} (h : j < l.length) : ldrop (bcells l) (j * 4) = .int .i64 (l[j].used : Int) :: .int .i64 (l[j].live : Int) :: .int .u64 l[j].age :: .int .u64 l[j].wear :: bcells (l.drop (j + 1)) ∧ cget (bcells l) (j * 4) = some (.int .i64 (l[j].used : Int)) ∧ cget (bcells l) (j * 4 + 1) = some (.int .i64 (l[j].live : Int)) ∧ cget (bcells l) (j * 4 + 2) = some (.int .u64 l[j].age) ∧ cget (bcells l) (j * 4 + 3) = some (.int .u64 l[j].wear) := by
  have e : (bcells l).drop (j * 4) = .int .i64 (l[j].used : Int) :: .int .i64 (l[j].live : Int) :: .int .u64 l[j].age :: .int .u64 l[j].wear :: bcells (l.drop (j + 1)) := by
    rw [bcells_drop, List.drop_eq_getElem_cons h, bcells]
  have g : ∀ k, cget (bcells l) (j * 4 + k) = ((bcells l).drop (j * 4))[k]? := fun k => by rw [cget_eq, List.getElem?_drop]
  refine ⟨?_, by have := g 0; rw [e] at this; exact this, by have := g 1; rw [e] at this; exact this, by have := g 2; rw [e] at this; exact this, by have := g 3; rw [e] at this; exact this⟩
  rw [ldrop_eq, e]
def BsW (i : Ids) (pb : Nat) (M : FM) (N : Nat) (v : Value) (l : List Bnd) : Prop :=
  ∃ b c opn wr, v = .slice (some ⟨b, 0, none⟩) l.length c ∧ (i.K ≤ b ∨ i.D < b ∧ b ≠ i.R ∧ b ≠ i.EN) ∧ b ≠ pb ∧ b < N ∧ M b = some (.cells (bcells l) 4 opn wr) ∧ 0 < l.length ∧ l.length ≤ 5
theorem BsW.fr {i : Ids} {lo hi pb pb' : Nat} {M M' : FM} {N N' w : Nat} {v : Value} {l : List Bnd} (h : BsW i pb M N v l) (hf : Fr lo hi pb N M M' w) (hh : hi < i.K) (hd : hi ≤ i.D) (hN : N ≤ N') (hp : pb' = pb ∨ N ≤ pb') : BsW i pb' M' N' v l := by
  obtain ⟨b, c, opn, wr, h1, h2, h3, h4, h5, h6, h7⟩ := h
  exact ⟨b, c, opn, wr, h1, h2, by omega, by omega, ((hf b h4 (by omega) h3).1).trans h5, h6, h7⟩
theorem BsW.fr2 {i : Ids} {pb : Nat} {M M' : FM} {N : Nat} {v : Value} {l : List Bnd} (h : BsW i pb M N v l) (hR : i.R < i.K) (hE : i.EN < i.K) (hf : ∀ b, b < N → b ≠ i.R → b ≠ i.EN → M' b = M b) : BsW i pb M' N v l := by
  obtain ⟨b, c, opn, wr, h1, h2, h3, h4, h5, h6, h7⟩ := h
  exact ⟨b, c, opn, wr, h1, h2, h3, h4, (hf b h4 (by omega) (by omega)).trans h5, h6, h7⟩
theorem BsW.keep {i : Ids} {pb : Nat} {M M' : FM} {N N' : Nat} {v : Value} {l : List Bnd} (h : BsW i pb M N v l) (hN : N ≤ N') (hf : ∀ b, b < N → M' b = M b) : BsW i pb M' N' v l := by
  obtain ⟨b, c, opn, wr, h1, h2, h3, h4, h5, h6, h7⟩ := h
  exact ⟨b, c, opn, wr, h1, h2, h3, by omega, (hf b h4).trans h5, h6, h7⟩
theorem BsW.p {i : Ids} {pb : Nat} {M : FM} {N : Nat} {v : Value} {l : List Bnd} (h : BsW i pb M N v l) : lenV false v = some (.int .i64 (l.length : Int)) ∧ Am.one v = true ∧ belowV N v = true ∧ belowF N v = true := by
  obtain ⟨b, c, opn, wr, rfl, h2, h3, h4, h5, h6, h7⟩ := h
  exact ⟨rfl, rfl, blt_true h4, blt_true h4⟩
theorem BsW.at {i : Ids} {pb : Nat} {M : FM} {N : Nat} {v : Value} {l : List Bnd} (h : BsW i pb M N v l) : ∃ b, (∀ j, j < l.length → idxV 4 j v = some (.pointer (some ⟨b, j * 4, none⟩))) ∧ b < N ∧ b ≠ pb ∧ (i.K ≤ b ∨ i.D < b ∧ b ≠ i.R ∧ b ≠ i.EN) ∧ ∃ opn wr, M b = some (.cells (bcells l) 4 opn wr) := by
  obtain ⟨b, c, opn, wr, rfl, h2, h3, h4, h5, h6, h7⟩ := h
  exact ⟨b, fun j hj => by rw [idx_mk hj, Nat.zero_add], h4, h3, h2, opn, wr, h5⟩
def freeN (l : List Bnd) : Nat := l.countP fun x => x.used == 0
theorem free_L0 {i : Ids} {pb : Nat} {m : FM} {n : Nat} {v : Value} {l : List Bnd} (h : BsW i pb m n v l) (x4 x5 : Value) {Q : AX → List Value → FM → Nat → Nat → Prop}
    (hQ : ∀ x1 x2 M N w, Nat.mod w (bit n) = 0 → Q (.exit 0) [.int .i64 (freeN l : Int), x1, x2, x4, x5, v] M N w) :
    ∀ (d j : Nat), j + d = l.length → ∀ (x2 : Value) (M : FM) (N w0 : Nat), n ≤ N → (∀ b, b < n → M b = m b) → Nat.mod w0 (bit n) = 0 →
    Gv (execW PG E Y ac66L0 [.int .i64 (freeN (l.take j) : Int), .int .i64 (j : Int), x2, .int .i64 (l.length : Int), x4, x5, v] M N) fun X e m n w => Q X e m n (Nat.lor w0 w) := by
  obtain ⟨p1, p2, p3, p4⟩ := h.p
  obtain ⟨b, hi, hb, _, _, opn, wr, hm⟩ := h.at
  obtain ⟨_, _, _, _, _, _, _, _, _, _, hl5⟩ := h
  intro d
  induction d with
  | zero =>
    intro j hj x2 M N w0 hN hf hw
    refine wr_loopN (L := ac66L0) (b := ac66L0b) rfl ?_
    simp only [ac66L0b]
    obtain rfl : j = l.length := by omega
    rw [List.take_length]
    simp (implicitDefEqProofs := false) (disch := omega) only [W2, opds, Nat.testBit, Nat.reduceAdd, Nat.reduceShiftRight, Nat.reduceAnd, Nat.reduceBNe, Nat.reduceMul]
    exact hQ _ _ _ _ _ hw
  | succ d ih =>
    intro j hj x2 M N w0 hN hf hw
    have hmM := (hf b hb).trans hm
    obtain ⟨c1, c2, c3, c4, c5⟩ := bcells_at (l := l) (j := j) (by omega)
    have hix := hi j (by omega)
    refine wr_loopN (L := ac66L0) (b := ac66L0b) rfl ?_
    simp only [ac66L0b]
    have hcnt : freeN (l.take (j + 1)) = freeN (l.take j) + (if l[j].used = 0 then 1 else 0) := by
      rw [List.take_succ_eq_append_getElem (by omega), freeN, List.countP_append, freeN]
      simp [List.countP_cons]
    have hfl : freeN (l.take j) ≤ 5 := Nat.le_trans List.countP_le_length (by rw [List.length_take]; omega)
    by_cases h0 : l[j].used = 0
    · rw [if_pos h0] at hcnt
      rw [h0] at c1
      simp (implicitDefEqProofs := false) (disch := omega) only [W2, opds, Nat.testBit, Nat.reduceAdd, Nat.reduceShiftRight, Nat.reduceAnd, Nat.reduceBNe, Nat.reduceMul, p2, hix, hmM, c1]
      rw [← hcnt]
      refine wr_end (ih (j + 1) (by omega) _ _ _ (Nat.lor w0 (Nat.lor (bit N) (bit N))) (by omega) (fun b hb => by rw [fput_ne _ _ _ _ (by omega), hf b hb]) (by simp only [frz_iff]; exact ⟨hw, frz_bit hN, frz_bit hN⟩)) fun X e m n w hq => ?_
      rw [show Nat.lor w0 (Nat.lor (Nat.lor (bit N) (bit N)) w) = Nat.lor (Nat.lor w0 (Nat.lor (bit N) (bit N))) w from (lor_assoc' _ _ _).symm]
      exact hq
    · rw [if_neg h0] at hcnt
      simp (implicitDefEqProofs := false) (disch := omega) only [W2, opds, Nat.testBit, Nat.reduceAdd, Nat.reduceShiftRight, Nat.reduceAnd, Nat.reduceBNe, Nat.reduceMul, p2, hix, hmM, c1]
      rw [show freeN (l.take j) = freeN (l.take (j + 1)) by omega]
      refine wr_end (ih (j + 1) (by omega) _ _ _ (Nat.lor w0 (Nat.lor (bit N) (bit N))) (by omega) (fun b hb => by rw [fput_ne _ _ _ _ (by omega), hf b hb]) (by simp only [frz_iff]; exact ⟨hw, frz_bit hN, frz_bit hN⟩)) fun X e m n w hq => ?_
      rw [show Nat.lor w0 (Nat.lor (Nat.lor (bit N) (bit N)) w) = Nat.lor (Nat.lor w0 (Nat.lor (bit N) (bit N))) w from (lor_assoc' _ _ _).symm]
      exact hq
theorem free_spec (hE : E 66 = some ac66) {i : Ids} {pb : Nat} {m : FM} {n : Nat} {v : Value} {l : List Bnd} (h : BsW i pb m n v l) : Pure (callW PG E Y 66 [v] m n) m n (.int .i64 (freeN l : Int)) := by
  obtain ⟨p1, p2, p3, p4⟩ := h.p
  refine pure_spec hE rfl rfl ?_
  simp only [ac66]
  simp (implicitDefEqProofs := false) (disch := omega) only [W2, opds, Nat.testBit, Nat.reduceAdd, Nat.reduceShiftRight, Nat.reduceAnd, Nat.reduceBNe, Nat.reduceMul, p1, p2]
  refine wr_kont ((free_L0 h _ _ (fun x1 x2 M N w hw => ?_) l.length 0 (Nat.zero_add _) _ m n 0 (Nat.le_refl _) (fun _ _ => rfl) (frz_zero _)).mono fun X e m' n' w hq => by simpa only [zero_lor'] using hq)
  intro rr
  simp (implicitDefEqProofs := false) (disch := omega) only [W2, opds, Nat.testBit, Nat.reduceAdd, Nat.reduceShiftRight, Nat.reduceAnd, Nat.reduceBNe, Nat.reduceMul]
  exact hw
end Go.Am.CS
namespace Go.Am.CS
set_option maxRecDepth 100000
open Go Go.Am
variable {E : Nat → Option AFn} {Y : Nat → List Value → FM → Nat → OR FM}
theorem BsW.sh {i : Ids} {pb : Nat} {M : FM} {N : Nat} {v : Value} {l : List Bnd} (h : BsW i pb M N v l) : Sh 4 M N v l.length (bcells l) := by
  obtain ⟨b, c, opn, wr, h1, h2, h3, h4, h5, h6, h7⟩ := h
  exact ⟨b, 0, c, bcells l, opn, wr, h1, h4, h5, by rw [cellsAt_mk, ldrop_z]; exact cells_all (bcells_len l).symm, h6⟩
theorem slz_bs {i : Ids} {pb : Nat} {M M' : FM} {n0 N N' : Nat} {v : Value} {l : List Bnd} (h : SlZ 4 M n0 N v l.length (bcells l)) (hf : ∀ b, n0 ≤ b → b < N → M' b = M b) (hN : N ≤ N') (hl : 0 < l.length) (hl5 : l.length ≤ 5) (hk : i.K ≤ n0) (hp : pb < n0 ∨ N ≤ pb) : BsW i pb M' N' v l := by
  rcases h with ⟨h1, _⟩ | ⟨h0, hcl, b, rfl, h1, h2, h3⟩
  · omega
  · exact ⟨b, UNK, true, true, rfl, by omega, by omega, by omega, (hf b h1 h2).trans h3, hl, hl5⟩
theorem clone145 (hE : E 145 = some ac145) {i : Ids} {pb : Nat} {m : FM} {n : Nat} {v : Value} {l : List Bnd} (h : BsW i pb m n v l) :
    Rt (callW PG E Y 145 [v] m n) fun v' m' n' w => n ≤ n' ∧ (∀ b, b < n → m' b = m b) ∧ (∀ j, j ≤ n → Nat.mod w (bit j) = 0) ∧ SlZ 4 m' n n' v' l.length (bcells l) := by
  have h5 : l.length ≤ 5 := by obtain ⟨_, _, _, _, _, _, _, _, _, _, h7⟩ := h; exact h7
  refine kept_specQ (R := fun v m' n' => SlZ 4 m' n n' v l.length (bcells l)) hE rfl fun Q hQ => ?_
  have h := h.sh
  have e22 : binV PG .eql 75 v (.slice none 0 0) = some (.bool false) := by
    obtain ⟨b, o, c, rfl, hb, h0⟩ := h.sl
    exact eqlnil_slc (P := PG) (t := 75) (by kernel_rfl) (some ⟨b, o, none⟩) _ c
  have hone1 := h.one
  simp only [ac145]
  simp (implicitDefEqProofs := false) (disch := omega) only [W2, opds, Nat.testBit, Nat.reduceAdd, Nat.reduceShiftRight, Nat.reduceAnd, Nat.reduceBNe, Nat.reduceMul, e22, hone1]
  generalize hM1 : (AMem.put m n (some (Blk.cells [] 4 false true)) : FM) = M1
  have lo1 : ∀ b, b < n → M1 b = m b := fun b hb => by rw [← hM1, fput_ne _ _ _ _ (by omega)]
  obtain ⟨b', hb', hsh⟩ := (h.frame (show n ≤ n + 1 by omega) lo1).shows
  obtain ⟨b, o, c, rfl, hb, h0⟩ := h.sl
  rw [hsh]
  refine use_rt (app_lit (n0 := n) (Nat.le_refl _) (by omega) (by omega) h0 (bcells_one l) h.clen _ _ _ (by omega) (by omega)) fun v2 M2 N2 r2 w2 ⟨n2, hS2, lo2, hw2⟩ => ?_
  subst n2; subst hw2
  simp (implicitDefEqProofs := false) (disch := omega) only [W2, opds, Nat.testBit, Nat.reduceAdd, Nat.reduceShiftRight, Nat.reduceAnd, Nat.reduceBNe, Nat.reduceMul]
  refine hQ _ _ _ _ _ (by omega) (fun b hb => by rw [lo2 b (by omega), lo1 b hb]) ?_ ?_ hS2
  · simp (implicitDefEqProofs := false) (disch := omega) only [W2, opds, Nat.testBit, Nat.reduceAdd, Nat.reduceShiftRight, Nat.reduceAnd, Nat.reduceBNe, Nat.reduceMul]
  · rcases hS2 with ⟨q, _⟩ | ⟨_, _, b, rfl, _⟩
    · omega
    · rfl
theorem change_spec (hE : E 143 = some ac143) (h145 : E 145 = some ac145) {i : Ids} {pb : Nat} {m : FM} {n : Nat} {v : Value} {l l' : List Bnd} (h : BsW i pb m n v l) {k : Nat} (hk : k < l.length) (hl' : l'.length = l.length) {f : Nat} {cs : List Value} (hcb : (cs.all (below1 n)) = true)
    (hcall : ∀ m2 n2 nb, n ≤ nb → nb < n2 → (∀ b, b < n → m2 b = m b) → m2 nb = some (.cells (bcells l) 4 true true) → Rt (callW PG E Y f (.pointer (some ⟨nb, k * 4, none⟩) :: cs) m2 n2) fun r m3 n3 w => r = .int .i64 0 ∧ n2 ≤ n3 ∧ (∀ b, b < n2 → b ≠ nb → m3 b = m2 b ∧ Nat.testBit w b = false) ∧ m3 nb = some (.cells (bcells l') 4 true true)) :
    Rt (callW PG E Y 143 [v, .int .i64 (k : Int), .func (.func f) #[] cs.toArray] m n) fun r m' n' w => n ≤ n' ∧ (∀ b, b < n → m' b = m b) ∧ (∀ j, j ≤ n → Nat.mod w (bit j) = 0) ∧ ∃ v', r = .tuple #[v', .int .i64 0] ∧ SlZ 4 m' n n' v' l'.length (bcells l') := by
  have h5 : l.length ≤ 5 := by obtain ⟨_, _, _, _, _, _, _, _, _, _, h7⟩ := h; exact h7
  obtain ⟨p1, p2, p3, p4⟩ := h.p
  refine kept_specQ (R := fun r m' n' => ∃ v', r = .tuple #[v', .int .i64 0] ∧ SlZ 4 m' n n' v' l'.length (bcells l')) hE rfl fun Q hQ => ?_
  simp only [ac143]
  simp (implicitDefEqProofs := false) (disch := omega) only [W2, opds, Nat.testBit, Nat.reduceAdd, Nat.reduceShiftRight, Nat.reduceAnd, Nat.reduceBNe, Nat.reduceMul, p1, p2]
  refine use_rt (clone145 h145 h) fun v1 m1 n1 r1 w1 hh => ?_
  obtain ⟨hn1, hf1, hw1, hS1⟩ := hh
  rcases hS1 with ⟨q, _⟩ | ⟨_, hcl, nb, rfl, hb1, hb2, hm1⟩
  · omega
  have hix : idxV 4 k (.slice (some ⟨nb, 0, none⟩) l.length UNK) = some (.pointer (some ⟨nb, k * 4, none⟩)) := by rw [idx_mk hk, Nat.zero_add]
  simp (implicitDefEqProofs := false) (disch := omega) only [W2, opds, Nat.testBit, Nat.reduceAdd, Nat.reduceShiftRight, Nat.reduceAnd, Nat.reduceBNe, Nat.reduceMul, hix, s_callv, callv0, List.cons_append, List.nil_append]
  refine use_rt (hcall m1 n1 nb hb1 hb2 hf1 hm1) fun r2 m2 n2 r3 w2 hh => ?_
  obtain ⟨rfl, hn2, hf2, hm2⟩ := hh
  simp (implicitDefEqProofs := false) (disch := omega) only [W2, opds, Nat.testBit, Nat.reduceAdd, Nat.reduceShiftRight, Nat.reduceAnd, Nat.reduceBNe, Nat.reduceMul]
  refine hQ _ _ _ _ _ (by omega) (fun b hb => by rw [(hf2 b (by omega) (by omega)).1, hf1 b hb]) ?_ rfl ⟨_, rfl, .inr ⟨by omega, bcells_len _, nb, by rw [hl'], hb1, by omega, hm2⟩⟩
  exact bit_mod fun b hb => by simp only [lor_test, mod_bit (hw1 n (Nat.le_refl _)) b hb, (hf2 b (by omega) (by omega)).2]; rfl
theorem bcells_set (l : List Bnd) : ∀ (k : Nat) (h : k < l.length) (x : Bnd), setCells (bcells l) (k * 4) x.cells = some (bcells (l.set k x)) := by
  induction l with
  | nil => intro k h; cases h
  | cons y ys ih =>
    intro k h x
    cases k with
    | zero =>
      rw [setCells_eq, if_pos (by rw [bcells_len]; simp [Bnd.cells]; omega)]
      rfl
    | succ k =>
      have hl : k < ys.length := by rw [List.length_cons] at h; omega
      have := ih k hl x
      rw [setCells_eq] at this ⊢
      rw [if_pos (by rw [bcells_len]; simp [Bnd.cells]; omega)] at this
      rw [if_pos (by rw [bcells_len, List.length_cons]; simp [Bnd.cells]; omega)]
      injection this with this
      rw [List.set_cons_succ, bcells, bcells, ← this, show (k + 1) * 4 = k * 4 + 1 + 1 + 1 + 1 by omega]
      simp only [Bnd.cells, List.take_succ_cons, List.drop_succ_cons, List.cons_append, List.length_cons, List.length_nil]
theorem set_one (c : Nat) (hc : c < 4) (z : Value) (g : Bnd → Bnd) (hg : ∀ x : Bnd, (x.cells.take c ++ [z] ++ x.cells.drop (c + 1)) = (g x).cells) (l : List Bnd) : ∀ (k : Nat) (h : k < l.length), setCells (bcells l) (k * 4 + c) [z] = some (bcells (l.set k (g l[k]))) := by
  have hb : ∀ (x : Bnd) (xs : List Bnd), bcells (x :: xs) = x.cells ++ bcells xs := fun _ _ => rfl
  have hcl : ∀ x : Bnd, x.cells.length = 4 := fun _ => rfl
  induction l with
  | nil => intro k h; cases h
  | cons y ys ih =>
    intro k h
    cases k with
    | zero =>
      rw [setCells_eq, if_pos (by rw [bcells_len]; simp; omega)]
      rw [List.set_cons_zero, hb, hb, Nat.zero_mul, Nat.zero_add, List.getElem_cons_zero, ← hg y, List.take_append_of_le_length (by rw [hcl]; omega), List.drop_append_of_le_length (by rw [hcl]; simp; omega)]
      simp
    | succ k =>
      have hl : k < ys.length := by rw [List.length_cons] at h; omega
      have := ih k hl
      rw [setCells_eq] at this ⊢
      rw [if_pos (by rw [bcells_len]; simp; omega)] at this
      rw [if_pos (by rw [bcells_len, List.length_cons]; simp; omega)]
      injection this with this
      rw [List.set_cons_succ, bcells, bcells, List.getElem_cons_succ, ← this, show (k + 1) * 4 + c = k * 4 + c + 1 + 1 + 1 + 1 by omega]
      simp only [List.take_succ_cons, List.drop_succ_cons, List.cons_append, List.length_cons, List.length_nil, show k * 4 + c + 1 + 1 + 1 + 1 + (0 + 1) = k * 4 + c + (0 + 1) + 1 + 1 + 1 + 1 by omega]
theorem set_cell {l : List Bnd} {k : Nat} (h : k < l.length) : (∀ u : Nat, setCells (bcells l) (k * 4) [.int .i64 (u : Int)] = some (bcells (l.set k { l[k] with used := u }))) ∧ (∀ u : Nat, setCells (bcells l) (k * 4 + 1) [.int .i64 (u : Int)] = some (bcells (l.set k { l[k] with live := u }))) ∧ (∀ u : Int, setCells (bcells l) (k * 4 + 2) [.int .u64 u] = some (bcells (l.set k { l[k] with age := u }))) :=
  ⟨fun u => set_one 0 (by omega) _ (fun x => { x with used := u }) (fun _ => rfl) l k h, fun u => set_one 1 (by omega) _ (fun x => { x with live := u }) (fun _ => rfl) l k h, fun u => set_one 2 (by omega) _ (fun x => { x with age := u }) (fun _ => rfl) l k h⟩
theorem slz_tup {sz : Nat} {M : FM} {n0 N : Nat} {v : Value} {len : Nat} {cs : List Value} (h : SlZ sz M n0 N v len cs) (h0 : 0 < len) : addrFree (.tuple #[v, .int .i64 0]) = false := by
  rcases h with ⟨q, _⟩ | ⟨_, _, b, rfl, _⟩
  · omega
  · rfl
theorem unlink_spec (hE : E 142 = some ac142) (h143 : E 143 = some ac143) (h145 : E 145 = some ac145) (h185 : E 185 = some ac185) {i : Ids} {pb : Nat} {m : FM} {n : Nat} {v : Value} {l : List Bnd} (h : BsW i pb m n v l) {k : Nat} (hk : k < l.length) (h1 : 1 ≤ l[k].live) (h2 : l[k].live ≤ 100) :
    Rt (callW PG E Y 142 [v, .int .i64 (k : Int)] m n) fun r m' n' w => n ≤ n' ∧ (∀ b, b < n → m' b = m b) ∧ (∀ j, j ≤ n → Nat.mod w (bit j) = 0) ∧ ∃ v', r = .tuple #[v', .int .i64 0] ∧ SlZ 4 m' n n' v' (l.set k { l[k] with live := l[k].live - 1 }).length (bcells (l.set k { l[k] with live := l[k].live - 1 })) := by
  refine kept_specQ (R := fun r m' n' => ∃ v', r = .tuple #[v', .int .i64 0] ∧ SlZ 4 m' n n' v' (l.set k { l[k] with live := l[k].live - 1 }).length (bcells (l.set k { l[k] with live := l[k].live - 1 }))) hE rfl fun Q hQ => ?_
  obtain ⟨p1, p2, p3, p4⟩ := h.p
  simp only [ac142]
  simp (implicitDefEqProofs := false) (disch := omega) only [W2, opds, Nat.testBit, Nat.reduceAdd, Nat.reduceShiftRight, Nat.reduceAnd, Nat.reduceBNe, Nat.reduceMul, p2]
  refine use_rt (change_spec h143 h145 h hk (l' := l.set k { l[k] with live := l[k].live - 1 }) (by rw [List.length_set]) (f := 185) (cs := []) rfl fun m2 n2 nb hb1 hb2 hf2 hm2 => ?_) fun r2 m2 n2 r3 w2 hh => ?_
  · obtain ⟨c1, c2, c3, c4, c5⟩ := bcells_at hk
    have hs := (set_cell hk).2.1 (l[k].live - 1)
    refine (wrt_spec (R := fun r m3 n3 w => r = .int .i64 0 ∧ n2 ≤ n3 ∧ (∀ b, b < n2 → b ≠ nb → m3 b = m2 b ∧ Nat.testBit w b = false) ∧ m3 nb = some (.cells (bcells (l.set k { l[k] with live := l[k].live - 1 })) 4 true true)) h185 rfl hb2 fun Q hQ => ?_).mono fun r m3 n3 w hh => hh.2
    simp only [ac185]
    simp (implicitDefEqProofs := false) (disch := omega) only [W2, opds, Nat.testBit, Nat.reduceAdd, Nat.reduceShiftRight, Nat.reduceAnd, Nat.reduceBNe, Nat.reduceMul, hm2, c3, hs]
    exact hQ _ _ _ _ _ (by rw [bit_test]; simp) ⟨rfl, Nat.le_refl _, fun b hb hne => ⟨fput_ne _ _ _ _ hne, bit_ne hne⟩, fput_same _ _ _⟩
  · obtain ⟨q1, q2, q3, v', rfl, q4⟩ := hh
    simp (implicitDefEqProofs := false) (disch := omega) only [W2, opds, Nat.testBit, Nat.reduceAdd, Nat.reduceShiftRight, Nat.reduceAnd, Nat.reduceBNe, Nat.reduceMul, extr_mk]
    refine hQ _ _ _ _ _ q1 q2 (by simp (implicitDefEqProofs := false) (disch := omega) only [W2, opds, Nat.testBit, Nat.reduceAdd, Nat.reduceShiftRight, Nat.reduceAnd, Nat.reduceBNe, Nat.reduceMul, q3 n (Nat.le_refl _)]) ?_ ⟨v', rfl, q4⟩
    exact slz_tup q4 (by rw [List.length_set]; omega)
end Go.Am.CS
namespace Go.Am.CS
set_option maxRecDepth 100000
open Go Go.Am
variable {E : Nat → Option AFn} {Y : Nat → List Value → FM → Nat → OR FM}
theorem breset_spec (hE : E 109 = some ac109) (h143 : E 143 = some ac143) (h145 : E 145 = some ac145) (h144 : E 144 = some ac144) {i : Ids} {pb : Nat} {m : FM} {n : Nat} {v : Value} {l : List Bnd} (h : BsW i pb m n v l) {k : Nat} (hk : k < l.length) :
    Rt (callW PG E Y 109 [v, .int .i64 (k : Int)] m n) fun r m' n' w => n ≤ n' ∧ (∀ b, b < n → m' b = m b) ∧ (∀ j, j ≤ n → Nat.mod w (bit j) = 0) ∧ ∃ v' wr, r = .tuple #[v', .int .i64 0] ∧ SlZ 4 m' n n' v' (l.set k ⟨0, 0, 0, wr⟩).length (bcells (l.set k ⟨0, 0, 0, wr⟩)) := by
  obtain ⟨p1, p2, p3, p4⟩ := h.p
  refine kept_specQ (R := fun r m' n' => ∃ v' wr, r = .tuple #[v', .int .i64 0] ∧ SlZ 4 m' n n' v' (l.set k ⟨0, 0, 0, wr⟩).length (bcells (l.set k ⟨0, 0, 0, wr⟩))) hE rfl fun Q hQ => ?_
  simp only [ac109]
  simp (implicitDefEqProofs := false) (disch := omega) only [W2, opds, Nat.testBit, Nat.reduceAdd, Nat.reduceShiftRight, Nat.reduceAnd, Nat.reduceBNe, Nat.reduceMul, p2]
  refine use_rt (change_spec h143 h145 h hk (l' := l.set k ⟨0, 0, 0, IntKind.u64.wrap (l[k].wear + 1)⟩) (by rw [List.length_set]) (f := 144) (cs := []) rfl fun m2 n2 nb hb1 hb2 hf2 hm2 => ?_) fun r2 m2 n2 r3 w2 hh => ?_
  · obtain ⟨c1, c2, c3, c4, c5⟩ := bcells_at hk
    have hs : setCells (bcells l) (k * 4) [.int .i64 0, .int .i64 0, .int .u64 0, .int .u64 (IntKind.u64.wrap (l[k].wear + 1))] = some (bcells (l.set k ⟨0, 0, 0, IntKind.u64.wrap (l[k].wear + 1)⟩)) := bcells_set l k hk ⟨0, 0, 0, IntKind.u64.wrap (l[k].wear + 1)⟩
    refine (wrt_spec (R := fun r m3 n3 w => r = .int .i64 0 ∧ n2 ≤ n3 ∧ (∀ b, b < n2 → b ≠ nb → m3 b = m2 b ∧ Nat.testBit w b = false) ∧ m3 nb = some (.cells (bcells (l.set k ⟨0, 0, 0, IntKind.u64.wrap (l[k].wear + 1)⟩)) 4 true true)) h144 rfl hb2 fun Q hQ => ?_).mono fun r m3 n3 w hh => hh.2
    simp only [ac144]
    simp (implicitDefEqProofs := false) (disch := omega) only [W2, opds, Nat.testBit, Nat.reduceAdd, Nat.reduceShiftRight, Nat.reduceAnd, Nat.reduceBNe, Nat.reduceMul, hm2, c5, hs]
    exact hQ _ _ _ _ _ (by rw [bit_test]; simp) ⟨rfl, Nat.le_refl _, fun b hb hne => ⟨fput_ne _ _ _ _ hne, bit_ne hne⟩, fput_same _ _ _⟩
  · obtain ⟨q1, q2, q3, v', rfl, q4⟩ := hh
    simp (implicitDefEqProofs := false) (disch := omega) only [W2, opds, Nat.testBit, Nat.reduceAdd, Nat.reduceShiftRight, Nat.reduceAnd, Nat.reduceBNe, Nat.reduceMul, extr_mk]
    refine hQ _ _ _ _ _ q1 q2 (by simp (implicitDefEqProofs := false) (disch := omega) only [W2, opds, Nat.testBit, Nat.reduceAdd, Nat.reduceShiftRight, Nat.reduceAnd, Nat.reduceBNe, Nat.reduceMul, q3 n (Nat.le_refl _)]) ?_ ⟨v', _, rfl, q4⟩
    exact slz_tup q4 (by rw [List.length_set]; omega)
theorem bappend_spec (hE : E 113 = some ac113) (h143 : E 143 = some ac143) (h145 : E 145 = some ac145) (h148 : E 148 = some ac148) {i : Ids} {pb : Nat} {m : FM} {n : Nat} {v : Value} {l : List Bnd} (h : BsW i pb m n v l) {k S : Nat} (hk : k < l.length) (h1 : l[k].used < S) (h2 : l[k].live ≤ 100) (hS : S ≤ 100) (t : Int) :
    Rt (callW PG E Y 113 [v, .int .i64 (S : Int), .int .i64 (k : Int), .int .u64 t] m n) fun r m' n' w => n ≤ n' ∧ (∀ b, b < n → m' b = m b) ∧ (∀ j, j ≤ n → Nat.mod w (bit j) = 0) ∧ ∃ v', r = .tuple #[v', .int .i64 0] ∧ SlZ 4 m' n n' v' (l.set k ⟨l[k].used + 1, l[k].live + 1, t, l[k].wear⟩).length (bcells (l.set k ⟨l[k].used + 1, l[k].live + 1, t, l[k].wear⟩)) := by
  obtain ⟨p1, p2, p3, p4⟩ := h.p
  refine kept_specQ (R := fun r m' n' => ∃ v', r = .tuple #[v', .int .i64 0] ∧ SlZ 4 m' n n' v' (l.set k ⟨l[k].used + 1, l[k].live + 1, t, l[k].wear⟩).length (bcells (l.set k ⟨l[k].used + 1, l[k].live + 1, t, l[k].wear⟩))) hE rfl fun Q hQ => ?_
  simp only [ac113]
  simp (implicitDefEqProofs := false) (disch := omega) only [W2, opds, Nat.testBit, Nat.reduceAdd, Nat.reduceShiftRight, Nat.reduceAnd, Nat.reduceBNe, Nat.reduceMul, p2, s_func]
  generalize hM1 : (AMem.put (AMem.put m n _) (n + 1) _ : FM) = M1
  have l1 : ∀ b, b < n → M1 b = m b := fun b hb => by rw [← hM1, fput_ne _ _ _ _ (by omega), fput_ne _ _ _ _ (by omega)]
  have q0 : M1 n = some (.cells [.int .i64 (S : Int)] 0 false true) := by rw [← hM1, fput_ne _ _ _ _ (by omega)]; exact fput_same _ _ _
  have q1 : M1 (n + 1) = some (.cells [.int .u64 t] 0 false true) := by rw [← hM1]; exact fput_same _ _ _
  refine use_rt (change_spec h143 h145 (h.keep (show n ≤ n + 2 by omega) l1) hk (l' := l.set k ⟨l[k].used + 1, l[k].live + 1, t, l[k].wear⟩) (by rw [List.length_set]) (f := 148) (cs := [.pointer (some ⟨n, 0, none⟩), .pointer (some ⟨n + 1, 0, none⟩)]) (by simp [below1_ptr, blt_true]) fun m2 n2 nb hb1 hb2 hf2 hm2 => ?_) fun r2 m2 n2 r3 w2 hh => ?_
  · obtain ⟨c1, c2, c3, c4, c5⟩ := bcells_at hk
    have z0 := (hf2 n (by omega)).trans q0
    have z1 := (hf2 (n + 1) (by omega)).trans q1
    have hs1 := (set_cell hk).1 (l[k].used + 1)
    refine (wrt_spec (R := fun r m3 n3 w => r = .int .i64 0 ∧ n2 ≤ n3 ∧ (∀ b, b < n2 → b ≠ nb → m3 b = m2 b ∧ Nat.testBit w b = false) ∧ m3 nb = some (.cells (bcells (l.set k ⟨l[k].used + 1, l[k].live + 1, t, l[k].wear⟩)) 4 true true)) h148 rfl hb2 fun Q hQ => ?_).mono fun r m3 n3 w hh => hh.2
    have hk1 : k < (l.set k { l[k] with used := l[k].used + 1 }).length := by rw [List.length_set]; exact hk
    obtain ⟨d1, d2, d3, d4, d5⟩ := bcells_at hk1
    have hs2 := (set_cell hk1).2.1 (l[k].live + 1)
    simp only [List.getElem_set_self, List.set_set] at d3 hs2
    have hk2 : k < (l.set k { l[k] with used := l[k].used + 1, live := l[k].live + 1 }).length := by rw [List.length_set]; exact hk
    have hs3 := (set_cell hk2).2.2 t
    simp only [List.getElem_set_self, List.set_set] at hs3
    simp only [ac148]
    simp (implicitDefEqProofs := false) (disch := omega) only [W2, opds, Nat.testBit, Nat.reduceAdd, Nat.reduceShiftRight, Nat.reduceAnd, Nat.reduceBNe, Nat.reduceMul, hm2, c2, hs1, d3, hs2, hs3, z0, z1]
    exact hQ _ _ _ _ _ (by simp only [lor_test, bit_test]; simp) ⟨rfl, Nat.le_refl _, fun b hb hne => ⟨fput_ne _ _ _ _ hne, by simp only [lor_test, bit_ne hne]; rfl⟩, fput_same _ _ _⟩
  · obtain ⟨z1, z2, z3, v', rfl, z4⟩ := hh
    simp (implicitDefEqProofs := false) (disch := omega) only [W2, opds, Nat.testBit, Nat.reduceAdd, Nat.reduceShiftRight, Nat.reduceAnd, Nat.reduceBNe, Nat.reduceMul, extr_mk]
    refine hQ _ _ _ _ _ (by omega) (fun b hb => by rw [z2 b (by omega), l1 b hb]) ?_ ?_ ⟨v', rfl, z4.low (by omega)⟩
    · simp only [frz_iff]; exact ⟨⟨frz_bit (Nat.le_refl _), frz_bit (by omega)⟩, z3 n (by omega)⟩
    · exact slz_tup z4 (by rw [List.length_set]; omega)
end Go.Am.CS
namespace Go.Am.CS
set_option maxRecDepth 100000
open Go Go.Am
variable {E : Nat → Option AFn} {Y : Nat → List Value → FM → Nat → OR FM}
def BOk (S : Nat) (l : List Bnd) : Prop := ∀ x ∈ l, x.live ≤ x.used ∧ x.used ≤ S
theorem v170 (hE : E 170 = some ac170) (m : FM) (n : Nat) {b S : Nat} (hb : b < n) (hm : m b = some (.cells [.int .i64 (S : Int)] 0 false true)) (x : Bnd) (h1 : x.live ≤ x.used) (h2 : x.used ≤ S) : Pure (callW PG E Y 170 [.agg #[.int .i64 (x.used : Int), .int .i64 (x.live : Int), .int .u64 x.age, .int .u64 x.wear], .pointer (some ⟨b, 0, none⟩)] m n) m n (.bool false) := by
  refine pure_spec hE rfl rfl ?_
  simp only [ac170]
  simp (implicitDefEqProofs := false) (disch := omega) only [W2, opds, Nat.testBit, Nat.reduceAdd, Nat.reduceShiftRight, Nat.reduceAnd, Nat.reduceBNe, Nat.reduceMul, hm]
theorem v192_L0 (h170 : E 170 = some ac170) {i : Ids} {pb : Nat} {m : FM} {n : Nat} {v : Value} {l : List Bnd} (h : BsW i pb m n v l) {b S : Nat} (hb : b < n) (hm : m b = some (.cells [.int .i64 (S : Int)] 0 false true)) (ho : BOk S l) (x4 : Value) {Q : AX → List Value → FM → Nat → Nat → Prop}
    (hQ : ∀ x0 x1 x2, Q (.exit 0) [x0, x1, x2, x4, v, .func (.func 170) #[] #[.pointer (some ⟨b, 0, none⟩)]] m n 0) :
    ∀ (d j : Nat), j + d = l.length → ∀ (x0 x2 : Value),
    Gv (execW PG E Y ac192L0 [x0, .int .i64 (j : Int), x2, .int .i64 (l.length : Int), x4, v, .func (.func 170) #[] #[.pointer (some ⟨b, 0, none⟩)]] m n) Q := by
  obtain ⟨p1, p2, p3, p4⟩ := h.p
  obtain ⟨ab, hi, hab, _, _, opn, wr, hma⟩ := h.at
  obtain ⟨_, _, _, _, _, _, _, _, _, _, hl5⟩ := h
  intro d
  induction d with
  | zero =>
    intro j hj x0 x2
    refine wr_loopN (L := ac192L0) (b := ac192L0b) rfl ?_
    simp only [ac192L0b]
    obtain rfl : j = l.length := by omega
    simp (implicitDefEqProofs := false) (disch := omega) only [W2, opds, Nat.testBit, Nat.reduceAdd, Nat.reduceShiftRight, Nat.reduceAnd, Nat.reduceBNe, Nat.reduceMul]
    exact hQ _ _ _
  | succ d ih =>
    intro j hj x0 x2
    obtain ⟨c1, c2, c3, c4, c5⟩ := bcells_at (l := l) (j := j) (by omega)
    have hix := hi j (by omega)
    obtain ⟨o1, o2⟩ := ho _ (List.getElem_mem (show j < l.length by omega))
    refine wr_loopN (L := ac192L0) (b := ac192L0b) rfl ?_
    simp only [ac192L0b]
    simp (implicitDefEqProofs := false) (disch := omega) only [W2, opds, Nat.testBit, Nat.reduceAdd, Nat.reduceShiftRight, Nat.reduceAnd, Nat.reduceBNe, Nat.reduceMul, p2, hix, hma, c1, s_callv, callv0, List.cons_append, List.nil_append]
    refine use_pure (v170 h170 m n hb hm l[j] o1 o2) fun r1 => ?_
    simp (implicitDefEqProofs := false) (disch := omega) only [W2, opds, Nat.testBit, Nat.reduceAdd, Nat.reduceShiftRight, Nat.reduceAnd, Nat.reduceBNe, Nat.reduceMul]
    refine wr_end (ih (j + 1) (by omega) _ _) fun X e m n w hq => ?_
    rwa [zero_lor']
theorem v169 (hE : E 169 = some ac169) (h192 : E 192 = some ac192) (h170 : E 170 = some ac170) {i : Ids} {pb : Nat} {m : FM} {n : Nat} {v : Value} {l : List Bnd} (h : BsW i pb m n v l) {b S : Nat} (hb : b < n) (hm : m b = some (.cells [.int .i64 (S : Int)] 0 false true)) (ho : BOk S l) : Pure (callW PG E Y 169 [v, .func (.func 170) #[] #[.pointer (some ⟨b, 0, none⟩)]] m n) m n (.bool false) := by
  obtain ⟨p1, p2, p3, p4⟩ := h.p
  have h192' : Pure (callW PG E Y 192 [v, .func (.func 170) #[] #[.pointer (some ⟨b, 0, none⟩)]] m n) m n (.int .i64 (-1)) := by
    refine pure_spec h192 rfl rfl ?_
    simp only [ac192]
    simp (implicitDefEqProofs := false) (disch := omega) only [W2, opds, Nat.testBit, Nat.reduceAdd, Nat.reduceShiftRight, Nat.reduceAnd, Nat.reduceBNe, Nat.reduceMul, p1, p2]
    refine wr_kont ((v192_L0 h170 h hb hm ho _ (fun x0 x1 x2 => ?_) l.length 0 (Nat.zero_add _) _ _).mono fun X e m' n' w hq => by simpa only [zero_lor'] using hq)
    intro rr
    simp (implicitDefEqProofs := false) (disch := omega) only [W2, opds, Nat.testBit, Nat.reduceAdd, Nat.reduceShiftRight, Nat.reduceAnd, Nat.reduceBNe, Nat.reduceMul]
  refine pure_spec hE rfl rfl ?_
  simp only [ac169]
  simp (implicitDefEqProofs := false) (disch := omega) only [W2, opds, Nat.testBit, Nat.reduceAdd, Nat.reduceShiftRight, Nat.reduceAnd, Nat.reduceBNe, Nat.reduceMul, p2]
  refine use_pure h192' fun r1 => ?_
  simp (implicitDefEqProofs := false) (disch := omega) only [W2, opds, Nat.testBit, Nat.reduceAdd, Nat.reduceShiftRight, Nat.reduceAnd, Nat.reduceBNe, Nat.reduceMul]
theorem bvalid_spec (hE : E 137 = some ac137) (h169 : E 169 = some ac169) (h192 : E 192 = some ac192) (h170 : E 170 = some ac170) {i : Ids} {pb : Nat} {m : FM} {n : Nat} {v : Value} {l : List Bnd} (h : BsW i pb m n v l) {S : Nat} (hS : 1 ≤ S) (hS2 : S ≤ 100) (ho : BOk S l) : Pure (callW PG E Y 137 [v, .int .i64 (S : Int)] m n) m n (.bool true) := by
  obtain ⟨p1, p2, p3, p4⟩ := h.p
  have hl : 0 < l.length ∧ l.length ≤ 5 := by obtain ⟨_, _, _, _, _, _, _, _, _, h6, h7⟩ := h; exact ⟨h6, h7⟩
  refine pure_spec hE rfl rfl ?_
  simp only [ac137]
  simp (implicitDefEqProofs := false) (disch := omega) only [W2, opds, Nat.testBit, Nat.reduceAdd, Nat.reduceShiftRight, Nat.reduceAnd, Nat.reduceBNe, Nat.reduceMul, p1, p2, s_func]
  generalize hM1 : (AMem.put m n _ : FM) = M1
  have l1 : ∀ b, b < n → M1 b = m b := fun b hb => by rw [← hM1, fput_ne _ _ _ _ (by omega)]
  have l0 : M1 n = some (.cells [.int .i64 (S : Int)] 0 false true) := by rw [← hM1]; exact fput_same _ _ _
  refine use_pure (v169 h169 h192 h170 (h.keep (show n ≤ n + 1 by omega) l1) (by omega) l0 ho) fun r1 => ?_
  simp (implicitDefEqProofs := false) (disch := omega) only [W2, opds, Nat.testBit, Nat.reduceAdd, Nat.reduceShiftRight, Nat.reduceAnd, Nat.reduceBNe, Nat.reduceMul]
end Go.Am.CS
namespace Go.Am.CS
set_option maxRecDepth 100000
open Go Go.Am
variable {E : Nat → Option AFn} {Y : Nat → List Value → FM → Nat → OR FM}
def ageAt (l : List Bnd) (z : Int) : Int := ((l[z.toNat]?).map Bnd.age).getD 0
def newerB (l : List Bnd) (z : Int) (j : Nat) : Bool := decide (z < 0 ∨ ageAt l z < ageAt l (j : Int))
def partB (S : Nat) (x : Bnd) : Bool := decide (0 < x.used ∧ x.used < S)
def opF (S : Nat) (l : List Bnd) : Nat → Int
  | 0 => -1
  | j + 1 => bif (match l[j]? with | some x => partB S x | none => false) && newerB l (opF S l j) j then (j : Int) else opF S l j
theorem opF_bd (S : Nat) (l : List Bnd) : ∀ j, -1 ≤ opF S l j ∧ opF S l j < j
  | 0 => by simp [opF]
  | j + 1 => by
    have := opF_bd S l j
    rw [opF]
    cases (match l[j]? with | some x => partB S x | none => false) && newerB l (opF S l j) j
    · simp only [cond_false]; omega
    · simp only [cond_true]; omega
theorem ageAt_nat {l : List Bnd} {j : Nat} (h : j < l.length) : ageAt l (j : Int) = l[j].age := by
  rw [ageAt, Int.toNat_natCast, List.getElem?_eq_getElem h]; rfl
theorem newer_spec (hE : E 139 = some ac139) {i : Ids} {pb : Nat} {m : FM} {n : Nat} {v : Value} {l : List Bnd} (h : BsW i pb m n v l) {bo bl j : Nat} {z : Int} (hbo : bo < n) (hmo : m bo = some (.cells [.int .i64 z] 0 false true)) (hbl : bl < n) (hml : m bl = some (.cells [v] 0 false true)) (hj : j < l.length) (hz : z < l.length) :
    Pure (callW PG E Y 139 [.int .i64 (j : Int), .pointer (some ⟨bo, 0, none⟩), .pointer (some ⟨bl, 0, none⟩)] m n) m n (.bool (newerB l z j)) := by
  obtain ⟨p1, p2, p3, p4⟩ := h.p
  obtain ⟨ab, hi, hab, _, _, opn, wr, hma⟩ := h.at
  obtain ⟨_, _, _, _, _, _, _, _, _, _, hl5⟩ := h
  refine pure_spec hE rfl rfl ?_
  simp only [ac139]
  by_cases hz0 : z < 0
  · rw [show newerB l z j = true by rw [newerB, decide_eq_true_eq]; exact .inl hz0]
    simp (implicitDefEqProofs := false) (disch := omega) only [W2, opds, Nat.testBit, Nat.reduceAdd, Nat.reduceShiftRight, Nat.reduceAnd, Nat.reduceBNe, Nat.reduceMul, hmo, hml, p2]
  · obtain ⟨k, rfl⟩ : ∃ k : Nat, z = (k : Int) := ⟨z.toNat, by omega⟩
    have hk : k < l.length := by omega
    obtain ⟨c1, c2, c3, c4, c5⟩ := bcells_at hk
    obtain ⟨d1, d2, d3, d4, d5⟩ := bcells_at hj
    have hik := hi k hk
    have hij := hi j hj
    have e : newerB l (k : Int) j = decide (l[k].age < l[j].age) := by
      rw [newerB, ageAt_nat hk, ageAt_nat hj]
      have : ¬ (k : Int) < 0 := by omega
      simp [this]
    rw [e]
    by_cases hlt : l[k].age < l[j].age
    · rw [decide_eq_true hlt]
      simp (implicitDefEqProofs := false) (disch := omega) only [W2, opds, Nat.testBit, Nat.reduceAdd, Nat.reduceShiftRight, Nat.reduceAnd, Nat.reduceBNe, Nat.reduceMul, hmo, hml, p2, p3, hik, hij, hma, c4, d4]
    · rw [decide_eq_false hlt]
      simp (implicitDefEqProofs := false) (disch := omega) only [W2, opds, Nat.testBit, Nat.reduceAdd, Nat.reduceShiftRight, Nat.reduceAnd, Nat.reduceBNe, Nat.reduceMul, hmo, hml, p2, p3, hik, hij, hma, c4, d4]
theorem opF_succ (S : Nat) (l : List Bnd) (j : Nat) (h : j < l.length) : opF S l (j + 1) = bif partB S l[j] && newerB l (opF S l j) j then (j : Int) else opF S l j := by
  rw [opF, List.getElem?_eq_getElem h]
theorem open_L0 (h139 : E 139 = some ac139) {i : Ids} {pb : Nat} {m : FM} {n : Nat} {v : Value} {l : List Bnd} (h : BsW i pb m n v l) {S n0 : Nat} (hS2 : S ≤ 100) (hn0 : n0 ≤ n) {bo bl : Nat} (hK : n0 ≤ bo) (hbo : bo < n) (hbl : bl < n) (hne : bl ≠ bo) (hml : m bl = some (.cells [v] 0 false true)) (hvb : ∀ b o c len, v = .slice (some ⟨b, o, none⟩) len c → b ≠ bo) (x6 x7 : Value) {Q : AX → List Value → FM → Nat → Nat → Prop}
    (hQ : ∀ x1 M N w, n ≤ N → (∀ b, b < n → b ≠ bo → M b = m b) → M bo = some (.cells [.int .i64 (opF S l l.length)] 0 false true) → Nat.mod w (bit n0) = 0 → Q (.exit 0) [x1, .int .i64 (l.length : Int), v, .func (.func 139) #[] #[.pointer (some ⟨bo, 0, none⟩), .pointer (some ⟨bl, 0, none⟩)], .pointer (some ⟨bo, 0, none⟩), x6, x7, .pointer (some ⟨bl, 0, none⟩), v, .int .i64 (S : Int)] M N w) :
    ∀ (d j : Nat), j + d = l.length → ∀ (x1 : Value) (M : FM) (N w0 : Nat), n ≤ N → (∀ b, b < n → b ≠ bo → M b = m b) → M bo = some (.cells [.int .i64 (opF S l j)] 0 false true) → Nat.mod w0 (bit n0) = 0 →
    Gv (execW PG E Y ac101L0 [.int .i64 (j : Int), x1, .int .i64 (l.length : Int), v, .func (.func 139) #[] #[.pointer (some ⟨bo, 0, none⟩), .pointer (some ⟨bl, 0, none⟩)], .pointer (some ⟨bo, 0, none⟩), x6, x7, .pointer (some ⟨bl, 0, none⟩), v, .int .i64 (S : Int)] M N) fun X e m n w => Q X e m n (Nat.lor w0 w) := by
  obtain ⟨p1, p2, p3, p4⟩ := h.p
  obtain ⟨ab, hi, hab, _, _, opn, wr, hma⟩ := h.at
  have habo : ab ≠ bo := by
    obtain ⟨b, c, opn, wr, rfl, h2, h3, h4, h5, h6, h7⟩ := h
    have := hi 0 h6
    rw [idx_mk h6] at this
    injection this with this
    injection this with this
    injection this with this
    injection this with this
    subst this
    exact hvb _ _ _ _ rfl
  have hl5 : l.length ≤ 5 := by obtain ⟨_, _, _, _, _, _, _, _, _, _, h7⟩ := h; exact h7
  intro d
  induction d with
  | zero =>
    intro j hj x1 M N w0 hN hf hb hw
    refine wr_loopN (L := ac101L0) (b := ac101L0b) rfl ?_
    simp only [ac101L0b]
    obtain rfl : j = l.length := by omega
    simp (implicitDefEqProofs := false) (disch := omega) only [W2, opds, Nat.testBit, Nat.reduceAdd, Nat.reduceShiftRight, Nat.reduceAnd, Nat.reduceBNe, Nat.reduceMul]
    exact hQ _ _ _ _ hN hf hb hw
  | succ d ih =>
    intro j hj x1 M N w0 hN hf hb hw
    have hj1 : j < l.length := by omega
    obtain ⟨c1, c2, c3, c4, c5⟩ := bcells_at hj1
    have hix := hi j hj1
    have hmM := (hf ab hab habo).trans hma
    refine wr_loopN (L := ac101L0) (b := ac101L0b) rfl ?_
    simp only [ac101L0b]
    generalize hM1 : (AMem.put M N (some (.cells [.int .i64 (l[j].used : Int), .int .i64 (l[j].live : Int), .int .u64 l[j].age, .int .u64 l[j].wear] 0 false true)) : FM) = M1
    have l1 : ∀ b, b < N → M1 b = M b := fun b hb => by rw [← hM1, fput_ne _ _ _ _ (by omega)]
    have l0 : M1 N = some (.cells [.int .i64 (l[j].used : Int), .int .i64 (l[j].live : Int), .int .u64 l[j].age, .int .u64 l[j].wear] 0 false true) := by rw [← hM1]; exact fput_same _ _ _
    have fin : opF S l (j + 1) = opF S l j → Wr PG E Y [] (Nat.lor (bit N) (bit N)) (execW PG E Y ac101L0 [.int .i64 ((j + 1 : Nat) : Int), x1, .int .i64 (l.length : Int), v, .func (.func 139) #[] #[.pointer (some ⟨bo, 0, none⟩), .pointer (some ⟨bl, 0, none⟩)], .pointer (some ⟨bo, 0, none⟩), x6, x7, .pointer (some ⟨bl, 0, none⟩), v, .int .i64 (S : Int)] M1 (N + 1)) fun X e m n w => Q X e m n (Nat.lor w0 w) := fun es => by
      refine wr_end (ih (j + 1) (by omega) _ _ _ (Nat.lor w0 (Nat.lor (bit N) (bit N))) (by omega) (fun b h1 h2 => by rw [l1 b (by omega), hf b h1 h2]) (by rw [es, l1 bo (by omega)]; exact hb) (by simp only [frz_iff]; exact ⟨hw, frz_bit (by omega), frz_bit (by omega)⟩)) fun X e m n w hq => ?_
      rw [show Nat.lor w0 (Nat.lor (Nat.lor (bit N) (bit N)) w) = Nat.lor (Nat.lor w0 (Nat.lor (bit N) (bit N))) w from (lor_assoc' _ _ _).symm]
      exact hq
    by_cases hu : 0 < l[j].used
    · by_cases hs : l[j].used < S
      · have hB1 : BsW i pb M1 (N + 1) v l := by
          obtain ⟨b, c, opn, wr, e1, h2, h3, h4, h5, h6, h7⟩ := h
          have := hvb b 0 c _ e1
          exact ⟨b, c, opn, wr, e1, h2, h3, by omega, by rw [l1 b (by omega), hf b h4 this]; exact h5, h6, h7⟩
        simp (implicitDefEqProofs := false) (disch := omega) only [W2, opds, Nat.testBit, Nat.reduceAdd, Nat.reduceShiftRight, Nat.reduceAnd, Nat.reduceBNe, Nat.reduceMul, p2, hix, hmM, c1, hM1, l0, s_callv, callv0, List.cons_append, List.nil_append]
        refine use_pure (newer_spec h139 hB1 (by omega) ((l1 bo (by omega)).trans hb) (by omega) (by rw [l1 bl (by omega), hf bl hbl hne]; exact hml) hj1 (by have := (opF_bd S l j).2; omega)) fun r1 => ?_
        have es := opF_succ S l j hj1
        rw [show partB S l[j] = true by rw [partB, decide_eq_true_eq]; exact ⟨hu, hs⟩, Bool.true_and] at es
        cases hnw : newerB l (opF S l j) j
        · rw [hnw, cond_false] at es
          simp (implicitDefEqProofs := false) (disch := omega) only [W2, opds, Nat.testBit, Nat.reduceAdd, Nat.reduceShiftRight, Nat.reduceAnd, Nat.reduceBNe, Nat.reduceMul]
          exact fin es
        · rw [hnw, cond_true] at es
          simp (implicitDefEqProofs := false) (disch := omega) only [W2, opds, Nat.testBit, Nat.reduceAdd, Nat.reduceShiftRight, Nat.reduceAnd, Nat.reduceBNe, Nat.reduceMul, (l1 bo (by omega)).trans hb]
          refine wr_end (ih (j + 1) (by omega) _ _ _ (Nat.lor w0 (Nat.lor (Nat.lor (bit N) (bit N)) (bit bo))) (by omega) (fun b h1 h2 => by rw [fput_ne _ _ _ _ h2, l1 b (by omega), hf b h1 h2]) (by rw [es]; exact fput_same _ _ _) (by simp only [frz_iff]; exact ⟨hw, ⟨frz_bit (by omega), frz_bit (by omega)⟩, frz_bit hK⟩)) fun X e m n w hq => ?_
          rw [show Nat.lor w0 (Nat.lor (Nat.lor (Nat.lor (bit N) (bit N)) (bit bo)) w) = Nat.lor (Nat.lor w0 (Nat.lor (Nat.lor (bit N) (bit N)) (bit bo))) w from (lor_assoc' _ _ _).symm]
          exact hq
      · simp (implicitDefEqProofs := false) (disch := omega) only [W2, opds, Nat.testBit, Nat.reduceAdd, Nat.reduceShiftRight, Nat.reduceAnd, Nat.reduceBNe, Nat.reduceMul, p2, hix, hmM, c1, hM1, l0]
        refine fin ?_
        rw [opF_succ S l j hj1, show partB S l[j] = false by rw [partB, decide_eq_false_iff_not]; exact fun q => hs q.2]; rfl
    · simp (implicitDefEqProofs := false) (disch := omega) only [W2, opds, Nat.testBit, Nat.reduceAdd, Nat.reduceShiftRight, Nat.reduceAnd, Nat.reduceBNe, Nat.reduceMul, p2, hix, hmM, c1, hM1, l0]
      refine fin ?_
      rw [opF_succ S l j hj1, show partB S l[j] = false by rw [partB, decide_eq_false_iff_not]; exact fun q => hu q.1]; rfl
theorem bopen_spec (hE : E 101 = some ac101) (h137 : E 137 = some ac137) (h139 : E 139 = some ac139) (h169 : E 169 = some ac169) (h192 : E 192 = some ac192) (h170 : E 170 = some ac170) {i : Ids} {pb : Nat} {m : FM} {n : Nat} {v : Value} {l : List Bnd} (h : BsW i pb m n v l) {S : Nat} (hS : 1 ≤ S) (hS2 : S ≤ 100) (ho : BOk S l) : Pure (callW PG E Y 101 [v, .int .i64 (S : Int)] m n) m n (.int .i64 (opF S l l.length)) := by
  obtain ⟨p1, p2, p3, p4⟩ := h.p
  refine pure_spec hE rfl rfl ?_
  simp only [ac101]
  simp (implicitDefEqProofs := false) (disch := omega) only [W2, opds, Nat.testBit, Nat.reduceAdd, Nat.reduceShiftRight, Nat.reduceAnd, Nat.reduceBNe, Nat.reduceMul, p1, p2, s_func, cells_of_one p2]
  generalize hM1 : (AMem.put m n _ : FM) = M1
  have l1 : ∀ b, b < n → M1 b = m b := fun b hb => by rw [← hM1, fput_ne _ _ _ _ (by omega)]
  have l0 : M1 n = some (.cells [v] 0 false true) := by rw [← hM1]; exact fput_same _ _ _
  have hB1 := h.keep (show n ≤ n + 1 by omega) l1
  refine use_pure (bvalid_spec h137 h169 h192 h170 hB1 hS hS2 ho) fun r1 => ?_
  simp (implicitDefEqProofs := false) (disch := omega) only [W2, opds, Nat.testBit, Nat.reduceAdd, Nat.reduceShiftRight, Nat.reduceAnd, Nat.reduceBNe, Nat.reduceMul, l0, p1, s_func, p2]
  generalize hM2 : (AMem.put M1 (n + 1) _ : FM) = M2
  have l2 : ∀ b, b < n + 1 → M2 b = M1 b := fun b hb => by rw [← hM2, fput_ne _ _ _ _ (by omega)]
  have l3 : M2 (n + 1) = some (.cells [.int .i64 (-1)] 0 false true) := by rw [← hM2]; exact fput_same _ _ _
  refine wr_kont ((open_L0 h139 (hB1.keep (show n + 1 ≤ n + 2 by omega) l2) (S := S) hS2 (n0 := n) (by omega) (bo := n + 1) (bl := n) (by omega) (by omega) (by omega) (by omega) (by rw [l2 n (by omega)]; exact l0) (fun b o c len e => ?_) _ _ (fun x1 M N w hN hf hb hw => ?_) l.length 0 (Nat.zero_add _) _ M2 (n + 2) 0 (Nat.le_refl _) (fun _ _ _ => rfl) l3 (frz_zero _)).mono fun X e m' n' w hq => by simpa only [zero_lor'] using hq)
  · obtain ⟨b', c', opn, wr, e1, h2, h3, h4, h5, h6, h7⟩ := h
    rw [e1] at e
    injection e with e
    injection e with e
    injection e with e
    omega
  · intro rr
    simp (implicitDefEqProofs := false) (disch := omega) only [W2, opds, Nat.testBit, Nat.reduceAdd, Nat.reduceShiftRight, Nat.reduceAnd, Nat.reduceBNe, Nat.reduceMul, hb]
    simp (implicitDefEqProofs := false) (disch := omega) only [W2, opds, Nat.testBit, Nat.reduceAdd, Nat.reduceShiftRight, Nat.reduceAnd, Nat.reduceBNe, Nat.reduceMul, hw]
end Go.Am.CS
namespace Go.Am.CS
set_option maxRecDepth 100000
open Go Go.Am
variable {E : Nat → Option AFn} {Y : Nat → List Value → FM → Nat → OR FM}
def wearAt (l : List Bnd) (z : Int) : Int := ((l[z.toNat]?).map Bnd.wear).getD 0
def lessB (l : List Bnd) (z : Int) (j : Nat) : Bool := decide (z < 0 ∨ wearAt l (j : Int) < wearAt l z)
def lsF (l : List Bnd) : Nat → Int
  | 0 => -1
  | j + 1 => bif (match l[j]? with | some x => x.used == 0 | none => false) && lessB l (lsF l j) j then (j : Int) else lsF l j
theorem lsF_bd (l : List Bnd) : ∀ j, -1 ≤ lsF l j ∧ lsF l j < j
  | 0 => by simp [lsF]
  | j + 1 => by
    have := lsF_bd l j
    rw [lsF]
    cases (match l[j]? with | some x => x.used == 0 | none => false) && lessB l (lsF l j) j
    · simp only [cond_false]; omega
    · simp only [cond_true]; omega
theorem wearAt_nat {l : List Bnd} {j : Nat} (h : j < l.length) : wearAt l (j : Int) = l[j].wear := by
  rw [wearAt, Int.toNat_natCast, List.getElem?_eq_getElem h]; rfl
theorem lsF_succ (l : List Bnd) (j : Nat) (h : j < l.length) : lsF l (j + 1) = bif (l[j].used == 0) && lessB l (lsF l j) j then (j : Int) else lsF l j := by
  rw [lsF, List.getElem?_eq_getElem h]
theorem BsW.bel {i : Ids} {pb : Nat} {M : FM} {N : Nat} {v : Value} {l : List Bnd} (h : BsW i pb M N v l) (k : Nat) (hk : N ≤ k) : belowV k v = true := by
  obtain ⟨b, c, opn, wr, rfl, h2, h3, h4, h5, h6, h7⟩ := h
  exact blt_true (show b < k by omega)
theorem least_L0 {i : Ids} {pb : Nat} {m : FM} {n : Nat} {v : Value} {l : List Bnd} (h : BsW i pb m n v l) (x4 x5 x6 : Value) {Q : AX → List Value → FM → Nat → Nat → Prop}
    (hQ : ∀ x1 x2 M N w, Nat.mod w (bit n) = 0 → Q (.exit 0) [.int .i64 (lsF l l.length), x1, x2, x4, x5, x6, v] M N w) :
    ∀ (d j : Nat), j + d = l.length → ∀ (x2 : Value) (M : FM) (N w0 : Nat), n ≤ N → (∀ b, b < n → M b = m b) → Nat.mod w0 (bit n) = 0 →
    Gv (execW PG E Y ac146L0 [.int .i64 (lsF l j), .int .i64 (j : Int), x2, .int .i64 (l.length : Int), x4, x5, x6, v] M N) fun X e m n w => Q X e m n (Nat.lor w0 w) := by
  obtain ⟨p1, p2, p3, p4⟩ := h.p
  obtain ⟨ab, hi, hab, _, _, opn, wr, hma⟩ := h.at
  have hl5 : l.length ≤ 5 := by obtain ⟨_, _, _, _, _, _, _, _, _, _, h7⟩ := h; exact h7
  intro d
  induction d with
  | zero =>
    intro j hj x2 M N w0 hN hf hw
    refine wr_loopN (L := ac146L0) (b := ac146L0b) rfl ?_
    simp only [ac146L0b]
    obtain rfl : j = l.length := by omega
    simp (implicitDefEqProofs := false) (disch := omega) only [W2, opds, Nat.testBit, Nat.reduceAdd, Nat.reduceShiftRight, Nat.reduceAnd, Nat.reduceBNe, Nat.reduceMul]
    exact hQ _ _ _ _ _ hw
  | succ d ih =>
    intro j hj x2 M N w0 hN hf hw
    have hj1 : j < l.length := by omega
    obtain ⟨c1, c2, c3, c4, c5⟩ := bcells_at hj1
    have hix := hi j hj1
    have hmM := (hf ab hab).trans hma
    refine wr_loopN (L := ac146L0) (b := ac146L0b) rfl ?_
    simp only [ac146L0b]
    generalize hM1 : (AMem.put M N (some (.cells [.int .i64 (l[j].used : Int), .int .i64 (l[j].live : Int), .int .u64 l[j].age, .int .u64 l[j].wear] 0 false true)) : FM) = M1
    have l1 : ∀ b, b < N → M1 b = M b := fun b hb => by rw [← hM1, fput_ne _ _ _ _ (by omega)]
    have l0 : M1 N = some (.cells [.int .i64 (l[j].used : Int), .int .i64 (l[j].live : Int), .int .u64 l[j].age, .int .u64 l[j].wear] 0 false true) := by rw [← hM1]; exact fput_same _ _ _
    have hmM1 := (l1 ab (by omega)).trans hmM
    have hbd := lsF_bd l j
    have es := lsF_succ l j hj1
    have p5 := h.bel (N + 1) (by omega)
    have fin : ∀ z, lsF l (j + 1) = z → Wr PG E Y [] (Nat.lor (bit N) (bit N)) (execW PG E Y ac146L0 [.int .i64 z, .int .i64 ((j + 1 : Nat) : Int), x2, .int .i64 (l.length : Int), x4, x5, x6, v] M1 (N + 1)) fun X e m n w => Q X e m n (Nat.lor w0 w) := fun z hz => by
      subst hz
      refine wr_end (ih (j + 1) (by omega) _ _ _ (Nat.lor w0 (Nat.lor (bit N) (bit N))) (by omega) (fun b h1 => by rw [l1 b (by omega), hf b h1]) (by simp only [frz_iff]; exact ⟨hw, frz_bit (by omega), frz_bit (by omega)⟩)) fun X e m n w hq => ?_
      rw [show Nat.lor w0 (Nat.lor (Nat.lor (bit N) (bit N)) w) = Nat.lor (Nat.lor w0 (Nat.lor (bit N) (bit N))) w from (lor_assoc' _ _ _).symm]
      exact hq
    generalize lsF l j = z at *
    by_cases hu : l[j].used = 0
    · by_cases hz0 : z < 0
      · simp (implicitDefEqProofs := false) (disch := omega) only [W2, opds, Nat.testBit, Nat.reduceAdd, Nat.reduceShiftRight, Nat.reduceAnd, Nat.reduceBNe, Nat.reduceMul, p2, hix, hmM, c1, hM1, l0]
        refine fin _ ?_
        rw [es, hu, show lessB l z j = true by rw [lessB, decide_eq_true_eq]; exact .inl hz0]; rfl
      · obtain ⟨k, rfl⟩ : ∃ k : Nat, z = (k : Int) := ⟨z.toNat, by omega⟩
        have hk : k < l.length := by omega
        obtain ⟨d1, d2, d3, d4, d5⟩ := bcells_at hk
        have hik := hi k hk
        have hik2 : ¬ (k : Int) < 0 := by omega
        have e : lessB l (k : Int) j = decide (l[j].wear < l[k].wear) := by
          rw [lessB, wearAt_nat hk, wearAt_nat hj1]
          simp [hik2]
        rw [e, hu] at es
        by_cases hlt : l[j].wear < l[k].wear
        · simp (implicitDefEqProofs := false) (disch := omega) only [W2, opds, Nat.testBit, Nat.reduceAdd, Nat.reduceShiftRight, Nat.reduceAnd, Nat.reduceBNe, Nat.reduceMul, p2, p5, hix, hmM, c1, hM1, l0, hik, hmM1, d5]
          refine fin _ ?_
          rw [es, decide_eq_true hlt]; rfl
        · simp (implicitDefEqProofs := false) (disch := omega) only [W2, opds, Nat.testBit, Nat.reduceAdd, Nat.reduceShiftRight, Nat.reduceAnd, Nat.reduceBNe, Nat.reduceMul, p2, p5, hix, hmM, c1, hM1, l0, hik, hmM1, d5]
          refine fin _ ?_
          rw [es, decide_eq_false hlt]; rfl
    · simp (implicitDefEqProofs := false) (disch := omega) only [W2, opds, Nat.testBit, Nat.reduceAdd, Nat.reduceShiftRight, Nat.reduceAnd, Nat.reduceBNe, Nat.reduceMul, p2, hix, hmM, c1, hM1, l0]
      refine fin _ ?_
      rw [es, show (l[j].used == 0) = false by simpa using hu]; rfl
theorem least_spec (hE : E 146 = some ac146) {i : Ids} {pb : Nat} {m : FM} {n : Nat} {v : Value} {l : List Bnd} (h : BsW i pb m n v l) (hf : 0 ≤ lsF l l.length) : Pure (callW PG E Y 146 [v] m n) m n (.tuple #[.int .i64 (lsF l l.length), .int .i64 0]) := by
  obtain ⟨p1, p2, p3, p4⟩ := h.p
  refine pure_spec hE rfl rfl ?_
  simp only [ac146]
  simp (implicitDefEqProofs := false) (disch := omega) only [W2, opds, Nat.testBit, Nat.reduceAdd, Nat.reduceShiftRight, Nat.reduceAnd, Nat.reduceBNe, Nat.reduceMul, p1, p2]
  refine wr_kont ((least_L0 h _ _ _ (fun x1 x2 M N w hw => ?_) l.length 0 (Nat.zero_add _) _ m n 0 (Nat.le_refl _) (fun _ _ => rfl) (frz_zero _)).mono fun X e m' n' w hq => by simpa only [zero_lor'] using hq)
  intro rr
  simp (implicitDefEqProofs := false) (disch := omega) only [W2, opds, Nat.testBit, Nat.reduceAdd, Nat.reduceShiftRight, Nat.reduceAnd, Nat.reduceBNe, Nat.reduceMul]
  exact hw
end Go.Am.CS
namespace Go.Am.CS
set_option maxRecDepth 100000
open Go Go.Am
variable {E : Nat → Option AFn} {Y : Nat → List Value → FM → Nat → OR FM}
theorem pure_specE {P : Program} {m : FM} {n : Nat} {f : Nat} {fn : AFn} {args : List Value} {S : Value → Prop} (hE : E f = some fn) (ha : llen args = fn.na) (hS : ∀ v, S v → addrFree v = true) (h : Wr P E Y [] 0 (execW P E Y fn.code args m n) fun X _ _ _ w => (∃ v, X = .ret v ∧ S v) ∧ Nat.mod w (bit n) = 0) : ∃ v, S v ∧ Pure (callW P E Y f args m n) m n v := by
  rw [callW_fn hE ha]
  obtain ⟨X, e', m', n', r, w, hx, ⟨v, rfl, hs⟩, hw⟩ := Gv_some (wr_start h)
  exact ⟨v, hs, pure_of (hS v hs) (by rw [hx]; exact ⟨rfl, hw⟩)⟩
theorem s_bit (op : BinOp) (t : Nat) (x y : Opd) (e : List Value) (m : FM) (n : Nat) : stepA PG (callW PG E Y) e m n (.pur (.bit op t) [x, y]) = valO m n (bitV PG op t (ev e x) (ev e y)) := rfl
theorem bit_and (a b : Int) : ∃ z, bitV PG .and 37 (.int .u64 a) (.int .u64 b) = some (.int .u64 z) := ⟨_, rfl⟩
theorem bit_shr (a : Int) : ∃ z, bitV PG .shr 37 (.int .u64 a) (.int .u64 32) = some (.int .u64 z) := ⟨_, rfl⟩
noncomputable def andZ (a b : Int) : Int := (bit_and a b).choose
noncomputable def shrZ (a : Int) : Int := (bit_shr a).choose
theorem and_eq (a b : Int) : bitV PG .and 37 (.int .u64 a) (.int .u64 b) = some (.int .u64 (andZ a b)) := (bit_and a b).choose_spec
theorem shr_eq (a : Int) : bitV PG .shr 37 (.int .u64 a) (.int .u64 32) = some (.int .u64 (shrZ a)) := (bit_shr a).choose_spec
theorem mul64_spec (hE : E 174 = some ac174) (m : FM) (n : Nat) (a b : Int) : ∃ h l : Int, Pure (callW PG E Y 174 [.int .u64 a, .int .u64 b] m n) m n (.tuple #[.int .u64 h, .int .u64 l]) := by
  obtain ⟨v, ⟨h, l, rfl⟩, hp⟩ := pure_specE (P := PG) (Y := Y) (m := m) (n := n) (args := [.int .u64 a, .int .u64 b]) (S := fun v => ∃ h l : Int, v = .tuple #[.int .u64 h, .int .u64 l]) hE rfl (fun v hS => by obtain ⟨h, l, rfl⟩ := hS; rfl) (by
    simp only [ac174]
    simp (implicitDefEqProofs := false) (disch := omega) only [W2, opds, Nat.testBit, Nat.reduceAdd, Nat.reduceShiftRight, Nat.reduceAnd, Nat.reduceBNe, Nat.reduceMul, s_bit, and_eq, shr_eq]
    exact ⟨_, rfl, _, _, rfl⟩)
  exact ⟨h, l, hp⟩
theorem fits_spec (hE : E 171 = some ac171) (m : FM) (n : Nat) (x : Bnd) (h : x.live ≤ 100) : Pure (callW PG E Y 171 [.agg #[.int .i64 (x.used : Int), .int .i64 (x.live : Int), .int .u64 x.age, .int .u64 x.wear]] m n) m n (.bool true) := by
  refine pure_spec hE rfl rfl ?_
  simp only [ac171]
  simp (implicitDefEqProofs := false) (disch := omega) only [W2, opds, Nat.testBit, Nat.reduceAdd, Nat.reduceShiftRight, Nat.reduceAnd, Nat.reduceBNe, Nat.reduceMul]
theorem min_eq (a b : Int) : ∃ z, mnV (.int .u64 a) (.int .u64 b) = some (.int .u64 z) := ⟨_, rfl⟩
noncomputable def minZ (a b : Int) : Int := (min_eq a b).choose
theorem mn_eq (a b : Int) : mnV (.int .u64 a) (.int .u64 b) = some (.int .u64 (minZ a b)) := (min_eq a b).choose_spec
theorem conv_ex (a : Int) : ∃ z, convV .u64 (.int .i64 a) = some (.int .u64 z) := ⟨_, rfl⟩
noncomputable def cvZ (a : Int) : Int := (conv_ex a).choose
theorem cv_eq (a : Int) : convV .u64 (.int .i64 a) = some (.int .u64 (cvZ a)) := (conv_ex a).choose_spec
theorem yield_spec (hE : E 173 = some ac173) (m : FM) (n : Nat) (x : Bnd) {S : Nat} (now : Int) (h : x.live ≤ S) (hS : S ≤ 100) : ∃ p q : Int, Pure (callW PG E Y 173 [.agg #[.int .i64 (x.used : Int), .int .i64 (x.live : Int), .int .u64 x.age, .int .u64 x.wear], .int .i64 (S : Int), .int .u64 now] m n) m n (.tuple #[.int .u64 p, .int .u64 q]) := by
  obtain ⟨v, ⟨p, q, rfl⟩, hp⟩ := pure_specE (P := PG) (Y := Y) (m := m) (n := n) (args := [.agg #[.int .i64 (x.used : Int), .int .i64 (x.live : Int), .int .u64 x.age, .int .u64 x.wear], .int .i64 (S : Int), .int .u64 now]) (S := fun v => ∃ h l : Int, v = .tuple #[.int .u64 h, .int .u64 l]) hE rfl (fun v hS => by obtain ⟨h, l, rfl⟩ := hS; rfl) (by
    simp only [ac173]
    by_cases hlt : x.age < now
    · simp (implicitDefEqProofs := false) (disch := omega) only [W2, opds, Nat.testBit, Nat.reduceAdd, Nat.reduceShiftRight, Nat.reduceAnd, Nat.reduceBNe, Nat.reduceMul, show ∀ x y : Opd, ∀ (e : List Value) (m : FM) (n : Nat), stepA PG (callW PG E Y) e m n (.pur .min [x, y]) = valO m n (mnV (ev e x) (ev e y)) from fun _ _ _ _ _ => rfl, mn_eq, cv_eq]
      exact ⟨_, rfl, _, _, rfl⟩
    · simp (implicitDefEqProofs := false) (disch := omega) only [W2, opds, Nat.testBit, Nat.reduceAdd, Nat.reduceShiftRight, Nat.reduceAnd, Nat.reduceBNe, Nat.reduceMul, cv_eq]
      exact ⟨_, rfl, _, _, rfl⟩)
  exact ⟨p, q, hp⟩
theorem better_spec (hE : E 138 = some ac138) (h171 : E 171 = some ac171) (h173 : E 173 = some ac173) (h174 : E 174 = some ac174) (m : FM) (n : Nat) (x y : Bnd) {S : Nat} (now : Int) (hx : x.live ≤ S) (hy : y.live ≤ S) (hS1 : 1 ≤ S) (hS : S ≤ 100) : ∃ r : Bool, Pure (callW PG E Y 138 [.agg #[.int .i64 (x.used : Int), .int .i64 (x.live : Int), .int .u64 x.age, .int .u64 x.wear], .agg #[.int .i64 (y.used : Int), .int .i64 (y.live : Int), .int .u64 y.age, .int .u64 y.wear], .int .i64 (S : Int), .int .u64 now] m n) m n (.bool r) := by
  obtain ⟨v, ⟨r, rfl⟩, hp⟩ := pure_specE (P := PG) (Y := Y) (m := m) (n := n) (args := [.agg #[.int .i64 (x.used : Int), .int .i64 (x.live : Int), .int .u64 x.age, .int .u64 x.wear], .agg #[.int .i64 (y.used : Int), .int .i64 (y.live : Int), .int .u64 y.age, .int .u64 y.wear], .int .i64 (S : Int), .int .u64 now]) (S := fun v => ∃ r : Bool, v = .bool r) hE rfl (fun v hS => by obtain ⟨r, rfl⟩ := hS; rfl) (by
    simp only [ac138]
    simp (implicitDefEqProofs := false) (disch := omega) only [W2, opds, Nat.testBit, Nat.reduceAdd, Nat.reduceShiftRight, Nat.reduceAnd, Nat.reduceBNe, Nat.reduceMul]
    refine use_pure (fits_spec h171 _ _ x (by omega)) fun r1 => ?_
    simp (implicitDefEqProofs := false) (disch := omega) only [W2, opds, Nat.testBit, Nat.reduceAdd, Nat.reduceShiftRight, Nat.reduceAnd, Nat.reduceBNe, Nat.reduceMul]
    refine use_pure (fits_spec h171 _ _ y (by omega)) fun r2 => ?_
    simp (implicitDefEqProofs := false) (disch := omega) only [W2, opds, Nat.testBit, Nat.reduceAdd, Nat.reduceShiftRight, Nat.reduceAnd, Nat.reduceBNe, Nat.reduceMul]
    generalize hM1 : (AMem.put (AMem.put m n _) (n + 1) _ : FM) = M1
    have l0 : M1 n = some (.cells [.int .i64 (x.used : Int), .int .i64 (x.live : Int), .int .u64 x.age, .int .u64 x.wear] 0 false true) := by rw [← hM1, fput_ne _ _ _ _ (by omega)]; exact fput_same _ _ _
    have l1 : M1 (n + 1) = some (.cells [.int .i64 (y.used : Int), .int .i64 (y.live : Int), .int .u64 y.age, .int .u64 y.wear] 0 false true) := by rw [← hM1]; exact fput_same _ _ _
    obtain ⟨p, q, hy1⟩ := yield_spec (Y := Y) h173 M1 (n + 2) x now hx hS
    obtain ⟨p', q', hy2⟩ := yield_spec (Y := Y) h173 M1 (n + 2) y now hy hS
    obtain ⟨a1, b1, hm1⟩ := mul64_spec (Y := Y) h174 M1 (n + 2) p q'
    obtain ⟨a2, b2, hm2⟩ := mul64_spec (Y := Y) h174 M1 (n + 2) p' q
    refine use_pure hy1 fun r3 => ?_
    simp (implicitDefEqProofs := false) (disch := omega) only [W2, opds, Nat.testBit, Nat.reduceAdd, Nat.reduceShiftRight, Nat.reduceAnd, Nat.reduceBNe, Nat.reduceMul, extr_mk, l0, l1]
    refine use_pure hy2 fun r4 => ?_
    simp (implicitDefEqProofs := false) (disch := omega) only [W2, opds, Nat.testBit, Nat.reduceAdd, Nat.reduceShiftRight, Nat.reduceAnd, Nat.reduceBNe, Nat.reduceMul, extr_mk]
    refine use_pure hm1 fun r5 => ?_
    simp (implicitDefEqProofs := false) (disch := omega) only [W2, opds, Nat.testBit, Nat.reduceAdd, Nat.reduceShiftRight, Nat.reduceAnd, Nat.reduceBNe, Nat.reduceMul, extr_mk]
    refine use_pure hm2 fun r6 => ?_
    have fz : Nat.mod (Nat.lor (bit n) (bit (n + 1))) (bit n) = 0 := by rw [frz_iff]; exact ⟨frz_bit (Nat.le_refl _), frz_bit (by omega)⟩
    by_cases c1 : a2 < a1
    · simp (implicitDefEqProofs := false) (disch := omega) only [W2, opds, Nat.testBit, Nat.reduceAdd, Nat.reduceShiftRight, Nat.reduceAnd, Nat.reduceBNe, Nat.reduceMul, extr_mk]
      exact ⟨_, rfl, _, rfl⟩
    · by_cases c2 : a1 = a2
      · by_cases c3 : b2 < b1
        · simp (implicitDefEqProofs := false) (disch := omega) only [W2, opds, Nat.testBit, Nat.reduceAdd, Nat.reduceShiftRight, Nat.reduceAnd, Nat.reduceBNe, Nat.reduceMul, extr_mk]
          exact ⟨_, rfl, _, rfl⟩
        · simp (implicitDefEqProofs := false) (disch := omega) only [W2, opds, Nat.testBit, Nat.reduceAdd, Nat.reduceShiftRight, Nat.reduceAnd, Nat.reduceBNe, Nat.reduceMul, extr_mk]
          exact ⟨_, rfl, _, rfl⟩
      · simp (implicitDefEqProofs := false) (disch := omega) only [W2, opds, Nat.testBit, Nat.reduceAdd, Nat.reduceShiftRight, Nat.reduceAnd, Nat.reduceBNe, Nat.reduceMul, extr_mk]
        exact ⟨_, rfl, _, rfl⟩)
  exact ⟨r, hp⟩
end Go.Am.CS
