/- The machine and its runs, part W: AnSz AnLst An39o An39q. -/
import Derived.Test.YtibpnegblcdioaaDoorZ
import Derived.Test.YtibpnegblcdioaaDoorB11
import Derived.Test.YtibpnegblcdioaaDoorV
set_option linter.unusedVariables false
set_option linter.unusedSimpArgs false
set_option linter.unusedSectionVars false
namespace Go.Am
open Go
def SlZ (sz : Nat) (M : FM) (n0 N : Nat) (v : Value) (len : Nat) (cs : List Value) : Prop :=
  (len = 0 ∧ cs = [] ∧ v = .slice none 0 0) ∨ (0 < len ∧ cs.length = len * sz ∧ ∃ b, v = .slice (some ⟨b, 0, none⟩) len UNK ∧ n0 ≤ b ∧ b < N ∧ M b = some (.cells cs sz true true))
theorem SlZ.frame {sz : Nat} {M M' : FM} {n0 N N' : Nat} {v : Value} {len : Nat} {cs : List Value} (h : SlZ sz M n0 N v len cs) (hN : N ≤ N') (ht : ∀ b, n0 ≤ b → b < N → M' b = M b) : SlZ sz M' n0 N' v len cs := by
  rcases h with h | ⟨h0, hl, b, h1, h2, h3, h4⟩
  · exact .inl h
  · exact .inr ⟨h0, hl, b, h1, h2, by omega, (ht b h2 h3).trans h4⟩
theorem SlZ.low {sz : Nat} {M : FM} {n0 n1 N : Nat} {v : Value} {len : Nat} {cs : List Value} (h : SlZ sz M n0 N v len cs) (hn : n1 ≤ n0) : SlZ sz M n1 N v len cs := by
  rcases h with h | ⟨h0, hl, b, h1, h2, h3, h4⟩
  · exact .inl h
  · exact .inr ⟨h0, hl, b, h1, by omega, h3, h4⟩
theorem SlZ.len {sz : Nat} {M : FM} {n0 N : Nat} {v : Value} {len : Nat} {cs : List Value} (h : SlZ sz M n0 N v len cs) : lenV false v = some (.int .i64 (len : Int)) := by
  rcases h with ⟨rfl, rfl, rfl⟩ | ⟨_, _, b, rfl, _⟩ <;> rfl
theorem SlZ.bel {sz : Nat} {M : FM} {n0 N : Nat} {v : Value} {len : Nat} {cs : List Value} (h : SlZ sz M n0 N v len cs) (k : Nat) (hk : N ≤ k) : belowV k v = true := by
  rcases h with ⟨_, _, rfl⟩ | ⟨_, _, b, rfl, _, hb, _⟩
  · rfl
  · exact blt_true (show b < k by omega)
theorem SlZ.one {sz : Nat} {M : FM} {n0 N : Nat} {v : Value} {len : Nat} {cs : List Value} (h : SlZ sz M n0 N v len cs) : Am.one v = true := by
  rcases h with ⟨_, _, rfl⟩ | ⟨_, _, b, rfl, _⟩ <;> rfl
theorem SlZ.at {sz : Nat} {M : FM} {n0 N : Nat} {v : Value} {len : Nat} {cs : List Value} (h : SlZ sz M n0 N v len cs) {i : Nat} (hi : i < len) : ∃ b, idxV sz i v = some (.pointer (some ⟨b, i * sz, none⟩)) ∧ n0 ≤ b ∧ b < N ∧ M b = some (.cells cs sz true true) ∧ cs.length = len * sz := by
  rcases h with ⟨rfl, _, _⟩ | ⟨_, hl, b, rfl, h1, h2, h3⟩
  · omega
  · exact ⟨b, by rw [idx_mk hi, Nat.zero_add], h1, h2, h3, hl⟩
structure AppZ (sz : Nat) (M : FM) (n0 N : Nat) (len : Nat) (cs : List Value) (v' : Value) (M' : FM) (N' w : Nat) : Prop where
  v : v' = .slice (some ⟨N, 0, none⟩) len UNK
  n : N' = N + 1
  s : SlZ sz M' n0 N' v' len cs
  low : ∀ b, b < n0 → M' b = M b
  w : ∀ j, j ≤ n0 → Nat.mod w (bit j) = 0
theorem app_slZ {sz : Nat} {M : FM} {n0 N bytes : Nat} {v : Value} {len : Nat} {cs zs : List Value} (h : SlZ sz M n0 N v len cs) (ya : Option Addr) (yc ry : Nat) (h0 : n0 ≤ N) (hsz : 0 < sz) (hzl : zs.length = sz) (hz : zs.all Am.one = true) (hby : 0 < bytes) (hl : (len + 1) * bytes ≤ 140737488355328) :
    Rt (appO sz bytes M N v (.slice ya 1 yc) (shown M N sz v) (some (zs, ry))) fun v' M' N' w => AppZ sz M n0 N (len + 1) (cs ++ zs) v' M' N' w := by
  rcases h with ⟨rfl, rfl, rfl⟩ | ⟨hp, hcl, b, rfl, hb, hbN, hM⟩
  · rw [shown_nil, appO_mk, appV_mk]
    have hl' : (0 + 1) * bytes ≤ 140737488355328 := by simpa using hl
    rw [show (zs, ry).1.all Am.one = true from hz, blt_true hsz, blt_true hby, ble_true hl', appG_nil (by omega)]
    exact ⟨rfl, rfl, .inr ⟨by omega, by simp [hzl], N, rfl, h0, by omega, fput_same _ _ _⟩, fun b hb => fput_ne _ _ _ _ (by omega), fun j hj => frz_bit (by omega)⟩
  · rw [shown_pos hp, getb_lt hbN, hM, shownB_mk, Nat.beq_refl, cellsAt_mk, ldrop_z, cells_all hcl.symm]
    show Rt (appO sz bytes M N _ _ (some (cs, bit b)) _) _
    rw [appO_mk, appV_mk]
    rw [show (zs, ry).1.all Am.one = true from hz, blt_true hsz, blt_true hby, ble_true hl, appG_unk, getb_lt hbN, hM, appU_mk]
    exact ⟨rfl, rfl, .inr ⟨by omega, by rw [List.length_append, hcl, hzl, Nat.add_mul, Nat.one_mul], N, rfl, h0, by omega, fput_same _ _ _⟩, fun k hk => by rw [fput_ne _ _ _ _ (by omega), fput_ne _ _ _ _ (by omega)], fun j hj => by rw [frz_iff]; exact ⟨frz_bit (by omega), frz_bit (by omega)⟩⟩
end Go.Am
namespace Go.Am
open Go
theorem callv_mk (rec : Nat → List Value → FM → Nat → OR FM) (args : List Value) (m : FM) (n f : Nat) (a c : List Value) : callV rec args m n (.func (.func f) a.toArray c.toArray) = rec f (a ++ args ++ c) m n := rfl
theorem belowV_func (n f : Nat) (a c : List Value) : belowV n (.func (.func f) a.toArray c.toArray) = (a.all (below1 n) && c.all (below1 n)) := rfl
theorem below1_ptr (n b o : Nat) : below1 n (.pointer (some ⟨b, o, none⟩)) = Nat.blt b n := rfl
section
variable {P : Program} {E : Nat → Option AFn} {Y : Nat → List Value → FM → Nat → OR FM} {m : FM} {n : Nat}
theorem kept_specA {f : Nat} {fn : AFn} {args : List Value} {R : Value → FM → Nat → Prop} (hE : E f = some fn) (ha : llen args = fn.na) (h : ∀ Q : AX → List Value → FM → Nat → Nat → Prop, (∀ v e m' n' w, n ≤ n' → (∀ b, b < n → m' b = m b) → Nat.mod w (bit n) = 0 → (addrFree v = false → R v m' n') → (addrFree v = true → R v m n) → Q (.ret v) e m' n' w) → Wr P E Y [] 0 (execW P E Y fn.code args m n) Q) : Rt (callW P E Y f args m n) fun v m' n' w => n ≤ n' ∧ (∀ b, b < n → m' b = m b) ∧ (∀ j, j ≤ n → Nat.mod w (bit j) = 0) ∧ R v m' n' := by
  rw [callW_fn hE ha]
  obtain ⟨X, e', m', n', r, w, hx, v, rfl, h1, h2, h3, h4, h5⟩ := Gv_some (wr_start (h (fun X _ m' n' w => ∃ v, X = .ret v ∧ n ≤ n' ∧ (∀ b, b < n → m' b = m b) ∧ Nat.mod w (bit n) = 0 ∧ (addrFree v = false → R v m' n') ∧ (addrFree v = true → R v m n)) fun v _ m' n' w k1 k2 k3 k4 k5 => ⟨v, rfl, k1, k2, k3, k4, k5⟩))
  rw [hx, leave_ret]
  cases hv : addrFree v
  · rw [leaveA_keep hv]
    exact ⟨h1, h2, fun j hj => frz_down h3 hj, h4 hv⟩
  · rw [leaveA_free hv h3]
    exact ⟨Nat.le_refl _, fun _ _ => rfl, fun j _ => Nat.zero_mod _, h5 hv⟩
end
section
variable {P : Program} {E : Nat → Option AFn} {Y : Nat → List Value → FM → Nat → OR FM}
def Kont (P : Program) (E : Nat → Option AFn) (Y : Nat → List Value → FM → Nat → OR FM) (K : List Frm) (w0 : Nat) (Q : AX → List Value → FM → Nat → Nat → Prop) : AX → List Value → FM → Nat → Nat → Prop := fun X e m n w => ∀ r, Wr P E Y K w0 (.ok X e m n r w) Q
theorem wr_kont {K : List Frm} {w0 : Nat} {x : CR FM} {Q : AX → List Value → FM → Nat → Nat → Prop} (h : Gv x fun X e m n w => Kont P E Y K w0 Q X e m n (Nat.lor 0 w)) : Wr P E Y K w0 x Q :=
  wr_cps (h.mono fun X e m n w hq r => by have := hq r; rwa [zero_lor'] at this)
end
def IntZ (M : FM) (n0 N : Nat) (v : Value) (xs : List Int) : Prop := SlZ 1 M n0 N v xs.length (xs.map (Value.int .i64))
theorem IntZ.nil (M : FM) (n0 N : Nat) : IntZ M n0 N (.slice none 0 0) [] := .inl ⟨rfl, rfl, rfl⟩
theorem IntZ.ints {M : FM} {n0 N : Nat} {v : Value} {xs : List Int} (h : IntZ M n0 N v xs) : Ints M N v xs := by
  rcases h with ⟨h0, h1, rfl⟩ | ⟨h0, hl, b, rfl, h1, h2, h3⟩
  · exact .inl ⟨rfl, h1⟩
  · exact .inr <| .inl ⟨b, 0, UNK, _, true, true, by rw [List.length_map], h2, h3, fun i x hx => by rw [Nat.zero_add]; exact hx⟩
def natsI (l : List Nat) : List Int := l.map Int.ofNat
theorem natsI_app (a b : List Nat) : natsI (a ++ b) = natsI a ++ natsI b := List.map_append ..
theorem natsI_len (a : List Nat) : (natsI a).length = a.length := List.length_map ..
theorem app_intZ {M : FM} {n0 N : Nat} {v : Value} {xs : List Int} (h : IntZ M n0 N v xs) (z : Int) (ya : Option Addr) (yc ry : Nat) (h0 : n0 ≤ N) (hl : xs.length ≤ 1000000) :
    Rt (appO 1 8 M N v (.slice ya 1 yc) (shown M N 1 v) (some ([.int .i64 z], ry))) fun v' M' N' w => N' = N + 1 ∧ IntZ M' n0 N' v' (xs ++ [z]) ∧ (∀ b, b < n0 → M' b = M b) ∧ ∀ j, j ≤ n0 → Nat.mod w (bit j) = 0 := by
  refine (app_slZ (zs := [.int .i64 z]) h ya yc ry h0 (by omega) rfl rfl (by omega) (by omega)).mono fun v' M' N' w hA => ⟨hA.n, ?_, hA.low, hA.w⟩
  have := hA.s
  unfold IntZ
  rw [List.length_append, List.map_append]
  exact this
theorem IntZ.frame {M M' : FM} {n0 N N' : Nat} {v : Value} {xs : List Int} (h : IntZ M n0 N v xs) (hN : N ≤ N') (ht : ∀ b, n0 ≤ b → b < N → M' b = M b) : IntZ M' n0 N' v xs := SlZ.frame h hN ht
theorem IntZ.free {M m : FM} {n0 N n : Nat} {v : Value} {xs : List Int} (h : IntZ M n0 N v xs) (hv : addrFree v = true) : Ints m n v xs := by
  rcases h with ⟨h0, h1, rfl⟩ | ⟨h0, hl, b, rfl, h1, h2, h3⟩
  · exact .inl ⟨rfl, h1⟩
  · cases hv
end Go.Am
namespace Go.Am.C39
set_option maxRecDepth 100000
open Go Go.Am
variable {E : Nat → Option AFn} {Y : Nat → List Value → FM → Nat → OR FM}
theorem rng (h15 : E 15 = some ac15) (hV : Vals E Y) (c : Cmd) (hF : c.Fit) : ∃ (v : ByteArray) (x l : Int) (ok : Bool), (∀ m n d, DatV m n d c.data → Pure (callW PG E Y 15 [cmdV c d] m n) m n (.tuple #[.string v, .int .i64 x, .int .i64 l, .bool ok])) ∧
    (ok = true → InRange c ∧ v = c.vol ∧ x = c.at_ ∧ l = c.len ∧ 1 ≤ l) ∧ 0 ≤ x ∧ x ≤ 65536 ∧ 0 ≤ l ∧ l ≤ 65536 := by
  by_cases h : InRange c
  · have := in_small h
    exact ⟨_, _, _, true, fun m n d hd => range_in h15 hV m n c d hF hd h, fun _ => ⟨h, rfl, rfl, rfl, this.2.2.1⟩, by omega, by omega, by omega, by omega⟩
  · exact ⟨_, 0, 0, false, fun m n d hd => range_out h15 hV m n c d hF hd h, (fun h => (by cases h)), by omega, by omega, by omega, by omega⟩
def comB (x y m i : Int) : Bool := decide (x < i ∧ y < i ∧ x < y + m ∧ 0 < m)
theorem com_step {x y m i : Int} (h : x ≤ i) : comB x y m (i + 1) = (comB x y m i || (decide (y ≤ i) && decide (i < y + m))) := by
  unfold comB
  rw [Bool.eq_iff_iff]
  simp only [Bool.or_eq_true, Bool.and_eq_true, decide_eq_true_eq]
  omega
theorem blk_L0 {M : FM} {N : Nat} {x l x' l' : Int} (x0 : 0 ≤ x) (x1 : x ≤ 65536) (l0 : 0 ≤ l) (l1 : l ≤ 40) (y0 : 0 ≤ x') (y1 : x' ≤ 65536) (k0 : 0 ≤ l') (k1 : l' ≤ 40) (z2 z3 z4 z7 z8 : Value) (ys : List Value) {Q : AX → List Value → FM → Nat → Nat → Prop}
    (hQ : Q (.exit 0) (.bool (comB x x' l' (x + l)) :: z2 :: z3 :: z4 :: .int .i64 l' :: .int .i64 x' :: z7 :: z8 :: .int .i64 l :: .int .i64 x :: ys) M N 0) :
    ∀ (d : Nat) (i : Int), x ≤ i → i + d = x + l → Gv (execW PG E Y ac8L0 (.bool (comB x x' l' i) :: .int .i64 i :: z2 :: z3 :: z4 :: .int .i64 l' :: .int .i64 x' :: z7 :: z8 :: .int .i64 l :: .int .i64 x :: ys) M N) Q := by
  intro d
  induction d with
  | zero =>
    intro i h1 h2
    obtain rfl : i = x + l := by omega
    refine wr_loopN (L := ac8L0) (b := ac8L0b) rfl ?_
    simp only [ac8L0b]
    simp (implicitDefEqProofs := false) (disch := omega) only [WPs, opds, List.all_cons, List.all_nil, List.cons_append, List.nil_append, cond_true, cond_false, eq_self, List.map_cons, List.map_nil, Nat.reduceAdd, Nat.testBit, Nat.reduceShiftRight, Nat.reduceAnd, Nat.reduceBNe, Nat.reduceMul]
    exact hQ
  | succ d ih =>
    intro i h1 h2
    refine wr_loopN (L := ac8L0) (b := ac8L0b) rfl ?_
    simp only [ac8L0b]
    have hi := ih (i + 1) (by omega) (by omega)
    rw [com_step h1] at hi
    generalize comB x x' l' i = c at hi
    cases c
    · by_cases c1 : x' ≤ i
      · by_cases c2 : i < x' + l'
        · rw [decide_eq_true c1, decide_eq_true c2] at hi
          simp (implicitDefEqProofs := false) (disch := omega) only [WPs, opds, List.all_cons, List.all_nil, List.cons_append, List.nil_append, cond_true, cond_false, eq_self, List.map_cons, List.map_nil, Nat.reduceAdd, Nat.testBit, Nat.reduceShiftRight, Nat.reduceAnd, Nat.reduceBNe, Nat.reduceMul]
          exact wr_end hi fun X e m n w hq => by simpa only [zero_lor'] using hq
        · rw [decide_eq_true c1, decide_eq_false c2] at hi
          simp (implicitDefEqProofs := false) (disch := omega) only [WPs, opds, List.all_cons, List.all_nil, List.cons_append, List.nil_append, cond_true, cond_false, eq_self, List.map_cons, List.map_nil, Nat.reduceAdd, Nat.testBit, Nat.reduceShiftRight, Nat.reduceAnd, Nat.reduceBNe, Nat.reduceMul]
          exact wr_end hi fun X e m n w hq => by simpa only [zero_lor'] using hq
      · rw [decide_eq_false c1] at hi
        simp (implicitDefEqProofs := false) (disch := omega) only [WPs, opds, List.all_cons, List.all_nil, List.cons_append, List.nil_append, cond_true, cond_false, eq_self, List.map_cons, List.map_nil, Nat.reduceAdd, Nat.testBit, Nat.reduceShiftRight, Nat.reduceAnd, Nat.reduceBNe, Nat.reduceMul]
        exact wr_end hi fun X e m n w hq => by simpa only [zero_lor'] using hq
    · simp (implicitDefEqProofs := false) (disch := omega) only [WPs, opds, List.all_cons, List.all_nil, List.cons_append, List.nil_append, cond_true, cond_false, eq_self, List.map_cons, List.map_nil, Nat.reduceAdd, Nat.testBit, Nat.reduceShiftRight, Nat.reduceAnd, Nat.reduceBNe, Nat.reduceMul]
      exact wr_end hi fun X e m n w hq => by simpa only [zero_lor'] using hq
theorem blocks_law (hE : E 8 = some ac8) (h10 : E 10 = some ac10) (h15 : E 15 = some ac15) (hV : Vals E Y) (hO : Overs E Y) (hA : ∀ m n, Pure (callW PG E Y 9 [] m n) m n (.bool true)) (m : FM) (n : Nat) (a b : Cmd) (d e : Value) (hF : a.Fit) (hG : b.Fit) (hd : DatV m n d a.data) (he : DatV m n e b.data) :
    Pure (callW PG E Y 8 [cmdV a d, cmdV b e] m n) m n (.bool true) := by
  obtain ⟨v, x, l, ok, hr, hok, x0, x1, l0, l1⟩ := rng h15 hV a hF
  obtain ⟨v', x', l', ok', hr', hok', x0', x1', l0', l1'⟩ := rng h15 hV b hG
  refine pure_spec hE rfl rfl ?_
  simp only [ac8, cmdV]
  have hd2 : ∀ {M : FM}, (∀ b, b < n → M b = m b) → DatV M (n + 2) d a.data := fun h => hd.frame (by omega) h
  have he2 : ∀ {M : FM}, (∀ b, b < n → M b = m b) → DatV M (n + 2) e b.data := fun h => he.frame (by omega) h
  simp (implicitDefEqProofs := false) (disch := omega) only [WPs, opds, List.all_cons, List.all_nil, List.cons_append, List.nil_append, cond_true, cond_false, eq_self, List.map_cons, List.map_nil, Nat.reduceAdd, Nat.testBit, Nat.reduceShiftRight, Nat.reduceAnd, Nat.reduceBNe, Nat.reduceMul, hd.one, he.one, hd.belF, he.belF]
  refine use_pure (hr _ _ d (hd2 fun b hb => by simp (implicitDefEqProofs := false) (disch := omega) only [WPs, opds, List.all_cons, List.all_nil, List.cons_append, List.nil_append, cond_true, cond_false, eq_self, List.map_cons, List.map_nil, Nat.reduceAdd, Nat.testBit, Nat.reduceShiftRight, Nat.reduceAnd, Nat.reduceBNe, Nat.reduceMul])) fun r1 => ?_
  simp (implicitDefEqProofs := false) (disch := omega) only [WPs, opds, List.all_cons, List.all_nil, List.cons_append, List.nil_append, cond_true, cond_false, eq_self, List.map_cons, List.map_nil, Nat.reduceAdd, Nat.testBit, Nat.reduceShiftRight, Nat.reduceAnd, Nat.reduceBNe, Nat.reduceMul, hd.one, he.one, hd.belF, he.belF, x4_0, x4_1, x4_2, x4_3]
  refine use_pure (hr' _ _ e (he2 fun b hb => by simp (implicitDefEqProofs := false) (disch := omega) only [WPs, opds, List.all_cons, List.all_nil, List.cons_append, List.nil_append, cond_true, cond_false, eq_self, List.map_cons, List.map_nil, Nat.reduceAdd, Nat.testBit, Nat.reduceShiftRight, Nat.reduceAnd, Nat.reduceBNe, Nat.reduceMul])) fun r2 => ?_
  simp (implicitDefEqProofs := false) (disch := omega) only [WPs, opds, List.all_cons, List.all_nil, List.cons_append, List.nil_append, cond_true, cond_false, eq_self, List.map_cons, List.map_nil, Nat.reduceAdd, Nat.testBit, Nat.reduceShiftRight, Nat.reduceAnd, Nat.reduceBNe, Nat.reduceMul, hd.one, he.one, hd.belF, he.belF, x4_0, x4_1, x4_2, x4_3]
  refine use_pure (hA _ _) fun r3 => ?_
  simp (implicitDefEqProofs := false) (disch := omega) only [WPs, opds, List.all_cons, List.all_nil, List.cons_append, List.nil_append, cond_true, cond_false, eq_self, List.map_cons, List.map_nil, Nat.reduceAdd, Nat.testBit, Nat.reduceShiftRight, Nat.reduceAnd, Nat.reduceBNe, Nat.reduceMul, hd.one, he.one, hd.belF, he.belF]
  refine use_pure (fair_spec h10 _ _ a d (hd2 fun b hb => by simp (implicitDefEqProofs := false) (disch := omega) only [WPs, opds, List.all_cons, List.all_nil, List.cons_append, List.nil_append, cond_true, cond_false, eq_self, List.map_cons, List.map_nil, Nat.reduceAdd, Nat.testBit, Nat.reduceShiftRight, Nat.reduceAnd, Nat.reduceBNe, Nat.reduceMul])) fun r2 => ?_
  by_cases fa : FairP a
  case neg =>
    simp (implicitDefEqProofs := false) (disch := omega) only [WPs, opds, List.all_cons, List.all_nil, List.cons_append, List.nil_append, cond_true, cond_false, eq_self, List.map_cons, List.map_nil, Nat.reduceAdd, Nat.testBit, Nat.reduceShiftRight, Nat.reduceAnd, Nat.reduceBNe, Nat.reduceMul, decide_eq_false fa, hd.one, he.one, hd.belF, he.belF]
    refine use_pure (hA _ _) fun r3 => ?_
    simp (implicitDefEqProofs := false) (disch := omega) only [WPs, opds, List.all_cons, List.all_nil, List.cons_append, List.nil_append, cond_true, cond_false, eq_self, List.map_cons, List.map_nil, Nat.reduceAdd, Nat.testBit, Nat.reduceShiftRight, Nat.reduceAnd, Nat.reduceBNe, Nat.reduceMul]
  simp (implicitDefEqProofs := false) (disch := omega) only [WPs, opds, List.all_cons, List.all_nil, List.cons_append, List.nil_append, cond_true, cond_false, eq_self, List.map_cons, List.map_nil, Nat.reduceAdd, Nat.testBit, Nat.reduceShiftRight, Nat.reduceAnd, Nat.reduceBNe, Nat.reduceMul, decide_eq_true fa, hd.one, he.one, hd.belF, he.belF]
  refine use_pure (fair_spec h10 _ _ b e (he2 fun b hb => by simp (implicitDefEqProofs := false) (disch := omega) only [WPs, opds, List.all_cons, List.all_nil, List.cons_append, List.nil_append, cond_true, cond_false, eq_self, List.map_cons, List.map_nil, Nat.reduceAdd, Nat.testBit, Nat.reduceShiftRight, Nat.reduceAnd, Nat.reduceBNe, Nat.reduceMul])) fun r3 => ?_
  by_cases fb : FairP b
  case neg =>
    simp (implicitDefEqProofs := false) (disch := omega) only [WPs, opds, List.all_cons, List.all_nil, List.cons_append, List.nil_append, cond_true, cond_false, eq_self, List.map_cons, List.map_nil, Nat.reduceAdd, Nat.testBit, Nat.reduceShiftRight, Nat.reduceAnd, Nat.reduceBNe, Nat.reduceMul, decide_eq_false fb, hd.one, he.one, hd.belF, he.belF]
    refine use_pure (hA _ _) fun r3 => ?_
    simp (implicitDefEqProofs := false) (disch := omega) only [WPs, opds, List.all_cons, List.all_nil, List.cons_append, List.nil_append, cond_true, cond_false, eq_self, List.map_cons, List.map_nil, Nat.reduceAdd, Nat.testBit, Nat.reduceShiftRight, Nat.reduceAnd, Nat.reduceBNe, Nat.reduceMul]
  simp (implicitDefEqProofs := false) (disch := omega) only [WPs, opds, List.all_cons, List.all_nil, List.cons_append, List.nil_append, cond_true, cond_false, eq_self, List.map_cons, List.map_nil, Nat.reduceAdd, Nat.testBit, Nat.reduceShiftRight, Nat.reduceAnd, Nat.reduceBNe, Nat.reduceMul, decide_eq_true fb, hd.one, he.one, hd.belF, he.belF]
  cases ok
  case false =>
    simp (implicitDefEqProofs := false) (disch := omega) only [WPs, opds, List.all_cons, List.all_nil, List.cons_append, List.nil_append, cond_true, cond_false, eq_self, List.map_cons, List.map_nil, Nat.reduceAdd, Nat.testBit, Nat.reduceShiftRight, Nat.reduceAnd, Nat.reduceBNe, Nat.reduceMul, hd.one, he.one, hd.belF, he.belF]
    refine use_pure (hA _ _) fun r3 => ?_
    simp (implicitDefEqProofs := false) (disch := omega) only [WPs, opds, List.all_cons, List.all_nil, List.cons_append, List.nil_append, cond_true, cond_false, eq_self, List.map_cons, List.map_nil, Nat.reduceAdd, Nat.testBit, Nat.reduceShiftRight, Nat.reduceAnd, Nat.reduceBNe, Nat.reduceMul]
  cases ok'
  case false =>
    simp (implicitDefEqProofs := false) (disch := omega) only [WPs, opds, List.all_cons, List.all_nil, List.cons_append, List.nil_append, cond_true, cond_false, eq_self, List.map_cons, List.map_nil, Nat.reduceAdd, Nat.testBit, Nat.reduceShiftRight, Nat.reduceAnd, Nat.reduceBNe, Nat.reduceMul, hd.one, he.one, hd.belF, he.belF]
    refine use_pure (hA _ _) fun r3 => ?_
    simp (implicitDefEqProofs := false) (disch := omega) only [WPs, opds, List.all_cons, List.all_nil, List.cons_append, List.nil_append, cond_true, cond_false, eq_self, List.map_cons, List.map_nil, Nat.reduceAdd, Nat.testBit, Nat.reduceShiftRight, Nat.reduceAnd, Nat.reduceBNe, Nat.reduceMul]
  by_cases g1 : 40 < l
  · simp (implicitDefEqProofs := false) (disch := omega) only [WPs, opds, List.all_cons, List.all_nil, List.cons_append, List.nil_append, cond_true, cond_false, eq_self, List.map_cons, List.map_nil, Nat.reduceAdd, Nat.testBit, Nat.reduceShiftRight, Nat.reduceAnd, Nat.reduceBNe, Nat.reduceMul, hd.one, he.one, hd.belF, he.belF]
    refine use_pure (hA _ _) fun r3 => ?_
    simp (implicitDefEqProofs := false) (disch := omega) only [WPs, opds, List.all_cons, List.all_nil, List.cons_append, List.nil_append, cond_true, cond_false, eq_self, List.map_cons, List.map_nil, Nat.reduceAdd, Nat.testBit, Nat.reduceShiftRight, Nat.reduceAnd, Nat.reduceBNe, Nat.reduceMul]
  by_cases g2 : 40 < l'
  · simp (implicitDefEqProofs := false) (disch := omega) only [WPs, opds, List.all_cons, List.all_nil, List.cons_append, List.nil_append, cond_true, cond_false, eq_self, List.map_cons, List.map_nil, Nat.reduceAdd, Nat.testBit, Nat.reduceShiftRight, Nat.reduceAnd, Nat.reduceBNe, Nat.reduceMul, hd.one, he.one, hd.belF, he.belF]
    refine use_pure (hA _ _) fun r3 => ?_
    simp (implicitDefEqProofs := false) (disch := omega) only [WPs, opds, List.all_cons, List.all_nil, List.cons_append, List.nil_append, cond_true, cond_false, eq_self, List.map_cons, List.map_nil, Nat.reduceAdd, Nat.testBit, Nat.reduceShiftRight, Nat.reduceAnd, Nat.reduceBNe, Nat.reduceMul]
  simp (implicitDefEqProofs := false) (disch := omega) only [WPs, opds, List.all_cons, List.all_nil, List.cons_append, List.nil_append, cond_true, cond_false, eq_self, List.map_cons, List.map_nil, Nat.reduceAdd, Nat.testBit, Nat.reduceShiftRight, Nat.reduceAnd, Nat.reduceBNe, Nat.reduceMul, hd.one, he.one, hd.belF, he.belF]
  have hc0 : comB x x' l' x = false := by unfold comB; exact decide_eq_false (by omega)
  have hL := fun z2 z3 z4 z7 z8 ys Q M N hq => blk_L0 (E := E) (Y := Y) (M := M) (N := N) x0 x1 l0 (by omega) x0' x1' l0' (by omega) z2 z3 z4 z7 z8 ys (Q := Q) hq l.toNat x (by omega) (by omega)
  rw [hc0] at hL
  refine wr_kont (hL _ _ _ _ _ _ _ _ _ ?_)
  intro rr
  obtain ⟨ia, rfl, rfl, rfl, q1⟩ := hok rfl
  obtain ⟨ib, rfl, rfl, rfl, q2⟩ := hok' rfl
  simp (implicitDefEqProofs := false) (disch := omega) only [WPs, opds, List.all_cons, List.all_nil, List.cons_append, List.nil_append, cond_true, cond_false, eq_self, List.map_cons, List.map_nil, Nat.reduceAdd, Nat.testBit, Nat.reduceShiftRight, Nat.reduceAnd, Nat.reduceBNe, Nat.reduceMul, hd.one, he.one, hd.belF, he.belF]
  refine use_pure (hO.o19 _ _ a b d e hF hG (hd2 fun b hb => by simp (implicitDefEqProofs := false) (disch := omega) only [WPs, opds, List.all_cons, List.all_nil, List.cons_append, List.nil_append, cond_true, cond_false, eq_self, List.map_cons, List.map_nil, Nat.reduceAdd, Nat.testBit, Nat.reduceShiftRight, Nat.reduceAnd, Nat.reduceBNe, Nat.reduceMul]) (he2 fun b hb => by simp (implicitDefEqProofs := false) (disch := omega) only [WPs, opds, List.all_cons, List.all_nil, List.cons_append, List.nil_append, cond_true, cond_false, eq_self, List.map_cons, List.map_nil, Nat.reduceAdd, Nat.testBit, Nat.reduceShiftRight, Nat.reduceAnd, Nat.reduceBNe, Nat.reduceMul])) fun r4 => ?_
  simp (implicitDefEqProofs := false) (disch := omega) only [WPs, opds, List.all_cons, List.all_nil, List.cons_append, List.nil_append, cond_true, cond_false, eq_self, List.map_cons, List.map_nil, Nat.reduceAdd, Nat.testBit, Nat.reduceShiftRight, Nat.reduceAnd, Nat.reduceBNe, Nat.reduceMul, hd.one, he.one, hd.belF, he.belF]
  have hno : ∀ h : ¬ OverP a b, overB a b = false := fun h => overB_f h
  by_cases e1 : a.vol = b.vol
  case neg =>
    rw [overB_f fun h => by
      rcases h.2.2 with h3 | h3
      · have := ia.2; have := ib.2; omega
      · exact e1 h3.2.2.1]
    simp (implicitDefEqProofs := false) (disch := omega) only [WPs, opds, List.all_cons, List.all_nil, List.cons_append, List.nil_append, cond_true, cond_false, eq_self, List.map_cons, List.map_nil, Nat.reduceAdd, Nat.testBit, Nat.reduceShiftRight, Nat.reduceAnd, Nat.reduceBNe, Nat.reduceMul, eql_str, decide_eq_false e1, eql_bools 4 t4, decide_eq_true (rfl : false = false), hd.one, he.one, hd.belF, he.belF]
  cases hcom : comB a.at_ b.at_ b.len (a.at_ + a.len)
  · rw [overB_f fun h => by
      rcases h.2.2 with h3 | h3
      · have := ia.2; have := ib.2; omega
      · unfold comB at hcom
        have hc := of_decide_eq_false hcom
        have k1 := h3.2.2.2.1
        have k2 := h3.2.2.2.2.1
        exact hc ⟨by omega, by omega, by omega, by omega⟩]
    simp (implicitDefEqProofs := false) (disch := omega) only [WPs, opds, List.all_cons, List.all_nil, List.cons_append, List.nil_append, cond_true, cond_false, eq_self, List.map_cons, List.map_nil, Nat.reduceAdd, Nat.testBit, Nat.reduceShiftRight, Nat.reduceAnd, Nat.reduceBNe, Nat.reduceMul, eql_str, decide_eq_true e1, eql_bools 4 t4, decide_eq_true (rfl : false = false), hd.one, he.one, hd.belF, he.belF]
  have hc : a.at_ < a.at_ + a.len ∧ b.at_ < a.at_ + a.len ∧ a.at_ < b.at_ + b.len ∧ 0 < b.len := by unfold comB at hcom; exact of_decide_eq_true hcom
  by_cases c1 : a.kind = 1
  · by_cases c2 : b.kind = 1
    · rw [overB_f fun h => by
        rcases h.2.2 with h3 | h3
        · have := ia.2; have := ib.2; omega
        · rcases h3.2.2.2.2.2 with h4 | h4
          · exact h4 c1
          · exact h4 c2]
      simp (implicitDefEqProofs := false) (disch := omega) only [WPs, opds, List.all_cons, List.all_nil, List.cons_append, List.nil_append, cond_true, cond_false, eq_self, List.map_cons, List.map_nil, Nat.reduceAdd, Nat.testBit, Nat.reduceShiftRight, Nat.reduceAnd, Nat.reduceBNe, Nat.reduceMul, eql_str, decide_eq_true e1, eql_bools 4 t4, decide_eq_true (rfl : false = false), decide_eq_true c1, decide_eq_true c2, hd.one, he.one, hd.belF, he.belF]
    · rw [overB_t ⟨ia.1, ib.1, .inr ⟨ia.2, ib.2, e1, by omega, by omega, .inr c2⟩⟩]
      simp (implicitDefEqProofs := false) (disch := omega) only [WPs, opds, List.all_cons, List.all_nil, List.cons_append, List.nil_append, cond_true, cond_false, eq_self, List.map_cons, List.map_nil, Nat.reduceAdd, Nat.testBit, Nat.reduceShiftRight, Nat.reduceAnd, Nat.reduceBNe, Nat.reduceMul, eql_str, decide_eq_true e1, eql_bools 4 t4, decide_eq_true (rfl : true = true), decide_eq_true c1, decide_eq_false c2, hd.one, he.one, hd.belF, he.belF]
  · rw [overB_t ⟨ia.1, ib.1, .inr ⟨ia.2, ib.2, e1, by omega, by omega, .inl c1⟩⟩]
    simp (implicitDefEqProofs := false) (disch := omega) only [WPs, opds, List.all_cons, List.all_nil, List.cons_append, List.nil_append, cond_true, cond_false, eq_self, List.map_cons, List.map_nil, Nat.reduceAdd, Nat.testBit, Nat.reduceShiftRight, Nat.reduceAnd, Nat.reduceBNe, Nat.reduceMul, eql_str, decide_eq_true e1, eql_bools 4 t4, decide_eq_true (rfl : true = true), decide_eq_false c1, hd.one, he.one, hd.belF, he.belF]
end Go.Am.C39
namespace Go.Am.C39
open Go Go.Am Go.Am.V Go.RowKit
set_option maxRecDepth 100000
theorem commandBlocks_calls (a b : Cmd) (sa sb : Value) (w : World) (hgl : Glob w.heap.size w) (hF : a.Fit) (hG : b.Fit) (ha : DatW w sa a.data) (hb : DatW w sb b.data) :
    Calls Proofs.Tryd.prog 8 #[cmdV a sa, cmdV b sb] w fun e w' => e = .returned (.bool true) ∧ Below w.heap.size w w' :=
  two_calls a b sa sb w hgl ha hb fun m n d e hd he => blocks_law (E := look tabB) (by kernel_rfl) (by kernel_rfl) (by kernel_rfl) valsB oversB awake_pure m n a b d e hF hG hd he
end Go.Am.C39
