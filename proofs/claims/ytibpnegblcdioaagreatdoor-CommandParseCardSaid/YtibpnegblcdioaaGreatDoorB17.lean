/- The machine and its runs, part 17: Az39ze Az39zf Az39zg Az39vb AzArgs AzWorld AzTrod AzTrod2 Az39zh Az39t AzPost. -/
import Derived.Deep.Matrix
import Derived.OpenShut
import Derived.Test.YtibpnegblcdioaaGreatDoorRows
import Derived.Lib.LaidU8
import Derived.Lib.SmallJoins
import Derived.Lib.AppendIntMem
import Derived.HandedShaped
import Derived.SizedLaws
import Derived.LaidLaws
import Derived.Stop.Joined
import Derived.Deep.DeepHandedRow
import Derived.ProofKit
import Derived.Test.YtibpnegblcdioaaGreatDoorB16
set_option linter.unusedVariables false
set_option linter.unusedSimpArgs false
set_option linter.unusedSectionVars false
namespace Go.Am.C39
set_option maxRecDepth 100000
open Go Go.Am Go.Am.V
variable {E : Nat → Option AFn} {Y : Nat → List Value → FM → Nat → OR FM}
theorem land_of_test {i r : Nat} (h : r.testBit i = false) : Nat.land (bit i) r = 0 := by
  apply Nat.eq_of_testBit_eq
  intro k
  show (bit i &&& r).testBit k = _
  rw [Nat.testBit_and, bit_test, Nat.zero_testBit]
  by_cases hk : i = k
  · subst hk; rw [h, Bool.and_false]
  · simp [hk]
theorem use_rtXU {P : Program} {K : List Frm} {l : List (AI × Nat)} {w0 r0 w1 : Nat} {e : List Value} {Q : AX → List Value → FM → Nat → Nat → Prop} {b k : Nat} {kv : Bool} {done : List (Nat × Nat × Nat)} {R : Value → FM → Nat → Nat → Prop} {f : Nat} {args : List Value} {m : FM} {n : Nat} (hY : ∀ f args m n v m' n' r wm, Y f args m n = .ok v m' n' r wm → Up n n' r wm) (h : Rt (callW P E Y f args m n) R) (hk : ∀ v m' n' r' w', R v m' n' w' → (∀ i, n' ≤ i → Nat.land (bit i) r' = 0 ∧ Nat.land (bit i) w' = 0) → Wr P E Y K w0 (outX (runX P (callW P E Y) l (keepD b kv k done e r0 w1 (.ok v m' n' r' w')))) Q) : Wr P E Y K w0 (outX (runX P (callW P E Y) l (keepD b kv k done e r0 w1 (callW P E Y f args m n)))) Q := by
  obtain ⟨v, m', n', r', w', hx, hq⟩ := h.some
  rw [hx]
  have hu := callW_up hY hx
  exact hk _ _ _ _ _ hq fun i hi => ⟨land_of_test (hu.2 i hi).1, land_of_test (hu.2 i hi).2⟩
theorem slz_belF {sz : Nat} {M : FM} {n0 N : Nat} {v : Value} {len : Nat} {cs : List Value} (h : SlZ sz M n0 N v len cs) (k : Nat) (hk : N ≤ k) : belowF k v = true := by
  rcases h with ⟨_, _, rfl⟩ | ⟨_, _, b, rfl, _, hb, _⟩
  · rfl
  · exact blt_true (show b < k by omega)
theorem slcV_lo2 {c k len b : Nat} (h2 : 2 ≤ k) (hk : k ≤ len) : slcV 1 (some (.int .i64 2)) (some (.int .i64 (k : Int))) (.slice (some ⟨b, 0, none⟩) len c) = slcA 1 2 k len c (some ⟨b, 0, none⟩) := by
  have e1 : slcV 1 (some (.int .i64 2)) (some (.int .i64 (k : Int))) (.slice (some ⟨b, 0, none⟩) len c) = cond (Nat.ble 2 k && Nat.ble k len) (slcA 1 2 k len c (some ⟨b, 0, none⟩)) none := rfl
  rw [e1, ble_true h2, ble_true hk, Bool.and_self, cond_true]
theorem sub_cells (ws rest : List ByteArray) {k : Nat} (h2 : 2 ≤ k) (hk : k ≤ ws.length) : ((ws.take k).drop 2).length = k - 2 ∧ cellsAt ((ws ++ rest).map Value.string) 2 (k - 2) = some (((ws.take k).drop 2).map Value.string) := by
  refine ⟨by rw [List.length_drop, List.length_take]; omega, ?_⟩
  unfold cellsAt
  rw [ldrop_eq, ctake_eq, if_pos (by rw [List.length_drop, List.length_map, List.length_append]; omega), ← List.map_drop, ← List.map_take, List.drop_take]
  rw [List.drop_append_of_le_length (by omega), List.take_append_of_le_length (by rw [List.length_drop]; omega)]
theorem LV.sub {M : FM} {n0 N N' : Nat} {lv : Value} {ws : List ByteArray} (h : LV M n0 N lv ws) (hN : N ≤ N') {k : Nat} (h2 : 2 ≤ k) (hk : k ≤ ws.length) : ∃ v' r, slcM M N' 1 (slcV 1 (some (.int .i64 2)) (some (.int .i64 (k : Int))) lv) lv = .ok v' M N' r 0 ∧ (∀ i, N ≤ i → Nat.land (bit i) r = 0) ∧ SV M N v' ((ws.take k).drop 2) := by
  obtain ⟨b, c, rest, opn, wr, rfl, h0, hb, hm, hc⟩ := h
  obtain ⟨hl, hcl⟩ := sub_cells ws rest h2 hk
  rw [slcV_lo2 h2 hk, slcM_mk]
  have key : ∀ c', SV M N (.slice (some ⟨b, 2, none⟩) (k - 2) c') ((ws.take k).drop 2) := fun c' => ⟨b, 2, c', by rw [hl], hb, _, _, _, hm, fun _ => by rw [hl]; exact hcl⟩
  have key0 : k = 2 → SV M N (.slice (some ⟨b, 0, none⟩) 0 VAG) ((ws.take k).drop 2) := fun e => by
    have e0 : (ws.take k).drop 2 = [] := List.eq_nil_of_length_eq_zero (by omega)
    rw [e0]
    exact ⟨b, 0, VAG, rfl, hb, _, _, _, hm, fun h => absurd h (by decide)⟩
  rcases hc with rfl | ⟨h1, h2'⟩
  · rw [Nat.beq_refl, getb_lt (Nat.lt_of_lt_of_le hb hN), hm]
    by_cases hlt : 2 < ws.length
    · have e : slcA 1 2 k ws.length UNK (some ⟨b, 0, none⟩) = some (.slice (some ⟨b, 2, none⟩) (k - 2) UNK) := by
        have h1 : Nat.beq UNK VAG = false := nbeq_f (by unfold UNK VAG; omega)
        unfold slcA
        simp only [h1, Nat.beq_refl, blt_true hlt, Bool.true_or, cond_true, cond_false]
        rfl
      rw [e]
      exact ⟨_, bit b, rfl, fun i hi => land_lt (by omega), key _⟩
    · have e : slcA 1 2 k ws.length UNK (some ⟨b, 0, none⟩) = some (.slice (some ⟨b, 0, none⟩) 0 VAG) := by
        have h1 : Nat.beq UNK VAG = false := nbeq_f (by unfold UNK VAG; omega)
        have h3 : Nat.blt 2 ws.length = false := Bool.eq_false_iff.2 fun e => by have := Nat.le_of_ble_eq_true e; omega
        unfold slcA
        simp only [h1, Nat.beq_refl, h3, cond_true, cond_false]
        rfl
      rw [e]
      exact ⟨_, bit b, rfl, fun i hi => land_lt (by omega), key0 (by omega)⟩
  · have u1 : Nat.beq c VAG = false := nbeq_f (by unfold VAG; omega)
    have u3 : Nat.beq c UNK = false := nbeq_f (by unfold UNK; omega)
    have u4 : Nat.blt c UNK = true := blt_true (by unfold UNK; omega)
    rw [u3]
    by_cases hlt : 2 < c
    · have e : slcA 1 2 k ws.length c (some ⟨b, 0, none⟩) = some (.slice (some ⟨b, 2, none⟩) (k - 2) (c - 2)) := by
        unfold slcA
        simp only [u1, u3, u4, blt_true hlt, Bool.true_or, cond_true, cond_false]
        rfl
      rw [e]
      exact ⟨_, 0, rfl, fun i _ => Nat.and_zero _, key _⟩
    · have e : slcA 1 2 k ws.length c (some ⟨b, 0, none⟩) = some (.slice (some ⟨b, 0, none⟩) 0 VAG) := by
        have h3 : Nat.blt 2 c = false := Bool.eq_false_iff.2 fun e => by have := Nat.le_of_ble_eq_true e; omega
        unfold slcA
        simp only [u1, u3, u4, h3, cond_true, cond_false]
        rfl
      rw [e]
      exact ⟨_, 0, rfl, fun i _ => Nat.and_zero _, key0 (by omega)⟩
def dC (T O : Int) (F : Bool) (k : Nat) : Cmd := ⟨T, (k : Int), O, F, ⟨#[]⟩, ⟨#[]⟩, 0, 0, []⟩
def xC (T O : Int) (F : Bool) (k : Nat) (l : List ByteArray) : Cmd := fillC (dC T O F k) l
theorem xC_fit {T O : Int} {F : Bool} {k : Nat} {l : List ByteArray} (hT : -1000000000000000 ≤ T ∧ T ≤ 1000000000000000) (hO : 0 ≤ O ∧ O ≤ 10) (hk : k ≤ 10) (hl : l.length ≤ 2000) (hs : ∀ i, (atW l i).size ≤ 2000) : (xC T O F k l).Fit ∧ Bytes (xC T O F k l) := by
  have r1 := rnum_le (atW l 1)
  have r2 := rnum_le (atW l 2)
  have s0 := hs 0
  have s1 := hs 1
  have hd : ((l.drop 2).map rblk).length ≤ 2000 := by rw [List.length_map, List.length_drop]; omega
  have z0 : (⟨#[]⟩ : ByteArray).size ≤ 9223372036854775807 := Nat.zero_le _
  unfold xC fillC
  split
  · exact ⟨⟨⟨by show _ ≤ T; omega, by show T < _; omega⟩, ⟨by show (_ : Int) ≤ (k : Int); omega, by show (k : Int) < _; omega⟩, ⟨by show _ ≤ O; omega, by show O < _; omega⟩, ⟨by show _ ≤ rnum (atW l 1); omega, by show rnum (atW l 1) < _; omega⟩, ⟨by show _ ≤ rnum (atW l 2); omega, by show rnum (atW l 2) < _; omega⟩, by show (atW l 0).size ≤ _; omega, z0, Nat.zero_le _⟩, fun d hd => by cases hd⟩
  split
  · refine ⟨⟨⟨by show _ ≤ T; omega, by show T < _; omega⟩, ⟨by show (_ : Int) ≤ (k : Int); omega, by show (k : Int) < _; omega⟩, ⟨by show _ ≤ O; omega, by show O < _; omega⟩, ⟨by show _ ≤ rnum (atW l 1); omega, by show rnum (atW l 1) < _; omega⟩, ⟨by show _ ≤ (((l.drop 2).map rblk).length : Int); omega, by show (((l.drop 2).map rblk).length : Int) < _; omega⟩, by show (atW l 0).size ≤ _; omega, z0, by show ((l.drop 2).map rblk).length ≤ _; omega⟩, fun d hd => ?_⟩
    obtain ⟨w, _, rfl⟩ := List.mem_map.1 hd
    exact rblk_ok w
  split
  · exact ⟨⟨⟨by show _ ≤ T; omega, by show T < _; omega⟩, ⟨by show (_ : Int) ≤ (k : Int); omega, by show (k : Int) < _; omega⟩, ⟨by show _ ≤ O; omega, by show O < _; omega⟩, ⟨by show _ ≤ rnum (atW l 2); omega, by show rnum (atW l 2) < _; omega⟩, ⟨by show _ ≤ rnum (atW l 1); omega, by show rnum (atW l 1) < _; omega⟩, by show (atW l 0).size ≤ _; omega, z0, Nat.zero_le _⟩, fun d hd => by cases hd⟩
  split
  · exact ⟨⟨⟨by show _ ≤ T; omega, by show T < _; omega⟩, ⟨by show (_ : Int) ≤ (k : Int); omega, by show (k : Int) < _; omega⟩, ⟨by show _ ≤ O; omega, by show O < _; omega⟩, ⟨by show (_ : Int) ≤ 0; omega, by show (0 : Int) < _; omega⟩, ⟨by show (_ : Int) ≤ 0; omega, by show (0 : Int) < _; omega⟩, by show (atW l 0).size ≤ _; omega, by show (atW l 1).size ≤ _; omega, Nat.zero_le _⟩, fun d hd => by cases hd⟩
  · exact ⟨⟨⟨by show _ ≤ T; omega, by show T < _; omega⟩, ⟨by show (_ : Int) ≤ (k : Int); omega, by show (k : Int) < _; omega⟩, ⟨by show _ ≤ O; omega, by show O < _; omega⟩, ⟨by show (_ : Int) ≤ 0; omega, by show (0 : Int) < _; omega⟩, ⟨by show (_ : Int) ≤ 0; omega, by show (0 : Int) < _; omega⟩, by show (atW l 0).size ≤ _; omega, z0, Nat.zero_le _⟩, fun d hd => by cases hd⟩
def HitR (s : ByteArray) (x : Cmd) : Prop := ValidP x ∧ textB x = s
def FoundQ (Q : AX → List Value → FM → Nat → Nat → Prop) (m : FM) (n : Nat) (s : ByteArray) : Prop :=
  ∀ (x : Cmd) (dv : Value) (e : List Value) (M : FM) (N w : Nat), n ≤ N → (∀ b, b < n → M b = m b) → Nat.mod w (bit n) = 0 → DatV M N dv x.data → x.Fit → Bytes x → HitR s x → Q (.ret (.tuple #[cmdV x dv, .int .i64 0])) e M N w
structure LibR (E : Nat → Option AFn) (Y : Nat → List Value → FM → Nat → OR FM) : Prop where
  fill : ∀ (m : FM) (n : Nat) (c : Cmd) (lv : Value) (ws : List ByteArray), c.data = [] → SV m n lv ws → ws.length ≤ 2000 → (∀ i, (atW ws i).size ≤ 2000) → 1 ≤ c.kind ∧ c.kind ≤ 7 → Rt (callW PG E Y 17 [cmdV c (.slice none 0 0), lv] m n) fun v m' n' w => n ≤ n' ∧ (∀ b, b < n → m' b = m b) ∧ (∀ j, j ≤ n → Nat.mod w (bit j) = 0) ∧ FillR c ws n v m' n'
  up : ∀ f args m n v m' n' r wm, Y f args m n = .ok v m' n' r wm → Up n n' r wm
  num : ∀ (s : ByteArray), s.size ≤ 1000000 → ∀ (m : FM) (n : Nat), Pure (callW PG E Y 16 [.string s] m n) m n (.int .i64 (rnum s))
theorem kind_L0 (L : LibR E Y) (hV : Vals E Y) (hX : Texts E Y) {m : FM} {n N0 db : Nat} {M0 : FM} {s : ByteArray} {lv : Value} {ws : List ByteArray} {used : Nat} {T O : Int} {F : Bool} (hn : n < N0) (hM0 : ∀ b, b < n → M0 b = m b) (hp : ∃ cs, cs.length = 9 ∧ M0 n = some (.cells cs 0 false true)) (hLV : LV M0 (n + 1) N0 lv ws) (hu : used + 2 ≤ ws.length) (hT : -1000000000000000 ≤ T ∧ T ≤ 1000000000000000) (hO : 0 ≤ O ∧ O ≤ 10) (hws : ws.length ≤ 2000) (hsz : ∀ w ∈ ws, w.size ≤ 2000) (hdb : N0 ≤ db)
    (e0 z0 y1 y2 y3 y4 y5 y6 y7 y8 a1 a2 t0 t1 t2 t3 t4 t5 t6 t7 a3 x2 x4 : Value) {Q : AX → List Value → FM → Nat → Nat → Prop} (hF : FoundQ Q m n s)
    (hNo : ∀ M N w, db < N → (∀ b, b < N0 → M b = M0 b) → (∀ j, j ≤ n → Nat.mod w (bit j) = 0) → (∀ k, 1 ≤ k → k ≤ 7 → ¬ HitR s (xC T O F k ((ws.take (ws.length - used)).drop 2))) →
      Q (.exit 4) [e0, z0, .pointer (some ⟨db, 0, none⟩), y1, y2, y3, y4, y5, y6, y7, y8, a1, a2, t0, t1, t2, t3, t4, t5, t6, t7, a3, .int .i64 (used : Int), x2, lv, x4, .pointer (some ⟨n, 0, none⟩), .string s] M N w) :
    ∀ (d k : Nat), k + d = 8 → 1 ≤ k → ∀ (M : FM) (N w0 : Nat), db < N → (∀ b, b < N0 → M b = M0 b) → M db = some (.cells [.int .i64 T, .int .i64 (k : Int), .int .i64 O, .bool F, .string ⟨#[]⟩, .string ⟨#[]⟩, .int .i64 0, .int .i64 0, .slice none 0 0] 0 false true) → (∀ i, 1 ≤ i → i < k → ¬ HitR s (xC T O F i ((ws.take (ws.length - used)).drop 2))) → (∀ j, j ≤ n → Nat.mod w0 (bit j) = 0) →
    Gv (execW PG E Y ac6L0 [e0, z0, .pointer (some ⟨db, 0, none⟩), y1, y2, y3, y4, y5, y6, y7, y8, a1, a2, t0, t1, t2, t3, t4, t5, t6, t7, a3, .int .i64 (used : Int), x2, lv, x4, .pointer (some ⟨n, 0, none⟩), .string s] M N) fun X e m n w => Q X e m n (Nat.lor w0 w) := by
  intro d
  induction d with
  | zero =>
    intro k hk h1 M N w0 hN hM hP hno hw
    obtain rfl : k = 8 := by omega
    refine wr_loopN (L := ac6L0) (b := ac6L0b) rfl ?_
    simp only [ac6L0b]
    simp (implicitDefEqProofs := false) (disch := omega) only [WPs, opds, List.all_cons, List.all_nil, List.cons_append, List.nil_append, cond_true, cond_false, eq_self, List.map_cons, List.map_nil, Nat.reduceAdd, Nat.testBit, Nat.reduceShiftRight, Nat.reduceAnd, Nat.reduceBNe, Nat.reduceMul, hP]
    exact hNo _ _ _ hN hM hw fun i h1 h2 => hno i h1 (by omega)
  | succ d ih =>
    intro k hk h1 M N w0 hN hM hP hno hw
    have hLV1 : LV M (n + 1) N0 lv ws := hLV.frame (Nat.le_refl _) fun b _ hb => hM b hb
    obtain ⟨v', r1, hp1, hr1, hSV⟩ := hLV1.sub (show N0 ≤ N by omega) (k := ws.length - used) (by omega) (by omega)
    have hone := hLV1.one
    have hvo := hSV.one
    have hll : ((ws.take (ws.length - used)).drop 2).length ≤ 2000 := by rw [List.length_drop, List.length_take]; omega
    have hls : ∀ i, (atW ((ws.take (ws.length - used)).drop 2) i).size ≤ 2000 := fun i => atW_size (fun w hw => hsz w (List.mem_of_mem_take (List.mem_of_mem_drop hw))) i
    obtain ⟨xF, xB⟩ := xC_fit (F := F) hT hO (show k ≤ 10 by omega) hll hls
    refine wr_loopN (L := ac6L0) (b := ac6L0b) rfl ?_
    simp only [ac6L0b]
    simp (implicitDefEqProofs := false) (disch := omega) only [WPs, opds, List.all_cons, List.all_nil, List.cons_append, List.nil_append, cond_true, cond_false, eq_self, List.map_cons, List.map_nil, Nat.reduceAdd, Nat.testBit, Nat.reduceShiftRight, Nat.reduceAnd, Nat.reduceBNe, Nat.reduceMul, hP, hone, hLV1.len, hLV1.bel, s_slc, Option.toList_none, Option.toList_some, oev_none, oev_some, hSV.bel, hvo, hp1, hr1]
    refine use_rtXU L.up (L.fill M N (dC T O F k) v' _ rfl (hSV.frame (by omega) fun b _ => rfl) hll hls ⟨by show (1 : Int) ≤ (k : Int); omega, by show (k : Int) ≤ 7; omega⟩) fun v1 M1 N1 r2 w1 hh hmk => ?_
    obtain ⟨hN1, hf1, hw1, hR⟩ := hh
    obtain ⟨dv, rfl, hS1⟩ := hR
    obtain ⟨hk1, hk2⟩ := hmk N1 (Nat.le_refl _)
    have hk3 := hr1 N1 (by omega)
    have hx : fillC (dC T O F k) ((ws.take (ws.length - used)).drop 2) = xC T O F k ((ws.take (ws.length - used)).drop 2) := rfl
    rw [hx] at hS1 ⊢
    generalize hXe : xC T O F k ((ws.take (ws.length - used)).drop 2) = X at hS1 xF xB ⊢
    have hdo := hS1.one
    have hP1 := (hf1 db hN).trans hP
    simp only [cmdV]
    simp (implicitDefEqProofs := false) (disch := omega) only [WPs, opds, List.all_cons, List.all_nil, List.cons_append, List.nil_append, cond_true, cond_false, eq_self, List.map_cons, List.map_nil, Nat.reduceAdd, Nat.testBit, Nat.reduceShiftRight, Nat.reduceAnd, Nat.reduceBNe, Nat.reduceMul, hdo, hS1.bel, hk1, hk2, hk3, slz_belF hS1]
    have hS2 : DatV (AMem.put M1 N1 (some (.cells (X.cells dv) 0 false true)) : FM) (N1 + 1) dv X.data := (dat_of_slz hS1 fun d hd => (xB d hd).1).frame (by omega) fun b hb => fput_ne _ _ _ _ (by omega)
    have hP2 : (AMem.put M1 N1 (some (.cells (X.cells dv) 0 false true)) : FM) db = _ := (fput_ne _ _ _ _ (by omega)).trans hP1
    have hc2 : (AMem.put M1 N1 (some (.cells (X.cells dv) 0 false true)) : FM) N1 = some (.cells (X.cells dv) 0 false true) := fput_same _ _ _
    have lo2 : ∀ b, b < N0 → (AMem.put M1 N1 (some (.cells (X.cells dv) 0 false true)) : FM) b = M0 b := fun b hb => by rw [fput_ne _ _ _ _ (by omega), hf1 b (by omega), hM b hb]
    have lo3 : ∀ b, b ≠ N1 → (AMem.put M1 N1 (some (.cells (X.cells dv) 0 false true)) : FM) b = M1 b := fun b hb => fput_ne _ _ _ _ hb
    simp only [Cmd.cells] at hS2 hP2 hc2 lo2 lo3
    generalize (AMem.put M1 N1 (some (.cells [.int .i64 X.tag, .int .i64 X.kind, .int .i64 X.ord, .bool X.force, .string X.vol, .string X.oth, .int .i64 X.at_, .int .i64 X.len, dv] 0 false true)) : FM) = M2 at hS2 hP2 hc2 lo2 lo3 ⊢
    refine use_pure (hV.v32 M2 (N1 + 1) X dv xF hS2) fun r3 => ?_
    by_cases vx : ValidP X
    case neg =>
      simp (implicitDefEqProofs := false) (disch := omega) only [WPs, opds, List.all_cons, List.all_nil, List.cons_append, List.nil_append, cond_true, cond_false, eq_self, List.map_cons, List.map_nil, Nat.reduceAdd, Nat.testBit, Nat.reduceShiftRight, Nat.reduceAnd, Nat.reduceBNe, Nat.reduceMul, validB_f vx, hP2, hc2]
      refine wr_end (ih (k + 1) (by omega) (by omega) _ (N1 + 1) (Nat.lor w0 (Nat.lor (Nat.lor (Nat.lor w1 (bit N1)) (bit N1)) (bit db))) (by omega) (fun b hb => by rw [fput_ne _ _ _ _ (by omega), lo2 b hb]) (fput_same _ _ _) (fun i h1 h2 => by
        by_cases hik : i = k
        · subst hik; rw [hXe]; exact fun h => vx h.1
        · exact hno i h1 (by omega)) (fun j hj => by
        simp only [frz_iff]
        exact ⟨hw j hj, ⟨⟨hw1 j (by omega), frz_bit (by omega)⟩, frz_bit (by omega)⟩, frz_bit (by omega)⟩)) fun X e m n w hq => ?_
      rw [lor_asc] at hq
      exact hq
    simp (implicitDefEqProofs := false) (disch := omega) only [WPs, opds, List.all_cons, List.all_nil, List.cons_append, List.nil_append, cond_true, cond_false, eq_self, List.map_cons, List.map_nil, Nat.reduceAdd, Nat.testBit, Nat.reduceShiftRight, Nat.reduceAnd, Nat.reduceBNe, Nat.reduceMul, validB_t vx, hP2, hc2, hdo]
    refine use_pure (hX.t18 M2 (N1 + 1) X dv xF xB hS2) fun r4 => ?_
    by_cases tx : textB X = s
    · obtain ⟨cr, hcl, hcr⟩ := hp
      have hr2 := (lo2 n (by omega)).trans hcr
      simp (implicitDefEqProofs := false) (disch := omega) only [WPs, opds, List.all_cons, List.all_nil, List.cons_append, List.nil_append, cond_true, cond_false, eq_self, List.map_cons, List.map_nil, Nat.reduceAdd, Nat.testBit, Nat.reduceShiftRight, Nat.reduceAnd, Nat.reduceBNe, Nat.reduceMul, STs, decide_eq_true tx, hc2, hdo, hr2, st9 hcl (vs := [.int .i64 X.tag, .int .i64 X.kind, .int .i64 X.ord, .bool X.force, .string X.vol, .string X.oth, .int .i64 X.at_, .int .i64 X.len, dv]) rfl]
      refine hF X dv _ _ _ _ (by omega) (fun b hb => by rw [fput_ne _ _ _ _ (by omega), lo2 b (by omega), hM0 b hb]) ?_ (dat_of_slz (hS1.frame (N' := N1 + 1) (by omega) fun b h1 h2 => by rw [fput_ne _ _ _ _ (by omega), lo3 b (by omega)]) fun d hd => (xB d hd).1) xF xB ⟨vx, tx⟩
      simp only [frz_iff]
      exact ⟨hw n (Nat.le_refl _), ⟨⟨hw1 n (by omega), frz_bit (by omega)⟩, frz_bit (by omega)⟩, frz_bit (Nat.le_refl _)⟩
    · simp (implicitDefEqProofs := false) (disch := omega) only [WPs, opds, List.all_cons, List.all_nil, List.cons_append, List.nil_append, cond_true, cond_false, eq_self, List.map_cons, List.map_nil, Nat.reduceAdd, Nat.testBit, Nat.reduceShiftRight, Nat.reduceAnd, Nat.reduceBNe, Nat.reduceMul, STs, decide_eq_false tx, hP2, hc2]
      refine wr_end (ih (k + 1) (by omega) (by omega) _ (N1 + 1) (Nat.lor w0 (Nat.lor (Nat.lor (Nat.lor w1 (bit N1)) (bit N1)) (bit db))) (by omega) (fun b hb => by rw [fput_ne _ _ _ _ (by omega), lo2 b hb]) (fput_same _ _ _) (fun i h1 h2 => by
        by_cases hik : i = k
        · subst hik; rw [hXe]; exact fun h => tx h.2
        · exact hno i h1 (by omega)) (fun j hj => by
        simp only [frz_iff]
        exact ⟨hw j hj, ⟨⟨hw1 j (by omega), frz_bit (by omega)⟩, frz_bit (by omega)⟩, frz_bit (by omega)⟩)) fun X e m n w hq => ?_
      rw [lor_asc] at hq
      exact hq
end Go.Am.C39
namespace Go.Am.C39
set_option maxRecDepth 100000
open Go Go.Am Go.Am.V
variable {E : Nat → Option AFn} {Y : Nat → List Value → FM → Nat → OR FM}
theorem way_L1 (L : LibR E Y) (hV : Vals E Y) (hX : Texts E Y) {m : FM} {n N0 : Nat} {M0 : FM} {s : ByteArray} {lv : Value} {ws : List ByteArray} {used : Nat} (hn : n < N0) (hM0 : ∀ b, b < n → M0 b = m b) (hp : ∃ cs, cs.length = 9 ∧ M0 n = some (.cells cs 0 false true)) (hLV : LV M0 (n + 1) N0 lv ws) (hu : used + 2 ≤ ws.length) (hws : ws.length ≤ 2000) (hsz : ∀ w ∈ ws, w.size ≤ 2000)
    (e0 t0 t1 t2 t3 t4 t5 t6 t7 a3 x2 x4 : Value) {Q : AX → List Value → FM → Nat → Nat → Prop} (hF : FoundQ Q m n s)
    (hNo : ∀ M N w, N0 ≤ N → (∀ b, b < N0 → M b = M0 b) → (∀ j, j ≤ n → Nat.mod w (bit j) = 0) → (∀ way, way < 4 → ∀ k, 1 ≤ k → k ≤ 7 → ¬ HitR s (wayC ws used way k)) → ∀ x y,
      Q (.exit 2) [x, y, t0, t1, t2, t3, t4, t5, t6, t7, a3, .int .i64 (used : Int), x2, lv, x4, .pointer (some ⟨n, 0, none⟩), .string s] M N w) :
    ∀ (d way : Nat), way + d = 4 → ∀ (M : FM) (N w0 : Nat) (e0 : Value), N0 ≤ N → (∀ b, b < N0 → M b = M0 b) → (∀ i, i < way → ∀ k, 1 ≤ k → k ≤ 7 → ¬ HitR s (wayC ws used i k)) → (∀ j, j ≤ n → Nat.mod w0 (bit j) = 0) →
    Gv (execW PG E Y ac6L1 [e0, .int .i64 (way : Int), t0, t1, t2, t3, t4, t5, t6, t7, a3, .int .i64 (used : Int), x2, lv, x4, .pointer (some ⟨n, 0, none⟩), .string s] M N) fun X e m n w => Q X e m n (Nat.lor w0 w) := by
  intro d
  induction d with
  | zero =>
    intro way hd M N w0 e0 hN hM hno hw
    obtain rfl : way = 4 := by omega
    refine wr_loopN (L := ac6L1) (b := ac6L1b) rfl ?_
    simp only [ac6L1b]
    simp (implicitDefEqProofs := false) (disch := omega) only [WPs, opds, List.all_cons, List.all_nil, List.cons_append, List.nil_append, cond_true, cond_false, eq_self, List.map_cons, List.map_nil, Nat.reduceAdd, Nat.testBit, Nat.reduceShiftRight, Nat.reduceAnd, Nat.reduceBNe, Nat.reduceMul]
    exact hNo _ _ _ hN hM hw hno _ _
  | succ d ih =>
    intro way hd M N w0 e0 hN hM hno hw
    have hLV1 : LV M (n + 1) N0 lv ws := hLV.frame (Nat.le_refl _) fun b _ hb => hM b hb
    obtain ⟨b, cs, opn, wr, h1, h2, h3, h4⟩ := hLV1.at (show 1 < ws.length by omega)
    have hone := hLV1.one
    have e1 : atW ws 1 = ws[1] := atW_lt (by omega)
    rw [← e1] at h4
    have hr := rnum_le (atW ws 1)
    refine wr_loopN (L := ac6L1) (b := ac6L1b) rfl ?_
    simp only [ac6L1b]
    simp (implicitDefEqProofs := false) (disch := omega) only [WPs, opds, List.all_cons, List.all_nil, List.cons_append, List.nil_append, cond_true, cond_false, eq_self, List.map_cons, List.map_nil, Nat.reduceAdd, Nat.testBit, Nat.reduceShiftRight, Nat.reduceAnd, Nat.reduceBNe, Nat.reduceMul, hone, h1, h3, h4]
    refine use_pure (L.num _ (by have := atW_size (B := 2000) hsz 1; omega) _ _) fun r1 => ?_
    simp (implicitDefEqProofs := false) (disch := omega) only [WPs, opds, List.all_cons, List.all_nil, List.cons_append, List.nil_append, cond_true, cond_false, eq_self, List.map_cons, List.map_nil, Nat.reduceAdd, Nat.testBit, Nat.reduceShiftRight, Nat.reduceAnd, Nat.reduceBNe, Nat.reduceMul, hone]
    have eF : decide (((way % 2 : Nat) : Int) = 1) = decide (way % 2 = 1) := decide_eq_decide.2 (by omega)
    rw [eF]
    generalize hM1 : (AMem.put M N (some (.cells [.int .i64 (rnum (atW ws 1)), .int .i64 1, .int .i64 ((way / 2 : Nat) : Int), .bool (decide (way % 2 = 1)), .string ⟨#[]⟩, .string ⟨#[]⟩, .int .i64 0, .int .i64 0, .slice none 0 0] 0 false true)) : FM) = M1
    have lo1 : ∀ b, b < N0 → M1 b = M0 b := fun b hb => by rw [← hM1, fput_ne _ _ _ _ (by omega), hM b hb]
    have hP1 : M1 N = some (.cells [.int .i64 (rnum (atW ws 1)), .int .i64 ((1 : Nat) : Int), .int .i64 ((way / 2 : Nat) : Int), .bool (decide (way % 2 = 1)), .string ⟨#[]⟩, .string ⟨#[]⟩, .int .i64 0, .int .i64 0, .slice none 0 0] 0 false true) := by rw [← hM1]; exact fput_same _ _ _
    refine wr_kont ((kind_L0 L hV hX (db := N) (M0 := M0) (F := decide (way % 2 = 1)) (used := used) (ws := ws) hn hM0 hp hLV hu hr (by omega) hws hsz hN _ _ _ _ _ _ _ _ _ _ _ _ _ _ _ _ _ _ _ _ _ _ _ (fun x dv e M2 N2 w2 g1 g2 g3 g4 g5 g6 g7 => ?_) (fun M2 N2 w2 g1 g2 g3 g4 => ?_) 7 1 rfl (Nat.le_refl _) M1 (N + 1) 0 (Nat.lt_succ_self _) lo1 hP1 (fun i h1 h2 => by omega) (fun j _ => frz_zero _)).mono fun X e m' n' w hq => by simpa only [zero_lor'] using hq)
    · intro rr
      simp (implicitDefEqProofs := false) (disch := omega) only [WPs, opds, List.all_cons, List.all_nil, List.cons_append, List.nil_append, cond_true, cond_false, eq_self, List.map_cons, List.map_nil, Nat.reduceAdd, Nat.testBit, Nat.reduceShiftRight, Nat.reduceAnd, Nat.reduceBNe, Nat.reduceMul]
      refine hF x dv _ _ _ _ g1 g2 ?_ g4 g5 g6 g7
      simp only [frz_iff]
      exact ⟨hw n (Nat.le_refl _), ⟨⟨frz_bit (by omega), frz_bit (by omega)⟩, frz_bit (by omega)⟩, g3⟩
    · intro rr
      simp (implicitDefEqProofs := false) (disch := omega) only [WPs, opds, List.all_cons, List.all_nil, List.cons_append, List.nil_append, cond_true, cond_false, eq_self, List.map_cons, List.map_nil, Nat.reduceAdd, Nat.testBit, Nat.reduceShiftRight, Nat.reduceAnd, Nat.reduceBNe, Nat.reduceMul]
      refine wr_end (ih (way + 1) (by omega) _ _ (Nat.lor w0 (Nat.lor (Nat.lor (Nat.lor (bit N) (bit N)) (bit N)) w2)) _ (by omega) g2 (fun i hi k k1 k2 => by
        by_cases hik : i = way
        · subst hik; exact g4 k k1 k2
        · exact hno i (by omega) k k1 k2) (fun j hj => by
        simp only [frz_iff]
        exact ⟨hw j hj, ⟨⟨frz_bit (by omega), frz_bit (by omega)⟩, frz_bit (by omega)⟩, g3 j hj⟩)) fun X e m n w hq => ?_
      rw [lor_asc] at hq
      exact hq
theorem used_L2 (L : LibR E Y) (hV : Vals E Y) (hX : Texts E Y) {m : FM} {n N0 : Nat} {M0 : FM} {s : ByteArray} {lv : Value} {ws : List ByteArray} (hn : n < N0) (hM0 : ∀ b, b < n → M0 b = m b) (hp : ∃ cs, cs.length = 9 ∧ M0 n = some (.cells cs 0 false true)) (hLV : LV M0 (n + 1) N0 lv ws) (hw0 : 0 < ws.length) (hws : ws.length ≤ 2000) (hsz : ∀ w ∈ ws, w.size ≤ 2000)
    (x2 x4 : Value) {Q : AX → List Value → FM → Nat → Nat → Prop} (hF : FoundQ Q m n s)
    (hNo : ∀ M N w, N0 ≤ N → (∀ b, b < N0 → M b = M0 b) → (∀ j, j ≤ n → Nat.mod w (bit j) = 0) → (∀ used, used < 3 → used + 2 ≤ ws.length → ∀ way, way < 4 → ∀ k, 1 ≤ k → k ≤ 7 → ¬ HitR s (wayC ws used way k)) → ∀ x,
      Q (.exit 0) [x, x2, lv, x4, .pointer (some ⟨n, 0, none⟩), .string s] M N w) :
    ∀ (d used : Nat), used + d = min 3 (ws.length - 1) → ∀ (M : FM) (N w0 : Nat) (e0 : Value), N0 ≤ N → (∀ b, b < N0 → M b = M0 b) → (∀ i, i < used → ∀ way, way < 4 → ∀ k, 1 ≤ k → k ≤ 7 → ¬ HitR s (wayC ws i way k)) → (∀ j, j ≤ n → Nat.mod w0 (bit j) = 0) →
    Gv (execW PG E Y ac6L2 [e0, .int .i64 (used : Int), x2, lv, x4, .pointer (some ⟨n, 0, none⟩), .string s] M N) fun X e m n w => Q X e m n (Nat.lor w0 w) := by
  intro d
  induction d with
  | zero =>
    intro used hd M N w0 e0 hN hM hno hw
    have hone := hLV.one
    refine wr_loopN (L := ac6L2) (b := ac6L2b) rfl ?_
    simp only [ac6L2b]
    by_cases h3 : used < 3
    · simp (implicitDefEqProofs := false) (disch := omega) only [WPs, opds, List.all_cons, List.all_nil, List.cons_append, List.nil_append, cond_true, cond_false, eq_self, List.map_cons, List.map_nil, Nat.reduceAdd, Nat.testBit, Nat.reduceShiftRight, Nat.reduceAnd, Nat.reduceBNe, Nat.reduceMul, hone, hLV.len]
      exact hNo _ _ _ hN hM hw (fun i h1 h2 => hno i (by omega)) _
    · simp (implicitDefEqProofs := false) (disch := omega) only [WPs, opds, List.all_cons, List.all_nil, List.cons_append, List.nil_append, cond_true, cond_false, eq_self, List.map_cons, List.map_nil, Nat.reduceAdd, Nat.testBit, Nat.reduceShiftRight, Nat.reduceAnd, Nat.reduceBNe, Nat.reduceMul, hone, hLV.len]
      exact hNo _ _ _ hN hM hw (fun i h1 h2 => hno i (by omega)) _
  | succ d ih =>
    intro used hd M N w0 e0 hN hM hno hw
    have hone := hLV.one
    refine wr_loopN (L := ac6L2) (b := ac6L2b) rfl ?_
    simp only [ac6L2b]
    simp (implicitDefEqProofs := false) (disch := omega) only [WPs, opds, List.all_cons, List.all_nil, List.cons_append, List.nil_append, cond_true, cond_false, eq_self, List.map_cons, List.map_nil, Nat.reduceAdd, Nat.testBit, Nat.reduceShiftRight, Nat.reduceAnd, Nat.reduceBNe, Nat.reduceMul, hone, hLV.len]
    refine wr_kont ((way_L1 L hV hX (M0 := M0) (used := used) (ws := ws) hn hM0 hp hLV (by omega) hws hsz e0 _ _ _ _ _ _ _ _ _ _ _ (fun x dv e M2 N2 w2 g1 g2 g3 g4 g5 g6 g7 => ?_) (fun M2 N2 w2 g1 g2 g3 g4 x y => ?_) 4 0 rfl M N 0 e0 hN hM (fun i h1 => by omega) (fun j _ => frz_zero _)).mono fun X e m' n' w hq => by simpa only [zero_lor'] using hq)
    · intro rr
      simp (implicitDefEqProofs := false) (disch := omega) only [WPs, opds, List.all_cons, List.all_nil, List.cons_append, List.nil_append, cond_true, cond_false, eq_self, List.map_cons, List.map_nil, Nat.reduceAdd, Nat.testBit, Nat.reduceShiftRight, Nat.reduceAnd, Nat.reduceBNe, Nat.reduceMul]
      refine hF x dv _ _ _ _ g1 g2 ?_ g4 g5 g6 g7
      simp only [frz_iff]
      exact ⟨hw n (Nat.le_refl _), g3⟩
    · intro rr
      simp (implicitDefEqProofs := false) (disch := omega) only [WPs, opds, List.all_cons, List.all_nil, List.cons_append, List.nil_append, cond_true, cond_false, eq_self, List.map_cons, List.map_nil, Nat.reduceAdd, Nat.testBit, Nat.reduceShiftRight, Nat.reduceAnd, Nat.reduceBNe, Nat.reduceMul]
      refine wr_end (ih (used + 1) (by omega) M2 N2 (Nat.lor w0 w2) x g1 g2 (fun i hi => by
        by_cases hik : i = used
        · subst hik; exact g4
        · exact hno i (by omega)) (fun j hj => by
        simp only [frz_iff]
        exact ⟨hw j hj, g3 j hj⟩)) fun X e m n w hq => ?_
      rw [lor_asc] at hq
      exact hq
def RefPR (s : ByteArray) (v : Value) (m' : FM) (n' : Nat) : Prop :=
  ∃ (x : Cmd) (dv : Value) (e : Int), v = .tuple #[cmdV x dv, .int .i64 e] ∧ DatV m' n' dv x.data ∧ x.Fit ∧ Bytes x ∧
    ((e = 0 ∧ HitR s x) ∨ (e = 4 ∧ x = zeroC ∧ ∀ used, used < 3 → used + 2 ≤ (wordsR s).length → ∀ way, way < 4 → ∀ k, 1 ≤ k → k ≤ 7 → ¬ HitR s (wayC (wordsR s) used way k)))
theorem refParse_spec (L : LibR E Y) (hV : Vals E Y) (hX : Texts E Y) (hE : E 6 = some ac6) (h15 : E 15 = some ac15) (m : FM) (n : Nat) (s : ByteArray) (hs : s.size ≤ 1000) :
    Rt (callW PG E Y 6 [.string s] m n) fun v m' n' w => n ≤ n' ∧ (∀ b, b < n → m' b = m b) ∧ (∀ j, j ≤ n → Nat.mod w (bit j) = 0) ∧ RefPR s v m' n' := by
  refine kept_specQ (R := fun v m' n' => RefPR s v m' n') hE rfl fun Q hQ => ?_
  obtain ⟨l1, l2⟩ := wordsR_len s
  simp only [ac6]
  simp (implicitDefEqProofs := false) (disch := omega) only [WPs, opds, List.all_cons, List.all_nil, List.cons_append, List.nil_append, cond_true, cond_false, eq_self, List.map_cons, List.map_nil, Nat.reduceAdd, Nat.testBit, Nat.reduceShiftRight, Nat.reduceAnd, Nat.reduceBNe, Nat.reduceMul, STs]
  generalize hM0 : (AMem.put m n (some (.cells [.int .i64 0, .int .i64 0, .int .i64 0, .bool false, .string ⟨#[]⟩, .string ⟨#[]⟩, .int .i64 0, .int .i64 0, .slice none 0 0] 0 false true)) : FM) = M0
  have lo0 : ∀ b, b < n → M0 b = m b := fun b hb => by rw [← hM0, fput_ne _ _ _ _ (by omega)]
  have hr0 : M0 n = some (.cells [.int .i64 0, .int .i64 0, .int .i64 0, .bool false, .string ⟨#[]⟩, .string ⟨#[]⟩, .int .i64 0, .int .i64 0, .slice none 0 0] 0 false true) := by rw [← hM0]; exact fput_same _ _ _
  refine use_rt (refSplit_spec h15 s hs M0 (n + 1)) fun lv M1 N1 r1 w1 hh => ?_
  obtain ⟨hN1, hf1, hw1, hS1⟩ := hh
  have hLV : LV M1 (n + 1) N1 lv (wordsR s) := lv_of_strz hS1
  have lo1 : ∀ b, b < n → M1 b = m b := fun b hb => by rw [hf1 b (by omega), lo0 b hb]
  have hr1 := (hf1 n (by omega)).trans hr0
  simp (implicitDefEqProofs := false) (disch := omega) only [WPs, opds, List.all_cons, List.all_nil, List.cons_append, List.nil_append, cond_true, cond_false, eq_self, List.map_cons, List.map_nil, Nat.reduceAdd, Nat.testBit, Nat.reduceShiftRight, Nat.reduceAnd, Nat.reduceBNe, Nat.reduceMul]
  refine wr_kont ((used_L2 L hV hX (M0 := M1) (ws := wordsR s) (by omega) lo1 ⟨_, rfl, hr1⟩ hLV l1 (by omega) (fun w hw => by have := wordsR_mem s w hw; omega) _ _ (fun x dv e M2 N2 w2 g1 g2 g3 g4 g5 g6 g7 => ?_) (fun M2 N2 w2 g1 g2 g3 g4 x => ?_) (min 3 ((wordsR s).length - 1)) 0 (by omega) M1 N1 0 _ (Nat.le_refl _) (fun b _ => rfl) (fun i h1 => by omega) (fun j _ => frz_zero _)).mono fun X e m' n' w hq => by simpa only [zero_lor'] using hq)
  · intro rr
    simp (implicitDefEqProofs := false) (disch := omega) only [WPs, opds, List.all_cons, List.all_nil, List.cons_append, List.nil_append, cond_true, cond_false, eq_self, List.map_cons, List.map_nil, Nat.reduceAdd, Nat.testBit, Nat.reduceShiftRight, Nat.reduceAnd, Nat.reduceBNe, Nat.reduceMul]
    refine hQ _ _ _ _ _ g1 g2 ?_ rfl ⟨x, dv, 0, rfl, g4, g5, g6, .inl ⟨rfl, g7⟩⟩
    have fz := hw1 n (by omega)
    simp (implicitDefEqProofs := false) (disch := omega) only [WPs, opds, List.all_cons, List.all_nil, List.cons_append, List.nil_append, cond_true, cond_false, eq_self, List.map_cons, List.map_nil, Nat.reduceAdd, Nat.testBit, Nat.reduceShiftRight, Nat.reduceAnd, Nat.reduceBNe, Nat.reduceMul, fz, g3]
  · intro rr
    have hr2 := (g2 n (by omega)).trans hr1
    simp (implicitDefEqProofs := false) (disch := omega) only [WPs, opds, List.all_cons, List.all_nil, List.cons_append, List.nil_append, cond_true, cond_false, eq_self, List.map_cons, List.map_nil, Nat.reduceAdd, Nat.testBit, Nat.reduceShiftRight, Nat.reduceAnd, Nat.reduceBNe, Nat.reduceMul, hr2]
    refine hQ _ _ _ _ _ (by omega) (fun b hb => by rw [fput_ne _ _ _ _ (by omega), g2 b (by omega), lo1 b hb]) ?_ rfl ⟨zeroC, .slice none 0 0, 4, rfl, DatV.nil _ _, zero_fit, zero_bytes, .inr ⟨rfl, rfl, g4⟩⟩
    have fz := hw1 n (by omega)
    have fz2 := g3 n (by omega)
    simp (implicitDefEqProofs := false) (disch := omega) only [WPs, opds, List.all_cons, List.all_nil, List.cons_append, List.nil_append, cond_true, cond_false, eq_self, List.map_cons, List.map_nil, Nat.reduceAdd, Nat.testBit, Nat.reduceShiftRight, Nat.reduceAnd, Nat.reduceBNe, Nat.reduceMul, fz, fz2]
end Go.Am.C39
namespace Go.Am.C39
set_option maxRecDepth 100000
open Go Go.Am Go.Am.V
variable {E : Nat → Option AFn} {Y : Nat → List Value → FM → Nat → OR FM}
theorem both_read {s : ByteArray} {u dv : Value} {m1 m2 : FM} {n1 n2 : Nat} {x : Cmd} {e : Int} (hd : DatV m1 n1 dv x.data) (hF : x.Fit) (hB : Bytes x) (hh : (e = 0 ∧ s ≠ ⟨#[]⟩ ∧ textB x = s) ∨ (e = 4 ∧ x = zeroC ∧ ¬ (s ≠ ⟨#[]⟩ ∧ textB (preC s) = s) ∧ ∀ f, ¬ hitP (preC s) s f 0 ∧ ¬ hitP (preC s) s f 1)) (g : RefPR s u m2 n2) :
    ∃ (du : Value), u = .tuple #[cmdV x du, .int .i64 e] ∧ DatV m2 n2 du x.data ∧ ((e = 0 ∧ textB x = s) ∨ e = 4) := by
  obtain ⟨y, du, f, rfl, gd, gF, gB, gg⟩ := g
  rcases hh with ⟨rfl, h1, h2⟩ | ⟨rfl, rfl, h1, h2⟩
  · have hx := valid_of_text h1 h2
    rcases gg with ⟨rfl, hy, ty⟩ | ⟨rfl, rfl, hno⟩
    · obtain rfl := text_inj hx hy hB gB (by rw [h2, ty])
      exact ⟨du, rfl, gd, .inl ⟨rfl, h2⟩⟩
    · exfalso
      subst h2
      obtain ⟨used, way, k, k1, k2, k3, k4, k5, k6⟩ := way_of hx hB
      exact hno used k1 k2 way k3 k k4 k5 (by rw [k6]; exact ⟨hx, rfl⟩)
  · rcases gg with ⟨rfl, hy, ty⟩ | ⟨rfl, rfl, hno⟩
    · exfalso
      subst ty
      have := parse_valid hy gB (v := .tuple #[cmdV zeroC dv, .int .i64 4]) (m' := m1) (n' := n1) ⟨zeroC, dv, 4, rfl, hd, hF, hB, .inr ⟨rfl, rfl, h1, h2⟩⟩
      obtain ⟨dv', e, _⟩ := this
      injection e with e
      have e2 : (Value.int .i64 4) = (Value.int .i64 0) := congrArg (fun a : Array Value => a[1]!) e
      injection e2 with _ e3
      exact absurd e3 (by decide)
    · exact ⟨du, rfl, gd, .inr rfl⟩
theorem parse_law (L : LibP E Y) (R : LibR E Y) (hT : Texts E Y) (hV : Vals E Y) (hE : E 3 = some ac3) (h5 : E 5 = some ac5) (h6 : E 6 = some ac6) (h7 : E 7 = some ac7) (h15 : E 15 = some ac15) (h10 : E 10 = some ac10) (h11 : E 11 = some ac11) (h12 : E 12 = some ac12) (h13 : E 13 = some ac13) (h14 : E 14 = some ac14) (h22 : E 22 = some ac22) (hA : ∀ m n, Pure (callW PG E Y 4 [] m n) m n (.bool true)) (m : FM) (n : Nat) (s : ByteArray) :
    Pure (callW PG E Y 3 [.string s] m n) m n (.bool true) := by
  refine pure_spec hE rfl rfl ?_
  simp only [ac3]
  simp (implicitDefEqProofs := false) (disch := omega) only [WPs, opds, List.all_cons, List.all_nil, List.cons_append, List.nil_append, cond_true, cond_false, eq_self, List.map_cons, List.map_nil, Nat.reduceAdd, Nat.testBit, Nat.reduceShiftRight, Nat.reduceAnd, Nat.reduceBNe, Nat.reduceMul, STs]
  refine use_pure (hA _ _) fun r1 => ?_
  by_cases hl : s.size ≤ 400
  case neg =>
    simp (implicitDefEqProofs := false) (disch := omega) only [WPs, opds, List.all_cons, List.all_nil, List.cons_append, List.nil_append, cond_true, cond_false, eq_self, List.map_cons, List.map_nil, Nat.reduceAdd, Nat.testBit, Nat.reduceShiftRight, Nat.reduceAnd, Nat.reduceBNe, Nat.reduceMul, STs]
    refine use_pure (hA _ _) fun r3 => ?_
    simp (implicitDefEqProofs := false) (disch := omega) only [WPs, opds, List.all_cons, List.all_nil, List.cons_append, List.nil_append, cond_true, cond_false, eq_self, List.map_cons, List.map_nil, Nat.reduceAdd, Nat.testBit, Nat.reduceShiftRight, Nat.reduceAnd, Nat.reduceBNe, Nat.reduceMul]
  simp (implicitDefEqProofs := false) (disch := omega) only [WPs, opds, List.all_cons, List.all_nil, List.cons_append, List.nil_append, cond_true, cond_false, eq_self, List.map_cons, List.map_nil, Nat.reduceAdd, Nat.testBit, Nat.reduceShiftRight, Nat.reduceAnd, Nat.reduceBNe, Nat.reduceMul, STs]
  refine use_rt (parse_spec L hT h5 h10 h11 h12 h13 h14 h22 _ _ s (by omega)) fun v m1 n1 r7 w1 hh => ?_
  obtain ⟨hn1, hf1, hw1, hR⟩ := hh
  obtain ⟨x, dv, e, rfl, hd, hF, hB, hx⟩ := id hR
  simp only [cmdV]
  simp (implicitDefEqProofs := false) (disch := omega) only [WPs, opds, List.all_cons, List.all_nil, List.cons_append, List.nil_append, cond_true, cond_false, eq_self, List.map_cons, List.map_nil, Nat.reduceAdd, Nat.testBit, Nat.reduceShiftRight, Nat.reduceAnd, Nat.reduceBNe, Nat.reduceMul, hd.one, ey0, ey1]
  generalize hM1 : (AMem.put m1 n1 (some (.cells [.int .i64 x.tag, .int .i64 x.kind, .int .i64 x.ord, .bool x.force, .string x.vol, .string x.oth, .int .i64 x.at_, .int .i64 x.len, dv] 0 false true)) : FM) = M1
  have hr1 : M1 n1 = some (.cells [.int .i64 x.tag, .int .i64 x.kind, .int .i64 x.ord, .bool x.force, .string x.vol, .string x.oth, .int .i64 x.at_, .int .i64 x.len, dv] 0 false true) := by rw [← hM1]; exact fput_same _ _ _
  have hd1 : DatV M1 (n1 + 1) dv x.data := hd.frame (by omega) fun b hb => by rw [← hM1, fput_ne _ _ _ _ (by omega)]
  refine use_rt (refParse_spec R hV hT h6 h15 _ _ s (by omega)) fun u m2 n2 r8 w2 gg => ?_
  obtain ⟨hn2, hf2, hw2, gR⟩ := gg
  have hd2 : DatV m2 n2 dv x.data := hd1.frame hn2 hf2
  have hr2 := (hf2 n1 (by omega)).trans hr1
  obtain ⟨du, rfl, gd, hres⟩ := both_read hd hF hB hx gR
  simp only [cmdV]
  simp (implicitDefEqProofs := false) (disch := omega) only [WPs, opds, List.all_cons, List.all_nil, List.cons_append, List.nil_append, cond_true, cond_false, eq_self, List.map_cons, List.map_nil, Nat.reduceAdd, Nat.testBit, Nat.reduceShiftRight, Nat.reduceAnd, Nat.reduceBNe, Nat.reduceMul, hd.one, gd.one, ey0, ey1, hr2]
  refine use_pure (refSame_spec h7 _ _ x x dv du (hd2.frame (by omega) fun b hb => by rw [fput_ne _ _ _ _ (by omega)]) (gd.frame (by omega) fun b hb => by rw [fput_ne _ _ _ _ (by omega)]) hF.data hF.data) fun r9 => ?_
  rw [sameB_iff.2 rfl]
  have fz1 := hw1 n (by omega)
  have fz2 := hw2 n (by omega)
  rcases hres with ⟨rfl, tx⟩ | rfl
  · simp (implicitDefEqProofs := false) (disch := omega) only [WPs, opds, List.all_cons, List.all_nil, List.cons_append, List.nil_append, cond_true, cond_false, eq_self, List.map_cons, List.map_nil, Nat.reduceAdd, Nat.testBit, Nat.reduceShiftRight, Nat.reduceAnd, Nat.reduceBNe, Nat.reduceMul, hd.one, gd.one, hr2]
    refine use_pure (hT.t13 _ _ x dv hF hB (hd2.frame (by omega) fun b hb => by rw [fput_ne _ _ _ _ (by omega)])) fun r10 => ?_
    simp (implicitDefEqProofs := false) (disch := omega) only [WPs, opds, List.all_cons, List.all_nil, List.cons_append, List.nil_append, cond_true, cond_false, eq_self, List.map_cons, List.map_nil, Nat.reduceAdd, Nat.testBit, Nat.reduceShiftRight, Nat.reduceAnd, Nat.reduceBNe, Nat.reduceMul, STs, decide_eq_true tx, fz1, fz2]
  · simp (implicitDefEqProofs := false) (disch := omega) only [WPs, opds, List.all_cons, List.all_nil, List.cons_append, List.nil_append, cond_true, cond_false, eq_self, List.map_cons, List.map_nil, Nat.reduceAdd, Nat.testBit, Nat.reduceShiftRight, Nat.reduceAnd, Nat.reduceBNe, Nat.reduceMul, STs, hr2, fz1, fz2]
end Go.Am.C39
namespace Go.Am.C39
open Go Go.Am Go.Am.V Go.RowKit
set_option maxRecDepth 1000000
theorem lib_call {f : Nat} (h : look tabB f = none) (args : List Value) (m : FM) (n : Nat) (h1 : memoA m9 f args m n = .no) (h2 : memoA m44 f args m n = .no) : callW PG (look tabB) (memosA memL Y39) f args m n = Y39 f args m n := by
  rw [memo_call h]
  show altA (memoA m9) (altA (memoA m44) Y39) f args m n = _
  unfold altA
  rw [h1, h2]
theorem libB : LibY (look tabB) (memosA memL Y39) where
  itoa := fun m n z h0 h1 => ⟨0, by rw [lib_call (by kernel_rfl) _ _ _ rfl rfl]; exact y_itoa m n h0 h1⟩
  join := fun m n n0 v xs hS hl hs => by
    have hx : 0 < xs.length ∧ ∃ b c opn wr, v = .slice (some ⟨b, 0, none⟩) xs.length c ∧ b < n ∧ m b = some (.cells (xs.map Value.string) 1 opn wr) := by
      rcases hS with ⟨b, h1, h2, h3, h4, h5, h6⟩ | ⟨h1, h2⟩
      · exact ⟨h2, b, _, _, _, h1, h5, h6⟩
      · obtain ⟨h, h', h''⟩ | ⟨hp, hcl, b, h3, hb1, hbN, hMb⟩ := h2
        · omega
        · exact ⟨h1, b, _, _, _, h3, hbN, hMb⟩
    obtain ⟨h0, b, c, opn, wr, rfl, hb, hm⟩ := hx
    exact ⟨bit b, by rw [lib_call (by kernel_rfl) _ _ _ rfl rfl]; exact y_join m n b c opn wr xs _ hb hm h0 hl hs⟩
theorem refB : RefY (look tabB) (memosA memL Y39) where
  num := fun z h0 m n h1 => refNumber_spec (by kernel_rfl) z h0 m n h1
  blk := fun m n l hl hb => refBlock_spec (by kernel_rfl) (by kernel_rfl) m n l hl hb
theorem textsB : Texts (look tabB) (memosA memL Y39) where
  t13 := fun m n c d hF hB hd => text_spec (by kernel_rfl) (by kernel_rfl) (by kernel_rfl) valsB libB m n c d hF hB hd
  t18 := fun m n c d hF hB hd => refText_spec (by kernel_rfl) (by kernel_rfl) refB valsB m n c d hF hB hd
end Go.Am.C39
namespace Go.Am
open Go Go.Am.V Go.RowKit
theorem Env.topW {P : Program} {tab : List (Nat × AFn)} {Y : Nat → List Value → FM → Nat → OR FM} {Yf : FCal} (h : Env P tab Y Yf) {f : Nat} {args : List Value} {m0 m : FM} {n0 n r wm : Nat} (hrun : callW P (look tab) Y f args m0 n0 = .ok (.bool true) m n r wm)
    {ρ : Ren} {w : World} {args' : Array Value} (ha : LRel ρ args args'.toList) (hm : MRel ρ m0 w w.heap.size) (hf : Free ρ n0) :
    Calls P f args' w fun e w' => e = .returned (.bool true) ∧ Below w.heap.size w w' := by
  obtain ⟨k, hk⟩ := call_rch f args m0 n0 _ _ _ _ _ hrun
  obtain ⟨_, hc⟩ := h.calls k f args m0 n0 (.bool true) m n r wm (hk k (Nat.le_refl _)) ρ m0 w w.heap.size (Nat.lor r wm) args' ha (Sub.refl _) (fun b hb _ => rfl) hm hf
  refine hc.mono fun e w' hh => ?_
  obtain ⟨ρ', v', rfl, hv, hp⟩ := hh
  rw [hv.flat_eq rfl]
  exact ⟨rfl, hp.below⟩
def IntsW (w : World) (v : Value) (xs : List Int) : Prop :=
  (v = .slice none 0 0 ∧ xs = []) ∨ (∃ a' c', v = .slice (some a') 0 c' ∧ xs = []) ∨ ∃ (blk off cap : Nat) (cc : Array Value) (e : TypeId) (fz : Nat × Nat), v = .slice (some ⟨blk, off, none⟩) xs.length cap ∧ 0 < xs.length ∧ w.heap[blk]? = some (.cells cc e fz) ∧ xs.length ≤ cap ∧ off + xs.length ≤ cc.size ∧ ∀ (i : Nat) x, xs[i]? = some x → cc[off + i]? = some (.int .i64 x)
def RowsW (w : World) (v : Value) (gs : List (List Int)) : Prop :=
  (v = .slice none 0 0 ∧ gs = []) ∨ (∃ a' c', v = .slice (some a') 0 c' ∧ gs = []) ∨ ∃ (blk off cap : Nat) (cc : Array Value) (e : TypeId) (fz : Nat × Nat) (vs : List Value), v = .slice (some ⟨blk, off, none⟩) vs.length cap ∧ w.heap[blk]? = some (.cells cc e fz) ∧ vs.length ≤ cap ∧ off + vs.length ≤ cc.size ∧ vs.length = gs.length ∧ (∀ (i : Nat) x, vs[i]? = some x → cc[off + i]? = some x) ∧ ∀ (i : Nat) x g, vs[i]? = some x → gs[i]? = some g → IntsW w x g
def plOf : Value → Option Place
  | .slice (some ⟨b, o, none⟩) (_ + 1) c => some ⟨b, o, c, 1⟩
  | _ => none
def fvOf (i : Nat) : Value → Value
  | .slice (some ⟨_, _, none⟩) (l + 1) _ => .slice (some ⟨i + 1, 0, none⟩) (l + 1) UNK
  | .slice (some _) 0 _ => .slice (some ⟨0, 0, none⟩) 0 VAG
  | v => v
def rowsRen (p : Place) (vs : List Value) : Ren
  | 0 => some p
  | i + 1 => (vs[i]?).bind plOf
def rowsMem (vs : List Value) (gs : List (List Int)) : FM
  | 0 => some (.cells (vs.mapIdx fvOf) 1 false false)
  | i + 1 => (gs[i]?).map fun g => .cells (g.map (Value.int .i64)) 1 false false
end Go.Am
namespace Go.Am
open Go Go.RowKit Go.Deep Go.ChangeShapes
end Go.Am
namespace Go.Am
open Go Go.RowKit
structure Ent where
  p : Place
  cs : List Value
def entRen (L : List (Option Ent)) : Ren := fun b => (L[b]?).bind fun o => o.map (·.p)
def entMem (L : List (Option Ent)) : FM := fun b => (L[b]?).bind fun o => o.map fun e => .cells e.cs e.p.sz false false
structure EntOk (w : World) (ρ : Ren) (e : Ent) : Prop where
  ok : ∃ (cc : Array Value) (ty : TypeId) (fz : Nat × Nat), w.heap[e.p.blk]? = some (.cells cc ty fz) ∧ e.p.base + e.cs.length ≤ cc.size ∧ ∀ (j : Nat) x, e.cs[j]? = some x → ∃ y, cc[e.p.base + j]? = some y ∧ VRel ρ x y
theorem ent_world {w : World} {L : List (Option Ent)} (hgl : Glob w.heap.size w) (h : ∀ (i : Nat) e, L[i]? = some (some e) → EntOk w (entRen L) e) : MRel (entRen L) (entMem L) w w.heap.size ∧ Free (entRen L) L.length := by
  have hlt : ∀ {b : Nat} {x}, w.heap[b]? = some x → b < w.heap.size := fun hb => (Array.getElem?_eq_some_iff.1 hb).1
  refine ⟨⟨?_, ?_, ?_, Nat.le_refl _, hgl⟩, ?_⟩
  · intro b p O hp hO
    replace hp : ((L[b]?).bind fun o => o.map (·.p)) = some p := hp
    replace hO : ((L[b]?).bind fun o => o.map fun e => Blk.cells e.cs e.p.sz false false) = some O := hO
    cases hy : L[b]? with
    | none => rw [hy] at hp; cases hp
    | some o =>
      rw [hy] at hp hO
      cases o with
      | none => cases hp
      | some e =>
      injection hp with hp; subst hp
      injection hO with hO; subst hO
      obtain ⟨cc, ty, fz, h1, h2, h3⟩ := (h b e hy).ok
      exact ⟨rfl, cc, ty, fz, h1, h3, fun h => absurd h (by decide), fun h => absurd h (by decide), h2⟩
  · intro b1 b2 p1 p2 O1 O2 _ _ hO1 _ _ hw
    replace hO1 : ((L[b1]?).bind fun o => o.map fun e => Blk.cells e.cs e.p.sz false false) = some O1 := hO1
    cases hy : L[b1]? with
    | none => rw [hy] at hO1; cases hO1
    | some o =>
      rw [hy] at hO1
      cases o with
      | none => cases hO1
      | some e => injection hO1 with hO1; subst hO1; cases hw
  · intro b p hp
    replace hp : ((L[b]?).bind fun o => o.map (·.p)) = some p := hp
    cases hy : L[b]? with
    | none => rw [hy] at hp; cases hp
    | some o =>
      rw [hy] at hp
      cases o with
      | none => cases hp
      | some e =>
      injection hp with hp; subst hp
      obtain ⟨cc, ty, fz, h1, h2, h3⟩ := (h b e hy).ok
      exact hlt h1
  · intro b hb
    show (L[b]?).bind _ = none
    rw [List.getElem?_eq_none (by omega)]; rfl
end Go.Am
namespace Go.Am
open Go Go.RowKit Go.ChangeShapes
def SliceW (w : World) (k : Nat) (R : List Value → Prop) (v : Value) (len : Nat) : Prop :=
  (v = .slice none 0 0 ∧ len = 0) ∨ (∃ a c, v = .slice (some a) 0 c ∧ len = 0) ∨
    ∃ (blk off cap : Nat) (cc : Array Value) (ty : TypeId) (fz : Nat × Nat), v = .slice (some ⟨blk, off, none⟩) len cap ∧ 0 < len ∧ len ≤ cap ∧ w.heap[blk]? = some (.cells cc ty fz) ∧ off + len * k ≤ cc.size ∧
      ∀ i, i < len → ∃ l : List Value, l.length = k ∧ (∀ j, j < k → cc[off + i * k + j]? = l[j]?) ∧ R l
end Go.Am
namespace Go.Am
open Go Go.RowKit Go.ChangeShapes
def intOf : Value → Int
  | .int _ n => n
  | _ => 0
def DatW (w : World) (v : Value) (ds : List (List Int)) : Prop :=
  (v = .slice none 0 0 ∧ ds = []) ∨ (∃ a c, v = .slice (some a) 0 c ∧ ds = []) ∨
    ∃ (blk off cap : Nat) (cc : Array Value) (ty : TypeId) (fz : Nat × Nat), v = .slice (some ⟨blk, off, none⟩) ds.length cap ∧ 0 < ds.length ∧ ds.length ≤ cap ∧ w.heap[blk]? = some (.cells cc ty fz) ∧ off + ds.length * 8 ≤ cc.size ∧
      ∀ i (h : i < ds.length), ds[i].length = 8 ∧ ∀ j, j < 8 → cc[off + i * 8 + j]? = (ds[i].map (Value.int .u8))[j]?
end Go.Am
namespace Go.Am.C39
open Go Go.Am Go.Am.V Go.RowKit
set_option maxRecDepth 1000000
theorem libP : LibP (look tabB) (memosA memL Y39) where
  cut := fun m n s sep h => ⟨0, by rw [lib_call (by kernel_rfl) _ _ _ rfl rfl]; exact y_cut m n h⟩
  atoi := fun m n s h => ⟨0, by rw [lib_call (by kernel_rfl) _ _ _ rfl rfl]; exact y_atoi m n h⟩
  pu := fun m n s h => ⟨0, by rw [lib_call (by kernel_rfl) _ _ _ rfl rfl]; exact y_pu m n h⟩
  split := fun m n s sep h1 h2 h3 => by rw [lib_call (by kernel_rfl) _ _ _ rfl rfl]; exact y_split m n h1 h2 h3
def YUp (Y : Nat → List Value → FM → Nat → OR FM) : Prop := ∀ f args m n v m' n' r wm, Y f args m n = .ok v m' n' r wm → Up n n' r wm
theorem alt_up {a b : Nat → List Value → FM → Nat → OR FM} (ha : YUp a) (hb : YUp b) : YUp (altA a b) := by
  intro f args m n v m' n' r wm h
  unfold altA at h
  split at h
  · exact hb _ _ _ _ _ _ _ _ _ h
  · rename_i hx
    injection h with e1 e2 e3 e4 e5
    subst e1; subst e2; subst e3; subst e4; subst e5
    exact ha _ _ _ _ _ _ _ _ _ hx
theorem memo_up (M : Memo) : YUp (memoA M) := by
  intro f args m n v m' n' r wm h
  unfold memoA at h
  cases hb : (Nat.beq f M.f && veqL args M.args)
  · rw [hb, cond_false] at h; cases h
  · rw [hb, cond_true] at h
    injection h with e1 e2 e3 e4 e5
    subst e3; subst e4; subst e5
    refine ⟨Nat.le_add_right _ _, fun i hi => ⟨Nat.zero_testBit i, ?_⟩⟩
    rw [newW_test, Bool.and_eq_false_imp]
    intro _
    exact decide_eq_false (by omega)
theorem pfn_up (p : PFn) : YUp (pfnA p) := by
  intro f args m n v m' n' r wm h
  obtain ⟨_, _, _, rfl, rfl, rfl⟩ := pfn_ok h
  exact Up.refl _
theorem pfns_up {l : List PFn} {Y : Nat → List Value → FM → Nat → OR FM} (hY : YUp Y) : YUp (pfnsA l Y) := by
  induction l with
  | nil => exact hY
  | cons p l ih => exact alt_up (pfn_up p) ih
theorem memos_up {l : List Memo} {Y : Nat → List Value → FM → Nat → OR FM} (hY : YUp Y) : YUp (memosA l Y) := by
  induction l with
  | nil => exact hY
  | cons M l ih => exact alt_up (memo_up M) ih
theorem atoi_up (af : Nat) : YUp (atoiA af) := by
  intro f args m n v m' n' r wm h
  obtain ⟨_, s, _, _, _, _, rfl, rfl, rfl⟩ := atoiA_ok h
  exact Up.refl _
theorem pu_up : YUp puA := by
  intro f args m n v m' n' r wm h
  obtain ⟨_, s, _, _, _, _, rfl, rfl, rfl⟩ := puA_ok h
  exact Up.refl _
theorem split_up (sf : Nat) : YUp (splitA sf) := by
  intro f args m n v m' n' r wm h
  obtain ⟨_, s, sep, _, _, _, _, _, _, rfl, rfl, rfl⟩ := splitA_ok h
  exact up_new _ fun i _ => Nat.zero_testBit i
theorem cond_okO {c : Bool} {x : OR FM} {v : Value} {m' : FM} {n' r w : Nat} (h : cond c x .no = .ok v m' n' r w) : x = .ok v m' n' r w := by
  cases c
  · cases h
  · exact h
theorem join_up (jf : Nat) : YUp (joinA jf) := by
  intro f args m n v m' n' r wm h
  unfold joinA at h
  cases hb : Nat.beq f jf
  · rw [hb] at h; cases h
  · rw [hb, cond_true] at h
    split at h
    · injection h with e1 e2 e3 e4 e5; subst e3; subst e4; subst e5; exact Up.refl _
    · split at h
      · rename_i hg
        split at h
        · replace h := cond_okO h
          injection h with e1 e2 e3 e4 e5; subst e3; subst e4; subst e5
          exact up_read (getb_some hg).1
        · cases h
      · cases h
    · cases h
theorem y39_up : YUp Y39 := pfns_up (alt_up (atoi_up _) (alt_up (split_up _) (alt_up (join_up _) pu_up)))
theorem libR : LibR (look tabB) (memosA memL Y39) where
  fill := fun m n c lv ws h0 hL hws hsz hk => fill_spec (by kernel_rfl) (by kernel_rfl) (by kernel_rfl) (by kernel_rfl) m n h0 hL hws hsz hk
  up := memos_up y39_up
  num := fun s hs m n => refNum_spec (by kernel_rfl) s hs m n
theorem commandParse_calls (w : World) (hgl : Glob w.heap.size w) (s : ByteArray) :
    Calls Proofs.Tryz.prog 3 #[.string s] w fun e w' => e = .returned (.bool true) ∧ Below w.heap.size w w' := by
  obtain ⟨hm, hf⟩ := ent_world (w := w) (L := []) hgl fun i e he => by simp at he
  obtain ⟨r, hrun⟩ := parse_law (E := look tabB) libP libR textsB valsB (by kernel_rfl) (by kernel_rfl) (by kernel_rfl) (by kernel_rfl) (by kernel_rfl) (by kernel_rfl) (by kernel_rfl) (by kernel_rfl) (by kernel_rfl) (by kernel_rfl) (by kernel_rfl) awake_pure (entMem []) 0 s
  exact Go.Am.Env.topW envB (args' := #[.string s]) hrun (.cons (.flat rfl) (.nil _)) hm hf
end Go.Am.C39
namespace Go.Am.C39
open Go Go.Am Go.Am.V Go.RowKit Go.ChangeShapes Go.WideShapes Go.ChangeAt
set_option maxRecDepth 1000000
theorem returns_listed {H : Type} {enc : TypeId × Value → H} {a : Assume} {C : Checked} {os : Os} {f : FuncId} {fn : Func} {s : ChangeSpec} {conds : List PathCond} {apart fresh handsOn again : Bool} {X : World → Array Value → Prop}
    (hX : ∀ (w w' : World) (args : Array Value), w.heap = w'.heap → X w args → X w' args)
    (own : ownKnob C.prog.godebug = none) (started : os.Started) (noInit : C.prog.inits.idxOf? f = none) (hfn : C.prog.funcs[f]? = some fn)
    (witness : ∃ (w : World) (tape : Tape) (i : Input), w.os = os ∧ (w.forCall tape i).Shaped C.prog ∧ i.vars = [] ∧ Input.okWide C.prog (w.forCall tape i) .any w.heap.size f i ∧
      ((s.pre enc C.prog fn conds apart (w.forCall tape i).memory i.args ∧ X (w.forCall tape i).memory i.args) ∧ sizedMet enc C.prog fn (OpenSpec.ofChange s) apart (w.forCall tape i).memory i.args) ∧ a.holds C.prog (lone (Frame.enter C.prog f i.args .normal) [] (w.forCall tape i)))
    (contract : ∀ (W : World) (args : Array Value) (base : Nat) (ds gs : List (DataW H)) (before : List MemPlace),
      (∀ (j : Nat) t v, fn.params[j]? = some t → args[j]? = some v → Value.okWide C.prog W .any base t v) →
      DataW.Whole enc C.prog fn.params.toList s.vars apart W args.toList ds gs before →
      (DataW.weightsEach C.prog (fn.params.toList ++ s.plain.varTypes C.prog) (ds ++ gs)).all (· ≤ reachBytes) = true → X W args → W.ShapedOpen C.prog →
      Calls C.prog f args W fun e W' => ∃ v, e = .returned v ∧ s.post enc C.prog fn apart fresh handsOn again W args v W') :
    ReturnsInHanded a C os f .any (fun w args => (s.pre enc C.prog fn conds apart w args ∧ X w args) ∧ sizedMet enc C.prog fn (OpenSpec.ofChange s) apart w args) (s.post enc C.prog fn apart fresh handsOn again) := by
  refine returnsInHanded_of_calls own started noInit witness ?_
  intro w tape i _ hsh _ hok hpre hholds
  obtain ⟨_, _, _, fn', hfn', _, _, _, _, hval⟩ := hok
  have e : fn' = fn := Option.some.inj (hfn'.symm.trans hfn)
  subst e
  obtain ⟨⟨⟨ds, gs, before, hw, hc⟩, hx⟩, hz⟩ := hpre
  have hw' := DataW.Whole.of_heap (w' := w.forCall tape i) (by rfl) hw
  refine (contract (w.forCall tape i) i.args w.heap.size ds gs before hval hw' (hz.weights hw) (hX _ _ _ (by rfl) hx) hsh).mono fun e W' ⟨v, he, hp⟩ => ?_
  subst he
  exact ChangeSpec.post_blind hp
theorem u3 : PG.underlying 3 = some (.int .i64) := by kernel_rfl
theorem maxLen_cell {w : World} (h : w.ShapedOpen PG) : ∃ m, w.cell? ⟨0, 0, none⟩ = some (.int .i64 m) :=
  Go.Proofs.cell_of_shapedOpen_int (zero := #[.int .i64 0]) (t := 3) h (of_decide_eq_true (by kernel_rfl)) (by kernel_rfl) rfl (by kernel_rfl) (by kernel_rfl) u3
theorem cell_below {B : Nat} {w w' : World} (h : Below B w w') (hB : 0 < B) : w'.cell? ⟨0, 0, none⟩ = w.cell? ⟨0, 0, none⟩ := by
  unfold World.cell?
  rw [show w'.heap[(⟨0, 0, none⟩ : Addr).block]? = w.heap[(⟨0, 0, none⟩ : Addr).block]? from h.block 0 hB]
theorem pow_is {w : World} {l : List (String × DataW Unit)} (h : laidMet PG l w) (hm : ("internal/strconv.uint64pow10", Go.Proofs.YtibpnegblcdioaaGreatDoor.Rows.laid_internal_strconv_uint64pow10) ∈ l) : Lib.TabIs PG w "internal/strconv.uint64pow10" .u64 Lib.pow10Tab := by
  obtain ⟨g, t, cs, fuel, p, h1, h2, h3, h4⟩ := Lib.laidMet.reads h hm
  obtain rfl : g = 3 := Option.some.inj (h1.symm.trans (by kernel_rfl))
  obtain rfl : t = 112 := Option.some.inj (h2.symm.trans (by kernel_rfl))
  rw [show (Go.Proofs.YtibpnegblcdioaaGreatDoor.Rows.laid_internal_strconv_uint64pow10 : DataW Unit) = Lib.tabData .u64 Lib.pow10Tab by kernel_rfl] at h4
  unfold Lib.TabIs
  rw [h3, ← Lib.cells_of_tab (n := 20) (e := 53) (by kernel_rfl) (by kernel_rfl) (by kernel_rfl) (by kernel_rfl) h4]
theorem cell_belowG {B : Nat} {w w' : World} (h : Below B w w') {g : Nat} (hB : g < B) : w'.cell? ⟨g, 0, none⟩ = w.cell? ⟨g, 0, none⟩ := by
  unfold World.cell?
  rw [show w'.heap[(⟨g, 0, none⟩ : Addr).block]? = w.heap[(⟨g, 0, none⟩ : Addr).block]? from h.block g hB]
theorem cell_lt {w : World} {g : Nat} {v : Value} (hc : w.cell? ⟨g, 0, none⟩ = some v) : g < w.heap.size := by
  rcases Nat.lt_or_ge g w.heap.size with h | h
  · exact h
  · unfold World.cell? at hc
    rw [Array.getElem?_eq_none (by exact h)] at hc
    cases hc
theorem err_is {w : World} {l : List (String × DataW Unit)} (h : laidMet PG l w) {nm tn : String} {d : DataW Unit} {g t : Nat} {ms : Array (String × TypeId)} (hm : (nm, DataW.iface tn d) ∈ l) (hg : PG.globalNamed nm = some g) (ht : (PG.globals[g]?).map (·.type) = some t) (hi : PG.underlying t = some (.interface ms)) : ErrV w g := by
  obtain ⟨g', t', cs, fuel, p, h1, h2, h3, h4⟩ := Lib.laidMet.reads h hm
  obtain rfl : g' = g := Option.some.inj (h1.symm.trans hg)
  obtain rfl : t' = t := Option.some.inj (h2.symm.trans ht)
  obtain ⟨_, u, v, hcs, _, _⟩ := iface_of_trod hi h4
  refine ⟨.iface u v, ?_, .inr ⟨u, v, rfl⟩⟩
  unfold World.var? at h3
  rw [h1] at h3
  replace h3 : (match w.heap[g']? with | some (.cells cs _ _) => some cs | _ => none) = some cs := h3
  unfold World.cell?
  simp only
  split at h3
  · rename_i c _ _ hc
    injection h3 with h3
    subst h3
    rw [hc]
    obtain ⟨c⟩ := c
    replace hcs : c = _ := hcs
    subst hcs
    rfl
  · cases h3
theorem glob_of {w : World} {l : List (String × DataW Unit)} (hs : w.ShapedOpen PG) (h : laidMet PG l w) (hm : ("internal/strconv.uint64pow10", Go.Proofs.YtibpnegblcdioaaGreatDoor.Rows.laid_internal_strconv_uint64pow10) ∈ l) (h1 : ("strconv.ErrSyntax", Go.Proofs.YtibpnegblcdioaaGreatDoor.Rows.laid_strconv_ErrSyntax) ∈ l) (h2 : ("strconv.ErrRange", Go.Proofs.YtibpnegblcdioaaGreatDoor.Rows.laid_strconv_ErrRange) ∈ l) : Glob w.heap.size w := fun w' hb => by
  obtain ⟨m, hc⟩ := maxLen_cell hs
  obtain ⟨e1, c1, k1⟩ := err_is h (tn := "*errors.errorString") (g := 1) (t := 50) (ms := ((PG.underlying 50).bind fun | .interface m => some m | _ => none).getD #[]) h1 (by kernel_rfl) (by kernel_rfl) (by kernel_rfl)
  obtain ⟨e2, c2, k2⟩ := err_is h (tn := "*errors.errorString") (g := 2) (t := 50) (ms := ((PG.underlying 50).bind fun | .interface m => some m | _ => none).getD #[]) h2 (by kernel_rfl) (by kernel_rfl) (by kernel_rfl)
  exact ⟨⟨⟨m, (cell_below hb (cell_lt hc)).trans hc⟩, Lib.tabBelow_of_tabIs (pow_is h hm) w' hb⟩, ⟨e1, (cell_belowG hb (cell_lt c1)).trans c1, k1⟩, ⟨e2, (cell_belowG hb (cell_lt c2)).trans c2, k2⟩⟩
end Go.Am.C39
namespace Go.Am
open Go Go.RowKit Go.ChangeShapes
theorem post_below {H : Type} {enc : TypeId × Value → H} {P : Program} {f : Func} {s : ChangeSpec} {apart fresh handsOn again : Bool} {W W' : World} {args : Array Value} {v : Value} {ds gs : List (DataW H)} {before pa pv : List MemPlace}
    (hW : DataW.Whole enc P f.params.toList s.vars apart W args.toList ds gs before)
    (hres : ∀ (b : Nat) (sp : Nat → Bool) (hd : Bool), DataW.TrodAll enc P W' b sp hd f.resultTypes.toList (v.resultList f.resultTypes.size) (s.fn H (ds ++ gs)).results [])
    (hargs : ∀ sp : Nat → Bool, (∀ p ∈ before, sp p.block = true) → DataW.TrodAll enc P W' 0 sp true f.params.toList args.toList (s.fn H (ds ++ gs)).args pa)
    (hvars : ∀ sp : Nat → Bool, (∀ p ∈ before, sp p.block = true) → DataW.TrodVars enc P W' sp s.vars (s.fn H (ds ++ gs)).vars pv)
    (hps : before = pa ++ pv) (hb : Below W.heap.size W W')
    (hok : ∀ (j : Nat) (t : TypeId) (r : Value), f.resultTypes[j]? = some t → (v.resultList f.resultTypes.size)[j]? = some r → Value.okWide P W' .any 0 t r) :
    s.post enc P f apart fresh handsOn again W args v W' := by
  have hlt := hW.lt
  obtain ⟨_, _, _, _, _, hz, hn⟩ := id hW
  refine ⟨ds, gs, before, [], pa, pv, hW, hres _ _ _, hargs _ fun p hp => by simpa using hlt p hp, hvars _ fun p hp => by simpa using hlt p hp, World.keptBut_mono (fun p hp => ⟨hp, ?_⟩) (hb.frame (· ∈ before)), fun _ => ⟨hok, _, _, ([] ++ pa) ++ pv, ⟨[] ++ pa, pv, trodAll_append (hargs _ fun _ _ => rfl) (hres _ _ _), hvars _ fun _ _ => rfl, rfl, fun b off hp => ?_, fun ha => ?_⟩, fun p hp _ => ?_⟩⟩
  · rw [hps, List.mem_append] at hp; exact .inr hp
  · have hm : MemPlace.cell b off ∈ before := by rw [hps]; simpa using hp
    rw [hb.frozen (p := ⟨b, off, none⟩) (hlt _ hm)]
    exact hz b off hm
  · have := hn ha
    rw [hps] at this
    simpa using this
  · rw [hps]; simpa using hp
end Go.Am
