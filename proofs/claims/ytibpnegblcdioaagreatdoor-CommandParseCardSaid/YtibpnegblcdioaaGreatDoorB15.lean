/- The machine and its runs, part 15: Az39pe Az39pf Az39pg Az39ph Az39pi Az39pj Az39pk. -/
import Derived.Test.YtibpnegblcdioaaGreatDoorB14
set_option linter.unusedVariables false
set_option linter.unusedSimpArgs false
set_option linter.unusedSectionVars false
namespace Go.Am.C39
set_option maxRecDepth 100000
open Go Go.Am Go.Am.V
variable {E : Nat → Option AFn} {Y : Nat → List Value → FM → Nat → OR FM}
def p12 : Nat → AC
  | 0 => ac5.code
  | k + 1 => sqB (p12 k)
def r1 : AC := sqB ac5.code
def r2 : AC := sqB r1
def r3 : AC := sqB r2
def r4 : AC := sqB r3
def r5 : AC := sqB r4
def r6 : AC := sqB r5
def r7 : AC := sqB r6
def r8 : AC := sqB r7
def r9 : AC := sqB r8
def r10 : AC := sqB r9
def r11 : AC := sqB r10
def q0 : AC := sqA ac5.code
def q1 : AC := sqA r1
def q2 : AC := sqA r2
def q3 : AC := sqA r3
def q4 : AC := sqA r4
def q5 : AC := sqA r5
def q6 : AC := sqA r6
def q7 : AC := sqA r7
def q8 : AC := sqA r8
def q9 : AC := sqA r9
def q10 : AC := sqA r10
theorem code12 : ac5.code = .seq q0 (.seq q1 (.seq q2 (.seq q3 r4))) := rfl
theorem r4_eq : r4 = .seq q4 r5 := rfl
theorem r5_eq : r5 = .seq q5 r6 := rfl
theorem r6_eq : r6 = .seq q6 r7 := rfl
theorem r7_eq : r7 = .seq q7 (.seq q8 r9) := rfl
theorem r9_eq : r9 = .seq q9 r10 := rfl
def cuts : Nat → List UInt8 → List (List UInt8)
  | 0, s => [s]
  | k + 1, s => if (Lib.cut s [32]).2.2 = true then (Lib.cut s [32]).1 :: cuts k (Lib.cut s [32]).2.1 else [(Lib.cut s [32]).1]
theorem cut_miss {s : List UInt8} (h : (Lib.cut s [32]).2.2 = false) : (Lib.cut s [32]).1 = s := by
  unfold Lib.cut at h ⊢
  split
  · rename_i h0
    rw [if_pos h0] at h
    cases h
  · rfl
theorem cut_less {s : List UInt8} (h : (Lib.cut s [32]).2.2 = true) : (Lib.cut s [32]).2.1.length < s.length := by
  have e := Txt.cut_found h
  have := congrArg List.length e
  rw [List.length_append, List.length_append] at this
  simp only [List.length_cons, List.length_nil] at this
  omega
theorem cuts_miss {k : Nat} {s : List UInt8} (h : (Lib.cut s [32]).2.2 = false) : cuts k s = [s] := by
  cases k with
  | zero => rfl
  | succ k => rw [cuts, if_neg (by rw [h]; decide), cut_miss h]
theorem cuts_found {k : Nat} {s : List UInt8} (h : (Lib.cut s [32]).2.2 = true) : cuts (k + 1) s = (Lib.cut s [32]).1 :: cuts k (Lib.cut s [32]).2.1 := by
  rw [cuts, if_pos h]
def bytesS (l : List UInt8) : ByteArray := ⟨l.toArray⟩
theorem bytesS_list (l : List UInt8) : (bytesS l).data.toList = l := rfl
def wordsP (s : ByteArray) : List ByteArray := (cuts s.size s.data.toList).map bytesS
theorem cuts_len : ∀ (k : Nat) (s : List UInt8), 0 < (cuts k s).length ∧ (cuts k s).length ≤ k + 1
  | 0, s => ⟨by rw [cuts]; simp, by rw [cuts]; simp⟩
  | k + 1, s => by
    rw [cuts]
    split
    · have := cuts_len k (Lib.cut s [32]).2.1
      rw [List.length_cons]; omega
    · simp
theorem cut_L0 (L : LibP E Y) {n : Nat} {M0 : FM} (x2 : Value) (ys : List Value) {Q : AX → List Value → FM → Nat → Nat → Prop} {W : List ByteArray}
    (hQ : ∀ M N w lv, n + 2 ≤ N → (∀ b, b < n + 1 → M b = M0 b) → M (n + 1) = some (.cells [lv] 0 false true) → SlZ 1 M (n + 2) N lv W.length (W.map Value.string) → (∀ j, j ≤ n → Nat.mod w (bit j) = 0) → Q (.exit 0) (x2 :: .pointer (some ⟨n + 1, 0, none⟩) :: ys) M N w) :
    ∀ (k : Nat) (rest : ByteArray), rest.size ≤ k → ∀ (xs : List ByteArray) (M : FM) (N w0 : Nat) (lv : Value), W = xs ++ (cuts k rest.data.toList).map bytesS → n + 2 ≤ N → (∀ b, b < n + 1 → M b = M0 b) → M (n + 1) = some (.cells [lv] 0 false true) → SlZ 1 M (n + 2) N lv xs.length (xs.map Value.string) → xs.length + k ≤ 2000 → (∀ j, j ≤ n → Nat.mod w0 (bit j) = 0) →
    Gv (execW PG E Y ac5L0 (.string rest :: .bool true :: x2 :: .pointer (some ⟨n + 1, 0, none⟩) :: ys) M N) fun X e m n w => Q X e m n (Nat.lor w0 w) := by
  intro k
  induction k using Nat.strongRecOn with
  | ind k ih =>
    intro rest hr xs M N w0 lv hW hN hlo hlp hS hk hw
    have hc := L.cut M N rest ⟨#[32]⟩ (by omega)
    have hone := hS.one
    refine wr_loopN (L := ac5L0) (b := ac5L0b) rfl ?_
    simp only [ac5L0b]
    simp (implicitDefEqProofs := false) (disch := omega) only [WPs, opds, List.all_cons, List.all_nil, List.cons_append, List.nil_append, cond_true, cond_false, eq_self, List.map_cons, List.map_nil, Nat.reduceAdd, Nat.testBit, Nat.reduceShiftRight, Nat.reduceAnd, Nat.reduceBNe, Nat.reduceMul, STs]
    refine use_pure hc fun r1 => ?_
    generalize hcc : Lib.cut rest.data.toList (⟨#[32]⟩ : ByteArray).data.toList = cc
    have hcc' : Lib.cut rest.data.toList [32] = cc := hcc
    obtain ⟨a, b, fd⟩ := cc
    simp (implicitDefEqProofs := false) (disch := omega) only [WPs, opds, List.all_cons, List.all_nil, List.cons_append, List.nil_append, cond_true, cond_false, eq_self, List.map_cons, List.map_nil, Nat.reduceAdd, Nat.testBit, Nat.reduceShiftRight, Nat.reduceAnd, Nat.reduceBNe, Nat.reduceMul, STs, ex0, ex1, ex2, hlp, hone, hS.bel]
    generalize hM3 : (AMem.put M N (some (.cells [.string ⟨a.toArray⟩] 1 false true)) : FM) = M3
    have lo3 : ∀ b, b < N → M3 b = M b := fun b hb => by rw [← hM3, fput_ne _ _ _ _ (by omega)]
    have hS3 : SlZ 1 M3 (n + 2) (N + 1) lv xs.length (xs.map Value.string) := hS.frame (by omega) fun b h1 h2 => lo3 b h2
    refine use_rt (app_slZn hS3 _ _ _ (by omega) (k := 1) (by omega) (by omega) (zs := [Value.string ⟨a.toArray⟩]) rfl rfl (by omega) (by omega)) fun v4 M4 N4 r4 w4 hh => ?_
    obtain ⟨hv4, hn4, hS4, f4, fw4⟩ := hh
    subst hn4
    have hlp4 : M4 (n + 1) = some (.cells [lv] 0 false true) := by rw [f4 _ (by omega), lo3 _ (by omega)]; exact hlp
    have e4 : xs.map Value.string ++ [Value.string ⟨a.toArray⟩] = (xs ++ [bytesS a]).map Value.string := by rw [List.map_append]; rfl
    have l4 : (xs ++ [bytesS a]).length = xs.length + 1 := by rw [List.length_append]; rfl
    rw [e4, ← l4] at hS4
    have hS5 : SlZ 1 (AMem.put M4 (n + 1) (some (.cells [v4] 0 false true)) : FM) (n + 2) (N + 1 + 1) v4 (xs ++ [bytesS a]).length ((xs ++ [bytesS a]).map Value.string) := hS4.frame (Nat.le_refl _) fun b h1 h2 => fput_ne _ _ _ _ (by omega)
    have hone4 := hS4.one
    have lo5 : ∀ b, b < n + 1 → (AMem.put M4 (n + 1) (some (.cells [v4] 0 false true)) : FM) b = M0 b := fun b hb => by rw [fput_ne _ _ _ _ (by omega), f4 b (by omega), lo3 b (by omega), hlo b hb]
    cases fd with
    | true =>
      have hf : (Lib.cut rest.data.toList [32]).2.2 = true := by rw [hcc']
      have hl := cut_less hf
      rw [hcc', size_list] at hl
      obtain ⟨k', rfl⟩ : ∃ k', k = k' + 1 := ⟨k - 1, by omega⟩
      rw [cuts_found hf, hcc'] at hW
      simp (implicitDefEqProofs := false) (disch := omega) only [WPs, opds, List.all_cons, List.all_nil, List.cons_append, List.nil_append, cond_true, cond_false, eq_self, List.map_cons, List.map_nil, Nat.reduceAdd, Nat.testBit, Nat.reduceShiftRight, Nat.reduceAnd, Nat.reduceBNe, Nat.reduceMul, hlp4, hone4, cells_of_one hone4]
      have hi := ih k' (by omega) ⟨b.toArray⟩ (by show b.toArray.size ≤ k'; rw [List.size_toArray]; simp only at hl; omega) (xs ++ [bytesS a]) _ (N + 1 + 1) (Nat.lor w0 (Nat.lor (Nat.lor (bit N) w4) (bit (n + 1)))) v4 (by rw [hW, List.map_cons, List.append_assoc]; rfl) (by omega) lo5 (fput_same _ _ _) hS5 (by rw [l4]; omega) (fun j hj => by simp only [frz_iff]; exact ⟨hw j hj, ⟨frz_bit (by omega), fw4 j (by omega)⟩, frz_bit (by omega)⟩)
      refine wr_end hi fun X e m n w hq => ?_
      rw [lor_asc] at hq
      exact hq
    | false =>
      have hf : (Lib.cut rest.data.toList [32]).2.2 = false := by rw [hcc']
      have ha := cut_miss hf
      rw [hcc'] at ha
      rw [cuts_miss hf, ← ha] at hW
      simp (implicitDefEqProofs := false) (disch := omega) only [WPs, opds, List.all_cons, List.all_nil, List.cons_append, List.nil_append, cond_true, cond_false, eq_self, List.map_cons, List.map_nil, Nat.reduceAdd, Nat.testBit, Nat.reduceShiftRight, Nat.reduceAnd, Nat.reduceBNe, Nat.reduceMul, hlp4, hone4, cells_of_one hone4]
      have fin : Gv (execW PG E Y ac5L0 (.string ⟨b.toArray⟩ :: .bool false :: x2 :: .pointer (some ⟨n + 1, 0, none⟩) :: ys) (AMem.put M4 (n + 1) (some (.cells [v4] 0 false true)) : FM) (N + 1 + 1)) fun X e m' n' w => Q X e m' n' (Nat.lor (Nat.lor w0 (Nat.lor (Nat.lor (bit N) w4) (bit (n + 1)))) w) := by
        refine wr_loopN (L := ac5L0) (b := ac5L0b) rfl ?_
        simp only [ac5L0b]
        simp (implicitDefEqProofs := false) (disch := omega) only [WPs, opds, List.all_cons, List.all_nil, List.cons_append, List.nil_append, cond_true, cond_false, eq_self, List.map_cons, List.map_nil, Nat.reduceAdd, Nat.testBit, Nat.reduceShiftRight, Nat.reduceAnd, Nat.reduceBNe, Nat.reduceMul]
        refine hQ _ _ _ v4 (by omega) lo5 (fput_same _ _ _) (by rw [hW]; exact hS5) (fun j hj => ?_)
        simp only [frz_iff]
        exact ⟨hw j hj, ⟨frz_bit (by omega), fw4 j (by omega)⟩, frz_bit (by omega)⟩
      refine wr_end fin fun X e m n w hq => ?_
      rw [lor_asc] at hq
      exact hq
def kindW (w : ByteArray) : Nat → Nat
  | 0 => 0
  | k + 1 => if KW.getD k ⟨#[]⟩ = w then k else kindW w k
theorem kindW_lt (w : ByteArray) : ∀ k, kindW w k ≤ k
  | 0 => Nat.le_refl _
  | k + 1 => by
    rw [kindW]
    split
    · omega
    · have := kindW_lt w k; omega
theorem kindW_kw {k : Nat} (h0 : k < 8) : kindW (KW.getD k ⟨#[]⟩) 8 = k := by
  rcases (by omega : k = 0 ∨ k = 1 ∨ k = 2 ∨ k = 3 ∨ k = 4 ∨ k = 5 ∨ k = 6 ∨ k = 7) with rfl | rfl | rfl | rfl | rfl | rfl | rfl | rfl <;> decide
structure PS (m : FM) (n : Nat) (M : FM) (N cb : Nat) (lv : Value) (ws : List ByteArray) (c : Cmd) (dv : Value) : Prop where
  lo : ∀ b, b < n → M b = m b
  rb : ∃ cs, cs.length = 9 ∧ M n = some (.cells cs 0 false true)
  lb : M (n + 1) = some (.cells [lv] 0 false true)
  lvw : LV M (n + 2) cb lv ws
  cb1 : n + 2 ≤ cb
  cbN : cb < N
  cc : M cb = some (.cells (c.cells dv) 0 false true)
  dat : SlZ 8 M (cb + 1) N dv c.data.length (u8all c.data)
theorem PS.grow {m : FM} {n : Nat} {M M' : FM} {N N' cb : Nat} {lv : Value} {ws : List ByteArray} {c : Cmd} {dv : Value} (h : PS m n M N cb lv ws c dv) (hN : N ≤ N') (hf : ∀ b, b < N → M' b = M b) : PS m n M' N' cb lv ws c dv := by
  have h1 := h.cb1
  have h2 := h.cbN
  obtain ⟨cs, hl, hr⟩ := h.rb
  exact ⟨fun b hb => by rw [hf b (by omega), h.lo b hb], ⟨cs, hl, by rw [hf n (by omega)]; exact hr⟩, by rw [hf _ (by omega)]; exact h.lb, h.lvw.frame (Nat.le_refl _) fun b _ hb => hf b (by omega), h1, by omega, by rw [hf _ (by omega)]; exact h.cc, h.dat.frame hN fun b _ hb => hf b hb⟩
theorem PS.store {m : FM} {n : Nat} {M : FM} {N cb : Nat} {lv : Value} {ws : List ByteArray} {c c' : Cmd} {dv : Value} (h : PS m n M N cb lv ws c dv) (hd : c'.data = c.data) : PS m n (AMem.put M cb (some (.cells (c'.cells dv) 0 false true)) : FM) N cb lv ws c' dv := by
  have h1 := h.cb1
  have h2 := h.cbN
  obtain ⟨cs, hl, hr⟩ := h.rb
  exact ⟨fun b hb => by rw [fput_ne _ _ _ _ (by omega), h.lo b hb], ⟨cs, hl, by rw [fput_ne _ _ _ _ (by omega)]; exact hr⟩, by rw [fput_ne _ _ _ _ (by omega)]; exact h.lb, h.lvw.frame (Nat.le_refl _) fun b _ hb => fput_ne _ _ _ _ (by omega), h1, h2, fput_same _ _ _, by rw [hd]; exact h.dat.frame (Nat.le_refl _) fun b hb _ => fput_ne _ _ _ _ (by omega)⟩
theorem PS.storeL {m : FM} {n : Nat} {M : FM} {N cb : Nat} {lv lv' : Value} {ws ws' : List ByteArray} {c : Cmd} {dv : Value} (h : PS m n M N cb lv ws c dv) (hL : LV M (n + 2) cb lv' ws') : PS m n (AMem.put M (n + 1) (some (.cells [lv'] 0 false true)) : FM) N cb lv' ws' c dv := by
  have h1 := h.cb1
  have h2 := h.cbN
  obtain ⟨cs, hl, hr⟩ := h.rb
  exact ⟨fun b hb => by rw [fput_ne _ _ _ _ (by omega), h.lo b hb], ⟨cs, hl, by rw [fput_ne _ _ _ _ (by omega)]; exact hr⟩, fput_same _ _ _, hL.frame (Nat.le_refl _) fun b hb _ => fput_ne _ _ _ _ (by omega), h1, h2, by rw [fput_ne _ _ _ _ (by omega)]; exact h.cc, h.dat.frame (Nat.le_refl _) fun b hb _ => fput_ne _ _ _ _ (by omega)⟩
end Go.Am.C39
namespace Go.Am.C39
set_option maxRecDepth 100000
open Go Go.Am Go.Am.V
variable {E : Nat → Option AFn} {Y : Nat → List Value → FM → Nat → OR FM}
def kC (k : Nat) : Cmd := { zeroC with kind := (k : Int) }
theorem kind_L1 {m : FM} {n N cb : Nat} {lv : Value} {ws : List ByteArray} (hws : 0 < ws.length) (x2 x5 : Value) (ys : List Value) {Q : AX → List Value → FM → Nat → Nat → Prop}
    (hQ : ∀ M w, PS m n M N cb lv ws (kC (kindW (atW ws 0) 8)) (.slice none 0 0) → (∀ j, j ≤ n → Nat.mod w (bit j) = 0) → Q (.exit 2) (x2 :: .agg (KW.map Value.string).toArray :: .pointer (some ⟨cb, 0, none⟩) :: x5 :: .pointer (some ⟨n + 1, 0, none⟩) :: ys) M N w) :
    ∀ (d j : Nat), j + d = 8 → ∀ (M : FM) (w0 : Nat), PS m n M N cb lv ws (kC (kindW (atW ws 0) j)) (.slice none 0 0) → (∀ j, j ≤ n → Nat.mod w0 (bit j) = 0) →
    Gv (execW PG E Y ac5L1 (.int .i64 (j : Int) :: x2 :: .agg (KW.map Value.string).toArray :: .pointer (some ⟨cb, 0, none⟩) :: x5 :: .pointer (some ⟨n + 1, 0, none⟩) :: ys) M N) fun X e m n w => Q X e m n (Nat.lor w0 w) := by
  intro d
  induction d with
  | zero =>
    intro j hj M w0 hP hw
    obtain rfl : j = 8 := by omega
    refine wr_loopN (L := ac5L1) (b := ac5L1b) rfl ?_
    simp only [ac5L1b]
    simp (implicitDefEqProofs := false) (disch := omega) only [WPs, opds, List.all_cons, List.all_nil, List.cons_append, List.nil_append, cond_true, cond_false, eq_self, List.map_cons, List.map_nil, Nat.reduceAdd, Nat.testBit, Nat.reduceShiftRight, Nat.reduceAnd, Nat.reduceBNe, Nat.reduceMul]
    exact hQ _ _ hP hw
  | succ d ih =>
    intro j hj M w0 hP hw
    have hcc := hP.cc
    have hcbN := hP.cbN
    have hcb1 := hP.cb1
    simp only [Cmd.cells, kC, zeroC] at hcc
    obtain ⟨b, cs, opn, wr, h1, h2, h3, h4⟩ := hP.lvw.at hws
    have h4' : cget cs 0 = some (.string (atW ws 0)) := by rw [atW_lt hws]; exact h4
    refine wr_loopN (L := ac5L1) (b := ac5L1b) rfl ?_
    simp only [ac5L1b]
    by_cases hk : KW.getD j ⟨#[]⟩ = atW ws 0
    · simp (implicitDefEqProofs := false) (disch := omega) only [WPs, opds, List.all_cons, List.all_nil, List.cons_append, List.nil_append, cond_true, cond_false, eq_self, List.map_cons, List.map_nil, Nat.reduceAdd, Nat.testBit, Nat.reduceShiftRight, Nat.reduceAnd, Nat.reduceBNe, Nat.reduceMul, STs, kw_at (show j < 8 by omega), hP.lb, hP.lvw.one, h1, h3, h4', decide_eq_true hk, hcc]
      have e : kindW (atW ws 0) (j + 1) = j := by rw [kindW, if_pos hk]
      refine wr_end (ih (j + 1) (by omega) _ (Nat.lor w0 (bit cb)) (by rw [e]; exact hP.store (c' := kC j) rfl) (fun i hi => by rw [frz_iff]; exact ⟨hw i hi, frz_bit (by omega)⟩)) fun X e m n w hq => ?_
      rw [lor_asc] at hq
      exact hq
    · simp (implicitDefEqProofs := false) (disch := omega) only [WPs, opds, List.all_cons, List.all_nil, List.cons_append, List.nil_append, cond_true, cond_false, eq_self, List.map_cons, List.map_nil, Nat.reduceAdd, Nat.testBit, Nat.reduceShiftRight, Nat.reduceAnd, Nat.reduceBNe, Nat.reduceMul, STs, kw_at (show j < 8 by omega), hP.lb, hP.lvw.one, h1, h3, h4', decide_eq_false hk, hcc]
      have e : kindW (atW ws 0) (j + 1) = kindW (atW ws 0) j := by rw [kindW, if_neg hk]
      exact wr_end (ih (j + 1) (by omega) M w0 (by rw [e]; exact hP) hw) fun X e m n w hq => by rw [zero_lor']; exact hq
open Classical in
noncomputable def lastB (w : ByteArray) (ws : List ByteArray) : Bool := decide (1 < ws.length ∧ atW ws (ws.length - 1) = w)
open Classical in
theorem lastB_t {w : ByteArray} {ws : List ByteArray} (h : 1 < ws.length ∧ atW ws (ws.length - 1) = w) : lastB w ws = true := decide_eq_true h
open Classical in
theorem lastB_f {w : ByteArray} {ws : List ByteArray} (h : ¬ (1 < ws.length ∧ atW ws (ws.length - 1) = w)) : lastB w ws = false := decide_eq_false h
theorem drop_pos {b : Bool} {w : ByteArray} {ws : List ByteArray} (h : 0 < ws.length) : 0 < (dropW (lastB w ws) ws).length := by
  by_cases hb : 1 < ws.length ∧ atW ws (ws.length - 1) = w
  · rw [lastB_t hb]
    unfold dropW
    rw [if_pos rfl, List.length_take]; omega
  · rw [lastB_f hb]; exact h
theorem drop_le (b : Bool) (ws : List ByteArray) : (dropW b ws).length ≤ ws.length := by
  unfold dropW
  split
  · rw [List.length_take]; omega
  · exact Nat.le_refl _
theorem oev_none (e : List Value) : oev e none = none := rfl
theorem oev_some (e : List Value) (x : Opd) : oev e (some x) = some (ev e x) := rfl
theorem land_lt {b k : Nat} (h : b < k) : Nat.land (bit k) (bit b) = 0 := land_bits (by omega)
theorem LV.cutR {M : FM} {n0 N N' : Nat} {lv : Value} {ws : List ByteArray} (h : LV M n0 N lv ws) (hN : N ≤ N') {k : Nat} (hk : k ≤ ws.length) : ∃ v' r, slcM M N' 1 (slcV 1 none (some (.int .i64 (k : Int))) lv) lv = .ok v' M N' r 0 ∧ (∀ i, N ≤ i → Nat.land (bit i) r = 0) ∧ LV M n0 N v' (ws.take k) := by
  obtain ⟨b, c, rest, opn, wr, rfl, h0, hb, hm, hc⟩ := h
  have hl : (ws.take k).length = k := by rw [List.length_take]; omega
  have hLV : LV M n0 N (.slice (some ⟨b, 0, none⟩) k c) (ws.take k) := by
    refine ⟨b, c, ws.drop k ++ rest, opn, wr, by rw [hl], h0, hb, by rw [← List.append_assoc, List.take_append_drop]; exact hm, ?_⟩
    rw [hl]
    rcases hc with h | ⟨h1, h2⟩
    · exact .inl h
    · exact .inr ⟨by omega, h2⟩
  rw [slcV_hi hk, slcM_mk]
  rcases hc with rfl | ⟨h1, h2⟩
  · rw [slcA_unk, Nat.beq_refl, getb_lt (Nat.lt_of_lt_of_le hb hN), hm]
    exact ⟨.slice (some ⟨b, 0, none⟩) k UNK, bit b, rfl, fun i hi => land_lt (by omega), hLV⟩
  · rw [slcA_cap h2, nbeq_f (show c ≠ UNK by unfold UNK; omega)]
    exact ⟨.slice (some ⟨b, 0, none⟩) k c, 0, rfl, fun i _ => Nat.and_zero _, hLV⟩
theorem ord_wr {m : FM} {n : Nat} {M : FM} {N cb : Nat} {lv : Value} {ws : List ByteArray} {c : Cmd} {dv : Value} (hP : PS m n M N cb lv ws c dv) (hws : 0 < ws.length) (hwl : ws.length ≤ 100000) (x2 x3 x4 : Value) (ys : List Value) {Q : AX → List Value → FM → Nat → Nat → Prop} {w0 : Nat}
    (hk : ∀ M' w' b1 b2 lv', PS m n M' N cb lv' (dropW (lastB ordW ws) ws) { c with ord := if lastB ordW ws = true then 1 else c.ord } dv → (∀ j, j ≤ n → Nat.mod w0 (bit j) = 0 → Nat.mod w' (bit j) = 0) → Wr PG E Y [] w' (execW PG E Y r6 (b1 :: b2 :: x2 :: x3 :: .pointer (some ⟨cb, 0, none⟩) :: x4 :: .pointer (some ⟨n + 1, 0, none⟩) :: ys) M' N) Q) :
    Wr PG E Y [] w0 (execW PG E Y r5 (x2 :: x3 :: .pointer (some ⟨cb, 0, none⟩) :: x4 :: .pointer (some ⟨n + 1, 0, none⟩) :: ys) M N) Q := by
  rw [r5_eq]
  simp only [q5, r5, r4, r3, r2, r1, sqA, sqB, ac5]
  have hcc := hP.cc
  have hcbN := hP.cbN
  have hcb1 := hP.cb1
  have hdv := hP.dat.one
  simp only [Cmd.cells] at hcc
  by_cases hl : 1 < ws.length
  · obtain ⟨b, cs, opn, wr, h1, h2, h3, h4⟩ := hP.lvw.at (show ws.length - 1 < ws.length by omega)
    have h4' : cget cs (ws.length - 1) = some (.string (atW ws (ws.length - 1))) := by rw [atW_lt (by omega)]; exact h4
    by_cases ho : atW ws (ws.length - 1) = ordW
    · rw [lastB_t ⟨hl, ho⟩] at hk
      obtain ⟨v', r1, hp, hr1, hL'⟩ := hP.lvw.cutR (Nat.le_of_lt hcbN) (k := ws.length - 1) (by omega)
      have hr1 := hr1 cb (Nat.le_refl _)
      have hone := hL'.one
      have ho' : atW ws (ws.length - 1) = ⟨#[111, 114, 100, 101, 114, 101, 100]⟩ := ho
      simp (implicitDefEqProofs := false) (disch := omega) only [WPs, opds, List.all_cons, List.all_nil, List.cons_append, List.nil_append, cond_true, cond_false, eq_self, List.map_cons, List.map_nil, Nat.reduceAdd, Nat.testBit, Nat.reduceShiftRight, Nat.reduceAnd, Nat.reduceBNe, Nat.reduceMul, STs, hP.lb, hP.lvw.len, hP.lvw.one, h1, h3, h4', decide_eq_true ho', hcc, s_slc, hP.lvw.bel, Option.toList_none, Option.toList_some, oev_none, oev_some, hL'.bel, hone, cells_of_one hone, hdv, hp, hr1]
      refine hk _ _ _ _ v' ((hP.store (c' := { c with ord := 1 }) rfl).storeL (hL'.frame (Nat.le_refl _) fun b _ hb => fput_ne _ _ _ _ (by omega))) (fun j hj h => ?_)
      simp only [frz_iff]
      exact ⟨h, frz_bit (by omega), frz_bit (by omega)⟩
    · rw [lastB_f fun x => ho x.2] at hk
      have ho' : ¬ atW ws (ws.length - 1) = ⟨#[111, 114, 100, 101, 114, 101, 100]⟩ := ho
      simp (implicitDefEqProofs := false) (disch := omega) only [WPs, opds, List.all_cons, List.all_nil, List.cons_append, List.nil_append, cond_true, cond_false, eq_self, List.map_cons, List.map_nil, Nat.reduceAdd, Nat.testBit, Nat.reduceShiftRight, Nat.reduceAnd, Nat.reduceBNe, Nat.reduceMul, STs, hP.lb, hP.lvw.len, hP.lvw.one, h1, h3, h4', decide_eq_false ho', hcc]
      exact hk _ _ _ _ _ hP fun j _ h => h
  · rw [lastB_f fun x => hl x.1] at hk
    simp (implicitDefEqProofs := false) (disch := omega) only [WPs, opds, List.all_cons, List.all_nil, List.cons_append, List.nil_append, cond_true, cond_false, eq_self, List.map_cons, List.map_nil, Nat.reduceAdd, Nat.testBit, Nat.reduceShiftRight, Nat.reduceAnd, Nat.reduceBNe, Nat.reduceMul, STs, hP.lb, hP.lvw.len, hP.lvw.one, hcc]
    exact hk _ _ _ _ _ hP fun j _ h => h
theorem force_wr {m : FM} {n : Nat} {M : FM} {N cb : Nat} {lv : Value} {ws : List ByteArray} {c : Cmd} {dv : Value} (hP : PS m n M N cb lv ws c dv) (hws : 0 < ws.length) (hwl : ws.length ≤ 100000) (y1 y2 x2 x3 x4 : Value) (ys : List Value) {Q : AX → List Value → FM → Nat → Nat → Prop} {w0 : Nat}
    (hk : ∀ M' w' b1 b2 lv', PS m n M' N cb lv' (dropW (lastB forceW ws) ws) { c with force := if lastB forceW ws = true then true else c.force } dv → (∀ j, j ≤ n → Nat.mod w0 (bit j) = 0 → Nat.mod w' (bit j) = 0) → Wr PG E Y [] w' (execW PG E Y r7 (b1 :: b2 :: y1 :: y2 :: x2 :: x3 :: .pointer (some ⟨cb, 0, none⟩) :: x4 :: .pointer (some ⟨n + 1, 0, none⟩) :: ys) M' N) Q) :
    Wr PG E Y [] w0 (execW PG E Y r6 (y1 :: y2 :: x2 :: x3 :: .pointer (some ⟨cb, 0, none⟩) :: x4 :: .pointer (some ⟨n + 1, 0, none⟩) :: ys) M N) Q := by
  rw [r6_eq]
  simp only [q6, r6, r5, r4, r3, r2, r1, sqA, sqB, ac5]
  have hcc := hP.cc
  have hcbN := hP.cbN
  have hcb1 := hP.cb1
  have hdv := hP.dat.one
  simp only [Cmd.cells] at hcc
  by_cases hl : 1 < ws.length
  · obtain ⟨b, cs, opn, wr, h1, h2, h3, h4⟩ := hP.lvw.at (show ws.length - 1 < ws.length by omega)
    have h4' : cget cs (ws.length - 1) = some (.string (atW ws (ws.length - 1))) := by rw [atW_lt (by omega)]; exact h4
    by_cases ho : atW ws (ws.length - 1) = forceW
    · rw [lastB_t ⟨hl, ho⟩] at hk
      obtain ⟨v', r1, hp, hr1, hL'⟩ := hP.lvw.cutR (Nat.le_of_lt hcbN) (k := ws.length - 1) (by omega)
      have hr1 := hr1 cb (Nat.le_refl _)
      have hone := hL'.one
      have ho' : atW ws (ws.length - 1) = ⟨#[102, 111, 114, 99, 101]⟩ := ho
      simp (implicitDefEqProofs := false) (disch := omega) only [WPs, opds, List.all_cons, List.all_nil, List.cons_append, List.nil_append, cond_true, cond_false, eq_self, List.map_cons, List.map_nil, Nat.reduceAdd, Nat.testBit, Nat.reduceShiftRight, Nat.reduceAnd, Nat.reduceBNe, Nat.reduceMul, STs, hP.lb, hP.lvw.len, hP.lvw.one, h1, h3, h4', decide_eq_true ho', hcc, s_slc, hP.lvw.bel, Option.toList_none, Option.toList_some, oev_none, oev_some, hL'.bel, hone, cells_of_one hone, hdv, hp, hr1]
      refine hk _ _ _ _ v' ((hP.store (c' := { c with force := true }) rfl).storeL (hL'.frame (Nat.le_refl _) fun b _ hb => fput_ne _ _ _ _ (by omega))) (fun j hj h => ?_)
      simp only [frz_iff]
      exact ⟨h, frz_bit (by omega), frz_bit (by omega)⟩
    · rw [lastB_f fun x => ho x.2] at hk
      have ho' : ¬ atW ws (ws.length - 1) = ⟨#[102, 111, 114, 99, 101]⟩ := ho
      simp (implicitDefEqProofs := false) (disch := omega) only [WPs, opds, List.all_cons, List.all_nil, List.cons_append, List.nil_append, cond_true, cond_false, eq_self, List.map_cons, List.map_nil, Nat.reduceAdd, Nat.testBit, Nat.reduceShiftRight, Nat.reduceAnd, Nat.reduceBNe, Nat.reduceMul, STs, hP.lb, hP.lvw.len, hP.lvw.one, h1, h3, h4', decide_eq_false ho', hcc]
      exact hk _ _ _ _ _ hP fun j _ h => h
  · rw [lastB_f fun x => hl x.1] at hk
    simp (implicitDefEqProofs := false) (disch := omega) only [WPs, opds, List.all_cons, List.all_nil, List.cons_append, List.nil_append, cond_true, cond_false, eq_self, List.map_cons, List.map_nil, Nat.reduceAdd, Nat.testBit, Nat.reduceShiftRight, Nat.reduceAnd, Nat.reduceBNe, Nat.reduceMul, STs, hP.lb, hP.lvw.len, hP.lvw.one, hcc]
    exact hk _ _ _ _ _ hP fun j _ h => h
end Go.Am.C39
namespace Go.Am.C39
set_option maxRecDepth 100000
open Go Go.Am Go.Am.V
variable {E : Nat → Option AFn} {Y : Nat → List Value → FM → Nat → OR FM}
theorem ps_at (h25 : E 11 = some ac11) {m : FM} {n : Nat} {M : FM} {N cb : Nat} {lv : Value} {ws : List ByteArray} {c : Cmd} {dv : Value} (hP : PS m n M N cb lv ws c dv) (hwl : ws.length ≤ 100000) (i : Nat) (hi : i ≤ 10) : Pure (callW PG E Y 11 [.int .i64 (i : Int), .pointer (some ⟨n + 1, 0, none⟩)] M N) M N (.string (atW ws i)) :=
  at_spec h25 (by have := hP.cb1; have := hP.cbN; omega) hP.lb hP.lvw (Nat.le_of_lt hP.cbN) (by omega) i hi
def fnV (n : Nat) : Value := .func (.func 11) [].toArray [Value.pointer (some ⟨n + 1, 0, none⟩)].toArray
def headC (c : Cmd) (ws : List ByteArray) : Cmd := { c with tag := numV (atW ws 1), vol := atW ws 2 }
theorem num_wr (L : LibP E Y) (h25 : E 11 = some ac11) (h26 : E 12 = some ac12) {m : FM} {n : Nat} {M : FM} {N cb : Nat} {lv : Value} {ws : List ByteArray} {c : Cmd} {dv : Value} (hP : PS m n M N cb lv ws c dv) (hwl : ws.length ≤ 100000) (hsz : ∀ i, (atW ws i).size ≤ 2000) (z1 z2 y1 y2 x2 x3 x4 : Value) (ys : List Value) {Q : AX → List Value → FM → Nat → Nat → Prop} {w0 : Nat}
    (hk : ∀ M' w', PS m n M' N cb lv ws (headC c ws) dv → (∀ j, j ≤ n → Nat.mod w0 (bit j) = 0 → Nat.mod w' (bit j) = 0) → Wr PG E Y [] w' (execW PG E Y r9 (fnV n :: z1 :: z2 :: y1 :: y2 :: x2 :: x3 :: .pointer (some ⟨cb, 0, none⟩) :: x4 :: .pointer (some ⟨n + 1, 0, none⟩) :: ys) M' N) Q) :
    Wr PG E Y [] w0 (execW PG E Y r7 (z1 :: z2 :: y1 :: y2 :: x2 :: x3 :: .pointer (some ⟨cb, 0, none⟩) :: x4 :: .pointer (some ⟨n + 1, 0, none⟩) :: ys) M N) Q := by
  rw [r7_eq]
  simp only [q7, q8, r8, r7, r6, r5, r4, r3, r2, r1, sqA, sqB, ac5]
  have hcc := hP.cc
  have hcbN := hP.cbN
  have hcb1 := hP.cb1
  have hdv := hP.dat.one
  simp only [Cmd.cells] at hcc
  simp (implicitDefEqProofs := false) (disch := omega) only [WPs, opds, List.all_cons, List.all_nil, List.cons_append, List.nil_append, cond_true, cond_false, eq_self, List.map_cons, List.map_nil, Nat.reduceAdd, Nat.testBit, Nat.reduceShiftRight, Nat.reduceAnd, Nat.reduceBNe, Nat.reduceMul, s_callv, callv_mk, s_func]
  refine use_pure (ps_at h25 hP hwl 1 (by omega)) fun r1 => ?_
  simp (implicitDefEqProofs := false) (disch := omega) only [WPs, opds, List.all_cons, List.all_nil, List.cons_append, List.nil_append, cond_true, cond_false, eq_self, List.map_cons, List.map_nil, Nat.reduceAdd, Nat.testBit, Nat.reduceShiftRight, Nat.reduceAnd, Nat.reduceBNe, Nat.reduceMul]
  refine use_pure (number_spec L h26 _ (by have := hsz 1; omega) _ _) fun r2 => ?_
  simp (implicitDefEqProofs := false) (disch := omega) only [WPs, opds, List.all_cons, List.all_nil, List.cons_append, List.nil_append, cond_true, cond_false, eq_self, List.map_cons, List.map_nil, Nat.reduceAdd, Nat.testBit, Nat.reduceShiftRight, Nat.reduceAnd, Nat.reduceBNe, Nat.reduceMul, s_callv, callv_mk]
  refine use_pure (ps_at h25 hP hwl 2 (by omega)) fun r3 => ?_
  simp (implicitDefEqProofs := false) (disch := omega) only [WPs, opds, List.all_cons, List.all_nil, List.cons_append, List.nil_append, cond_true, cond_false, eq_self, List.map_cons, List.map_nil, Nat.reduceAdd, Nat.testBit, Nat.reduceShiftRight, Nat.reduceAnd, Nat.reduceBNe, Nat.reduceMul, hcc]
  refine hk _ _ (hP.store (c' := headC c ws) rfl) (fun j hj h => ?_)
  simp only [frz_iff]
  exact ⟨h, frz_bit (by omega), frz_bit (by omega)⟩
def swC (c : Cmd) (ws : List ByteArray) : Cmd :=
  if c.kind = 1 ∨ c.kind = 3 then { c with at_ := numV (atW ws 3), len := numV (atW ws 4) } else
  if c.kind = 2 then { c with at_ := numV (atW ws 3), data := (ws.drop 4).map blkB, len := (((ws.drop 4).map blkB).length : Int) } else
  if c.kind = 5 then { c with len := numV (atW ws 3), at_ := numV (atW ws 4) } else
  if c.kind = 6 then { c with oth := atW ws 3 } else c
theorem PS.app {m : FM} {n : Nat} {M M' : FM} {N N' cb : Nat} {lv dv' : Value} {ws : List ByteArray} {c : Cmd} {dv : Value} (h : PS m n M N cb lv ws c dv) (ds : List (List Int)) (hN : N ≤ N') (hf : ∀ b, b < cb + 1 → M' b = M b) (hS : SlZ 8 M' (cb + 1) N' dv' ds.length (u8all ds)) : PS m n (AMem.put M' cb (some (.cells (({ c with data := ds } : Cmd).cells dv') 0 false true)) : FM) N' cb lv ws { c with data := ds } dv' := by
  have h1 := h.cb1
  have h2 := h.cbN
  obtain ⟨cs, hl, hr⟩ := h.rb
  exact ⟨fun b hb => by rw [fput_ne _ _ _ _ (by omega), hf b (by omega), h.lo b hb], ⟨cs, hl, by rw [fput_ne _ _ _ _ (by omega), hf _ (by omega)]; exact hr⟩, by rw [fput_ne _ _ _ _ (by omega), hf _ (by omega)]; exact h.lb, h.lvw.frame (Nat.le_refl _) fun b _ hb => by rw [fput_ne _ _ _ _ (by omega), hf b (by omega)], h1, by omega, fput_same _ _ _, hS.frame (Nat.le_refl _) fun b hb _ => fput_ne _ _ _ _ (by omega)⟩
theorem u8all_snoc : ∀ (ds : List (List Int)) (d : List Int), u8all (ds ++ [d]) = u8all ds ++ u8s d
  | [], d => by simp [u8all, u8s]
  | e :: ds, d => by rw [List.cons_append, u8all_cons, u8all_cons, u8all_snoc ds d, List.append_assoc]
theorem PS.storeK {m : FM} {n : Nat} {M : FM} {N cb : Nat} {lv : Value} {ws : List ByteArray} {c c' : Cmd} {dv : Value} (h : PS m n M N cb lv ws c dv) (hd : c'.data = c.data) {z : Int} (hk : c'.kind = z) : PS m n (AMem.put M cb (some (.cells [.int .i64 c'.tag, .int .i64 z, .int .i64 c'.ord, .bool c'.force, .string c'.vol, .string c'.oth, .int .i64 c'.at_, .int .i64 c'.len, dv] 0 false true)) : FM) N cb lv ws c' dv := by
  subst hk
  exact h.store hd
theorem data_L2 (L : LibP E Y) (h27 : E 13 = some ac13) (h30 : E 22 = some ac22) {m : FM} {n : Nat} {cb : Nat} {lv : Value} {ws : List ByteArray} {c : Cmd} (hwl : ws.length ≤ 100000) (u1 u2 u3 u4 u5 u6 z1 z2 y1 y2 x2 x3 x4 : Value) (ys : List Value) {Q : AX → List Value → FM → Nat → Nat → Prop}
    (hQ : ∀ M N w dv, PS m n M N cb lv ws { c with data := (ws.drop 4).map blkB } dv → (∀ j, j ≤ n → Nat.mod w (bit j) = 0) → Q (.exit 5) (u1 :: u2 :: u3 :: u4 :: u5 :: u6 :: z1 :: z2 :: y1 :: y2 :: x2 :: x3 :: .pointer (some ⟨cb, 0, none⟩) :: x4 :: .pointer (some ⟨n + 1, 0, none⟩) :: ys) M N w) :
    ∀ (d j : Nat), j + d = (ws.drop 4).length → ∀ (M : FM) (N w0 : Nat) (dv : Value), PS m n M N cb lv ws { c with data := ((ws.drop 4).take j).map blkB } dv → (∀ j, j ≤ n → Nat.mod w0 (bit j) = 0) →
    Gv (execW PG E Y ac5L2 (.int .i64 ((4 + j : Nat) : Int) :: u1 :: u2 :: u3 :: u4 :: u5 :: u6 :: z1 :: z2 :: y1 :: y2 :: x2 :: x3 :: .pointer (some ⟨cb, 0, none⟩) :: x4 :: .pointer (some ⟨n + 1, 0, none⟩) :: ys) M N) fun X e m n w => Q X e m n (Nat.lor w0 w) := by
  intro d
  induction d with
  | zero =>
    intro j hj M N w0 dv hP hw
    have hl : (ws.drop 4).length = ws.length - 4 := List.length_drop ..
    have hcb1 := hP.cb1
    have hcbN := hP.cbN
    refine wr_loopN (L := ac5L2) (b := ac5L2b) rfl ?_
    simp only [ac5L2b]
    simp (implicitDefEqProofs := false) (disch := omega) only [WPs, opds, List.all_cons, List.all_nil, List.cons_append, List.nil_append, cond_true, cond_false, eq_self, List.map_cons, List.map_nil, Nat.reduceAdd, Nat.testBit, Nat.reduceShiftRight, Nat.reduceAnd, Nat.reduceBNe, Nat.reduceMul, hP.lb, hP.lvw.len, hP.lvw.one]
    rw [List.take_of_length_le (by omega)] at hP
    exact hQ _ _ _ _ hP hw
  | succ d ih =>
    intro j hj M N w0 dv hP hw
    have hl : (ws.drop 4).length = ws.length - 4 := List.length_drop ..
    have hcb1 := hP.cb1
    have hcbN := hP.cbN
    obtain ⟨b, cs, opn, wr, h1, h2, h3, h4⟩ := hP.lvw.at (show 4 + j < ws.length by omega)
    have hbk := blkB_ok (ws[4 + j]'(by omega))
    refine wr_loopN (L := ac5L2) (b := ac5L2b) rfl ?_
    simp only [ac5L2b]
    simp (implicitDefEqProofs := false) (disch := omega) only [WPs, opds, List.all_cons, List.all_nil, List.cons_append, List.nil_append, cond_true, cond_false, eq_self, List.map_cons, List.map_nil, Nat.reduceAdd, Nat.testBit, Nat.reduceShiftRight, Nat.reduceAnd, Nat.reduceBNe, Nat.reduceMul, hP.lb, hP.lvw.len, hP.lvw.one, h1, h3, h4]
    refine use_rt (block_spec L h27 h30 (ws[4 + j]'(by omega)) M N) fun v1 M1 N1 r1 w1 hh => ?_
    obtain ⟨hN1, hf1, hw1, ok, rfl⟩ := hh
    have hP1 := hP.grow hN1 hf1
    have hcc := hP1.cc
    simp only [Cmd.cells] at hcc
    have hdo := hP1.dat.one
    simp (implicitDefEqProofs := false) (disch := omega) only [WPs, opds, List.all_cons, List.all_nil, List.cons_append, List.nil_append, cond_true, cond_false, eq_self, List.map_cons, List.map_nil, Nat.reduceAdd, Nat.testBit, Nat.reduceShiftRight, Nat.reduceAnd, Nat.reduceBNe, Nat.reduceMul, ey0, ey1, hcc, u8s_llen hbk.1, u8s_one, u8s_set hbk.1, u8s_all hbk.1, hP1.dat.bel, hdo]
    generalize hM2 : (AMem.put (AMem.put M1 N1 (some (.cells (u8s (blkB ws[4 + j])) 0 false true))) (N1 + 1) (some (.cells (u8s (blkB ws[4 + j])) 8 false true)) : FM) = M2
    have lo2 : ∀ b, b < N1 → M2 b = M1 b := fun b hb => by rw [← hM2, fput_ne _ _ _ _ (by omega), fput_ne _ _ _ _ (by omega)]
    have hP2 := hP1.grow (show N1 ≤ N1 + 2 by omega) lo2
    have hcN1 := hP1.cbN
    refine use_rt (app_slZn hP2.dat _ _ _ (by omega) (k := 1) (by omega) (by omega) (zs := u8s (blkB (ws[4 + j]'(by omega)))) (by rw [u8s, List.length_map, hbk.1]) (u8s_one _) (by omega) (by rw [List.length_map, List.length_take]; omega)) fun v3 M3 N3 r3 w3 hh => ?_
    obtain ⟨hv3, hn3, hS3, f3, fw3⟩ := hh
    subst hn3
    have e3 : u8all ((((ws.drop 4).take j).map blkB)) ++ u8s (blkB (ws[4 + j]'(by omega))) = u8all (((ws.drop 4).take (j + 1)).map blkB) := by
      rw [List.take_succ_eq_append_getElem (by omega), List.map_append, List.map_cons, List.map_nil, u8all_snoc, List.getElem_drop]
    have l3 : ((((ws.drop 4).take j).map blkB)).length + 1 = (((ws.drop 4).take (j + 1)).map blkB).length := by
      rw [List.length_map, List.length_map, List.length_take, List.length_take]; omega
    rw [e3, l3] at hS3
    have hcc2 := (f3 cb (by omega)).trans hP2.cc
    simp only [Cmd.cells] at hcc2
    have hone3 := hS3.one
    simp (implicitDefEqProofs := false) (disch := omega) only [WPs, opds, List.all_cons, List.all_nil, List.cons_append, List.nil_append, cond_true, cond_false, eq_self, List.map_cons, List.map_nil, Nat.reduceAdd, Nat.testBit, Nat.reduceShiftRight, Nat.reduceAnd, Nat.reduceBNe, Nat.reduceMul, hcc2, hone3, cells_of_one hone3]
    have hP4 := hP2.app (((ws.drop 4).take (j + 1)).map blkB) (show N1 + 2 ≤ N1 + 2 + 1 by omega) f3 hS3
    have hi := ih (j + 1) (by omega) _ (N1 + 2 + 1) (Nat.lor w0 (Nat.lor (Nat.lor (Nat.lor w1 (bit N1)) (bit N1)) (Nat.lor (Nat.lor (bit (N1 + 1)) w3) (bit cb)))) v3 hP4 (fun i hi => by
      simp only [frz_iff]
      exact ⟨hw i hi, ⟨⟨hw1 i (by omega), frz_bit (by omega)⟩, frz_bit (by omega)⟩, ⟨frz_bit (by omega), fw3 i (by omega)⟩, frz_bit (by omega)⟩)
    refine wr_end hi fun X e m n w hq => ?_
    rw [lor_asc] at hq
    exact hq
theorem sw_wr (L : LibP E Y) (h25 : E 11 = some ac11) (h26 : E 12 = some ac12) (h27 : E 13 = some ac13) (h30 : E 22 = some ac22) {m : FM} {n : Nat} {M : FM} {N cb : Nat} {lv : Value} {ws : List ByteArray} {c : Cmd} (hP : PS m n M N cb lv ws c (.slice none 0 0)) (hc0 : c.data = []) {k : Nat} (hck : c.kind = (k : Int)) (hk8 : k < 8) (hwl : ws.length ≤ 100000) (hsz : ∀ i, (atW ws i).size ≤ 2000) (z1 z2 y1 y2 x2 x3 x4 : Value) (ys : List Value) {Q : AX → List Value → FM → Nat → Nat → Prop} {w0 : Nat}
    (hk : ∀ M' N' w' dv' x0, PS m n M' N' cb lv ws (swC c ws) dv' → (∀ j, j ≤ n → Nat.mod w0 (bit j) = 0 → Nat.mod w' (bit j) = 0) → Wr PG E Y [] w' (execW PG E Y r10 (x0 :: fnV n :: z1 :: z2 :: y1 :: y2 :: x2 :: x3 :: .pointer (some ⟨cb, 0, none⟩) :: x4 :: .pointer (some ⟨n + 1, 0, none⟩) :: ys) M' N') Q) :
    Wr PG E Y [] w0 (execW PG E Y r9 (fnV n :: z1 :: z2 :: y1 :: y2 :: x2 :: x3 :: .pointer (some ⟨cb, 0, none⟩) :: x4 :: .pointer (some ⟨n + 1, 0, none⟩) :: ys) M N) Q := by
  rw [r9_eq]
  simp only [q9, r9, r8, r7, r6, r5, r4, r3, r2, r1, sqA, sqB, ac5]
  have hcc := hP.cc
  have hcbN := hP.cbN
  have hcb1 := hP.cb1
  have hdv := hP.dat.one
  simp only [Cmd.cells, hck] at hcc
  rcases (by omega : k = 1 ∨ k = 2 ∨ k = 3 ∨ k = 5 ∨ k = 6 ∨ k = 0 ∨ k = 4 ∨ k = 7) with rfl | rfl | rfl | rfl | rfl | rfl | rfl | rfl
  · have e : swC c ws = { c with at_ := numV (atW ws 3), len := numV (atW ws 4) } := by unfold swC; rw [hck]; exact if_pos (by decide)
    rw [e] at hk
    simp (implicitDefEqProofs := false) (disch := omega) only [WPs, opds, List.all_cons, List.all_nil, List.cons_append, List.nil_append, cond_true, cond_false, eq_self, List.map_cons, List.map_nil, Nat.reduceAdd, Nat.testBit, Nat.reduceShiftRight, Nat.reduceAnd, Nat.reduceBNe, Nat.reduceMul, hcc, fnV, s_callv, callv_mk]
    refine use_pure (ps_at h25 hP hwl 3 (by omega)) fun r1 => ?_
    simp (implicitDefEqProofs := false) (disch := omega) only [WPs, opds, List.all_cons, List.all_nil, List.cons_append, List.nil_append, cond_true, cond_false, eq_self, List.map_cons, List.map_nil, Nat.reduceAdd, Nat.testBit, Nat.reduceShiftRight, Nat.reduceAnd, Nat.reduceBNe, Nat.reduceMul]
    refine use_pure (number_spec L h26 _ (by have := hsz 3; omega) _ _) fun r2 => ?_
    simp (implicitDefEqProofs := false) (disch := omega) only [WPs, opds, List.all_cons, List.all_nil, List.cons_append, List.nil_append, cond_true, cond_false, eq_self, List.map_cons, List.map_nil, Nat.reduceAdd, Nat.testBit, Nat.reduceShiftRight, Nat.reduceAnd, Nat.reduceBNe, Nat.reduceMul, s_callv, callv_mk]
    refine use_pure (ps_at h25 hP hwl 4 (by omega)) fun r3 => ?_
    simp (implicitDefEqProofs := false) (disch := omega) only [WPs, opds, List.all_cons, List.all_nil, List.cons_append, List.nil_append, cond_true, cond_false, eq_self, List.map_cons, List.map_nil, Nat.reduceAdd, Nat.testBit, Nat.reduceShiftRight, Nat.reduceAnd, Nat.reduceBNe, Nat.reduceMul]
    refine use_pure (number_spec L h26 _ (by have := hsz 4; omega) _ _) fun r4 => ?_
    simp (implicitDefEqProofs := false) (disch := omega) only [WPs, opds, List.all_cons, List.all_nil, List.cons_append, List.nil_append, cond_true, cond_false, eq_self, List.map_cons, List.map_nil, Nat.reduceAdd, Nat.testBit, Nat.reduceShiftRight, Nat.reduceAnd, Nat.reduceBNe, Nat.reduceMul, hcc]
    refine hk _ _ _ _ _ (hP.storeK (c' := { c with at_ := numV (atW ws 3), len := numV (atW ws 4) }) rfl hck) (fun j hj h => ?_)
    simp only [frz_iff]
    exact ⟨h, frz_bit (by omega), frz_bit (by omega)⟩
  · have e : swC c ws = { c with at_ := numV (atW ws 3), data := (ws.drop 4).map blkB, len := (((ws.drop 4).map blkB).length : Int) } := by unfold swC; rw [hck, if_neg (by decide), if_pos (by decide)]
    rw [e] at hk
    simp (implicitDefEqProofs := false) (disch := omega) only [WPs, opds, List.all_cons, List.all_nil, List.cons_append, List.nil_append, cond_true, cond_false, eq_self, List.map_cons, List.map_nil, Nat.reduceAdd, Nat.testBit, Nat.reduceShiftRight, Nat.reduceAnd, Nat.reduceBNe, Nat.reduceMul, hcc, fnV, s_callv, callv_mk]
    refine use_pure (ps_at h25 hP hwl 3 (by omega)) fun r1 => ?_
    simp (implicitDefEqProofs := false) (disch := omega) only [WPs, opds, List.all_cons, List.all_nil, List.cons_append, List.nil_append, cond_true, cond_false, eq_self, List.map_cons, List.map_nil, Nat.reduceAdd, Nat.testBit, Nat.reduceShiftRight, Nat.reduceAnd, Nat.reduceBNe, Nat.reduceMul]
    refine use_pure (number_spec L h26 _ (by have := hsz 3; omega) _ _) fun r2 => ?_
    simp (implicitDefEqProofs := false) (disch := omega) only [WPs, opds, List.all_cons, List.all_nil, List.cons_append, List.nil_append, cond_true, cond_false, eq_self, List.map_cons, List.map_nil, Nat.reduceAdd, Nat.testBit, Nat.reduceShiftRight, Nat.reduceAnd, Nat.reduceBNe, Nat.reduceMul, hcc]
    have hP1' := hP.storeK (c' := { c with at_ := numV (atW ws 3), data := ((ws.drop 4).take 0).map blkB }) (by rw [List.take_zero, hc0]; rfl) hck
    refine wr_kont ((data_L2 L h27 h30 (c := { c with at_ := numV (atW ws 3) }) hwl _ _ _ _ _ _ _ _ _ _ _ _ _ _ (fun M5 N5 w5 dv5 hP5 hw5 => ?_) (ws.drop 4).length 0 (by omega) _ _ 0 _ hP1' (fun j _ => frz_zero _)).mono fun X e m' n' w hq => by simpa only [zero_lor'] using hq)
    intro rr
    have hcc5 := hP5.cc
    have hl5 := hP5.dat.len
    have ho5 := hP5.dat.one
    simp only [Cmd.cells, hck] at hcc5
    have hcbN5 := hP5.cbN
    simp (implicitDefEqProofs := false) (disch := omega) only [WPs, opds, List.all_cons, List.all_nil, List.cons_append, List.nil_append, cond_true, cond_false, eq_self, List.map_cons, List.map_nil, Nat.reduceAdd, Nat.testBit, Nat.reduceShiftRight, Nat.reduceAnd, Nat.reduceBNe, Nat.reduceMul, hcc5, ho5, hl5]
    refine hk _ _ _ _ _ (hP5.storeK (c' := { c with at_ := numV (atW ws 3), data := (ws.drop 4).map blkB, len := (((ws.drop 4).map blkB).length : Int) }) rfl hck) (fun j hj h => ?_)
    have fz := hw5 j hj
    simp only [frz_iff]
    exact ⟨⟨⟨h, frz_bit (by omega)⟩, fz⟩, frz_bit (by omega)⟩
  · have e : swC c ws = { c with at_ := numV (atW ws 3), len := numV (atW ws 4) } := by unfold swC; rw [hck]; exact if_pos (by decide)
    rw [e] at hk
    simp (implicitDefEqProofs := false) (disch := omega) only [WPs, opds, List.all_cons, List.all_nil, List.cons_append, List.nil_append, cond_true, cond_false, eq_self, List.map_cons, List.map_nil, Nat.reduceAdd, Nat.testBit, Nat.reduceShiftRight, Nat.reduceAnd, Nat.reduceBNe, Nat.reduceMul, hcc, fnV, s_callv, callv_mk]
    refine use_pure (ps_at h25 hP hwl 3 (by omega)) fun r1 => ?_
    simp (implicitDefEqProofs := false) (disch := omega) only [WPs, opds, List.all_cons, List.all_nil, List.cons_append, List.nil_append, cond_true, cond_false, eq_self, List.map_cons, List.map_nil, Nat.reduceAdd, Nat.testBit, Nat.reduceShiftRight, Nat.reduceAnd, Nat.reduceBNe, Nat.reduceMul]
    refine use_pure (number_spec L h26 _ (by have := hsz 3; omega) _ _) fun r2 => ?_
    simp (implicitDefEqProofs := false) (disch := omega) only [WPs, opds, List.all_cons, List.all_nil, List.cons_append, List.nil_append, cond_true, cond_false, eq_self, List.map_cons, List.map_nil, Nat.reduceAdd, Nat.testBit, Nat.reduceShiftRight, Nat.reduceAnd, Nat.reduceBNe, Nat.reduceMul, s_callv, callv_mk]
    refine use_pure (ps_at h25 hP hwl 4 (by omega)) fun r3 => ?_
    simp (implicitDefEqProofs := false) (disch := omega) only [WPs, opds, List.all_cons, List.all_nil, List.cons_append, List.nil_append, cond_true, cond_false, eq_self, List.map_cons, List.map_nil, Nat.reduceAdd, Nat.testBit, Nat.reduceShiftRight, Nat.reduceAnd, Nat.reduceBNe, Nat.reduceMul]
    refine use_pure (number_spec L h26 _ (by have := hsz 4; omega) _ _) fun r4 => ?_
    simp (implicitDefEqProofs := false) (disch := omega) only [WPs, opds, List.all_cons, List.all_nil, List.cons_append, List.nil_append, cond_true, cond_false, eq_self, List.map_cons, List.map_nil, Nat.reduceAdd, Nat.testBit, Nat.reduceShiftRight, Nat.reduceAnd, Nat.reduceBNe, Nat.reduceMul, hcc]
    refine hk _ _ _ _ _ (hP.storeK (c' := { c with at_ := numV (atW ws 3), len := numV (atW ws 4) }) rfl hck) (fun j hj h => ?_)
    simp only [frz_iff]
    exact ⟨h, frz_bit (by omega), frz_bit (by omega)⟩
  · have e : swC c ws = { c with len := numV (atW ws 3), at_ := numV (atW ws 4) } := by unfold swC; rw [hck]; rw [if_neg (by decide), if_neg (by decide), if_pos (by decide)]
    rw [e] at hk
    simp (implicitDefEqProofs := false) (disch := omega) only [WPs, opds, List.all_cons, List.all_nil, List.cons_append, List.nil_append, cond_true, cond_false, eq_self, List.map_cons, List.map_nil, Nat.reduceAdd, Nat.testBit, Nat.reduceShiftRight, Nat.reduceAnd, Nat.reduceBNe, Nat.reduceMul, hcc, fnV, s_callv, callv_mk]
    refine use_pure (ps_at h25 hP hwl 3 (by omega)) fun r1 => ?_
    simp (implicitDefEqProofs := false) (disch := omega) only [WPs, opds, List.all_cons, List.all_nil, List.cons_append, List.nil_append, cond_true, cond_false, eq_self, List.map_cons, List.map_nil, Nat.reduceAdd, Nat.testBit, Nat.reduceShiftRight, Nat.reduceAnd, Nat.reduceBNe, Nat.reduceMul]
    refine use_pure (number_spec L h26 _ (by have := hsz 3; omega) _ _) fun r2 => ?_
    simp (implicitDefEqProofs := false) (disch := omega) only [WPs, opds, List.all_cons, List.all_nil, List.cons_append, List.nil_append, cond_true, cond_false, eq_self, List.map_cons, List.map_nil, Nat.reduceAdd, Nat.testBit, Nat.reduceShiftRight, Nat.reduceAnd, Nat.reduceBNe, Nat.reduceMul, s_callv, callv_mk]
    refine use_pure (ps_at h25 hP hwl 4 (by omega)) fun r3 => ?_
    simp (implicitDefEqProofs := false) (disch := omega) only [WPs, opds, List.all_cons, List.all_nil, List.cons_append, List.nil_append, cond_true, cond_false, eq_self, List.map_cons, List.map_nil, Nat.reduceAdd, Nat.testBit, Nat.reduceShiftRight, Nat.reduceAnd, Nat.reduceBNe, Nat.reduceMul]
    refine use_pure (number_spec L h26 _ (by have := hsz 4; omega) _ _) fun r4 => ?_
    simp (implicitDefEqProofs := false) (disch := omega) only [WPs, opds, List.all_cons, List.all_nil, List.cons_append, List.nil_append, cond_true, cond_false, eq_self, List.map_cons, List.map_nil, Nat.reduceAdd, Nat.testBit, Nat.reduceShiftRight, Nat.reduceAnd, Nat.reduceBNe, Nat.reduceMul, hcc]
    refine hk _ _ _ _ _ (hP.storeK (c' := { c with len := numV (atW ws 3), at_ := numV (atW ws 4) }) rfl hck) (fun j hj h => ?_)
    simp only [frz_iff]
    exact ⟨h, frz_bit (by omega), frz_bit (by omega)⟩
  · have e : swC c ws = { c with oth := atW ws 3 } := by unfold swC; rw [hck, if_neg (by decide), if_neg (by decide), if_neg (by decide), if_pos (by decide)]
    rw [e] at hk
    simp (implicitDefEqProofs := false) (disch := omega) only [WPs, opds, List.all_cons, List.all_nil, List.cons_append, List.nil_append, cond_true, cond_false, eq_self, List.map_cons, List.map_nil, Nat.reduceAdd, Nat.testBit, Nat.reduceShiftRight, Nat.reduceAnd, Nat.reduceBNe, Nat.reduceMul, hcc, fnV, s_callv, callv_mk]
    refine use_pure (ps_at h25 hP hwl 3 (by omega)) fun r1 => ?_
    simp (implicitDefEqProofs := false) (disch := omega) only [WPs, opds, List.all_cons, List.all_nil, List.cons_append, List.nil_append, cond_true, cond_false, eq_self, List.map_cons, List.map_nil, Nat.reduceAdd, Nat.testBit, Nat.reduceShiftRight, Nat.reduceAnd, Nat.reduceBNe, Nat.reduceMul, hcc]
    refine hk _ _ _ _ _ (hP.storeK (c' := { c with oth := atW ws 3 }) rfl hck) (fun j hj h => ?_)
    simp only [frz_iff]
    exact ⟨h, frz_bit (by omega)⟩
  · have e : swC c ws = c := by unfold swC; rw [hck, if_neg (by decide), if_neg (by decide), if_neg (by decide), if_neg (by decide)]
    rw [e] at hk
    simp (implicitDefEqProofs := false) (disch := omega) only [WPs, opds, List.all_cons, List.all_nil, List.cons_append, List.nil_append, cond_true, cond_false, eq_self, List.map_cons, List.map_nil, Nat.reduceAdd, Nat.testBit, Nat.reduceShiftRight, Nat.reduceAnd, Nat.reduceBNe, Nat.reduceMul, hcc]
    exact hk _ _ _ _ _ hP fun j _ h => h
  · have e : swC c ws = c := by unfold swC; rw [hck, if_neg (by decide), if_neg (by decide), if_neg (by decide), if_neg (by decide)]
    rw [e] at hk
    simp (implicitDefEqProofs := false) (disch := omega) only [WPs, opds, List.all_cons, List.all_nil, List.cons_append, List.nil_append, cond_true, cond_false, eq_self, List.map_cons, List.map_nil, Nat.reduceAdd, Nat.testBit, Nat.reduceShiftRight, Nat.reduceAnd, Nat.reduceBNe, Nat.reduceMul, hcc]
    exact hk _ _ _ _ _ hP fun j _ h => h
  · have e : swC c ws = c := by unfold swC; rw [hck, if_neg (by decide), if_neg (by decide), if_neg (by decide), if_neg (by decide)]
    rw [e] at hk
    simp (implicitDefEqProofs := false) (disch := omega) only [WPs, opds, List.all_cons, List.all_nil, List.cons_append, List.nil_append, cond_true, cond_false, eq_self, List.map_cons, List.map_nil, Nat.reduceAdd, Nat.testBit, Nat.reduceShiftRight, Nat.reduceAnd, Nat.reduceBNe, Nat.reduceMul, hcc]
    exact hk _ _ _ _ _ hP fun j _ h => h
end Go.Am.C39
namespace Go.Am.C39
set_option maxRecDepth 100000
open Go Go.Am Go.Am.V
variable {E : Nat → Option AFn} {Y : Nat → List Value → FM → Nat → OR FM}
theorem dat_of_slz {M : FM} {n0 N : Nat} {dv : Value} {ds : List (List Int)} (h : SlZ 8 M n0 N dv ds.length (u8all ds)) (h8 : ∀ d ∈ ds, d.length = 8) : DatV M N dv ds := by
  rcases h with ⟨h1, h2, h3⟩ | ⟨hp, hcl, b, h3, hb1, hbN, hMb⟩
  · have : ds = [] := List.eq_nil_of_length_eq_zero (by omega)
    subst this
    subst h3
    exact DatV.nil M N
  · subst h3
    refine ⟨_, _, rfl, blt_true (show b < N by omega), .inr ⟨b, 0, _, _, _, rfl, hbN, hMb, fun i hi => ⟨h8 _ (List.getElem_mem hi), ?_⟩⟩⟩
    have hlen := u8all_len h8
    unfold cellsAt
    rw [ldrop_eq, ctake_eq, Nat.zero_add, if_pos (by rw [List.length_drop, hlen]; omega), u8all_drop h8 i hi]
def ParseR (c : Cmd) (s : ByteArray) (v : Value) (m' : FM) (n' : Nat) : Prop :=
  ∃ (x : Cmd) (dv : Value) (e : Int), v = .tuple #[cmdV x dv, .int .i64 e] ∧ DatV m' n' dv x.data ∧ x.Fit ∧ Bytes x ∧
    ((e = 0 ∧ s ≠ ⟨#[]⟩ ∧ textB x = s) ∨ (e = 4 ∧ x = zeroC ∧ ¬ (s ≠ ⟨#[]⟩ ∧ textB c = s) ∧ ∀ f, ¬ hitP c s f 0 ∧ ¬ hitP c s f 1))
theorem zero_fit : zeroC.Fit := ⟨by decide, by decide, by decide, by decide, by decide, by decide, by decide, by decide⟩
theorem zero_bytes : Bytes zeroC := fun d hd => by cases hd
theorem end_wr (L : LibP E Y) (hT : Texts E Y) (h28 : E 14 = some ac14) {m : FM} {n : Nat} {M : FM} {N cb : Nat} {lv : Value} {ws : List ByteArray} {c : Cmd} {dv : Value} (hP : PS m n M N cb lv ws c dv) (hF : c.Fit) (hB : Bytes c) {s : ByteArray} (hFc : ∀ f o, (o = 0 ∨ o = 1) → (candC c s f o).Fit) (hwl : 0 < ws.length) (hs : s.size ≤ 1000) (x0 z0 z1 z2 y1 y2 x2 x3 x4 x5 : Value) {Q : AX → List Value → FM → Nat → Nat → Prop} {w0 : Nat} (hw : Nat.mod w0 (bit n) = 0)
    (hQ : ∀ v e m' n' w, n ≤ n' → (∀ b, b < n → m' b = m b) → Nat.mod w (bit n) = 0 → addrFree v = false → ParseR c s v m' n' → Q (.ret v) e m' n' w) :
    Wr PG E Y [] w0 (execW PG E Y r10 (x0 :: z0 :: z1 :: z2 :: y1 :: y2 :: x2 :: x3 :: .pointer (some ⟨cb, 0, none⟩) :: x4 :: .pointer (some ⟨n + 1, 0, none⟩) :: [x5, .pointer (some ⟨n, 0, none⟩), .string s]) M N) Q := by
  simp only [r10, r9, r8, r7, r6, r5, r4, r3, r2, r1, sqA, sqB, ac5]
  have hd := dat_of_slz hP.dat (fun d hd => (hB d hd).1)
  have hcc := hP.cc
  have hcbN := hP.cbN
  have hcb1 := hP.cb1
  simp only [Cmd.cells] at hcc
  obtain ⟨cr, hcr, hrb⟩ := hP.rb
  have hst9 : ∀ vs : List Value, vs.length = 9 → setCells cr 0 vs = some vs := fun vs h => st9 hcr h
  simp (implicitDefEqProofs := false) (disch := omega) only [WPs, opds, List.all_cons, List.all_nil, List.cons_append, List.nil_append, cond_true, cond_false, eq_self, List.map_cons, List.map_nil, Nat.reduceAdd, Nat.testBit, Nat.reduceShiftRight, Nat.reduceAnd, Nat.reduceBNe, Nat.reduceMul, hcc, hd.one]
  refine use_pure (hT.t13 _ _ c dv hF hB hd) fun r1 => ?_
  by_cases hh : s ≠ ⟨#[]⟩ ∧ textB c = s
  · simp (implicitDefEqProofs := false) (disch := omega) only [WPs, opds, List.all_cons, List.all_nil, List.cons_append, List.nil_append, cond_true, cond_false, eq_self, List.map_cons, List.map_nil, Nat.reduceAdd, Nat.testBit, Nat.reduceShiftRight, Nat.reduceAnd, Nat.reduceBNe, Nat.reduceMul, STs, decide_eq_true hh.2, decide_eq_false hh.1, hcc, hd.one, hrb, st9 hcr (vs := [.int .i64 c.tag, .int .i64 c.kind, .int .i64 c.ord, .bool c.force, .string c.vol, .string c.oth, .int .i64 c.at_, .int .i64 c.len, dv]) rfl]
    refine hQ _ _ _ _ _ (by omega) (fun b hb => by rw [fput_ne _ _ _ _ (by omega), hP.lo b hb]) ?_ rfl ⟨c, dv, 0, rfl, dat_of_slz (hP.dat.frame (Nat.le_refl _) fun b hb _ => fput_ne _ _ _ _ (by omega)) (fun d hd => (hB d hd).1), hF, hB, .inl ⟨rfl, hh.1, hh.2⟩⟩
    simp only [frz_iff]
    exact ⟨hw, frz_bit (Nat.le_refl _)⟩
  · by_cases ht : textB c = s
    · have hse : s = ⟨#[]⟩ := Classical.byContradiction fun h => hh ⟨h, ht⟩
      simp (implicitDefEqProofs := false) (disch := omega) only [WPs, opds, List.all_cons, List.all_nil, List.cons_append, List.nil_append, cond_true, cond_false, eq_self, List.map_cons, List.map_nil, Nat.reduceAdd, Nat.testBit, Nat.reduceShiftRight, Nat.reduceAnd, Nat.reduceBNe, Nat.reduceMul, STs, decide_eq_true ht, decide_eq_true hse, hcc, hd.one, hP.lb, hP.lvw.one]
      refine use_rt (twin_spec L h28 hT M N hFc hB hd hP.lvw.one hP.lvw.len hwl hs) fun v1 M1 N1 r2 w1 hh2 => ?_
      obtain ⟨hN1, hf1, hw1, hres⟩ := hh2
      have hrb1 := (hf1 n (by omega)).trans hrb
      have fz := hw1 n (by omega)
      rcases hres with ⟨f, o, ho, hit, rfl⟩ | ⟨hno, rfl⟩
      · simp only [cmdV]
        simp (implicitDefEqProofs := false) (disch := omega) only [WPs, opds, List.all_cons, List.all_nil, List.cons_append, List.nil_append, cond_true, cond_false, eq_self, List.map_cons, List.map_nil, Nat.reduceAdd, Nat.testBit, Nat.reduceShiftRight, Nat.reduceAnd, Nat.reduceBNe, Nat.reduceMul, ey0, ey1, hd.one, hrb1, st9 hcr (vs := [.int .i64 (candC c s f o).tag, .int .i64 (candC c s f o).kind, .int .i64 (candC c s f o).ord, .bool (candC c s f o).force, .string (candC c s f o).vol, .string (candC c s f o).oth, .int .i64 (candC c s f o).at_, .int .i64 (candC c s f o).len, dv]) rfl]
        refine hQ _ _ _ _ _ (by omega) (fun b hb => by rw [fput_ne _ _ _ _ (by omega), hf1 b (by omega), hP.lo b hb]) ?_ rfl ⟨candC c s f o, dv, 0, rfl, dat_of_slz (ds := c.data) (n0 := cb + 1) (hP.dat.frame hN1 fun b hb hb2 => by rw [fput_ne _ _ _ _ (by omega), hf1 b hb2]) (fun d hd => (hB d hd).1), hFc f o ho, hB, .inl ⟨rfl, hit.1, hit.2⟩⟩
        simp only [frz_iff]
        first | exact ⟨⟨hw, fz⟩, frz_bit (Nat.le_refl _)⟩ | exact ⟨hw, fz, frz_bit (Nat.le_refl _)⟩
      · simp only [cmdV]
        simp (implicitDefEqProofs := false) (disch := omega) only [WPs, opds, List.all_cons, List.all_nil, List.cons_append, List.nil_append, cond_true, cond_false, eq_self, List.map_cons, List.map_nil, Nat.reduceAdd, Nat.testBit, Nat.reduceShiftRight, Nat.reduceAnd, Nat.reduceBNe, Nat.reduceMul, ey0, ey1, hd.one, hrb1, st9 hcr (vs := [.int .i64 zeroC.tag, .int .i64 zeroC.kind, .int .i64 zeroC.ord, .bool zeroC.force, .string zeroC.vol, .string zeroC.oth, .int .i64 zeroC.at_, .int .i64 zeroC.len, .slice none 0 0]) rfl]
        refine hQ _ _ _ _ _ (by omega) (fun b hb => by rw [fput_ne _ _ _ _ (by omega), hf1 b (by omega), hP.lo b hb]) ?_ rfl ⟨zeroC, .slice none 0 0, 4, rfl, DatV.nil _ _, zero_fit, zero_bytes, .inr ⟨rfl, rfl, hh, hno⟩⟩
        simp only [frz_iff]
        first | exact ⟨⟨hw, fz⟩, frz_bit (Nat.le_refl _)⟩ | exact ⟨hw, fz, frz_bit (Nat.le_refl _)⟩
    · simp (implicitDefEqProofs := false) (disch := omega) only [WPs, opds, List.all_cons, List.all_nil, List.cons_append, List.nil_append, cond_true, cond_false, eq_self, List.map_cons, List.map_nil, Nat.reduceAdd, Nat.testBit, Nat.reduceShiftRight, Nat.reduceAnd, Nat.reduceBNe, Nat.reduceMul, STs, decide_eq_false ht, hcc, hd.one, hP.lb, hP.lvw.one]
      refine use_rt (twin_spec L h28 hT M N hFc hB hd hP.lvw.one hP.lvw.len hwl hs) fun v1 M1 N1 r2 w1 hh2 => ?_
      obtain ⟨hN1, hf1, hw1, hres⟩ := hh2
      have hrb1 := (hf1 n (by omega)).trans hrb
      have fz := hw1 n (by omega)
      rcases hres with ⟨f, o, ho, hit, rfl⟩ | ⟨hno, rfl⟩
      · simp only [cmdV]
        simp (implicitDefEqProofs := false) (disch := omega) only [WPs, opds, List.all_cons, List.all_nil, List.cons_append, List.nil_append, cond_true, cond_false, eq_self, List.map_cons, List.map_nil, Nat.reduceAdd, Nat.testBit, Nat.reduceShiftRight, Nat.reduceAnd, Nat.reduceBNe, Nat.reduceMul, ey0, ey1, hd.one, hrb1, st9 hcr (vs := [.int .i64 (candC c s f o).tag, .int .i64 (candC c s f o).kind, .int .i64 (candC c s f o).ord, .bool (candC c s f o).force, .string (candC c s f o).vol, .string (candC c s f o).oth, .int .i64 (candC c s f o).at_, .int .i64 (candC c s f o).len, dv]) rfl]
        refine hQ _ _ _ _ _ (by omega) (fun b hb => by rw [fput_ne _ _ _ _ (by omega), hf1 b (by omega), hP.lo b hb]) ?_ rfl ⟨candC c s f o, dv, 0, rfl, dat_of_slz (ds := c.data) (n0 := cb + 1) (hP.dat.frame hN1 fun b hb hb2 => by rw [fput_ne _ _ _ _ (by omega), hf1 b hb2]) (fun d hd => (hB d hd).1), hFc f o ho, hB, .inl ⟨rfl, hit.1, hit.2⟩⟩
        simp only [frz_iff]
        first | exact ⟨⟨hw, fz⟩, frz_bit (Nat.le_refl _)⟩ | exact ⟨hw, fz, frz_bit (Nat.le_refl _)⟩
      · simp only [cmdV]
        simp (implicitDefEqProofs := false) (disch := omega) only [WPs, opds, List.all_cons, List.all_nil, List.cons_append, List.nil_append, cond_true, cond_false, eq_self, List.map_cons, List.map_nil, Nat.reduceAdd, Nat.testBit, Nat.reduceShiftRight, Nat.reduceAnd, Nat.reduceBNe, Nat.reduceMul, ey0, ey1, hd.one, hrb1, st9 hcr (vs := [.int .i64 zeroC.tag, .int .i64 zeroC.kind, .int .i64 zeroC.ord, .bool zeroC.force, .string zeroC.vol, .string zeroC.oth, .int .i64 zeroC.at_, .int .i64 zeroC.len, .slice none 0 0]) rfl]
        refine hQ _ _ _ _ _ (by omega) (fun b hb => by rw [fput_ne _ _ _ _ (by omega), hf1 b (by omega), hP.lo b hb]) ?_ rfl ⟨zeroC, .slice none 0 0, 4, rfl, DatV.nil _ _, zero_fit, zero_bytes, .inr ⟨rfl, rfl, hh, hno⟩⟩
        simp only [frz_iff]
        first | exact ⟨⟨hw, fz⟩, frz_bit (Nat.le_refl _)⟩ | exact ⟨hw, fz, frz_bit (Nat.le_refl _)⟩
end Go.Am.C39
namespace Go.Am.C39
set_option maxRecDepth 100000
open Go Go.Am Go.Am.V
variable {E : Nat → Option AFn} {Y : Nat → List Value → FM → Nat → OR FM}
theorem cuts_mem : ∀ (k : Nat) (s w : List UInt8), w ∈ cuts k s → w.length ≤ s.length
  | 0, s, w, h => by
    rw [cuts, List.mem_singleton] at h
    rw [h]; exact Nat.le_refl _
  | k + 1, s, w, h => by
    rw [cuts] at h
    split at h
    · rename_i hf
      have hl := cut_less hf
      have e := congrArg List.length (Txt.cut_found hf)
      rw [List.length_append, List.length_append] at e
      rcases List.mem_cons.1 h with rfl | h
      · omega
      · have := cuts_mem k _ w h; omega
    · rename_i hf
      rw [List.mem_singleton] at h
      rw [h, cut_miss (by simpa using hf)]; exact Nat.le_refl _
theorem splitK_mem (sep : List UInt8) : ∀ (k : Nat) (s w : List UInt8), w ∈ Lib.splitK sep 0 k s → w.length ≤ s.length
  | 0, s, w, h => by
    rw [show Lib.splitK sep 0 0 s = [s] from rfl, List.mem_singleton] at h
    rw [h]; exact Nat.le_refl _
  | k + 1, s, w, h => by
    unfold Lib.splitK at h
    split at h
    · rw [List.mem_singleton] at h
      rw [h]; exact Nat.le_refl _
    · rcases List.mem_cons.1 h with rfl | h
      · rw [List.length_take]; omega
      · have := splitK_mem sep k _ w h
        rw [List.length_drop] at this; omega
theorem wsS_mem (s w : ByteArray) (h : w ∈ wsS s) : w.size ≤ s.size := by
  have h1 : w.data.toList ∈ (wsS s).map (·.data.toList) := List.mem_map.2 ⟨w, h, rfl⟩
  unfold wsS splitL at h1
  rw [Lib.splitB_data] at h1
  have := splitK_mem _ _ _ _ h1
  rw [size_list, size_list] at this
  exact this
theorem wordsP_mem (s w : ByteArray) (h : w ∈ wordsP s) : w.size ≤ s.size := by
  unfold wordsP at h
  obtain ⟨l, hl, rfl⟩ := List.mem_map.1 h
  have := cuts_mem _ _ _ hl
  rw [size_list] at this
  have e : (bytesS l).size = l.length := by rw [← size_list, bytesS_list]
  omega
theorem drop_mem {b : Bool} {ws : List ByteArray} {w : ByteArray} (h : w ∈ dropW b ws) : w ∈ ws := by
  unfold dropW at h
  split at h
  · exact List.mem_of_mem_take h
  · exact h
theorem atW_size {ws : List ByteArray} {B : Nat} (h : ∀ w ∈ ws, w.size ≤ B) (i : Nat) : (atW ws i).size ≤ B := by
  by_cases hi : i < ws.length
  · rw [atW_lt hi]; exact h _ (List.getElem_mem hi)
  · have e : atW ws i = ⟨#[]⟩ := by unfold atW; rw [List.getD_eq_getElem?_getD, List.getElem?_eq_none (by omega)]; rfl
    rw [e, nil_size]; exact Nat.zero_le _
theorem wordsP_len (s : ByteArray) : 0 < (wordsP s).length ∧ (wordsP s).length ≤ s.size + 1 := by
  unfold wordsP
  rw [List.length_map]
  exact cuts_len _ _
noncomputable def ws1 (s : ByteArray) : List ByteArray := dropW (lastB ordW (wordsP s)) (wordsP s)
noncomputable def ws2 (s : ByteArray) : List ByteArray := dropW (lastB forceW (ws1 s)) (ws1 s)
noncomputable def endC (s : ByteArray) : Cmd := { kC (kindW (atW (wordsP s) 0) 8) with ord := if lastB ordW (wordsP s) = true then 1 else 0, force := if lastB forceW (ws1 s) = true then true else false }
noncomputable def preC (s : ByteArray) : Cmd := swC (headC (endC s) (ws2 s)) (ws2 s)
theorem ws2_ok (s : ByteArray) : 0 < (ws1 s).length ∧ 0 < (ws2 s).length ∧ (ws1 s).length ≤ s.size + 1 ∧ (ws2 s).length ≤ s.size + 1 ∧ ∀ w ∈ ws2 s, w.size ≤ s.size := by
  obtain ⟨h1, h2⟩ := wordsP_len s
  have h3 : 0 < (ws1 s).length := drop_pos (b := true) h1
  have h4 : 0 < (ws2 s).length := drop_pos (b := true) h3
  have h5 := drop_le (lastB ordW (wordsP s)) (wordsP s)
  have h6 := drop_le (lastB forceW (ws1 s)) (ws1 s)
  have e5 : (ws1 s).length ≤ (wordsP s).length := h5
  have e6 : (ws2 s).length ≤ (ws1 s).length := h6
  exact ⟨h3, h4, by omega, by omega, fun w hw => wordsP_mem s w (drop_mem (drop_mem hw))⟩
theorem fit_swC {c : Cmd} {ws : List ByteArray} (h : c.Fit) (hs : ∀ i, (atW ws i).size ≤ 2000) (hl : ws.length ≤ 2000) : (swC c ws).Fit := by
  have n3 := numV_le (atW ws 3)
  have n4 := numV_le (atW ws 4)
  have s3 := hs 3
  have b3 : -9223372036854775808 ≤ numV (atW ws 3) ∧ numV (atW ws 3) < 9223372036854775808 := ⟨n3.1, by omega⟩
  have b4 : -9223372036854775808 ≤ numV (atW ws 4) ∧ numV (atW ws 4) < 9223372036854775808 := ⟨n4.1, by omega⟩
  have hdl : ((ws.drop 4).map blkB).length ≤ 2000 := by rw [List.length_map, List.length_drop]; omega
  have bl : (-9223372036854775808 : Int) ≤ (((ws.drop 4).map blkB).length : Int) ∧ (((ws.drop 4).map blkB).length : Int) < 9223372036854775808 := ⟨by omega, by omega⟩
  unfold swC
  split
  · exact ⟨h.tag, h.kind, h.ord, b3, b4, h.vol, h.oth, h.data⟩
  split
  · exact ⟨h.tag, h.kind, h.ord, b3, bl, h.vol, h.oth, by show ((ws.drop 4).map blkB).length ≤ _; omega⟩
  split
  · exact ⟨h.tag, h.kind, h.ord, b4, b3, h.vol, h.oth, h.data⟩
  split
  · exact ⟨h.tag, h.kind, h.ord, h.at_, h.len, h.vol, by show (atW ws 3).size ≤ _; omega, h.data⟩
  · exact h
theorem bytes_swC {c : Cmd} {ws : List ByteArray} (h : Bytes c) : Bytes (swC c ws) := by
  unfold swC
  split
  · exact h
  split
  · intro d hd
    obtain ⟨w, _, rfl⟩ := List.mem_map.1 hd
    exact blkB_ok w
  split
  · exact h
  split
  · exact h
  · exact h
theorem end_fit (s : ByteArray) : (endC s).Fit := by
  have := kindW_lt (atW (wordsP s) 0) 8
  exact ⟨⟨by show (-9223372036854775808 : Int) ≤ 0; decide, by show (0 : Int) < 9223372036854775808; decide⟩, ⟨by show (-9223372036854775808 : Int) ≤ ((kindW (atW (wordsP s) 0) 8 : Nat) : Int); omega, by show ((kindW (atW (wordsP s) 0) 8 : Nat) : Int) < 9223372036854775808; omega⟩, by show -9223372036854775808 ≤ (if lastB ordW (wordsP s) = true then (1 : Int) else 0) ∧ (if lastB ordW (wordsP s) = true then (1 : Int) else 0) < 9223372036854775808; split <;> omega, ⟨by show (-9223372036854775808 : Int) ≤ 0; decide, by show (0 : Int) < 9223372036854775808; decide⟩, ⟨by show (-9223372036854775808 : Int) ≤ 0; decide, by show (0 : Int) < 9223372036854775808; decide⟩, Nat.zero_le _, Nat.zero_le _, Nat.zero_le _⟩
theorem head_fit {c : Cmd} {ws : List ByteArray} (h : c.Fit) (hs : ∀ i, (atW ws i).size ≤ 2000) : (headC c ws).Fit := by
  have n1 := numV_le (atW ws 1)
  have s2 := hs 2
  have b1 : -9223372036854775808 ≤ numV (atW ws 1) ∧ numV (atW ws 1) < 9223372036854775808 := ⟨n1.1, by omega⟩
  exact ⟨b1, h.kind, h.ord, h.at_, h.len, by show (atW ws 2).size ≤ _; omega, h.oth, h.data⟩
theorem pre_fit {s : ByteArray} (hs : s.size ≤ 1000) : (preC s).Fit := by
  obtain ⟨h1, h2, h3, h4, h5⟩ := ws2_ok s
  have hz : ∀ i, (atW (ws2 s) i).size ≤ 2000 := fun i => by have := atW_size h5 i; omega
  exact fit_swC (head_fit (end_fit s) hz) hz (by omega)
theorem pre_bytes (s : ByteArray) : Bytes (preC s) := bytes_swC fun d hd => by cases hd
theorem cand_fit {c : Cmd} {s : ByteArray} (h : c.Fit) (hs : s.size ≤ 1000) (f : Bool) (o : Int) (ho : o = 0 ∨ o = 1) : (candC c s f o).Fit := by
  have hz : ∀ i, (atW (twW s f o) i).size ≤ 1000 := fun i => by
    have := atW_size (ws := twW s f o) (B := s.size) (fun w hw => wsS_mem s w (drop_mem (drop_mem hw))) i
    omega
  have z2 := hz 2
  have z3 := hz 3
  refine ⟨h.tag, h.kind, ⟨by show -9223372036854775808 ≤ o; omega, by show o < 9223372036854775808; omega⟩, h.at_, h.len, ?_, ?_, h.data⟩
  · show (if 2 < (twW s f o).length then atW (twW s f o) 2 else c.vol).size ≤ _
    split
    · omega
    · exact h.vol
  · show (if c.kind = 6 ∧ 3 < (twW s f o).length then atW (twW s f o) 3 else c.oth).size ≤ _
    split
    · omega
    · exact h.oth
theorem parse_spec (L : LibP E Y) (hT : Texts E Y) (hE : E 5 = some ac5) (h24 : E 10 = some ac10) (h25 : E 11 = some ac11) (h26 : E 12 = some ac12) (h27 : E 13 = some ac13) (h28 : E 14 = some ac14) (h30 : E 22 = some ac22) (m : FM) (n : Nat) (s : ByteArray) (hs : s.size ≤ 1000) :
    Rt (callW PG E Y 5 [.string s] m n) fun v m' n' w => n ≤ n' ∧ (∀ b, b < n → m' b = m b) ∧ (∀ j, j ≤ n → Nat.mod w (bit j) = 0) ∧ ParseR (preC s) s v m' n' := by
  obtain ⟨a1, a2, a3, a4, a5⟩ := ws2_ok s
  obtain ⟨hp1, hp2⟩ := wordsP_len s
  refine kept_specQ (R := fun v m' n' => ParseR (preC s) s v m' n') hE rfl fun Q hQ => ?_
  rw [code12]
  simp only [q0, q1, q2, q3, r1, r2, r3, sqA, sqB, ac5]
  simp (implicitDefEqProofs := false) (disch := omega) only [WPs, opds, List.all_cons, List.all_nil, List.cons_append, List.nil_append, cond_true, cond_false, eq_self, List.map_cons, List.map_nil, Nat.reduceAdd, Nat.testBit, Nat.reduceShiftRight, Nat.reduceAnd, Nat.reduceBNe, Nat.reduceMul, STs]
  generalize hM0 : (AMem.put (AMem.put m n (some (.cells [.int .i64 0, .int .i64 0, .int .i64 0, .bool false, .string ⟨#[]⟩, .string ⟨#[]⟩, .int .i64 0, .int .i64 0, .slice none 0 0] 0 false true))) (n + 1) (some (.cells [.slice none 0 0] 0 false true)) : FM) = M0
  have lo0 : ∀ b, b < n → M0 b = m b := fun b hb => by rw [← hM0, fput_ne _ _ _ _ (by omega), fput_ne _ _ _ _ (by omega)]
  have hr0 : M0 n = some (.cells [.int .i64 0, .int .i64 0, .int .i64 0, .bool false, .string ⟨#[]⟩, .string ⟨#[]⟩, .int .i64 0, .int .i64 0, .slice none 0 0] 0 false true) := by rw [← hM0, fput_ne _ _ _ _ (by omega)]; exact fput_same _ _ _
  have hl0 : M0 (n + 1) = some (.cells [.slice none 0 0] 0 false true) := by rw [← hM0]; exact fput_same _ _ _
  refine wr_kont ((cut_L0 L (n := n) (M0 := M0) (W := wordsP s) _ _ (fun M1 N1 w1 lv hN1 hf1 hl1 hS1 hw1 => ?_) s.size s (Nat.le_refl _) [] M0 (n + 2) 0 _ rfl (Nat.le_refl _) (fun b _ => rfl) hl0 (.inl ⟨rfl, rfl, rfl⟩) (by show 0 + s.size ≤ 2000; omega) (fun j _ => frz_zero _)).mono fun X e m' n' w hq => by simpa only [zero_lor'] using hq)
  intro rr
  simp (implicitDefEqProofs := false) (disch := omega) only [WPs, opds, List.all_cons, List.all_nil, List.cons_append, List.nil_append, cond_true, cond_false, eq_self, List.map_cons, List.map_nil, Nat.reduceAdd, Nat.testBit, Nat.reduceShiftRight, Nat.reduceAnd, Nat.reduceBNe, Nat.reduceMul]
  have hLV : LV M1 (n + 2) N1 lv (wordsP s) := lv_of_strz (.inr ⟨hp1, hS1⟩)
  have hPS : PS m n (AMem.put M1 N1 (some (.cells [.int .i64 0, .int .i64 0, .int .i64 0, .bool false, .string ⟨#[]⟩, .string ⟨#[]⟩, .int .i64 0, .int .i64 0, .slice none 0 0] 0 false true)) : FM) (N1 + 1) N1 lv (wordsP s) (kC 0) (.slice none 0 0) :=
    ⟨fun b hb => by rw [fput_ne _ _ _ _ (by omega), hf1 b (by omega), lo0 b hb], ⟨_, rfl, by rw [fput_ne _ _ _ _ (by omega), hf1 n (by omega)]; exact hr0⟩, by rw [fput_ne _ _ _ _ (by omega)]; exact hl1, hLV.frame (Nat.le_refl _) fun b _ hb => fput_ne _ _ _ _ (by omega), hN1, by omega, fput_same _ _ _, .inl ⟨rfl, rfl, rfl⟩⟩
  rw [r4_eq]
  simp only [q4, r4, r3, r2, r1, sqA, sqB, ac5]
  simp (implicitDefEqProofs := false) (disch := omega) only [WPs, opds, List.all_cons, List.all_nil, List.cons_append, List.nil_append, cond_true, cond_false, eq_self, List.map_cons, List.map_nil, Nat.reduceAdd, Nat.testBit, Nat.reduceShiftRight, Nat.reduceAnd, Nat.reduceBNe, Nat.reduceMul, STs]
  refine use_pure (kinds_spec h24 _ _) fun r2 => ?_
  simp (implicitDefEqProofs := false) (disch := omega) only [WPs, opds, List.all_cons, List.all_nil, List.cons_append, List.nil_append, cond_true, cond_false, eq_self, List.map_cons, List.map_nil, Nat.reduceAdd, Nat.testBit, Nat.reduceShiftRight, Nat.reduceAnd, Nat.reduceBNe, Nat.reduceMul]
  refine wr_kont ((kind_L1 (m := m) (n := n) (cb := N1) (lv := lv) (ws := wordsP s) hp1 _ _ _ (fun M3 w3 hP3 hw3 => ?_) 8 0 rfl _ 0 hPS (fun j _ => frz_zero _)).mono fun X e m' n' w hq => by simpa only [zero_lor'] using hq)
  intro rr2
  simp (implicitDefEqProofs := false) (disch := omega) only [WPs, opds, List.all_cons, List.all_nil, List.cons_append, List.nil_append, cond_true, cond_false, eq_self, List.map_cons, List.map_nil, Nat.reduceAdd, Nat.testBit, Nat.reduceShiftRight, Nat.reduceAnd, Nat.reduceBNe, Nat.reduceMul]
  refine ord_wr hP3 hp1 (by omega) _ _ _ _ fun M4 w4 b1 b2 lv4 hP4 hw4 => ?_
  refine force_wr (ws := ws1 s) hP4 a1 (by omega) _ _ _ _ _ _ fun M5 w5 b3 b4 lv5 hP5 hw5' => ?_
  have hz : ∀ i, (atW (ws2 s) i).size ≤ 2000 := fun i => by have := atW_size a5 i; omega
  refine num_wr L h25 h26 (ws := ws2 s) (c := endC s) hP5 (by omega) hz _ _ _ _ _ _ _ _ fun M6 w6 hP6 hw6 => ?_
  refine sw_wr L h25 h26 h27 h30 hP6 rfl (k := kindW (atW (wordsP s) 0) 8) rfl ?_ (by omega) hz _ _ _ _ _ _ _ _ fun M7 N7 w7 dv7 x0 hP7 hw7 => ?_
  · have : kindW (atW (wordsP s) 0) (7 + 1) ≤ 7 := by
      rw [kindW]
      split
      · exact Nat.le_refl _
      · exact kindW_lt _ _
    exact Nat.lt_succ_of_le this
  refine end_wr L hT h28 hP7 (pre_fit hs) (pre_bytes s) (fun f o ho => cand_fit (pre_fit hs) hs f o ho) a2 hs _ _ _ _ _ _ _ _ _ _ ?_ hQ
  refine hw7 n (Nat.le_refl _) (hw6 n (Nat.le_refl _) (hw5' n (Nat.le_refl _) (hw4 n (Nat.le_refl _) ?_)))
  simp only [frz_iff]
  exact ⟨⟨⟨⟨frz_bit (by omega), frz_bit (by omega)⟩, hw1 n (Nat.le_refl _)⟩, frz_bit (by omega)⟩, hw3 n (Nat.le_refl _)⟩
end Go.Am.C39
namespace Go.Am.C39
set_option maxRecDepth 100000
open Go Go.Am Go.Am.V
theorem cuts_join : ∀ (xs : List (List UInt8)) (x : List UInt8) (k : Nat), (∀ q ∈ x :: xs, (32 : UInt8) ∉ q) → (Lib.join (x :: xs) [32]).length ≤ k → cuts k (Lib.join (x :: xs) [32]) = x :: xs
  | [], x, k, h, hk => by
    rw [Lib.join_one]
    exact cuts_miss (by rw [Txt.cut_not (c := 32) (t := []) rfl (h x (List.mem_cons_self ..))])
  | y :: xs, x, k, h, hk => by
    rw [Txt.join_cons2] at hk ⊢
    have hc := Txt.cut_mid (b := Lib.join (y :: xs) [32]) (sep := [32]) (c := 32) (t := []) rfl (h x (List.mem_cons_self ..))
    rw [List.length_append, List.length_append] at hk
    simp only [List.length_cons, List.length_nil] at hk
    obtain ⟨k', rfl⟩ : ∃ k', k = k' + 1 := ⟨k - 1, by omega⟩
    rw [cuts_found (by rw [hc]), hc]
    simp only
    rw [cuts_join xs y k' (fun q hq => h q (List.mem_cons_of_mem _ hq)) (by omega)]
theorem bytesS_back (w : ByteArray) : bytesS w.data.toList = w := str_ext (bytesS_list _)
theorem map_back (ws : List ByteArray) : (ws.map (·.data.toList)).map bytesS = ws := by
  rw [List.map_map]
  conv => rhs; rw [← List.map_id ws]
  exact List.map_congr_left fun w _ => bytesS_back w
theorem joinS_list (ws : List ByteArray) : (joinS ws ⟨#[32]⟩).data.toList = Lib.join (ws.map (·.data.toList)) [32] := rfl
theorem words_back {ws : List ByteArray} (hne : ws ≠ []) (hns : ∀ w ∈ ws, NoSp w) : wordsP (joinS ws ⟨#[32]⟩) = ws ∧ wsS (joinS ws ⟨#[32]⟩) = ws := by
  cases ws with
  | nil => exact absurd rfl hne
  | cons x xs =>
    have hq : ∀ q ∈ x.data.toList :: xs.map (·.data.toList), (32 : UInt8) ∉ q := fun q hq => by
      rcases List.mem_cons.1 hq with rfl | hq
      · exact hns _ (List.mem_cons_self ..)
      · obtain ⟨z, hz, rfl⟩ := List.mem_map.1 hq
        exact hns z (List.mem_cons_of_mem _ hz)
    constructor
    · unfold wordsP
      rw [joinS_list, List.map_cons, cuts_join _ _ _ hq (by rw [← size_list, joinS_list, List.map_cons]; exact Nat.le_refl _), ← List.map_cons (f := fun w : ByteArray => w.data.toList)]
      exact map_back _
    · obtain ⟨h1, h2⟩ := Txt.split_join (sep := [32]) (c := 32) (t := []) rfl x.data.toList (xs.map (·.data.toList)) hq
      have e := Lib.splitB_data ⟨#[32]⟩ 0 (Lib.countB (joinS (x :: xs) ⟨#[32]⟩) ⟨#[32]⟩) (joinS (x :: xs) ⟨#[32]⟩)
      have e1 : Lib.countB (joinS (x :: xs) ⟨#[32]⟩) ⟨#[32]⟩ = (xs.map (·.data.toList)).length := h1
      refine map_list_inj (show (Lib.splitB ⟨#[32]⟩ 0 (Lib.countB (joinS (x :: xs) ⟨#[32]⟩) ⟨#[32]⟩) (joinS (x :: xs) ⟨#[32]⟩)).map (·.data.toList) = _ from ?_)
      rw [e, e1]
      exact h2
theorem atW_last (X : List ByteArray) (w : ByteArray) : atW (X ++ [w]) ((X ++ [w]).length - 1) = w := by
  unfold atW
  rw [List.length_append, List.length_singleton, Nat.add_sub_cancel, List.getD_eq_getElem?_getD, List.getElem?_append_right (Nat.le_refl _), Nat.sub_self]; rfl
theorem take_last (X : List ByteArray) (w : ByteArray) : (X ++ [w]).take ((X ++ [w]).length - 1) = X := by
  rw [List.length_append, List.length_singleton, Nat.add_sub_cancel, List.take_left']; rfl
theorem last_yes {X : List ByteArray} (hX : X ≠ []) (w : ByteArray) : lastB w (X ++ [w]) = true ∧ dropW (lastB w (X ++ [w])) (X ++ [w]) = X := by
  have h : lastB w (X ++ [w]) = true := lastB_t ⟨by rw [List.length_append, List.length_singleton]; have := List.length_pos_iff.2 hX; omega, atW_last X w⟩
  refine ⟨h, ?_⟩
  rw [h]
  unfold dropW
  rw [if_pos rfl, take_last]
theorem last_no {X : List ByteArray} {v w : ByteArray} (hv : v ≠ w) : lastB w (X ++ [v]) = false ∧ dropW (lastB w (X ++ [v])) (X ++ [v]) = X ++ [v] := by
  have h : lastB w (X ++ [v]) = false := lastB_f fun h => hv (by rw [← h.2, atW_last])
  exact ⟨h, by rw [h]; rfl⟩
theorem ends_read {c : Cmd} (ho : c.ord = 0 ∨ c.ord = 1) {X : List ByteArray} {v : ByteArray} (hX : X ≠ []) (h1 : v ≠ ordW) (h2 : v ≠ forceW) :
    lastB ordW ((X ++ [v]) ++ endF c ++ endO c) = decide (c.ord = 1) ∧ dropW (lastB ordW ((X ++ [v]) ++ endF c ++ endO c)) ((X ++ [v]) ++ endF c ++ endO c) = (X ++ [v]) ++ endF c ∧ lastB forceW ((X ++ [v]) ++ endF c) = c.force ∧ dropW (lastB forceW ((X ++ [v]) ++ endF c)) ((X ++ [v]) ++ endF c) = X ++ [v] := by
  have hne : X ++ [v] ≠ [] := by simp
  have fo := fo_ne
  have hF : lastB forceW ((X ++ [v]) ++ endF c) = c.force ∧ dropW (lastB forceW ((X ++ [v]) ++ endF c)) ((X ++ [v]) ++ endF c) = X ++ [v] := by
    cases hf : c.force
    · have e : endF c = [] := if_neg (by rw [hf]; decide)
      rw [e, List.append_nil]
      exact last_no h2
    · have e : endF c = [forceW] := if_pos hf
      rw [e]
      exact last_yes hne forceW
  refine ⟨?_, ?_, hF⟩
  · rcases ho with ho | ho
    · have e : endO c = [] := if_neg (by omega)
      rw [e, List.append_nil, ho]
      cases hf : c.force
      · have e : endF c = [] := if_neg (by rw [hf]; decide)
        rw [e, List.append_nil]
        exact (last_no h1).1
      · have e : endF c = [forceW] := if_pos hf
        rw [e]
        exact (last_no fo).1
    · have e : endO c = [ordW] := if_pos ho
      rw [e, ho]
      exact (last_yes (by simp) ordW).1
  · rcases ho with ho | ho
    · have e : endO c = [] := if_neg (by omega)
      rw [e, List.append_nil]
      cases hf : c.force
      · have e : endF c = [] := if_neg (by rw [hf]; decide)
        rw [e, List.append_nil]
        exact (last_no h1).2
      · have e : endF c = [forceW] := if_pos hf
        rw [e]
        exact (last_no fo).2
    · have e : endO c = [ordW] := if_pos ho
      rw [e]
      exact (last_yes (by simp) ordW).2
theorem itoa_ne {z : Int} (h : 0 ≤ z) : itoaB z ≠ ordW ∧ itoaB z ≠ forceW := by
  obtain ⟨u, rfl⟩ := Int.eq_ofNat_of_zero_le h
  have key : ∀ w : ByteArray, (∃ c ∈ w.data.toList, 57 < c.toNat) → itoaB (u : Int) ≠ w := by
    rintro w ⟨c, hc, h57⟩ rfl
    rw [itoa_list, Txt.itoa_nat] at hc
    have := Txt.dec_dig u c hc
    omega
  exact ⟨key _ ⟨111, by decide, by decide⟩, key _ ⟨102, by decide, by decide⟩⟩
theorem hex_ne {d : List Int} (h : d.length = 8) : hexW d ≠ ordW ∧ hexW d ≠ forceW := by
  have h1 := hexW_size h
  exact ⟨fun e => by rw [e] at h1; exact absurd h1 (by decide), fun e => by rw [e] at h1; exact absurd h1 (by decide)⟩
end Go.Am.C39
namespace Go.Am.C39
set_option maxRecDepth 100000
open Go Go.Am Go.Am.V
theorem at_cons0 (a : ByteArray) (l : List ByteArray) : atW (a :: l) 0 = a := rfl
theorem at_cons (a : ByteArray) (l : List ByteArray) (i : Nat) : atW (a :: l) (i + 1) = atW l i := rfl
theorem at_nil (i : Nat) : atW [] i = ⟨#[]⟩ := rfl
theorem map_blk {ds : List (List Int)} (h : ∀ d ∈ ds, d.length = 8 ∧ ∀ z ∈ d, 0 ≤ z ∧ z < 256) : (ds.map hexW).map blkB = ds := by
  rw [List.map_map]
  conv => rhs; rw [← List.map_id ds]
  exact List.map_congr_left fun d hd => blkB_hex (h d hd).1 (h d hd).2
theorem read_plain {c : Cmd} (hv : ValidP c) (hB : Bytes c) {X : List ByteArray} {v : ByteArray} (hX : X ≠ []) (h1 : v ≠ ordW) (h2 : v ≠ forceW) (hh : headT c = X ++ [v]) :
    wordsP (textB c) = textW c ∧ ws2 (textB c) = headT c ∧ endC (textB c) = { kC c.kind.toNat with ord := c.ord, force := c.force } := by
  have o := okay_of hv
  have hk := kind_of hv
  have hw := (words_back (textW_ne c) (words_nosp hv hB)).1
  rw [← textB_t hv] at hw
  have ht : textW c = (X ++ [v]) ++ endF c ++ endO c := by unfold textW; rw [hh]
  obtain ⟨r1, r2, r3, r4⟩ := ends_read o.ord hX h1 h2
  have e1 : ws1 (textB c) = (X ++ [v]) ++ endF c := by
    unfold ws1
    rw [hw, ht]; exact r2
  have e2 : ws2 (textB c) = X ++ [v] := by
    unfold ws2
    rw [e1]; exact r4
  refine ⟨hw, by rw [e2, hh], ?_⟩
  unfold endC
  rw [e1, hw]
  have e0 : atW (textW c) 0 = KW.getD c.kind.toNat ⟨#[]⟩ := rfl
  rw [e0, kindW_kw (by omega), ht, r1, r3]
  rcases o.ord with ho | ho
  · cases hf : c.force <;> simp [ho]
  · cases hf : c.force <;> simp [ho]
theorem kind_cast {c : Cmd} (hv : ValidP c) : ((c.kind.toNat : Nat) : Int) = c.kind := by have := kind_of hv; omega
theorem pre_plain {c : Cmd} (hv : ValidP c) (hB : Bytes c) (hk : c.kind ≤ 5) : preC (textB c) = c := by
  have o := okay_of hv
  have hk1 := kind_of hv
  have kc := kind_cast hv
  have nt : numV (itoaB c.tag) = c.tag := numV_itoa o.tag.1 (by have := o.tag; omega)
  have na : numV (itoaB c.at_) = c.at_ := numV_itoa o.at_.1 (by have := o.at_; omega)
  have nl : numV (itoaB c.len) = c.len := numV_itoa o.len.1 (by have := o.len; omega)
  have it := itoa_ne o.tag.1
  have ia := itoa_ne o.at_.1
  have il := itoa_ne o.len.1
  rcases (by omega : c.kind = 1 ∨ c.kind = 2 ∨ c.kind = 3 ∨ c.kind = 4 ∨ c.kind = 5) with k | k | k | k | k
  · obtain ⟨_, a1, a2, a3, a4, a5, a6⟩ := (valid_1 k).1 hv
    have hh : headT c = [KW.getD 1 ⟨#[]⟩, itoaB c.tag, c.vol, itoaB c.at_, itoaB c.len] := by unfold headT; rw [k]; rfl
    obtain ⟨e1, e2, e3⟩ := read_plain hv hB (X := [KW.getD 1 ⟨#[]⟩, itoaB c.tag, c.vol, itoaB c.at_]) (by simp) il.1 il.2 hh
    unfold preC
    rw [e2, e3, hh]
    refine Cmd.ext' ?_ ?_ ?_ ?_ ?_ ?_ ?_ ?_ ?_ <;> simp [swC, headC, kC, zeroC, k, kc, at_cons, at_cons0, at_nil, nt, na, nl, a2, a3]
  · obtain ⟨_, a1, a2, a3, a4, a5⟩ := (valid_2 k).1 hv
    have hh : headT c = [KW.getD 2 ⟨#[]⟩, itoaB c.tag, c.vol, itoaB c.at_] ++ c.data.map hexW := by unfold headT; rw [k]; rfl
    have hl : ∃ X v, headT c = X ++ [v] ∧ X ≠ [] ∧ v ≠ ordW ∧ v ≠ forceW := by
      rcases List.eq_nil_or_concat c.data with h0 | ⟨ds, d, hd⟩
      · exact ⟨[KW.getD 2 ⟨#[]⟩, itoaB c.tag, c.vol], itoaB c.at_, by rw [hh, h0]; rfl, by simp, ia.1, ia.2⟩
      · have h8 := hB d (by rw [hd]; simp)
        refine ⟨[KW.getD 2 ⟨#[]⟩, itoaB c.tag, c.vol, itoaB c.at_] ++ ds.map hexW, hexW d, ?_, by simp, (hex_ne h8.1).1, (hex_ne h8.1).2⟩
        rw [hh, hd, List.concat_eq_append, List.map_append, List.append_assoc]; rfl
    obtain ⟨X, v, hX, hX0, hv1, hv2⟩ := hl
    obtain ⟨e1, e2, e3⟩ := read_plain hv hB hX0 hv1 hv2 hX
    have hdat := map_blk hB
    unfold preC
    rw [e2, e3, hh]
    refine Cmd.ext' ?_ ?_ ?_ ?_ ?_ ?_ ?_ ?_ ?_ <;> simp [swC, headC, kC, zeroC, k, kc, at_cons, at_cons0, at_nil, nt, na, nl, a2, a5]
    simpa using hdat
  · obtain ⟨_, a1, a2, a3, a4⟩ := (valid_3 k).1 hv
    have hh : headT c = [KW.getD 3 ⟨#[]⟩, itoaB c.tag, c.vol, itoaB c.at_, itoaB c.len] := by unfold headT; rw [k]; rfl
    obtain ⟨e1, e2, e3⟩ := read_plain hv hB (X := [KW.getD 3 ⟨#[]⟩, itoaB c.tag, c.vol, itoaB c.at_]) (by simp) il.1 il.2 hh
    unfold preC
    rw [e2, e3, hh]
    refine Cmd.ext' ?_ ?_ ?_ ?_ ?_ ?_ ?_ ?_ ?_ <;> simp [swC, headC, kC, zeroC, k, kc, at_cons, at_cons0, at_nil, nt, na, nl, a2, a3]
  · obtain ⟨_, a1, a2, a3, a4, a5, a6⟩ := (valid_4 k).1 hv
    have hh : headT c = [KW.getD 4 ⟨#[]⟩, itoaB c.tag] := by unfold headT; rw [k]; rfl
    obtain ⟨e1, e2, e3⟩ := read_plain hv hB (X := [KW.getD 4 ⟨#[]⟩]) (by simp) it.1 it.2 hh
    unfold preC
    rw [e2, e3, hh]
    refine Cmd.ext' ?_ ?_ ?_ ?_ ?_ ?_ ?_ ?_ ?_ <;> simp [swC, headC, kC, zeroC, k, kc, at_cons, at_cons0, at_nil, nt, a1, a2, a3, a4, a5, a6]
  · obtain ⟨_, a1, a2, a3, a4, a5⟩ := (valid_5 k).1 hv
    have hh : headT c = [KW.getD 5 ⟨#[]⟩, itoaB c.tag, c.vol, itoaB c.len, itoaB c.at_] := by unfold headT; rw [k]; rfl
    obtain ⟨e1, e2, e3⟩ := read_plain hv hB (X := [KW.getD 5 ⟨#[]⟩, itoaB c.tag, c.vol, itoaB c.len]) (by simp) ia.1 ia.2 hh
    unfold preC
    rw [e2, e3, hh]
    refine Cmd.ext' ?_ ?_ ?_ ?_ ?_ ?_ ?_ ?_ ?_ <;> simp [swC, headC, kC, zeroC, k, kc, at_cons, at_cons0, at_nil, nt, na, nl, a2, a3]
theorem drop_tag {w t : ByteArray} (ht : t ≠ w) {ws : List ByteArray} (hl : 1 < ws.length) (h : atW ws 1 = t) : 1 < (dropW (lastB w ws) ws).length ∧ atW (dropW (lastB w ws) ws) 1 = t := by
  by_cases hb : 1 < ws.length ∧ atW ws (ws.length - 1) = w
  · have h3 : ws.length ≠ 2 := fun e => ht (by rw [← h, ← hb.2, e])
    have hl2 : 2 < ws.length := by omega
    rw [lastB_t hb]
    unfold dropW
    rw [if_pos rfl]
    refine ⟨by rw [List.length_take]; omega, ?_⟩
    rw [← h]
    unfold atW
    rw [List.getD_eq_getElem?_getD, List.getD_eq_getElem?_getD, List.getElem?_take, if_pos (by omega)]
  · rw [lastB_f hb]
    exact ⟨hl, h⟩
theorem cand_name {c : Cmd} (hv : ValidP c) (hB : Bytes c) (hk : c.kind = 6 ∨ c.kind = 7) : candC (preC (textB c)) (textB c) false c.ord = c := by
  have o := okay_of hv
  have kc := kind_cast hv
  have nt : numV (itoaB c.tag) = c.tag := numV_itoa o.tag.1 (by have := o.tag; omega)
  have it := itoa_ne o.tag.1
  obtain ⟨hw, hs⟩ := words_back (textW_ne c) (words_nosp hv hB)
  rw [← textB_t hv] at hw hs
  have hf : c.force = false := by
    rcases hk with k | k
    · exact ((valid_6 k).1 hv).2.2.2.2.2.1
    · exact ((valid_7 k).1 hv).2.2.2.2.1
  have ef : endF c = [] := if_neg (by rw [hf]; decide)
  have ht : textW c = headT c ++ endO c := by unfold textW; rw [ef, List.append_nil]
  have htw : twW (textB c) false c.ord = headT c := by
    unfold twW
    rw [hs, ht]
    rcases o.ord with ho | ho
    · have eo : endO c = [] := if_neg (by omega)
      rw [eo, ho, List.append_nil]; rfl
    · have eo : endO c = [ordW] := if_pos ho
      rw [eo, ho]
      show dropW true (headT c ++ [ordW]) = _
      unfold dropW
      rw [if_pos rfl, take_last]
  have h1 : atW (textW c) 1 = itoaB c.tag := rfl
  have hlen : 1 < (textW c).length := by
    unfold textW headT
    rw [List.length_append, List.length_append, List.length_append]
    simp only [List.length_cons, List.length_nil]; omega
  obtain ⟨b1, b2⟩ := drop_tag it.1 hlen h1
  have w1 : 1 < (ws1 (textB c)).length ∧ atW (ws1 (textB c)) 1 = itoaB c.tag := by unfold ws1; rw [hw]; exact ⟨b1, b2⟩
  obtain ⟨b3, b4⟩ := drop_tag it.2 w1.1 w1.2
  have w2 : atW (ws2 (textB c)) 1 = itoaB c.tag := b4
  have ek : kindW (atW (wordsP (textB c)) 0) 8 = c.kind.toNat := by
    have := kind_of hv
    rw [hw, show atW (textW c) 0 = KW.getD c.kind.toNat ⟨#[]⟩ from rfl, kindW_kw (by omega)]
  rcases hk with k | k
  · obtain ⟨_, a1, a2, a3, a4, a5, a6, a7⟩ := (valid_6 k).1 hv
    have hh : headT c = [KW.getD 6 ⟨#[]⟩, itoaB c.tag, c.vol, c.oth] := by unfold headT; rw [k]; rfl
    have hp : preC (textB c) = { headC (endC (textB c)) (ws2 (textB c)) with oth := atW (ws2 (textB c)) 3 } := by
      unfold preC swC
      have e6 : (headC (endC (textB c)) (ws2 (textB c))).kind = 6 := by show ((kindW (atW (wordsP (textB c)) 0) 8 : Nat) : Int) = 6; rw [ek, kc, k]
      rw [if_neg (by rw [e6]; decide), if_neg (by rw [e6]; decide), if_neg (by rw [e6]; decide), if_pos e6]
    refine Cmd.ext' ?_ ?_ ?_ ?_ ?_ ?_ ?_ ?_ ?_
    · show (preC (textB c)).tag = _
      rw [hp]; show numV (atW (ws2 (textB c)) 1) = _; rw [w2, nt]
    · show (preC (textB c)).kind = _
      rw [hp]; show ((kindW (atW (wordsP (textB c)) 0) 8 : Nat) : Int) = _; rw [ek, kc]
    · rfl
    · exact hf.symm
    · show (if 2 < (twW (textB c) false c.ord).length then atW (twW (textB c) false c.ord) 2 else (preC (textB c)).vol) = _
      rw [htw, hh]; rfl
    · show (if (preC (textB c)).kind = 6 ∧ 3 < (twW (textB c) false c.ord).length then atW (twW (textB c) false c.ord) 3 else (preC (textB c)).oth) = _
      have e6 : (preC (textB c)).kind = 6 := by rw [hp]; show ((kindW (atW (wordsP (textB c)) 0) 8 : Nat) : Int) = _; rw [ek, kc, k]
      rw [htw, hh, e6]; rfl
    · show (preC (textB c)).at_ = _
      rw [hp, a6]; rfl
    · show (preC (textB c)).len = _
      rw [hp, a7]; rfl
    · show (preC (textB c)).data = _
      rw [hp, a4]; rfl
  · obtain ⟨_, a1, a2, a3, a4, a5, a6⟩ := (valid_7 k).1 hv
    have hh : headT c = [KW.getD 7 ⟨#[]⟩, itoaB c.tag, c.vol] := by unfold headT; rw [k]; rfl
    have hp : preC (textB c) = headC (endC (textB c)) (ws2 (textB c)) := by
      unfold preC swC
      have e7 : (headC (endC (textB c)) (ws2 (textB c))).kind = 7 := by show ((kindW (atW (wordsP (textB c)) 0) 8 : Nat) : Int) = 7; rw [ek, kc, k]
      rw [e7, if_neg (by decide), if_neg (by decide), if_neg (by decide), if_neg (by decide)]
    refine Cmd.ext' ?_ ?_ ?_ ?_ ?_ ?_ ?_ ?_ ?_
    · show (preC (textB c)).tag = _
      rw [hp]; show numV (atW (ws2 (textB c)) 1) = _; rw [w2, nt]
    · show (preC (textB c)).kind = _
      rw [hp]; show ((kindW (atW (wordsP (textB c)) 0) 8 : Nat) : Int) = _; rw [ek, kc]
    · rfl
    · exact hf.symm
    · show (if 2 < (twW (textB c) false c.ord).length then atW (twW (textB c) false c.ord) 2 else (preC (textB c)).vol) = _
      rw [htw, hh]; rfl
    · show (if (preC (textB c)).kind = 6 ∧ 3 < (twW (textB c) false c.ord).length then atW (twW (textB c) false c.ord) 3 else (preC (textB c)).oth) = _
      have e7 : (preC (textB c)).kind = 7 := by rw [hp]; show ((kindW (atW (wordsP (textB c)) 0) 8 : Nat) : Int) = _; rw [ek, kc, k]
      rw [e7, if_neg (fun h => absurd h.1 (by decide)), hp, a2]; rfl
    · show (preC (textB c)).at_ = _
      rw [hp, a5]; rfl
    · show (preC (textB c)).len = _
      rw [hp, a6]; rfl
    · show (preC (textB c)).data = _
      rw [hp, a3]; rfl
theorem text_ne {c : Cmd} (hv : ValidP c) : textB c ≠ ⟨#[]⟩ := by
  rw [textB_t hv]
  intro h
  have := congrArg (fun s => s.data.toList) h
  simp only [joinS_list] at this
  have hk := kind_of hv
  have e : textW c = KW.getD c.kind.toNat ⟨#[]⟩ :: itoaB c.tag :: (midT c c.kind.toNat ++ endF c ++ endO c) := by simp [textW, headT]
  rw [e, List.map_cons, List.map_cons, Txt.join_cons2] at this
  have hlen := congrArg List.length this
  rw [List.length_append, List.length_append] at hlen
  simp at hlen
theorem valid_of_text {c : Cmd} {s : ByteArray} (hs : s ≠ ⟨#[]⟩) (h : textB c = s) : ValidP c := Classical.byContradiction fun hv => hs (by rw [← h, textB_f hv])
theorem parse_valid {c : Cmd} (hv : ValidP c) (hB : Bytes c) {v : Value} {m' : FM} {n' : Nat} (h : ParseR (preC (textB c)) (textB c) v m' n') : ∃ dv, v = .tuple #[cmdV c dv, .int .i64 0] ∧ DatV m' n' dv c.data := by
  obtain ⟨x, dv, e, rfl, hd, hF, hBx, hh⟩ := h
  rcases hh with ⟨rfl, h1, h2⟩ | ⟨rfl, rfl, h1, h2⟩
  · have hx := valid_of_text h1 h2
    obtain rfl := text_inj hx hv hBx hB h2
    exact ⟨dv, rfl, hd⟩
  · exfalso
    have hk := kind_of hv
    by_cases k : c.kind ≤ 5
    · exact h1 ⟨text_ne hv, by rw [pre_plain hv hB k]⟩
    · have hc := cand_name hv hB (by omega)
      have hit : hitP (preC (textB c)) (textB c) false c.ord := ⟨text_ne hv, by rw [hc]⟩
      rcases (okay_of hv).ord with ho | ho
      · rw [ho] at hit; exact (h2 false).1 hit
      · rw [ho] at hit; exact (h2 false).2 hit
end Go.Am.C39
