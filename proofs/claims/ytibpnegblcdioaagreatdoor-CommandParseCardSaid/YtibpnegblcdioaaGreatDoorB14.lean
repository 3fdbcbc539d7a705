/- The machine and its runs, part 14: Az39rt Az39pb Az39ru Az39sm Az39va Az39pc Az39pd. -/
import Derived.Test.YtibpnegblcdioaaGreatDoorB13
set_option linter.unusedVariables false
set_option linter.unusedSimpArgs false
set_option linter.unusedSectionVars false
namespace Go.Am.C39
set_option maxRecDepth 100000
open Go Go.Am Go.Am.V
variable {E : Nat → Option AFn} {Y : Nat → List Value → FM → Nat → OR FM}
theorem str_one {P : Program} {m : FM} {n b c : Nat} {z : Int} {o w : Bool} (hb : b < n) (hm : m b = some (.cells [.int .u8 z] 1 o w)) : mapV P .str [.slice (some ⟨b, 0, none⟩) 1 c] m n = .ok (.string ⟨#[UInt8.ofNat z.toNat]⟩) m n (bit b) 0 := by
  show strB m n b 0 1 (getb m n b) = _
  rw [getb_lt hb, hm]; rfl
theorem wrap_u8 {z : Int} (h0 : 0 ≤ z) (h1 : z < 256) : IntKind.u8.wrap z = z := by
  show z % 256 = z
  omega
theorem conv_u8 {z : Nat} (q : IntKind) (h : z < 256) : convV .u8 (.int q (z : Int)) = some (.int .u8 (z : Int)) := by
  show some (Value.int .u8 (wrapF .u8 (z : Int))) = _
  rw [wrapF_eq, wrap_u8 (by omega) (by omega)]
theorem itoa_small {u : Nat} (h : u < 10) : itoaB (u : Int) = ⟨#[UInt8.ofNat (48 + u)]⟩ := by
  refine str_ext ?_
  rw [itoa_list, Txt.itoa_nat, Lib.decDigits, dif_pos h]
theorem itoa_big {u : Nat} (h : ¬ u < 10) : itoaB (u : Int) = itoaB ((u / 10 : Nat) : Int) ++ ⟨#[UInt8.ofNat (48 + u % 10)]⟩ := by
  refine str_ext ?_
  rw [app_list, itoa_list, itoa_list, Txt.itoa_nat, Txt.itoa_nat, Lib.decDigits, dif_neg h]
theorem pure_specB {P : Program} {m : FM} {n f : Nat} {fn : AFn} {args : List Value} {v : Value} (hE : E f = some fn) (ha : llen args = fn.na) (hv : addrFree v = true) (h : Wr P E Y [] 0 (execW P E Y fn.code args m n) fun X _ _ _ w => X = .ret v ∧ Nat.mod w (bit n) = 0) : ∃ r, callW P E Y f args m n = .ok v m n r 0 ∧ Nat.land (bit n) r = 0 := by
  rw [callW_fn hE ha]
  obtain ⟨X, e, m', n', r, w, hx, rfl, hw⟩ := Gv_some (wr_start h)
  rw [hx, leave_ret]
  refine ⟨_, leaveA_free hv hw, ?_⟩
  apply Nat.eq_of_testBit_eq
  intro j
  show Nat.testBit (bit n &&& (r % bit n)) j = _
  rw [Nat.testBit_and, bit_test, Nat.zero_testBit]
  by_cases hj : n = j
  · subst hj
    rw [show bit n = 2 ^ n by rw [bit]; exact Nat.one_shiftLeft n, Nat.testBit_mod_two_pow]
    simp
  · simp [hj]
theorem refNumber_specB (hE : E 46 = some ac46) : ∀ (u : Nat) (m : FM) (n : Nat), u ≤ 9223372036854775807 → ∃ r, callW PG E Y 46 [.int .i64 (u : Int)] m n = .ok (.string (itoaB u)) m n r 0 ∧ Nat.land (bit n) r = 0 := by
  intro u
  induction u using Nat.strongRecOn with
  | ind u ih =>
    intro m n hu
    refine pure_specB hE rfl rfl ?_
    simp only [ac46]
    have fzn : Nat.mod (bit n) (bit n) = 0 := frz_bit (Nat.le_refl _)
    by_cases h : u < 10
    · have s1 := str_one (P := PG) (m := AMem.put m n (some (.cells [.int .u8 ((48 + u : Nat) : Int)] 1 false true))) (n := n + 1) (b := n) (c := 1) (by omega) (fput_same _ _ _)
      simp (implicitDefEqProofs := false) (disch := omega) only [WPs, opds, List.all_cons, List.all_nil, List.cons_append, List.nil_append, cond_true, cond_false, eq_self, List.map_cons, List.map_nil, Nat.reduceAdd, Nat.testBit, Nat.reduceShiftRight, Nat.reduceAnd, Nat.reduceBNe, Nat.reduceMul, s_mp, conv_u8, s1]
      rw [itoa_small h]; rfl
    · have s1 := str_one (P := PG) (m := AMem.put m n (some (.cells [.int .u8 ((48 + u % 10 : Nat) : Int)] 1 false true))) (n := n + 1) (b := n) (c := 1) (by omega) (fput_same _ _ _)
      obtain ⟨r, hr, hl⟩ := ih (u / 10) (by omega) m n (by omega)
      have hi := itoa_size (z := ((u / 10 : Nat) : Int)) (by omega) (by omega)
      have a1 := add_str (P := PG) 9 (a := itoaB ((u / 10 : Nat) : Int)) (b := ⟨#[UInt8.ofNat ((48 + u % 10 : Nat) : Int).toNat]⟩) (by have : (⟨#[UInt8.ofNat ((48 + u % 10 : Nat) : Int).toNat]⟩ : ByteArray).size = 1 := rfl; omega)
      simp (implicitDefEqProofs := false) (disch := omega) only [WPs, opds, List.all_cons, List.all_nil, List.cons_append, List.nil_append, cond_true, cond_false, eq_self, List.map_cons, List.map_nil, Nat.reduceAdd, Nat.testBit, Nat.reduceShiftRight, Nat.reduceAnd, Nat.reduceBNe, Nat.reduceMul, s_mp, conv_u8, hr, hl, s1, a1]
      rw [itoa_big h]; rfl
theorem refNumber_spec (hE : E 46 = some ac46) (z : Int) (h0 : 0 ≤ z) (m : FM) (n : Nat) (hu : z ≤ 9223372036854775807) : Pure (callW PG E Y 46 [.int .i64 z] m n) m n (.string (itoaB z)) := by
  obtain ⟨u, rfl⟩ := Int.eq_ofNat_of_zero_le h0
  obtain ⟨r, h, _⟩ := refNumber_specB hE u m n (by omega)
  exact ⟨r, h⟩
theorem digit_spec (hE : E 66 = some ac66) {k : Nat} (hk : k < 16) (m : FM) (n : Nat) : Pure (callW PG E Y 66 [.int .u8 (k : Int)] m n) m n (.int .u8 (digN k : Int)) := by
  refine pure_spec hE rfl rfl ?_
  simp only [ac66]
  by_cases h : k < 10
  · have e : digN k = 48 + k := if_pos h
    rw [e]
    simp (implicitDefEqProofs := false) (disch := omega) only [WPs, opds, List.all_cons, List.all_nil, List.cons_append, List.nil_append, cond_true, cond_false, eq_self, List.map_cons, List.map_nil, Nat.reduceAdd, Nat.testBit, Nat.reduceShiftRight, Nat.reduceAnd, Nat.reduceBNe, Nat.reduceMul]
    rw [wrap_u8 (by omega) (by omega)]
  · have e : digN k = 87 + k := if_neg h
    rw [e]
    simp (implicitDefEqProofs := false) (disch := omega) only [WPs, opds, List.all_cons, List.all_nil, List.cons_append, List.nil_append, cond_true, cond_false, eq_self, List.map_cons, List.map_nil, Nat.reduceAdd, Nat.testBit, Nat.reduceShiftRight, Nat.reduceAnd, Nat.reduceBNe, Nat.reduceMul]
    rw [wrap_u8 (z := ((97 + k : Nat) : Int)) (by omega) (by omega), wrap_u8 (by omega) (by omega)]
    omega
theorem cell_nat {l : List Nat} {j : Nat} (h : j < l.length) : cget (l.map fun (z : Nat) => Value.int .u8 (z : Int)) j = some (.int .u8 ((l[j]'h : Nat) : Int)) := by
  rw [cget_eq, List.getElem?_map, List.getElem?_eq_getElem h]; rfl
theorem ida_mk {n sz i b o : Nat} (h : i < n) : idaV n sz i (.pointer (some ⟨b, o, none⟩)) = some (.pointer (some ⟨b, o + i * sz, none⟩)) := by
  show cond (Nat.blt i n) _ _ = _
  rw [blt_true h]; rfl
theorem refBlock_L0 (hD : E 66 = some ac66) {n : Nat} {M0 : FM} {l : List Nat} (hl : l.length = 8) (hb : ∀ z ∈ l, z < 256) (pm : M0 n = some (.cells (l.map fun (z : Nat) => Value.int .u8 (z : Int)) 0 false true)) (x2 x3 : Value) (ys : List Value) {Q : AX → List Value → FM → Nat → Nat → Prop}
    (hQ : ∀ v M N w, n + 1 ≤ N → (∀ j, j ≤ n → Nat.mod w (bit j) = 0) → SlZ 1 M (n + 1) N v 16 (hexC l) → Q (.exit 0) (v :: x2 :: x3 :: .string ⟨#[]⟩ :: .pointer (some ⟨n, 0, none⟩) :: ys) M N w) :
    ∀ (d j : Nat), j + d = 8 → ∀ (v : Value) (M : FM) (N w0 : Nat) , n + 1 ≤ N → (∀ b, b < n + 1 → M b = M0 b) → (∀ j, j ≤ n → Nat.mod w0 (bit j) = 0) → SlZ 1 M (n + 1) N v (2 * j) (hexC (l.take j)) →
    Gv (execW PG E Y ac47L0 (v :: .int .i64 (j : Int) :: x2 :: x3 :: .string ⟨#[]⟩ :: .pointer (some ⟨n, 0, none⟩) :: ys) M N) fun X e m n w => Q X e m n (Nat.lor w0 w) := by
  intro d
  induction d with
  | zero =>
    intro j hj v M N w0 hN hM hw hS
    obtain rfl : j = 8 := by omega
    refine wr_loopN (L := ac47L0) (b := ac47L0b) rfl ?_
    simp only [ac47L0b]
    simp (implicitDefEqProofs := false) (disch := omega) only [WPs, opds, List.all_cons, List.all_nil, List.cons_append, List.nil_append, cond_true, cond_false, eq_self, List.map_cons, List.map_nil, Nat.reduceAdd, Nat.testBit, Nat.reduceShiftRight, Nat.reduceAnd, Nat.reduceBNe, Nat.reduceMul]
    rw [List.take_of_length_le (by omega)] at hS
    exact hQ _ _ _ _ hN hw hS
  | succ d ih =>
    intro j hj v M N w0 hN hM hw hS
    have hz := hb _ (List.getElem_mem (show j < l.length by omega))
    have i1 := cell_nat (l := l) (j := j) (by omega)
    have i2 := u8_shr (l[j]'(by omega))
    have i3 := u8_and (l[j]'(by omega)) hz
    have p1 := (hM n (by omega)).trans pm
    refine wr_loopN (L := ac47L0) (b := ac47L0b) rfl ?_
    simp only [ac47L0b]
    simp (implicitDefEqProofs := false) (disch := omega) only [WPs, opds, List.all_cons, List.all_nil, List.cons_append, List.nil_append, cond_true, cond_false, eq_self, List.map_cons, List.map_nil, Nat.reduceAdd, Nat.testBit, Nat.reduceShiftRight, Nat.reduceAnd, Nat.reduceBNe, Nat.reduceMul, s_ida, ida_mk (show j < 8 by omega), Nat.mul_one, p1, i1, i2, t_pur]
    refine use_pureX (digit_spec hD (by omega) _ _) fun r1 => ?_
    simp (implicitDefEqProofs := false) (disch := omega) only [WPs, opds, List.all_cons, List.all_nil, List.cons_append, List.nil_append, cond_true, cond_false, eq_self, List.map_cons, List.map_nil, Nat.reduceAdd, Nat.testBit, Nat.reduceShiftRight, Nat.reduceAnd, Nat.reduceBNe, Nat.reduceMul, s_ida, ida_mk (show j < 8 by omega), Nat.mul_one, p1, i1, i3, t_pur]
    refine use_pureX (digit_spec hD (by omega) _ _) fun r2 => ?_
    simp (implicitDefEqProofs := false) (disch := omega) only [WPs, opds, List.all_cons, List.all_nil, List.cons_append, List.nil_append, cond_true, cond_false, eq_self, List.map_cons, List.map_nil, Nat.reduceAdd, Nat.testBit, Nat.reduceShiftRight, Nat.reduceAnd, Nat.reduceBNe, Nat.reduceMul, hS.bel, hS.one]
    generalize hM1 : (AMem.put M N (some (.cells [.int .u8 (digN ((l[j]'(by omega)) / 16) : Int), .int .u8 (digN ((l[j]'(by omega)) % 16) : Int)] 1 false true)) : FM) = M1
    have lo1 : ∀ b, b < N → M1 b = M b := fun b hb => by rw [← hM1, fput_ne _ _ _ _ (by omega)]
    have hS1 : SlZ 1 M1 (n + 1) (N + 1) v (2 * j) (hexC (l.take j)) := hS.frame (by omega) fun b h1 h2 => lo1 b h2
    refine use_rtX (app_slZn hS1 _ _ _ (by omega) (k := 2) (by omega) (by omega) rfl rfl (by omega) (by omega)) fun v1 M2 N2 r3 w1 hh => ?_
    obtain ⟨hv1, hn1, hs1, hl1, hw1⟩ := hh
    have e1 : hexC (l.take j) ++ [Value.int .u8 (digN ((l[j]'(by omega)) / 16) : Int), Value.int .u8 (digN ((l[j]'(by omega)) % 16) : Int)] = hexC (l.take (j + 1)) := by
      rw [List.take_succ_eq_append_getElem (by omega), hexC_app]; rfl
    rw [e1, show 2 * j + 2 = 2 * (j + 1) by omega] at hs1
    subst hv1; subst hn1
    simp (implicitDefEqProofs := false) (disch := omega) only [WPs, opds, List.all_cons, List.all_nil, List.cons_append, List.nil_append, cond_true, cond_false, eq_self, List.map_cons, List.map_nil, Nat.reduceAdd, Nat.testBit, Nat.reduceShiftRight, Nat.reduceAnd, Nat.reduceBNe, Nat.reduceMul]
    have hi := ih (j + 1) (by omega) _ M2 (N + 2) (Nat.lor w0 (Nat.lor (bit N) w1)) (by omega) (fun b hb => by rw [hl1 b hb, lo1 b (by omega), hM b hb]) (fun k hk => by rw [frz_iff, frz_iff]; exact ⟨hw k hk, frz_bit (by omega), hw1 k (by omega)⟩) hs1
    refine wr_end hi fun X e m n w hq => ?_
    rw [show Nat.lor w0 (Nat.lor (Nat.lor (bit N) w1) w) = Nat.lor (Nat.lor w0 (Nat.lor (bit N) w1)) w from (lor_assoc' _ _ _).symm]
    exact hq
theorem refBlock_spec (hE : E 47 = some ac47) (hD : E 66 = some ac66) (m : FM) (n : Nat) (l : List Nat) (hl : l.length = 8) (hb : ∀ z ∈ l, z < 256) : Pure (callW PG E Y 47 [.agg (l.map fun (z : Nat) => Value.int .u8 (z : Int)).toArray] m n) m n (.string (hexB l)) := by
  refine pure_spec hE rfl rfl ?_
  simp only [ac47]
  have c1 : llen (l.map fun (z : Nat) => Value.int .u8 (z : Int)) = 8 := by rw [llen_eq, List.length_map, hl]
  have c3 : (l.map fun (z : Nat) => Value.int .u8 (z : Int)).all Am.one = true := by rw [List.all_map, List.all_eq_true]; intro x _; rfl
  simp (implicitDefEqProofs := false) (disch := omega) only [WPs, opds, List.all_cons, List.all_nil, List.cons_append, List.nil_append, cond_true, cond_false, eq_self, List.map_cons, List.map_nil, Nat.reduceAdd, Nat.testBit, Nat.reduceShiftRight, Nat.reduceAnd, Nat.reduceBNe, Nat.reduceMul, c1, c3, Bool.and_self]
  generalize hM0 : (AMem.put m n (some (.cells (l.map fun (z : Nat) => Value.int .u8 (z : Int)) 0 false true)) : FM) = M0
  have pm : M0 n = some (.cells (l.map fun (z : Nat) => Value.int .u8 (z : Int)) 0 false true) := by rw [← hM0]; exact fput_same _ _ _
  refine wr_kont ((refBlock_L0 (M0 := M0) hD hl hb pm _ _ _ (fun v M N w hN hw hS => ?_) 8 0 rfl _ _ (n + 1) 0 (Nat.le_refl _) (fun b hb => rfl) (fun j _ => frz_zero _) (.inl ⟨rfl, rfl, rfl⟩)).mono fun X e m' n' w hq => by simpa only [zero_lor'] using hq)
  obtain ⟨h, _⟩ | ⟨hp, hcl, b, rfl, hb1, hbN, hMb⟩ := hS
  · cases h
  intro rr
  have hs := str_all (c := UNK) hl hbN hMb
  have fz := hw n (Nat.le_refl _)
  simp (implicitDefEqProofs := false) (disch := omega) only [WPs, opds, List.all_cons, List.all_nil, List.cons_append, List.nil_append, cond_true, cond_false, eq_self, List.map_cons, List.map_nil, Nat.reduceAdd, Nat.testBit, Nat.reduceShiftRight, Nat.reduceAnd, Nat.reduceBNe, Nat.reduceMul, s_mp, hs, fz]
end Go.Am.C39
namespace Go.Am.C39
set_option maxRecDepth 100000
open Go Go.Am Go.Am.V
variable {E : Nat → Option AFn} {Y : Nat → List Value → FM → Nat → OR FM}
def blkF : Nat → List UInt8 → List Int
  | 0, _ => []
  | k + 1, l => match hexP 0 (l.take 2) with
    | some u => (u : Int) :: blkF k (l.drop 2)
    | none => List.replicate (k + 1) 0
theorem blkF_some {k : Nat} {l : List UInt8} {u : Nat} (h : hexP 0 (l.take 2) = some u) : blkF (k + 1) l = (u : Int) :: blkF k (l.drop 2) := by
  rw [blkF, h]
theorem blkF_none {k : Nat} {l : List UInt8} (h : hexP 0 (l.take 2) = none) : blkF (k + 1) l = List.replicate (k + 1) 0 := by
  rw [blkF, h]
theorem blkF_len : ∀ (k : Nat) (l : List UInt8), (blkF k l).length = k
  | 0, _ => rfl
  | k + 1, l => by
    rw [blkF]
    split
    · rw [List.length_cons, blkF_len]
    · rw [List.length_replicate]
theorem hexD_lt {c d : Nat} (h : hexD c = some d) : d < 16 := by
  unfold hexD at h
  split at h
  · injection h with h; omega
  · split at h
    · injection h with h; omega
    · cases h
theorem hexP_two {l : List UInt8} (h : l.length = 2) {u : Nat} (hu : hexP 0 l = some u) : u < 256 := by
  match l, h with
  | [a, b], _ =>
    simp only [hexP] at hu
    split at hu
    · rename_i d hd
      split at hu
      · rename_i e he
        injection hu with hu
        have := hexD_lt hd
        have := hexD_lt he
        omega
      · cases hu
    · cases hu
theorem blkF_bytes : ∀ (k : Nat) (l : List UInt8), l.length = 2 * k → ∀ z ∈ blkF k l, 0 ≤ z ∧ z < 256
  | 0, _, _, z, hz => by cases hz
  | k + 1, l, hl, z, hz => by
    rw [blkF] at hz
    split at hz
    · rename_i u hu
      rcases List.mem_cons.1 hz with rfl | hz
      · have := hexP_two (by rw [List.length_take]; omega) hu
        omega
      · exact blkF_bytes k _ (by rw [List.length_drop]; omega) z hz
    · rw [List.mem_replicate] at hz
      omega
theorem hexD_dig {k : Nat} (h : k < 16) : hexD (UInt8.ofNat ((digN k : Int)).toNat).toNat = some k := by
  rcases (by omega : k = 0 ∨ k = 1 ∨ k = 2 ∨ k = 3 ∨ k = 4 ∨ k = 5 ∨ k = 6 ∨ k = 7 ∨ k = 8 ∨ k = 9 ∨ k = 10 ∨ k = 11 ∨ k = 12 ∨ k = 13 ∨ k = 14 ∨ k = 15) with rfl | rfl | rfl | rfl | rfl | rfl | rfl | rfl | rfl | rfl | rfl | rfl | rfl | rfl | rfl | rfl <;> kernel_rfl
theorem blkF_hex : ∀ {l : List Nat}, (∀ z ∈ l, z < 256) → blkF l.length ((hexI l).map fun n => UInt8.ofNat n.toNat) = l.map fun (z : Nat) => (z : Int)
  | [], _ => rfl
  | z :: l, h => by
    have hz := h z (List.mem_cons_self ..)
    rw [List.length_cons, blkF, hexI, List.map_cons, List.map_cons, List.take_succ_cons, List.take_succ_cons, List.take_zero, List.drop_succ_cons, List.drop_succ_cons, List.drop_zero]
    have e : hexP 0 [UInt8.ofNat ((digN (z / 16) : Int)).toNat, UInt8.ofNat ((digN (z % 16) : Int)).toNat] = some z := by
      rw [hexP, hexD_dig (by omega)]
      simp only
      rw [hexP, hexD_dig (by omega)]
      simp only [hexP]
      congr 1; omega
    rw [e]
    simp only
    rw [blkF_hex (fun y hy => h y (List.mem_cons_of_mem _ hy)), List.map_cons]
def blkB (s : ByteArray) : List Int := if s.size = 16 then blkF 8 s.data.toList else List.replicate 8 0
theorem size_list (s : ByteArray) : s.data.toList.length = s.size := Array.length_toList
theorem blkB_ok (s : ByteArray) : (blkB s).length = 8 ∧ ∀ z ∈ blkB s, 0 ≤ z ∧ z < 256 := by
  unfold blkB
  split
  · rename_i h
    exact ⟨blkF_len _ _, blkF_bytes _ _ (by rw [size_list, h])⟩
  · refine ⟨List.length_replicate .., fun z hz => ?_⟩
    rw [List.mem_replicate] at hz
    omega
theorem blkB_hex {d : List Int} (hl : d.length = 8) (hb : ∀ z ∈ d, 0 ≤ z ∧ z < 256) : blkB (hexW d) = d := by
  unfold blkB
  rw [if_pos (hexW_size hl), hexW, hexB_list]
  have := blkF_hex (nats_lt hb)
  rw [nats_len, hl] at this
  rw [this, nats_back hb]
theorem t_sub {P : Program} {s : ByteArray} {k : IntKind} {a b : Nat} (h : a ≤ b) (hb : b ≤ s.size) : purV P .sub [.string s, .int k (a : Int), .int k (b : Int)] = some (.string (s.extract a b)) := by
  show cond (Nat.ble a b && Nat.ble b s.size) (some (Value.string (s.extract a b))) none = _
  rw [show Nat.ble a b = true from Nat.ble_eq_true_of_le h, show Nat.ble b s.size = true from Nat.ble_eq_true_of_le hb]; rfl
theorem isn_nil : purV PG (.isn .neq 50) [.nilIface] = some (.bool false) := by kernel_rfl
theorem isn_err : purV PG (.isn .neq 50) [.iface 0 .nilIface] = some (.bool true) := by kernel_rfl
theorem st_all {cs : List Value} {l : List Int} (hc : cs.length = 8) (hl : l.length = 8) : setCells cs 0 (u8s l) = some (u8s l) := by
  have e : (u8s l).length = 8 := by rw [u8s, List.length_map, hl]
  rw [setCells_eq, if_pos (by omega), List.take_zero, List.nil_append, List.drop_eq_nil_of_le (by omega), List.append_nil]
theorem block_L0 (L : LibP E Y) {N xb rb : Nat} {M0 : FM} {s : ByteArray} (hs : s.size = 16) (hx : xb < N) (hr : rb < N) (hrx : rb ≠ xb) (hMr : ∃ cs, cs.length = 8 ∧ M0 rb = some (.cells cs 0 false true)) (x0 x2 x3 x5 : Value) {Q : AX → List Value → FM → Nat → Nat → Prop}
    (hQe : ∀ M w e', M xb = some (.cells (u8s (blkF 8 s.data.toList)) 0 false true) → (∀ b, b ≠ xb → M b = M0 b) → (∀ j, j ≤ xb → j ≤ rb → Nat.mod w (bit j) = 0) → Q (.exit 0) [e', x2, x3, .pointer (some ⟨xb, 0, none⟩), x5, .pointer (some ⟨rb, 0, none⟩), .string s] M N w)
    (hQr : ∀ M w e', (∀ b, b ≠ xb → b ≠ rb → M b = M0 b) → (∀ j, j ≤ xb → j ≤ rb → Nat.mod w (bit j) = 0) → Q (.ret (.tuple #[.agg (u8s (blkF 8 s.data.toList)).toArray, .bool false])) e' M N w) :
    ∀ (d j : Nat), j + d = 8 → ∀ (pre : List Int) (M : FM) (w0 : Nat) (x0 : Value), pre.length = j → blkF 8 s.data.toList = pre ++ blkF d (s.data.toList.drop (2 * j)) → M xb = some (.cells (u8s (pre ++ List.replicate d 0)) 0 false true) → (∀ b, b ≠ xb → M b = M0 b) → (∀ j, j ≤ xb → j ≤ rb → Nat.mod w0 (bit j) = 0) →
    Gv (execW PG E Y ac13L0 [x0, .int .i64 (j : Int), x2, x3, .pointer (some ⟨xb, 0, none⟩), x5, .pointer (some ⟨rb, 0, none⟩), .string s] M N) fun X e m n w => Q X e m n (Nat.lor w0 w) := by
  intro d
  induction d with
  | zero =>
    intro j hj pre M w0 x0 hp hF hM hf hw
    obtain rfl : j = 8 := by omega
    refine wr_loopN (L := ac13L0) (b := ac13L0b) rfl ?_
    simp only [ac13L0b]
    simp (implicitDefEqProofs := false) (disch := omega) only [WPs, opds, List.all_cons, List.all_nil, List.cons_append, List.nil_append, cond_true, cond_false, eq_self, List.map_cons, List.map_nil, Nat.reduceAdd, Nat.testBit, Nat.reduceShiftRight, Nat.reduceAnd, Nat.reduceBNe, Nat.reduceMul]
    rw [show blkF 0 (s.data.toList.drop (2 * 8)) = [] from rfl, List.append_nil] at hF
    rw [List.replicate_zero, List.append_nil, ← hF] at hM
    exact hQe _ _ _ hM hf hw
  | succ d ih =>
    intro j hj pre M w0 x0 hp hF hM hf hw
    have hsz : (s.extract (2 * j) (2 * j + 2)).size = 2 := by rw [ByteArray.size_extract]; omega
    have hsl : (s.extract (2 * j) (2 * j + 2)).data.toList = (s.data.toList.drop (2 * j)).take 2 := by
      rw [ByteArray.data_extract, Array.toList_extract, List.extract_eq_take_drop]
      congr 1; omega
    have hb8 : (u8s (pre ++ List.replicate (d + 1) 0)).length = 8 := by rw [u8s, List.length_map, List.length_append, List.length_replicate, hp]; omega
    have e5 : purV PG .sub [.string s, .int .i64 (2 * (j : Int)), .int .i64 (2 * (j : Int) + 2)] = some (.string (s.extract (2 * j) (2 * j + 2))) := t_sub (P := PG) (s := s) (k := .i64) (a := 2 * j) (b := 2 * j + 2) (by omega) (by omega)
    have q := L.pu (E := E) (Y := Y) M N _ hsz
    obtain ⟨cr, hcl, hMr⟩ := hMr
    have hMr' := (hf rb hrx).trans hMr
    refine wr_loopN (L := ac13L0) (b := ac13L0b) rfl ?_
    simp only [ac13L0b]
    simp (implicitDefEqProofs := false) (disch := omega) only [WPs, opds, List.all_cons, List.all_nil, List.cons_append, List.nil_append, cond_true, cond_false, eq_self, List.map_cons, List.map_nil, Nat.reduceAdd, Nat.testBit, Nat.reduceShiftRight, Nat.reduceAnd, Nat.reduceBNe, Nat.reduceMul, t_pur, e5]
    refine use_pure q fun r1 => ?_
    unfold puR
    rw [hsl]
    cases hu : hexP 0 ((s.data.toList.drop (2 * j)).take 2) with
    | none =>
      rw [blkF_none hu] at hF
      simp only
      have hMx : M xb = some (.cells (u8s (blkF 8 s.data.toList)) 0 false true) := by rw [hM, hF]
      have hl8 : (blkF 8 s.data.toList).length = 8 := blkF_len _ _
      have hst := st_all hcl hl8
      have hc8 := u8s_llen hl8
      simp (implicitDefEqProofs := false) (disch := omega) only [WPs, opds, List.all_cons, List.all_nil, List.cons_append, List.nil_append, cond_true, cond_false, eq_self, List.map_cons, List.map_nil, Nat.reduceAdd, Nat.testBit, Nat.reduceShiftRight, Nat.reduceAnd, Nat.reduceBNe, Nat.reduceMul, ey0, ey1, t_pur, isn_err, hMx, u8s_all hl8, hMr', hst, hc8, u8s_one]
      exact hQr _ _ _ (fun b h1 h2 => by rw [fput_ne _ _ _ _ h2]; exact hf b h1) (fun k h1 h2 => by rw [frz_iff]; exact ⟨hw k h1 h2, frz_bit h2⟩)
    | some u =>
      rw [blkF_some hu, List.drop_drop] at hF
      simp only
      have hu8 := hexP_two (by rw [List.length_take, List.length_drop, size_list]; omega) hu
      simp (implicitDefEqProofs := false) (disch := omega) only [WPs, opds, List.all_cons, List.all_nil, List.cons_append, List.nil_append, cond_true, cond_false, eq_self, List.map_cons, List.map_nil, Nat.reduceAdd, Nat.testBit, Nat.reduceShiftRight, Nat.reduceAnd, Nat.reduceBNe, Nat.reduceMul, ey0, ey1, t_pur, isn_nil, conv_u8 .u64 hu8, s_ida, ida_mk (show j < 8 by omega), Nat.mul_one, Nat.zero_add, hM, Go.Am.set_one (show j < (u8s (pre ++ List.replicate (d + 1) 0)).length by omega)]
      have eset : (u8s (pre ++ List.replicate (d + 1) 0)).set j (Value.int .u8 (u : Int)) = u8s ((pre ++ [(u : Int)]) ++ List.replicate d 0) := by
        subst hp
        unfold u8s
        rw [List.map_append, List.map_append, List.map_append, List.replicate_succ, List.map_cons, List.set_append_right _ _ (by rw [List.length_map]; exact Nat.le_refl _), List.length_map, Nat.sub_self, List.set_cons_zero, List.append_assoc]
        rfl
      rw [eset]
      refine wr_end (ih (j + 1) (by omega) (pre ++ [(u : Int)]) _ (Nat.lor w0 (bit xb)) x0 (by rw [List.length_append, hp]; rfl) (by rw [hF, List.append_assoc, show 2 * (j + 1) = 2 * j + 2 by omega]; rfl) (fput_same _ _ _) (fun b hb => by rw [fput_ne _ _ _ _ hb]; exact hf b hb) (fun k h1 h2 => by rw [frz_iff]; exact ⟨hw k h1 h2, frz_bit h1⟩)) fun X e m n w hq => ?_
      rw [lor_asc] at hq
      exact hq
theorem block_spec (L : LibP E Y) (hE : E 13 = some ac13) (h30 : E 22 = some ac22) (s : ByteArray) (m : FM) (n : Nat) : Rt (callW PG E Y 13 [.string s] m n) fun v m' n' w => n ≤ n' ∧ (∀ b, b < n → m' b = m b) ∧ (∀ j, j ≤ n → Nat.mod w (bit j) = 0) ∧ ∃ ok, v = .tuple #[.agg (u8s (blkB s)).toArray, .bool ok] := by
  refine kept_specQ (R := fun v m' n' => ∃ ok, v = .tuple #[.agg (u8s (blkB s)).toArray, .bool ok]) hE rfl fun Q hQ => ?_
  by_cases h16 : s.size = 16
  · simp only [ac13]
    simp (implicitDefEqProofs := false) (disch := omega) only [WPs, opds, List.all_cons, List.all_nil, List.cons_append, List.nil_append, cond_true, cond_false, eq_self, List.map_cons, List.map_nil, Nat.reduceAdd, Nat.testBit, Nat.reduceShiftRight, Nat.reduceAnd, Nat.reduceBNe, Nat.reduceMul, STs]
    have hb0 : blkB s = blkF 8 s.data.toList := if_pos h16
    have hl8 : (blkF 8 s.data.toList).length = 8 := blkF_len _ _
    have hby : ∀ z ∈ blkF 8 s.data.toList, 0 ≤ z ∧ z < 256 := blkF_bytes _ _ (by rw [size_list, h16])
    rw [hb0] at hQ
    generalize hM0 : (AMem.put (AMem.put m n (some (.cells [.int .u8 0, .int .u8 0, .int .u8 0, .int .u8 0, .int .u8 0, .int .u8 0, .int .u8 0, .int .u8 0] 0 false true))) (n + 1) (some (.cells [.int .u8 0, .int .u8 0, .int .u8 0, .int .u8 0, .int .u8 0, .int .u8 0, .int .u8 0, .int .u8 0] 0 false true)) : FM) = M0
    have lo : ∀ b, b < n → M0 b = m b := fun b hb => by rw [← hM0, fput_ne _ _ _ _ (by omega), fput_ne _ _ _ _ (by omega)]
    have hr0 : M0 n = some (.cells [.int .u8 0, .int .u8 0, .int .u8 0, .int .u8 0, .int .u8 0, .int .u8 0, .int .u8 0, .int .u8 0] 0 false true) := by rw [← hM0, fput_ne _ _ _ _ (by omega)]; exact fput_same _ _ _
    have hx0 : M0 (n + 1) = some (.cells (u8s ([] ++ List.replicate 8 0)) 0 false true) := by rw [← hM0]; exact fput_same _ _ _
    refine wr_kont ((block_L0 (M0 := M0) (N := n + 2) (xb := n + 1) (rb := n) L h16 (by omega) (by omega) (by omega) ⟨_, rfl, hr0⟩ (.bool false) _ _ _ (fun M w e' hx hf hw => ?_) (fun M w e' hf hw => ?_) 8 0 rfl [] _ 0 _ rfl rfl hx0 (fun b _ => rfl) (fun j _ _ => frz_zero _)).mono fun X e m' n' w hq => by simpa only [zero_lor'] using hq)
    · intro rr
      have hrM := (hf n (by omega)).trans hr0
      have hst := st_all (cs := [Value.int .u8 0, .int .u8 0, .int .u8 0, .int .u8 0, .int .u8 0, .int .u8 0, .int .u8 0, .int .u8 0]) rfl hl8
      have hc8 := u8s_llen hl8
      simp (implicitDefEqProofs := false) (disch := omega) only [WPs, opds, List.all_cons, List.all_nil, List.cons_append, List.nil_append, cond_true, cond_false, eq_self, List.map_cons, List.map_nil, Nat.reduceAdd, Nat.testBit, Nat.reduceShiftRight, Nat.reduceAnd, Nat.reduceBNe, Nat.reduceMul, hx, u8s_all hl8, u8s_bel]
      refine use_pureX (hexw_pure h30 hl8 hby _ _) fun r1 => ?_
      simp (implicitDefEqProofs := false) (disch := omega) only [WPs, opds, List.all_cons, List.all_nil, List.cons_append, List.nil_append, cond_true, cond_false, eq_self, List.map_cons, List.map_nil, Nat.reduceAdd, Nat.testBit, Nat.reduceShiftRight, Nat.reduceAnd, Nat.reduceBNe, Nat.reduceMul, STs, hx, hrM, u8s_all hl8, u8s_bel, u8s_one, hc8, hst]
      have fz := hw n (by omega) (by omega)
      refine hQ _ _ _ _ _ (by omega) (fun b hb => by rw [fput_ne _ _ _ _ (by omega), hf b (by omega), lo b hb]) ?_ rfl ⟨_, rfl⟩
      simp (implicitDefEqProofs := false) (disch := omega) only [WPs, opds, List.all_cons, List.all_nil, List.cons_append, List.nil_append, cond_true, cond_false, eq_self, List.map_cons, List.map_nil, Nat.reduceAdd, Nat.testBit, Nat.reduceShiftRight, Nat.reduceAnd, Nat.reduceBNe, Nat.reduceMul, fz]
    · intro rr
      simp (implicitDefEqProofs := false) (disch := omega) only [WPs, opds, List.all_cons, List.all_nil, List.cons_append, List.nil_append, cond_true, cond_false, eq_self, List.map_cons, List.map_nil, Nat.reduceAdd, Nat.testBit, Nat.reduceShiftRight, Nat.reduceAnd, Nat.reduceBNe, Nat.reduceMul]
      have fz := hw n (by omega) (by omega)
      refine hQ _ _ _ _ _ (by omega) (fun b hb => by rw [hf b (by omega) (by omega), lo b hb]) ?_ rfl ⟨_, rfl⟩
      simp (implicitDefEqProofs := false) (disch := omega) only [WPs, opds, List.all_cons, List.all_nil, List.cons_append, List.nil_append, cond_true, cond_false, eq_self, List.map_cons, List.map_nil, Nat.reduceAdd, Nat.testBit, Nat.reduceShiftRight, Nat.reduceAnd, Nat.reduceBNe, Nat.reduceMul, fz]
  · have e : blkB s = List.replicate 8 0 := if_neg h16
    rw [e] at hQ
    simp only [ac13]
    simp (implicitDefEqProofs := false) (disch := omega) only [WPs, opds, List.all_cons, List.all_nil, List.cons_append, List.nil_append, cond_true, cond_false, eq_self, List.map_cons, List.map_nil, Nat.reduceAdd, Nat.testBit, Nat.reduceShiftRight, Nat.reduceAnd, Nat.reduceBNe, Nat.reduceMul, STs]
    refine hQ _ _ _ _ _ (by omega) (fun b hb => by rw [fput_ne _ _ _ _ (by omega), fput_ne _ _ _ _ (by omega), fput_ne _ _ _ _ (by omega)]) ?_ rfl ⟨false, rfl⟩
    simp (implicitDefEqProofs := false) (disch := omega) only [WPs, opds, List.all_cons, List.all_nil, List.cons_append, List.nil_append, cond_true, cond_false, eq_self, List.map_cons, List.map_nil, Nat.reduceAdd, Nat.testBit, Nat.reduceShiftRight, Nat.reduceAnd, Nat.reduceBNe, Nat.reduceMul]
end Go.Am.C39
namespace Go.Am.C39
set_option maxRecDepth 100000
open Go Go.Am Go.Am.V
variable {E : Nat → Option AFn} {Y : Nat → List Value → FM → Nat → OR FM}
theorem lit_size (l : Array UInt8) : (⟨l⟩ : ByteArray).size = l.size := rfl
theorem str_assoc (a b c : ByteArray) : a ++ b ++ c = a ++ (b ++ c) := ByteArray.append_assoc
theorem u8s_nats {d : List Int} (h : ∀ z ∈ d, 0 ≤ z ∧ z < 256) (hl : d.length = 8) (hB : ∀ (m : FM) (n : Nat) (l : List Nat), l.length = 8 → (∀ z ∈ l, z < 256) → Pure (callW PG E Y 47 [.agg (l.map fun (z : Nat) => Value.int .u8 (z : Int)).toArray] m n) m n (.string (hexB l))) (m : FM) (n : Nat) : Pure (callW PG E Y 47 [.agg (u8s d).toArray] m n) m n (.string (hexW d)) := by
  have := hB m n (nats d) (by rw [nats_len, hl]) (nats_lt h)
  rw [nats_u8 h] at this
  exact this
structure RefY (E : Nat → Option AFn) (Y : Nat → List Value → FM → Nat → OR FM) : Prop where
  num : ∀ (z : Int), 0 ≤ z → ∀ (m : FM) (n : Nat), z ≤ 9223372036854775807 → Pure (callW PG E Y 46 [.int .i64 z] m n) m n (.string (itoaB z))
  blk : ∀ (m : FM) (n : Nat) (l : List Nat), l.length = 8 → (∀ z ∈ l, z < 256) → Pure (callW PG E Y 47 [.agg (l.map fun (z : Nat) => Value.int .u8 (z : Int)).toArray] m n) m n (.string (hexB l))
theorem joinS_cons2 (x y : ByteArray) (r : List ByteArray) (sep : ByteArray) : joinS (x :: y :: r) sep = x ++ sep ++ joinS (y :: r) sep := by
  refine str_ext ?_
  rw [app_list, app_list]
  exact Txt.join_cons2 _ _ _ _
theorem refWords_L0 (R : RefY E Y) {N pb : Nat} {M0 : FM} {c : Cmd} {d : Value} (hpb : pb < N) (pm : M0 pb = some (.cells [.int .i64 c.tag, .int .i64 c.kind, .int .i64 c.ord, .bool c.force, .string c.vol, .string c.oth, .int .i64 c.at_, .int .i64 c.len, d] 0 false true)) (hB : Bytes c) (hd : DatV M0 N d c.data) {pre : List ByteArray} (hp : pre ≠ []) (hpl : pre.length ≤ 10) (hps : ∀ x ∈ pre, x.size ≤ 40) (hdl : c.data.length ≤ 16) (ys : List Value) {Q : AX → List Value → FM → Nat → Nat → Prop} (x2 x3 x4 x5 x6 x7 x8 x9 x10 : Value)
    (hQ : Q (.exit 1) (.string (joinS (pre ++ c.data.map hexW) ⟨#[32]⟩) :: x2 :: x3 :: x4 :: x5 :: x6 :: x7 :: x8 :: x9 :: x10 :: .pointer (some ⟨pb, 0, none⟩) :: ys) M0 N 0) :
    ∀ (k j : Nat), j + k = c.data.length →
    Gv (execW PG E Y ac31L0 (.string (joinS (pre ++ (c.data.take j).map hexW) ⟨#[32]⟩) :: .int .i64 (j : Int) :: x2 :: x3 :: x4 :: x5 :: x6 :: x7 :: x8 :: x9 :: x10 :: .pointer (some ⟨pb, 0, none⟩) :: ys) M0 N) fun X e m n w => Q X e m n (Nat.lor 0 w) := by
  intro k
  induction k with
  | zero =>
    intro j hj
    obtain rfl : j = c.data.length := by omega
    refine wr_loopN (L := ac31L0) (b := ac31L0b) rfl ?_
    simp only [ac31L0b]
    simp (implicitDefEqProofs := false) (disch := omega) only [WPs, opds, List.all_cons, List.all_nil, List.cons_append, List.nil_append, cond_true, cond_false, eq_self, List.map_cons, List.map_nil, Nat.reduceAdd, Nat.testBit, Nat.reduceShiftRight, Nat.reduceAnd, Nat.reduceBNe, Nat.reduceMul, pm, hd.one, hd.len]
    rw [List.take_of_length_le (Nat.le_refl _)]
    exact hQ
  | succ k ih =>
    intro j hj
    have hjl : j < c.data.length := by omega
    obtain ⟨b1, o1, cs1, p1, q1, i1, i2, i3, i4, i5⟩ := hd.at hjl
    have hb := hB _ (List.getElem_mem hjl)
    have e1 : pre ++ (c.data.take (j + 1)).map hexW = (pre ++ (c.data.take j).map hexW) ++ [hexW c.data[j]] := by
      rw [List.take_succ_eq_append_getElem hjl, List.map_append, List.append_assoc]; rfl
    have e2 : joinS (pre ++ (c.data.take (j + 1)).map hexW) ⟨#[32]⟩ = joinS (pre ++ (c.data.take j).map hexW) ⟨#[32]⟩ ++ ⟨#[32]⟩ ++ hexW c.data[j] := by
      rw [e1, joinS_snoc]
      intro h
      exact hp (List.append_eq_nil_iff.1 h).1
    have z1 := joinS_size (pre ++ (c.data.take j).map hexW) 40 (fun x hx => by
      rcases List.mem_append.1 hx with hx | hx
      · exact hps x hx
      · obtain ⟨y, hy, rfl⟩ := List.mem_map.1 hx
        rw [hexW_size (hB y (List.mem_of_mem_take hy)).1]; omega)
    have z2 : (pre ++ (c.data.take j).map hexW).length ≤ 26 := by
      rw [List.length_append, List.length_map, List.length_take]; omega
    have z3 := hexW_size hb.1
    refine wr_loopN (L := ac31L0) (b := ac31L0b) rfl ?_
    simp only [ac31L0b]
    simp (implicitDefEqProofs := false) (disch := first | omega | (simp only [size_app, lit_size, List.size_toArray, List.length_cons, List.length_nil]; omega)) only [WPs, opds, List.all_cons, List.all_nil, List.cons_append, List.nil_append, cond_true, cond_false, eq_self, List.map_cons, List.map_nil, Nat.reduceAdd, Nat.testBit, Nat.reduceShiftRight, Nat.reduceAnd, Nat.reduceBNe, Nat.reduceMul, pm, hd.one, hd.len, i1, i3, i5, u8s_one, add_str]
    refine use_pure (u8s_nats hb.2 hb.1 R.blk _ _) fun r1 => ?_
    simp (implicitDefEqProofs := false) (disch := first | omega | (simp only [size_app, lit_size, List.size_toArray, List.length_cons, List.length_nil]; omega)) only [WPs, opds, List.all_cons, List.all_nil, List.cons_append, List.nil_append, cond_true, cond_false, eq_self, List.map_cons, List.map_nil, Nat.reduceAdd, Nat.testBit, Nat.reduceShiftRight, Nat.reduceAnd, Nat.reduceBNe, Nat.reduceMul, add_str]
    rw [← e2]
    exact wr_end' (ih (j + 1) (by omega))
open Classical in
theorem refWords_spec (hE : E 31 = some ac31) (R : RefY E Y) (m : FM) (n : Nat) (c : Cmd) (d : Value) (hv : ValidP c) (hB : Bytes c) (hd : DatV m n d c.data) : Pure (callW PG E Y 31 [cmdV c d] m n) m n (.string (joinS (headT c) ⟨#[32]⟩)) := by
  have o := okay_of hv
  have hk7 := kind_of hv
  obtain ⟨k, hk⟩ : ∃ k : Nat, c.kind = (k : Int) := ⟨c.kind.toNat, by omega⟩
  have hkn : c.kind.toNat = k := by omega
  have o1 := o.tag
  have o2 := o.at_
  have o3 := o.len
  have o4 := o.vol
  have o5 := o.oth
  have i1 := itoa_size (z := c.tag) (by omega) (by omega)
  have i2 := itoa_size (z := c.at_) (by omega) (by omega)
  have i3 := itoa_size (z := c.len) (by omega) (by omega)
  refine pure_spec hE rfl rfl ?_
  simp only [ac31, cmdV]
  simp (implicitDefEqProofs := false) (disch := omega) only [WPs, opds, List.all_cons, List.all_nil, List.cons_append, List.nil_append, cond_true, cond_false, eq_self, List.map_cons, List.map_nil, Nat.reduceAdd, Nat.testBit, Nat.reduceShiftRight, Nat.reduceAnd, Nat.reduceBNe, Nat.reduceMul, hd.one]
  refine use_pure (R.num _ (by omega) _ _ (by omega)) fun r1 => ?_
  simp (implicitDefEqProofs := false) (disch := first | omega | (simp only [size_app, lit_size, List.size_toArray, List.length_cons, List.length_nil]; omega)) only [WPs, opds, List.all_cons, List.all_nil, List.cons_append, List.nil_append, cond_true, cond_false, eq_self, List.map_cons, List.map_nil, Nat.reduceAdd, Nat.testBit, Nat.reduceShiftRight, Nat.reduceAnd, Nat.reduceBNe, Nat.reduceMul, hd.one, add_str]
  refine use_pureX (R.num _ (by omega) _ _ (by omega)) fun r2 => ?_
  simp (implicitDefEqProofs := false) (disch := first | omega | (simp only [size_app, lit_size, List.size_toArray, List.length_cons, List.length_nil]; omega)) only [WPs, opds, List.all_cons, List.all_nil, List.cons_append, List.nil_append, cond_true, cond_false, eq_self, List.map_cons, List.map_nil, Nat.reduceAdd, Nat.testBit, Nat.reduceShiftRight, Nat.reduceAnd, Nat.reduceBNe, Nat.reduceMul, hd.one, add_str]
  refine use_pureX (R.num _ (by omega) _ _ (by omega)) fun r3 => ?_
  simp (implicitDefEqProofs := false) (disch := first | omega | (simp only [size_app, lit_size, List.size_toArray, List.length_cons, List.length_nil]; omega)) only [WPs, opds, List.all_cons, List.all_nil, List.cons_append, List.nil_append, cond_true, cond_false, eq_self, List.map_cons, List.map_nil, Nat.reduceAdd, Nat.testBit, Nat.reduceShiftRight, Nat.reduceAnd, Nat.reduceBNe, Nat.reduceMul, hd.one, add_str, hk]
  unfold headT
  rw [hkn]
  rcases (by omega : k = 1 ∨ k = 2 ∨ k = 3 ∨ k = 4 ∨ k = 5 ∨ k = 6 ∨ k = 7) with rfl | rfl | rfl | rfl | rfl | rfl | rfl
  · simp (implicitDefEqProofs := false) (disch := first | omega | (simp only [size_app, lit_size, List.size_toArray, List.length_cons, List.length_nil]; omega)) only [WPs, opds, List.all_cons, List.all_nil, List.cons_append, List.nil_append, cond_true, cond_false, eq_self, List.map_cons, List.map_nil, Nat.reduceAdd, Nat.testBit, Nat.reduceShiftRight, Nat.reduceAnd, Nat.reduceBNe, Nat.reduceMul, hd.one, add_str]
    simp only [midT, Nat.reduceEqDiff, if_true, if_false, joinS_cons2, joinS_one, str_assoc]; rfl
  · simp (implicitDefEqProofs := false) (disch := first | omega | (simp only [size_app, lit_size, List.size_toArray, List.length_cons, List.length_nil]; omega)) only [WPs, opds, List.all_cons, List.all_nil, List.cons_append, List.nil_append, cond_true, cond_false, eq_self, List.map_cons, List.map_nil, Nat.reduceAdd, Nat.testBit, Nat.reduceShiftRight, Nat.reduceAnd, Nat.reduceBNe, Nat.reduceMul, hd.one, add_str]
    generalize hM0 : (AMem.put m n (some (.cells [.int .i64 c.tag, .int .i64 ((2 : Nat) : Int), .int .i64 c.ord, .bool c.force, .string c.vol, .string c.oth, .int .i64 c.at_, .int .i64 c.len, d] 0 false true)) : FM) = M0
    have pm : M0 n = some (.cells [.int .i64 c.tag, .int .i64 c.kind, .int .i64 c.ord, .bool c.force, .string c.vol, .string c.oth, .int .i64 c.at_, .int .i64 c.len, d] 0 false true) := by rw [← hM0, hk]; exact fput_same _ _ _
    have hd0 : DatV M0 (n + 1) d c.data := hd.frame (by omega) fun b hb => by rw [← hM0, fput_ne _ _ _ _ (by omega)]
    have e0 : (⟨#[119, 114, 105, 116, 101]⟩ : ByteArray) ++ (⟨#[32]⟩ ++ itoaB c.tag) ++ ⟨#[32]⟩ ++ c.vol ++ (⟨#[32]⟩ ++ itoaB c.at_) = joinS ([KW.getD 2 ⟨#[]⟩, itoaB c.tag, c.vol, itoaB c.at_] ++ (c.data.take 0).map hexW) ⟨#[32]⟩ := by
      simp only [List.take_zero, List.map_nil, List.append_nil, joinS_cons2, joinS_one, str_assoc]; rfl
    rw [e0]
    refine wr_kont (refWords_L0 R (by omega) pm hB hd0 (by simp) (by simp) ?_ o.data _ _ _ _ _ _ _ _ _ _ ?_ c.data.length 0 (by omega))
    · intro x hx
      simp only [List.mem_cons, List.not_mem_nil, or_false] at hx
      have := kw_size (k := 2) (by omega)
      rcases hx with rfl | rfl | rfl | rfl <;> omega
    intro rr
    simp (implicitDefEqProofs := false) (disch := omega) only [WPs, opds, List.all_cons, List.all_nil, List.cons_append, List.nil_append, cond_true, cond_false, eq_self, List.map_cons, List.map_nil, Nat.reduceAdd, Nat.testBit, Nat.reduceShiftRight, Nat.reduceAnd, Nat.reduceBNe, Nat.reduceMul]
    rfl
  · simp (implicitDefEqProofs := false) (disch := first | omega | (simp only [size_app, lit_size, List.size_toArray, List.length_cons, List.length_nil]; omega)) only [WPs, opds, List.all_cons, List.all_nil, List.cons_append, List.nil_append, cond_true, cond_false, eq_self, List.map_cons, List.map_nil, Nat.reduceAdd, Nat.testBit, Nat.reduceShiftRight, Nat.reduceAnd, Nat.reduceBNe, Nat.reduceMul, hd.one, add_str]
    simp only [midT, Nat.reduceEqDiff, if_true, if_false, joinS_cons2, joinS_one, str_assoc]; rfl
  · simp (implicitDefEqProofs := false) (disch := first | omega | (simp only [size_app, lit_size, List.size_toArray, List.length_cons, List.length_nil]; omega)) only [WPs, opds, List.all_cons, List.all_nil, List.cons_append, List.nil_append, cond_true, cond_false, eq_self, List.map_cons, List.map_nil, Nat.reduceAdd, Nat.testBit, Nat.reduceShiftRight, Nat.reduceAnd, Nat.reduceBNe, Nat.reduceMul, hd.one, add_str]
    simp only [midT, Nat.reduceEqDiff, if_true, if_false, joinS_cons2, joinS_one, str_assoc]; rfl
  · simp (implicitDefEqProofs := false) (disch := first | omega | (simp only [size_app, lit_size, List.size_toArray, List.length_cons, List.length_nil]; omega)) only [WPs, opds, List.all_cons, List.all_nil, List.cons_append, List.nil_append, cond_true, cond_false, eq_self, List.map_cons, List.map_nil, Nat.reduceAdd, Nat.testBit, Nat.reduceShiftRight, Nat.reduceAnd, Nat.reduceBNe, Nat.reduceMul, hd.one, add_str]
    simp only [midT, Nat.reduceEqDiff, if_true, if_false, joinS_cons2, joinS_one, str_assoc]; rfl
  · simp (implicitDefEqProofs := false) (disch := first | omega | (simp only [size_app, lit_size, List.size_toArray, List.length_cons, List.length_nil]; omega)) only [WPs, opds, List.all_cons, List.all_nil, List.cons_append, List.nil_append, cond_true, cond_false, eq_self, List.map_cons, List.map_nil, Nat.reduceAdd, Nat.testBit, Nat.reduceShiftRight, Nat.reduceAnd, Nat.reduceBNe, Nat.reduceMul, hd.one, add_str]
    simp only [midT, Nat.reduceEqDiff, if_true, if_false, joinS_cons2, joinS_one, str_assoc]; rfl
  · simp (implicitDefEqProofs := false) (disch := first | omega | (simp only [size_app, lit_size, List.size_toArray, List.length_cons, List.length_nil]; omega)) only [WPs, opds, List.all_cons, List.all_nil, List.cons_append, List.nil_append, cond_true, cond_false, eq_self, List.map_cons, List.map_nil, Nat.reduceAdd, Nat.testBit, Nat.reduceShiftRight, Nat.reduceAnd, Nat.reduceBNe, Nat.reduceMul, hd.one, add_str]
    simp only [midT, Nat.reduceEqDiff, if_true, if_false, joinS_cons2, joinS_one, str_assoc]; rfl
theorem refText_spec (hE : E 19 = some ac19) (h36 : E 31 = some ac31) (R : RefY E Y) (hV : Vals E Y) (m : FM) (n : Nat) (c : Cmd) (d : Value) (hF : c.Fit) (hB : Bytes c) (hd : DatV m n d c.data) : Pure (callW PG E Y 19 [cmdV c d] m n) m n (.string (textB c)) := by
  refine pure_spec hE rfl rfl ?_
  simp only [ac19, cmdV]
  simp (implicitDefEqProofs := false) (disch := omega) only [WPs, opds, List.all_cons, List.all_nil, List.cons_append, List.nil_append, cond_true, cond_false, eq_self, List.map_cons, List.map_nil, Nat.reduceAdd, Nat.testBit, Nat.reduceShiftRight, Nat.reduceAnd, Nat.reduceBNe, Nat.reduceMul, hd.one, hd.len]
  refine use_pure (hV.v32 _ _ c d hF (hd.frame (by omega) fun b hb => by simp (implicitDefEqProofs := false) (disch := omega) only [WPs, opds, List.all_cons, List.all_nil, List.cons_append, List.nil_append, cond_true, cond_false, eq_self, List.map_cons, List.map_nil, Nat.reduceAdd, Nat.testBit, Nat.reduceShiftRight, Nat.reduceAnd, Nat.reduceBNe, Nat.reduceMul])) fun r1 => ?_
  by_cases hv : ValidP c
  case neg =>
    rw [textB_f hv]
    simp (implicitDefEqProofs := false) (disch := omega) only [WPs, opds, List.all_cons, List.all_nil, List.cons_append, List.nil_append, cond_true, cond_false, eq_self, List.map_cons, List.map_nil, Nat.reduceAdd, Nat.testBit, Nat.reduceShiftRight, Nat.reduceAnd, Nat.reduceBNe, Nat.reduceMul, validB_f hv, Bool.not_false, hd.one]
  have hd1 : DatV (AMem.put m n (some (.cells [.int .i64 c.tag, .int .i64 c.kind, .int .i64 c.ord, .bool c.force, .string c.vol, .string c.oth, .int .i64 c.at_, .int .i64 c.len, d] 0 false true)) : FM) (n + 1) d c.data := hd.frame (by omega) fun b hb => by rw [fput_ne _ _ _ _ (by omega)]
  rw [textB_t hv]
  simp (implicitDefEqProofs := false) (disch := omega) only [WPs, opds, List.all_cons, List.all_nil, List.cons_append, List.nil_append, cond_true, cond_false, eq_self, List.map_cons, List.map_nil, Nat.reduceAdd, Nat.testBit, Nat.reduceShiftRight, Nat.reduceAnd, Nat.reduceBNe, Nat.reduceMul, validB_t hv, Bool.not_true, hd.one]
  refine use_pure (refWords_spec h36 R _ _ c d hv hB hd1) fun r2 => ?_
  have z1 := mem_sizes hv hB
  have z2 := joinS_size (headT c) 40 (fun x hx => z1 x (List.mem_append_left _ (List.mem_append_left _ hx)))
  have z3 : (headT c).length ≤ 20 := by
    have := mid_len (okay_of hv).data c.kind.toNat
    unfold headT
    rw [List.length_append]
    simp only [List.length_cons, List.length_nil]
    omega
  have hne : headT c ≠ [] := by unfold headT; simp
  have hne2 : headT c ++ [forceW] ≠ [] := by simp
  have ef : ∀ a : ByteArray, a ++ ⟨#[32, 102, 111, 114, 99, 101]⟩ = a ++ ⟨#[32]⟩ ++ forceW := fun a => by rw [str_assoc]; rfl
  have eo : ∀ a : ByteArray, a ++ ⟨#[32, 111, 114, 100, 101, 114, 101, 100]⟩ = a ++ ⟨#[32]⟩ ++ ordW := fun a => by rw [str_assoc]; rfl
  rcases (okay_of hv).ord with ho | ho
  · have e1 : endO c = [] := if_neg (by omega)
    cases hf : c.force
    · have e2 : endF c = [] := if_neg (by rw [hf]; decide)
      unfold textW
      rw [e1, e2, List.append_nil, List.append_nil]
      simp (implicitDefEqProofs := false) (disch := omega) only [WPs, opds, List.all_cons, List.all_nil, List.cons_append, List.nil_append, cond_true, cond_false, eq_self, List.map_cons, List.map_nil, Nat.reduceAdd, Nat.testBit, Nat.reduceShiftRight, Nat.reduceAnd, Nat.reduceBNe, Nat.reduceMul, hd.one, ho]
    · have e2 : endF c = [forceW] := if_pos hf
      unfold textW
      rw [e1, e2, List.append_nil, joinS_snoc hne, ← ef]
      simp (implicitDefEqProofs := false) (disch := first | omega | (simp only [size_app, lit_size, List.size_toArray, List.length_cons, List.length_nil]; omega)) only [WPs, opds, List.all_cons, List.all_nil, List.cons_append, List.nil_append, cond_true, cond_false, eq_self, List.map_cons, List.map_nil, Nat.reduceAdd, Nat.testBit, Nat.reduceShiftRight, Nat.reduceAnd, Nat.reduceBNe, Nat.reduceMul, hd.one, ho, add_str]
  · have e1 : endO c = [ordW] := if_pos ho
    cases hf : c.force
    · have e2 : endF c = [] := if_neg (by rw [hf]; decide)
      unfold textW
      rw [e1, e2, List.append_nil, joinS_snoc hne, ← eo]
      simp (implicitDefEqProofs := false) (disch := first | omega | (simp only [size_app, lit_size, List.size_toArray, List.length_cons, List.length_nil]; omega)) only [WPs, opds, List.all_cons, List.all_nil, List.cons_append, List.nil_append, cond_true, cond_false, eq_self, List.map_cons, List.map_nil, Nat.reduceAdd, Nat.testBit, Nat.reduceShiftRight, Nat.reduceAnd, Nat.reduceBNe, Nat.reduceMul, hd.one, ho, add_str]
    · have e2 : endF c = [forceW] := if_pos hf
      unfold textW
      rw [e1, e2, joinS_snoc hne2, joinS_snoc hne, ← ef, ← eo]
      simp (implicitDefEqProofs := false) (disch := first | omega | (simp only [size_app, lit_size, List.size_toArray, List.length_cons, List.length_nil]; omega)) only [WPs, opds, List.all_cons, List.all_nil, List.cons_append, List.nil_append, cond_true, cond_false, eq_self, List.map_cons, List.map_nil, Nat.reduceAdd, Nat.testBit, Nat.reduceShiftRight, Nat.reduceAnd, Nat.reduceBNe, Nat.reduceMul, hd.one, ho, add_str]
end Go.Am.C39
namespace Go.Am.C39
set_option maxRecDepth 100000
open Go Go.Am
variable {E : Nat → Option AFn} {Y : Nat → List Value → FM → Nat → OR FM}
theorem refSame_L0 {M0 : FM} {N pa pb : Nat} {c d : Cmd} {cd dd : Value} (hpa : pa < N) (hpb : pb < N) (hA : M0 pa = some (.cells (c.cells cd) 0 false true)) (hB : M0 pb = some (.cells (d.cells dd) 0 false true))
    (hc : DatV M0 N cd c.data) (hd : DatV M0 N dd d.data) (hl : d.data.length = c.data.length) (hs : c.data.length ≤ 9223372036854775807) (x0 x2 x3 x4 : Value) (ys : List Value) {Q : AX → List Value → FM → Nat → Nat → Prop}
    (hQt : c.data = d.data → Q (.exit 0) (x0 :: x2 :: x3 :: x4 :: .pointer (some ⟨pb, 0, none⟩) :: .pointer (some ⟨pa, 0, none⟩) :: ys) M0 N 0)
    (hQf : c.data ≠ d.data → ∀ e', Q (.ret (.bool false)) e' M0 N 0) : ∀ k j, j + k = c.data.length → c.data.take j = d.data.take j →
    Gv (execW PG E Y ac7L0 (x0 :: .int .i64 (j : Int) :: x2 :: x3 :: x4 :: .pointer (some ⟨pb, 0, none⟩) :: .pointer (some ⟨pa, 0, none⟩) :: ys) M0 N) fun X e M N w => Q X e M N (Nat.lor 0 w) := by
  intro k
  induction k with
  | zero =>
    intro j hj ht
    refine wr_loopN (L := ac7L0) (b := ac7L0b) rfl ?_
    simp only [ac7L0b]
    simp (implicitDefEqProofs := false) (disch := omega) only [WPs, opds, List.all_cons, List.all_nil, List.cons_append, List.nil_append, cond_true, cond_false, eq_self, List.map_cons, List.map_nil, Nat.reduceAdd, Nat.testBit, Nat.reduceShiftRight, Nat.reduceAnd, Nat.reduceBNe, Nat.reduceMul, hA, hB, Cmd.cells, hc.one, hd.one, hc.len, hd.len]
    refine hQt ?_
    rw [← List.take_of_length_le (show c.data.length ≤ j by omega), ht, List.take_of_length_le (show d.data.length ≤ j by omega)]
  | succ k ih =>
    intro j hj ht
    have hjc : j < c.data.length := by omega
    have hjd : j < d.data.length := by omega
    obtain ⟨b1, o1, cs1, p1, q1, i1, i2, i3, i4, i5⟩ := hc.at hjc
    obtain ⟨b2, o2, cs2, p2, q2, g1, g2, g3, g4, g5⟩ := hd.at hjd
    refine wr_loopN (L := ac7L0) (b := ac7L0b) rfl ?_
    simp only [ac7L0b]
    by_cases he : c.data[j] = d.data[j]
    · have hne : (!decide (c.data[j] = d.data[j])) = false := by rw [decide_eq_true he]; rfl
      simp (implicitDefEqProofs := false) (disch := omega) only [WPs, opds, List.all_cons, List.all_nil, List.cons_append, List.nil_append, cond_true, cond_false, eq_self, List.map_cons, List.map_nil, Nat.reduceAdd, Nat.testBit, Nat.reduceShiftRight, Nat.reduceAnd, Nat.reduceBNe, Nat.reduceMul, hA, hB, Cmd.cells, hc.one, hd.one, hc.len, hd.len, hc.bel, hd.bel, i1, i3, i5, u8s_one, u8s_bel, g1, g3, g5, neq51 i4 g4, hne]
      have ht' : c.data.take (j + 1) = d.data.take (j + 1) := by
        rw [List.take_succ_eq_append_getElem hjc, List.take_succ_eq_append_getElem hjd, ht, he]
      exact wr_end' (ih (j + 1) (by omega) ht')
    · have hne : (!decide (c.data[j] = d.data[j])) = true := by rw [decide_eq_false he]; rfl
      simp (implicitDefEqProofs := false) (disch := omega) only [WPs, opds, List.all_cons, List.all_nil, List.cons_append, List.nil_append, cond_true, cond_false, eq_self, List.map_cons, List.map_nil, Nat.reduceAdd, Nat.testBit, Nat.reduceShiftRight, Nat.reduceAnd, Nat.reduceBNe, Nat.reduceMul, hA, hB, Cmd.cells, hc.one, hd.one, hc.len, hd.len, hc.bel, hd.bel, i1, i3, i5, u8s_one, u8s_bel, g1, g3, g5, neq51 i4 g4, hne]
      refine hQf (fun h => he ?_) _
      simp only [h]
theorem refSame_spec (hE : E 7 = some ac7) (m : FM) (n : Nat) (c d : Cmd) (cd dd : Value) (hc : DatV m n cd c.data) (hd : DatV m n dd d.data) (hs : c.data.length ≤ 9223372036854775807) (hs' : d.data.length ≤ 9223372036854775807) :
    Pure (callW PG E Y 7 [cmdV c cd, cmdV d dd] m n) m n (.bool (sameB c d)) := by
  refine pure_spec hE rfl rfl ?_
  simp only [ac7, cmdV]
  by_cases h0 : c.data.length = d.data.length
  · simp (implicitDefEqProofs := false) (disch := omega) only [WPs, opds, List.all_cons, List.all_nil, List.cons_append, List.nil_append, cond_true, cond_false, eq_self, List.map_cons, List.map_nil, Nat.reduceAdd, Nat.testBit, Nat.reduceShiftRight, Nat.reduceAnd, Nat.reduceBNe, Nat.reduceMul, hc.one, hd.one, hc.len, hd.len]
    have hc' : DatV (AMem.put (AMem.put m n (some (.cells (c.cells cd) 0 false true))) (n + 1) (some (.cells (d.cells dd) 0 false true)) : FM) (n + 2) cd c.data := hc.frame (by omega) fun b hb => by rw [fput_ne _ _ _ _ (by omega), fput_ne _ _ _ _ (by omega)]
    have hd' : DatV (AMem.put (AMem.put m n (some (.cells (c.cells cd) 0 false true))) (n + 1) (some (.cells (d.cells dd) 0 false true)) : FM) (n + 2) dd d.data := hd.frame (by omega) fun b hb => by rw [fput_ne _ _ _ _ (by omega), fput_ne _ _ _ _ (by omega)]
    generalize hM0 : (AMem.put (AMem.put m n (some (.cells (c.cells cd) 0 false true))) (n + 1) (some (.cells (d.cells dd) 0 false true)) : FM) = M0 at hc' hd'
    have hMa : M0 n = some (.cells (c.cells cd) 0 false true) := by rw [← hM0, fput_ne _ _ _ _ (by omega)]; exact fput_same _ _ _
    have hMb : M0 (n + 1) = some (.cells (d.cells dd) 0 false true) := by rw [← hM0]; exact fput_same _ _ _
    simp only [Cmd.cells] at hM0
    rw [hM0]
    refine wr_kont (refSame_L0 (by omega) (by omega) hMa hMb hc' hd' h0.symm hs _ _ _ _ _ (fun hdat => ?_) (fun hdat e' => ?_) c.data.length 0 (by omega) (by rw [List.take_zero, List.take_zero]))
    · intro rr
      have hd0 := decide_eq_true hdat
      unfold sameB
      by_cases e0 : c.tag = d.tag
      case neg =>
        simp only [hd0, decide_eq_false e0, Bool.true_and, Bool.false_and, Bool.and_false]
        simp (implicitDefEqProofs := false) (disch := omega) only [WPs, opds, List.all_cons, List.all_nil, List.cons_append, List.nil_append, cond_true, cond_false, eq_self, List.map_cons, List.map_nil, Nat.reduceAdd, Nat.testBit, Nat.reduceShiftRight, Nat.reduceAnd, Nat.reduceBNe, Nat.reduceMul, hMa, hMb, Cmd.cells, eql_bools 4 t4, STs, decide_eq_false e0]
      by_cases e1 : c.kind = d.kind
      case neg =>
        simp only [hd0, decide_eq_true e0, decide_eq_false e1, Bool.true_and, Bool.false_and, Bool.and_false]
        simp (implicitDefEqProofs := false) (disch := omega) only [WPs, opds, List.all_cons, List.all_nil, List.cons_append, List.nil_append, cond_true, cond_false, eq_self, List.map_cons, List.map_nil, Nat.reduceAdd, Nat.testBit, Nat.reduceShiftRight, Nat.reduceAnd, Nat.reduceBNe, Nat.reduceMul, hMa, hMb, Cmd.cells, eql_bools 4 t4, STs, decide_eq_true e0, decide_eq_false e1]
      by_cases e2 : c.ord = d.ord
      case neg =>
        simp only [hd0, decide_eq_true e0, decide_eq_true e1, decide_eq_false e2, Bool.true_and, Bool.false_and, Bool.and_false]
        simp (implicitDefEqProofs := false) (disch := omega) only [WPs, opds, List.all_cons, List.all_nil, List.cons_append, List.nil_append, cond_true, cond_false, eq_self, List.map_cons, List.map_nil, Nat.reduceAdd, Nat.testBit, Nat.reduceShiftRight, Nat.reduceAnd, Nat.reduceBNe, Nat.reduceMul, hMa, hMb, Cmd.cells, eql_bools 4 t4, STs, decide_eq_true e0, decide_eq_true e1, decide_eq_false e2]
      by_cases e3 : c.force = d.force
      case neg =>
        simp only [hd0, decide_eq_true e0, decide_eq_true e1, decide_eq_true e2, decide_eq_false e3, Bool.true_and, Bool.false_and, Bool.and_false]
        simp (implicitDefEqProofs := false) (disch := omega) only [WPs, opds, List.all_cons, List.all_nil, List.cons_append, List.nil_append, cond_true, cond_false, eq_self, List.map_cons, List.map_nil, Nat.reduceAdd, Nat.testBit, Nat.reduceShiftRight, Nat.reduceAnd, Nat.reduceBNe, Nat.reduceMul, hMa, hMb, Cmd.cells, eql_bools 4 t4, STs, decide_eq_true e0, decide_eq_true e1, decide_eq_true e2, decide_eq_false e3]
      by_cases e4 : c.vol = d.vol
      case neg =>
        simp only [hd0, decide_eq_true e0, decide_eq_true e1, decide_eq_true e2, decide_eq_true e3, decide_eq_false e4, Bool.true_and, Bool.false_and, Bool.and_false]
        simp (implicitDefEqProofs := false) (disch := omega) only [WPs, opds, List.all_cons, List.all_nil, List.cons_append, List.nil_append, cond_true, cond_false, eq_self, List.map_cons, List.map_nil, Nat.reduceAdd, Nat.testBit, Nat.reduceShiftRight, Nat.reduceAnd, Nat.reduceBNe, Nat.reduceMul, hMa, hMb, Cmd.cells, eql_bools 4 t4, STs, decide_eq_true e0, decide_eq_true e1, decide_eq_true e2, decide_eq_true e3, decide_eq_false e4]
      by_cases e5 : c.oth = d.oth
      case neg =>
        simp only [hd0, decide_eq_true e0, decide_eq_true e1, decide_eq_true e2, decide_eq_true e3, decide_eq_true e4, decide_eq_false e5, Bool.true_and, Bool.false_and, Bool.and_false]
        simp (implicitDefEqProofs := false) (disch := omega) only [WPs, opds, List.all_cons, List.all_nil, List.cons_append, List.nil_append, cond_true, cond_false, eq_self, List.map_cons, List.map_nil, Nat.reduceAdd, Nat.testBit, Nat.reduceShiftRight, Nat.reduceAnd, Nat.reduceBNe, Nat.reduceMul, hMa, hMb, Cmd.cells, eql_bools 4 t4, STs, decide_eq_true e0, decide_eq_true e1, decide_eq_true e2, decide_eq_true e3, decide_eq_true e4, decide_eq_false e5]
      by_cases e6 : c.at_ = d.at_
      case neg =>
        simp only [hd0, decide_eq_true e0, decide_eq_true e1, decide_eq_true e2, decide_eq_true e3, decide_eq_true e4, decide_eq_true e5, decide_eq_false e6, Bool.true_and, Bool.false_and, Bool.and_false]
        simp (implicitDefEqProofs := false) (disch := omega) only [WPs, opds, List.all_cons, List.all_nil, List.cons_append, List.nil_append, cond_true, cond_false, eq_self, List.map_cons, List.map_nil, Nat.reduceAdd, Nat.testBit, Nat.reduceShiftRight, Nat.reduceAnd, Nat.reduceBNe, Nat.reduceMul, hMa, hMb, Cmd.cells, eql_bools 4 t4, STs, decide_eq_true e0, decide_eq_true e1, decide_eq_true e2, decide_eq_true e3, decide_eq_true e4, decide_eq_true e5, decide_eq_false e6]
      simp only [hd0, decide_eq_true e0, decide_eq_true e1, decide_eq_true e2, decide_eq_true e3, decide_eq_true e4, decide_eq_true e5, decide_eq_true e6, Bool.true_and]
      simp (implicitDefEqProofs := false) (disch := omega) only [WPs, opds, List.all_cons, List.all_nil, List.cons_append, List.nil_append, cond_true, cond_false, eq_self, List.map_cons, List.map_nil, Nat.reduceAdd, Nat.testBit, Nat.reduceShiftRight, Nat.reduceAnd, Nat.reduceBNe, Nat.reduceMul, hMa, hMb, Cmd.cells, eql_bools 4 t4, STs, decide_eq_true e0, decide_eq_true e1, decide_eq_true e2, decide_eq_true e3, decide_eq_true e4, decide_eq_true e5, decide_eq_true e6]
    · have : sameB c d = false := by unfold sameB; rw [decide_eq_false hdat]; rfl
      rw [this]
      intro rr
      simp (implicitDefEqProofs := false) (disch := omega) only [WPs, opds, List.all_cons, List.all_nil, List.cons_append, List.nil_append, cond_true, cond_false, eq_self, List.map_cons, List.map_nil, Nat.reduceAdd, Nat.testBit, Nat.reduceShiftRight, Nat.reduceAnd, Nat.reduceBNe, Nat.reduceMul]
  · have : sameB c d = false := by unfold sameB; rw [decide_eq_false (fun h => h0 (by rw [h]))]; rfl
    rw [this]
    simp (implicitDefEqProofs := false) (disch := omega) only [WPs, opds, List.all_cons, List.all_nil, List.cons_append, List.nil_append, cond_true, cond_false, eq_self, List.map_cons, List.map_nil, Nat.reduceAdd, Nat.testBit, Nat.reduceShiftRight, Nat.reduceAnd, Nat.reduceBNe, Nat.reduceMul, hc.one, hd.one, hc.len, hd.len]
end Go.Am.C39
namespace Go.Am.C39
set_option maxRecDepth 100000
open Go Go.Am Go.Am.V
variable {E : Nat → Option AFn} {Y : Nat → List Value → FM → Nat → OR FM}
structure Texts (E : Nat → Option AFn) (Y : Nat → List Value → FM → Nat → OR FM) : Prop where
  t13 : ∀ (m : FM) (n : Nat) (c : Cmd) (d : Value), c.Fit → Bytes c → DatV m n d c.data → Pure (callW PG E Y 8 [cmdV c d] m n) m n (.string (textB c))
  t18 : ∀ (m : FM) (n : Nat) (c : Cmd) (d : Value), c.Fit → Bytes c → DatV m n d c.data → Pure (callW PG E Y 19 [cmdV c d] m n) m n (.string (textB c))
end Go.Am.C39
namespace Go.Am.C39
set_option maxRecDepth 100000
open Go Go.Am Go.Am.V
variable {E : Nat → Option AFn} {Y : Nat → List Value → FM → Nat → OR FM}
def zeroC : Cmd := ⟨0, 0, 0, false, ⟨#[]⟩, ⟨#[]⟩, 0, 0, []⟩
def spS : ByteArray := ⟨#[32]⟩
def wsS (s : ByteArray) : List ByteArray := splitL s ⟨#[32]⟩
def dropW (f : Bool) (ws : List ByteArray) : List ByteArray := if f = true then ws.take (ws.length - 1) else ws
def twW (s : ByteArray) (f : Bool) (o : Int) : List ByteArray := dropW f (dropW (decide (o = 1)) (wsS s))
def candC (c : Cmd) (s : ByteArray) (f : Bool) (o : Int) : Cmd :=
  { c with force := f, ord := o, vol := if 2 < (twW s f o).length then atW (twW s f o) 2 else c.vol, oth := if c.kind = 6 ∧ 3 < (twW s f o).length then atW (twW s f o) 3 else c.oth }
def hitP (c : Cmd) (s : ByteArray) (f : Bool) (o : Int) : Prop := s ≠ ⟨#[]⟩ ∧ textB (candC c s f o) = s
def blkC : AC → AC
  | .block _ _ c => c
  | x => x
def pstC : AC → AC
  | .post c _ _ => c
  | x => x
def tB : AC := pstC (blkC (sqA (sqB (sqB (pstC ac14L0b)))))
def tp0 : AC := sqA tB
def tp1 : AC := sqA (sqB tB)
def tp2 : AC := sqA (sqB (sqB tB))
def tp3 : AC := sqA (sqB (sqB (sqB tB)))
def tr4 : AC := sqB (sqB (sqB (sqB tB)))
def tp4 : AC := sqA tr4
def tr5 : AC := sqB tr4
def tp5 : AC := sqA tr5
def tr6 : AC := sqB tr5
def tp6 : AC := sqA tr6
def tr7 : AC := sqB tr6
def tp7 : AC := sqA tr7
def tr8 : AC := sqB tr7
def ta : AC := sqA (pstC ac14L0b)
def tb : AC := sqA (sqB (pstC ac14L0b))
def tc : AC := sqB (sqB (sqB (pstC ac14L0b)))
theorem l28 : ac14L0b = .post (.seq ta (.seq tb (.seq (.block 3 [[7], [23], [], [22], [], [21], [20], [19, 9], [18], [17], [], [16], [], [15], [14], [], [6], [3], [0], [1], [2]] (.post (.seq tp0 (.seq tp1 (.seq tp2 (.seq tp3 tr4)))) [30] 29)) tc))) [1, 0] 5 := rfl
theorem tr4_eq : tr4 = .seq tp4 tr5 := rfl
theorem tr5_eq : tr5 = .seq tp5 tr6 := rfl
theorem tr6_eq : tr6 = .seq tp6 tr7 := rfl
theorem tr7_eq : tr7 = .seq tp7 tr8 := rfl
theorem mx_nat (k : Nat) : mxV (.int .i64 (k : Int)) (.int .i64 0) = some (.int .i64 (k : Int)) := by
  show some (Value.int .i64 (cond (ltB (k : Int) 0) 0 (k : Int))) = _
  have : ltB (k : Int) 0 = false := by rw [ltB_eq, decide_eq_false_iff_not]; omega
  rw [this]; rfl
theorem mx_neg : mxV (.int .i64 (((0 : Nat) : Int) - 1)) (.int .i64 0) = some (.int .i64 ((0 - 1 : Nat) : Int)) := by
  show some (Value.int .i64 (cond (ltB (((0 : Nat) : Int) - 1) 0) 0 _)) = _
  have : ltB (((0 : Nat) : Int) - 1) 0 = true := by rw [ltB_eq, decide_eq_true_iff]; omega
  rw [this]; rfl
theorem st9 {cs vs : List Value} (hc : cs.length = 9) (hv : vs.length = 9) : setCells cs 0 vs = some vs := by
  rw [setCells_eq, if_pos (by omega), List.take_zero, List.nil_append, List.drop_eq_nil_of_le (by omega), List.append_nil]
section
variable {K : List Frm} {Q : AX → List Value → FM → Nat → Nat → Prop} {w0 : Nat}
theorem tw_ord {M : FM} {n0 N N' : Nat} {v : Value} {ws : List ByteArray} (hL : LV M n0 N v ws) (hN : N ≤ N') (hl2 : ws.length ≤ 100000) (a1 a2 a3 a4 : Value) (o : Int) (ys : List Value)
    (hk : ∀ v' b, LV M n0 N v' (dropW (decide (o = 1)) ws) → Wr PG E Y K w0 (execW PG E Y tr5 (v' :: b :: v :: a1 :: a2 :: a3 :: a4 :: .int .i64 o :: ys) M N') Q) :
    Wr PG E Y K w0 (execW PG E Y tr4 (v :: a1 :: a2 :: a3 :: a4 :: .int .i64 o :: ys) M N') Q := by
  rw [tr4_eq]
  simp only [tp4, tr4, tB, sqA, sqB, blkC, pstC, ac14L0b]
  by_cases h : o = 1
  · rw [decide_eq_true h] at hk
    obtain ⟨v', hp, hL'⟩ := hL.cut hN (k := ws.length - 1) (by omega)
    by_cases hl : 0 < ws.length
    · simp (implicitDefEqProofs := false) (disch := omega) only [WPs, opds, List.all_cons, List.all_nil, List.cons_append, List.nil_append, cond_true, cond_false, eq_self, List.map_cons, List.map_nil, Nat.reduceAdd, Nat.testBit, Nat.reduceShiftRight, Nat.reduceAnd, Nat.reduceBNe, Nat.reduceMul, hL.len, hL.one, decide_eq_true h, mx_nat, s_slc]
      refine use_pure hp fun r1 => ?_
      simp (implicitDefEqProofs := false) (disch := omega) only [WPs, opds, List.all_cons, List.all_nil, List.cons_append, List.nil_append, cond_true, cond_false, eq_self, List.map_cons, List.map_nil, Nat.reduceAdd, Nat.testBit, Nat.reduceShiftRight, Nat.reduceAnd, Nat.reduceBNe, Nat.reduceMul]
      exact hk _ _ hL'
    · have h0 : ws.length = 0 := by omega
      rw [h0] at hp
      simp (implicitDefEqProofs := false) (disch := omega) only [WPs, opds, List.all_cons, List.all_nil, List.cons_append, List.nil_append, cond_true, cond_false, eq_self, List.map_cons, List.map_nil, Nat.reduceAdd, Nat.testBit, Nat.reduceShiftRight, Nat.reduceAnd, Nat.reduceBNe, Nat.reduceMul, hL.len, hL.one, decide_eq_true h, h0, s_slc, mx_neg]
      refine use_pure hp fun r1 => ?_
      simp (implicitDefEqProofs := false) (disch := omega) only [WPs, opds, List.all_cons, List.all_nil, List.cons_append, List.nil_append, cond_true, cond_false, eq_self, List.map_cons, List.map_nil, Nat.reduceAdd, Nat.testBit, Nat.reduceShiftRight, Nat.reduceAnd, Nat.reduceBNe, Nat.reduceMul]
      exact hk _ _ hL'
  · rw [decide_eq_false h] at hk
    simp (implicitDefEqProofs := false) (disch := omega) only [WPs, opds, List.all_cons, List.all_nil, List.cons_append, List.nil_append, cond_true, cond_false, eq_self, List.map_cons, List.map_nil, Nat.reduceAdd, Nat.testBit, Nat.reduceShiftRight, Nat.reduceAnd, Nat.reduceBNe, Nat.reduceMul, hL.len, hL.one, decide_eq_false h]
    exact hk _ _ hL
theorem tw_frc {M : FM} {n0 N N' : Nat} {v : Value} {ws : List ByteArray} (hL : LV M n0 N v ws) (hN : N ≤ N') (hl2 : ws.length ≤ 100000) (a1 a2 a3 a4 a5 a6 a7 a8 a9 a10 a11 a12 a13 a14 : Value) (f : Bool) (ys : List Value)
    (hk : ∀ v', LV M n0 N v' (dropW f ws) → Wr PG E Y K w0 (execW PG E Y tr6 (v' :: v :: a1 :: a2 :: a3 :: a4 :: a5 :: a6 :: a7 :: a8 :: a9 :: a10 :: a11 :: a12 :: a13 :: a14 :: .bool f :: ys) M N') Q) :
    Wr PG E Y K w0 (execW PG E Y tr5 (v :: a1 :: a2 :: a3 :: a4 :: a5 :: a6 :: a7 :: a8 :: a9 :: a10 :: a11 :: a12 :: a13 :: a14 :: .bool f :: ys) M N') Q := by
  rw [tr5_eq]
  simp only [tp5, tr5, tr4, tB, sqA, sqB, blkC, pstC, ac14L0b]
  cases f
  · simp (implicitDefEqProofs := false) (disch := omega) only [WPs, opds, List.all_cons, List.all_nil, List.cons_append, List.nil_append, cond_true, cond_false, eq_self, List.map_cons, List.map_nil, Nat.reduceAdd, Nat.testBit, Nat.reduceShiftRight, Nat.reduceAnd, Nat.reduceBNe, Nat.reduceMul, hL.len, hL.one]
    exact hk _ hL
  · obtain ⟨v', hp, hL'⟩ := hL.cut hN (k := ws.length - 1) (by omega)
    by_cases hl : 0 < ws.length
    · simp (implicitDefEqProofs := false) (disch := omega) only [WPs, opds, List.all_cons, List.all_nil, List.cons_append, List.nil_append, cond_true, cond_false, eq_self, List.map_cons, List.map_nil, Nat.reduceAdd, Nat.testBit, Nat.reduceShiftRight, Nat.reduceAnd, Nat.reduceBNe, Nat.reduceMul, hL.len, hL.one, mx_nat, s_slc]
      refine use_pure hp fun r1 => ?_
      simp (implicitDefEqProofs := false) (disch := omega) only [WPs, opds, List.all_cons, List.all_nil, List.cons_append, List.nil_append, cond_true, cond_false, eq_self, List.map_cons, List.map_nil, Nat.reduceAdd, Nat.testBit, Nat.reduceShiftRight, Nat.reduceAnd, Nat.reduceBNe, Nat.reduceMul]
      exact hk _ hL'
    · have h0 : ws.length = 0 := by omega
      rw [h0] at hp
      simp (implicitDefEqProofs := false) (disch := omega) only [WPs, opds, List.all_cons, List.all_nil, List.cons_append, List.nil_append, cond_true, cond_false, eq_self, List.map_cons, List.map_nil, Nat.reduceAdd, Nat.testBit, Nat.reduceShiftRight, Nat.reduceAnd, Nat.reduceBNe, Nat.reduceMul, hL.len, hL.one, h0, s_slc, mx_neg]
      refine use_pure hp fun r1 => ?_
      simp (implicitDefEqProofs := false) (disch := omega) only [WPs, opds, List.all_cons, List.all_nil, List.cons_append, List.nil_append, cond_true, cond_false, eq_self, List.map_cons, List.map_nil, Nat.reduceAdd, Nat.testBit, Nat.reduceShiftRight, Nat.reduceAnd, Nat.reduceBNe, Nat.reduceMul]
      exact hk _ hL'
theorem atW_lt {ws : List ByteArray} {i : Nat} (h : i < ws.length) : atW ws i = ws[i] := by unfold atW; rw [List.getD_eq_getElem?_getD, List.getElem?_eq_getElem h]; rfl
theorem tw_vol {M : FM} {n0 N N' dq : Nat} {v : Value} {ws : List ByteArray} (hL : LV M n0 N v ws) (hN : N ≤ N') (hl2 : ws.length ≤ 100000) (hq : dq < n0) (hq2 : n0 ≤ N) {e : Cmd} {cd : Value} (hcd : Am.one cd = true) (hM : M dq = some (.cells (e.cells cd) 0 false true)) (a1 a2 a3 a4 a5 : Value) (ys : List Value)
    (hk : ∀ M' w' g1 g2, M' dq = some (.cells (({ e with vol := if 2 < ws.length then atW ws 2 else e.vol } : Cmd).cells cd) 0 false true) → (∀ b, b ≠ dq → M' b = M b) → (∀ j, j ≤ dq → Nat.mod w0 (bit j) = 0 → Nat.mod w' (bit j) = 0) → Wr PG E Y K w' (execW PG E Y tr7 (g1 :: g2 :: v :: a1 :: a2 :: a3 :: a4 :: a5 :: .pointer (some ⟨dq, 0, none⟩) :: ys) M' N') Q) :
    Wr PG E Y K w0 (execW PG E Y tr6 (v :: a1 :: a2 :: a3 :: a4 :: a5 :: .pointer (some ⟨dq, 0, none⟩) :: ys) M N') Q := by
  rw [tr6_eq]
  simp only [tp6, tr6, tr5, tr4, tB, sqA, sqB, blkC, pstC, ac14L0b]
  simp only [Cmd.cells] at hM
  by_cases h : 2 < ws.length
  · obtain ⟨b, cs, opn, wr, h1, h2, h3, h4⟩ := hL.at h
    rw [if_pos h, atW_lt h] at hk
    simp (implicitDefEqProofs := false) (disch := omega) only [WPs, opds, List.all_cons, List.all_nil, List.cons_append, List.nil_append, cond_true, cond_false, eq_self, List.map_cons, List.map_nil, Nat.reduceAdd, Nat.testBit, Nat.reduceShiftRight, Nat.reduceAnd, Nat.reduceBNe, Nat.reduceMul, hL.len, hL.one, h1, h3, h4, hM, hcd]
    exact hk _ _ _ _ (fput_same _ _ _) (fun b hb => fput_ne _ _ _ _ hb) (fun j hj hw => by rw [frz_iff]; exact ⟨hw, frz_bit hj⟩)
  · rw [if_neg h] at hk
    simp (implicitDefEqProofs := false) (disch := omega) only [WPs, opds, List.all_cons, List.all_nil, List.cons_append, List.nil_append, cond_true, cond_false, eq_self, List.map_cons, List.map_nil, Nat.reduceAdd, Nat.testBit, Nat.reduceShiftRight, Nat.reduceAnd, Nat.reduceBNe, Nat.reduceMul, hL.len, hL.one]
    exact hk _ _ _ _ hM (fun b hb => rfl) (fun j hj hw => hw)
theorem tw_oth {M : FM} {n0 N N' dq : Nat} {v : Value} {ws : List ByteArray} (hL : LV M n0 N v ws) (hN : N ≤ N') (hl2 : ws.length ≤ 100000) (hq : dq < n0) (hq2 : n0 ≤ N) {e : Cmd} {cd : Value} (hcd : Am.one cd = true) (hM : M dq = some (.cells (e.cells cd) 0 false true)) (g1 g2 a1 a2 a3 a4 a5 : Value) (ys : List Value)
    (hk : ∀ M' w' p1 p2 p3 p4 p5 p6 p7, M' dq = some (.cells (({ e with oth := if e.kind = 6 ∧ 3 < ws.length then atW ws 3 else e.oth } : Cmd).cells cd) 0 false true) → (∀ b, b ≠ dq → M' b = M b) → (∀ j, j ≤ dq → Nat.mod w0 (bit j) = 0 → Nat.mod w' (bit j) = 0) → Wr PG E Y K w' (execW PG E Y tr8 (p1 :: p2 :: p3 :: p4 :: p5 :: p6 :: p7 :: g1 :: g2 :: v :: a1 :: a2 :: a3 :: a4 :: a5 :: .pointer (some ⟨dq, 0, none⟩) :: ys) M' N') Q) :
    Wr PG E Y K w0 (execW PG E Y tr7 (g1 :: g2 :: v :: a1 :: a2 :: a3 :: a4 :: a5 :: .pointer (some ⟨dq, 0, none⟩) :: ys) M N') Q := by
  rw [tr7_eq]
  simp only [tp7, tr7, tr6, tr5, tr4, tB, sqA, sqB, blkC, pstC, ac14L0b]
  simp only [Cmd.cells] at hM
  by_cases k6 : e.kind = 6
  · by_cases h : 3 < ws.length
    · obtain ⟨b, cs, opn, wr, h1, h2, h3, h4⟩ := hL.at h
      rw [if_pos ⟨k6, h⟩, atW_lt h] at hk
      simp (implicitDefEqProofs := false) (disch := omega) only [WPs, opds, List.all_cons, List.all_nil, List.cons_append, List.nil_append, cond_true, cond_false, eq_self, List.map_cons, List.map_nil, Nat.reduceAdd, Nat.testBit, Nat.reduceShiftRight, Nat.reduceAnd, Nat.reduceBNe, Nat.reduceMul, hL.len, hL.one, h1, h3, h4, hM, hcd, decide_eq_true k6]
      exact hk _ _ _ _ _ _ _ _ _ (fput_same _ _ _) (fun b hb => fput_ne _ _ _ _ hb) (fun j hj hw => by rw [frz_iff]; exact ⟨hw, frz_bit hj⟩)
    · rw [if_neg fun x => h x.2] at hk
      simp (implicitDefEqProofs := false) (disch := omega) only [WPs, opds, List.all_cons, List.all_nil, List.cons_append, List.nil_append, cond_true, cond_false, eq_self, List.map_cons, List.map_nil, Nat.reduceAdd, Nat.testBit, Nat.reduceShiftRight, Nat.reduceAnd, Nat.reduceBNe, Nat.reduceMul, hL.len, hL.one, hM, hcd, decide_eq_true k6]
      exact hk _ _ _ _ _ _ _ _ _ hM (fun b hb => rfl) (fun j hj hw => hw)
  · rw [if_neg fun x => k6 x.1] at hk
    simp (implicitDefEqProofs := false) (disch := omega) only [WPs, opds, List.all_cons, List.all_nil, List.cons_append, List.nil_append, cond_true, cond_false, eq_self, List.map_cons, List.map_nil, Nat.reduceAdd, Nat.testBit, Nat.reduceShiftRight, Nat.reduceAnd, Nat.reduceBNe, Nat.reduceMul, hL.len, hL.one, hM, hcd, decide_eq_false k6]
    exact hk _ _ _ _ _ _ _ _ _ hM (fun b hb => rfl) (fun j hj hw => hw)
theorem tw_end (hT : Texts E Y) {M : FM} {N dq rq : Nat} {e : Cmd} {cd : Value} (hF : e.Fit) (hB : Bytes e) (hd : DatV M N cd e.data) (hdq : dq < N) (hM : M dq = some (.cells (e.cells cd) 0 false true)) (hr : ∃ cs, cs.length = 9 ∧ M rq = some (.cells cs 0 false true)) (hrq : rq < N) {lv : Value} {l : Nat} (hl1 : Am.one lv = true) (hl : lenV false lv = some (.int .i64 (l : Int))) (hl0 : 0 < l) (s : ByteArray) (p1 p2 p3 p4 p5 p6 p7 g1 g2 v a1 a2 a3 a4 a5 b1 b2 b3 b4 b5 b6 b7 b8 b9 c1 c2 c3 c4 c5 c6 c7 c8 c9 c11 c12 : Value)
    (hhit : s ≠ ⟨#[]⟩ → textB e = s → ∀ M' e' r, (∀ b, b ≠ rq → M' b = M b) → Wr PG E Y K (Nat.lor w0 (bit rq)) (.ok (.ret (.tuple #[.agg (e.cells cd).toArray, .int .i64 0])) e' M' N r 0) Q)
    (hmiss : ¬ (s ≠ ⟨#[]⟩ ∧ textB e = s) → ∀ x1 x2 x3 x4 x5 x6 x7 x8 x9 x10, Wr PG E Y K w0 (.ok .norm (x1 :: x2 :: x3 :: x4 :: x5 :: x6 :: x7 :: x8 :: x9 :: x10 :: (p1 :: p2 :: p3 :: p4 :: p5 :: p6 :: p7 :: g1 :: g2 :: v :: a1 :: a2 :: a3 :: a4 :: a5 :: .pointer (some ⟨dq, 0, none⟩) :: b1 :: b2 :: b3 :: b4 :: b5 :: b6 :: b7 :: b8 :: b9 :: c1 :: c2 :: c3 :: c4 :: c5 :: c6 :: c7 :: c8 :: c9 :: .pointer (some ⟨rq, 0, none⟩) :: c11 :: c12 :: lv :: .string s :: [])) M N 0 0) Q) :
    Wr PG E Y K w0 (execW PG E Y tr8 (p1 :: p2 :: p3 :: p4 :: p5 :: p6 :: p7 :: g1 :: g2 :: v :: a1 :: a2 :: a3 :: a4 :: a5 :: .pointer (some ⟨dq, 0, none⟩) :: b1 :: b2 :: b3 :: b4 :: b5 :: b6 :: b7 :: b8 :: b9 :: c1 :: c2 :: c3 :: c4 :: c5 :: c6 :: c7 :: c8 :: c9 :: .pointer (some ⟨rq, 0, none⟩) :: c11 :: c12 :: lv :: .string s :: []) M N) Q := by
  simp only [tr8, tr7, tr6, tr5, tr4, tB, sqA, sqB, blkC, pstC, ac14L0b]
  simp only [Cmd.cells] at hM
  by_cases h : s = ⟨#[]⟩
  · simp (implicitDefEqProofs := false) (disch := omega) only [WPs, opds, List.all_cons, List.all_nil, List.cons_append, List.nil_append, cond_true, cond_false, eq_self, List.map_cons, List.map_nil, Nat.reduceAdd, Nat.testBit, Nat.reduceShiftRight, Nat.reduceAnd, Nat.reduceBNe, Nat.reduceMul, hl, hl1, STs, decide_eq_true h]
    exact hmiss (fun x => x.1 h) _ _ _ _ _ _ _ _ _ _
  · simp (implicitDefEqProofs := false) (disch := omega) only [WPs, opds, List.all_cons, List.all_nil, List.cons_append, List.nil_append, cond_true, cond_false, eq_self, List.map_cons, List.map_nil, Nat.reduceAdd, Nat.testBit, Nat.reduceShiftRight, Nat.reduceAnd, Nat.reduceBNe, Nat.reduceMul, hl, hl1, STs, decide_eq_false h, hM, hd.one]
    refine use_pure (hT.t13 _ _ e cd hF hB hd) fun r1 => ?_
    by_cases ht : textB e = s
    · obtain ⟨cs, hcl, hr⟩ := hr
      have hst := st9 (vs := [.int .i64 e.tag, .int .i64 e.kind, .int .i64 e.ord, .bool e.force, .string e.vol, .string e.oth, .int .i64 e.at_, .int .i64 e.len, cd]) hcl rfl
      simp (implicitDefEqProofs := false) (disch := omega) only [WPs, opds, List.all_cons, List.all_nil, List.cons_append, List.nil_append, cond_true, cond_false, eq_self, List.map_cons, List.map_nil, Nat.reduceAdd, Nat.testBit, Nat.reduceShiftRight, Nat.reduceAnd, Nat.reduceBNe, Nat.reduceMul, hl, hl1, STs, decide_eq_true ht, hM, hd.one, hr, hst]
      exact hhit h ht (AMem.put M rq (some (.cells (e.cells cd) 0 false true)) : FM) _ _ (fun b hb => fput_ne _ _ _ _ hb)
    · simp (implicitDefEqProofs := false) (disch := omega) only [WPs, opds, List.all_cons, List.all_nil, List.cons_append, List.nil_append, cond_true, cond_false, eq_self, List.map_cons, List.map_nil, Nat.reduceAdd, Nat.testBit, Nat.reduceShiftRight, Nat.reduceAnd, Nat.reduceBNe, Nat.reduceMul, hl, hl1, STs, decide_eq_false ht, hM, hd.one]
      exact hmiss (fun x => ht x.2) _ _ _ _ _ _ _ _ _ _
end
end Go.Am.C39
namespace Go.Am.C39
set_option maxRecDepth 100000
open Go Go.Am Go.Am.V
variable {E : Nat → Option AFn} {Y : Nat → List Value → FM → Nat → OR FM}
structure TI (m : FM) (n : Nat) (M : FM) (c : Cmd) (cd : Value) : Prop where
  lo : ∀ b, b < n → M b = m b
  cb : M n = some (.cells (c.cells cd) 0 false true)
  rb : ∃ cs, cs.length = 9 ∧ M (n + 1) = some (.cells cs 0 false true)
theorem ords_at {j : Nat} (h : j < 2) : cget [Value.int .i64 0, Value.int .i64 1] j = some (.int .i64 (j : Int)) := by
  rcases (by omega : j = 0 ∨ j = 1) with rfl | rfl <;> rfl
theorem wsS_ne (s : ByteArray) : (wsS s).length = Lib.countB s ⟨#[32]⟩ + 1 := Lib.splitB_all ⟨#[32]⟩ (by decide) 0 _ s rfl
def HitQ (Q : AX → List Value → FM → Nat → Nat → Prop) (m : FM) (n : Nat) (c : Cmd) (cd : Value) (s : ByteArray) : Prop :=
  ∀ f o, (o = 0 ∨ o = 1) → hitP c s f o → ∀ M' N' w' e', n ≤ N' → (∀ b, b < n → M' b = m b) → Nat.mod w' (bit n) = 0 → Q (.ret (.tuple #[.agg ((candC c s f o).cells cd).toArray, .int .i64 0])) e' M' N' w'
theorem twin_L0 (L : LibP E Y) (hT : Texts E Y) {m : FM} {n : Nat} {c : Cmd} {cd : Value} {s : ByteArray} (hF : ∀ f o, (o = 0 ∨ o = 1) → (candC c s f o).Fit) (hB : Bytes c) (hd : DatV m n cd c.data) {lv : Value} {l : Nat} (hl1 : Am.one lv = true) (hl : lenV false lv = some (.int .i64 (l : Int))) (hl0 : 0 < l) (hs : s.size ≤ 1000) (q : Nat) (Mq : FM) (f : Bool) (z2 z6 z7 y0 y1 y2 y3 y4 y5 y8 : Value) {Q : AX → List Value → FM → Nat → Nat → Prop} (hQ : HitQ Q m n c cd s)
    (hQn : ¬ hitP c s f 0 → ¬ hitP c s f 1 → ∀ M N w x x1, q < N → TI m n M c cd → (∀ b, n + 2 ≤ b → b < q → M b = Mq b) → (∀ j, j ≤ n → Nat.mod w (bit j) = 0) → Q (.exit 2) [x, x1, z2, .int .i64 2, .slice (some ⟨q, 0, none⟩) 2 2, .bool f, z6, z7, y0, y1, y2, y3, y4, y5, .pointer (some ⟨n + 1, 0, none⟩), .pointer (some ⟨n, 0, none⟩), y8, lv, .string s] M N w) :
    ∀ (k j : Nat), j + k = 2 → (∀ i : Nat, i < j → ¬ hitP c s f (i : Int)) → ∀ (M : FM) (N w0 : Nat) (x0 : Value), q < N → n + 2 ≤ q → TI m n M c cd → (∀ b, n + 2 ≤ b → b < q → M b = Mq b) → M q = some (.cells [.int .i64 0, .int .i64 1] 1 false true) → (∀ j, j ≤ n → Nat.mod w0 (bit j) = 0) →
    Gv (execW PG E Y ac14L0 [x0, .int .i64 (j : Int), z2, .int .i64 2, .slice (some ⟨q, 0, none⟩) 2 2, .bool f, z6, z7, y0, y1, y2, y3, y4, y5, .pointer (some ⟨n + 1, 0, none⟩), .pointer (some ⟨n, 0, none⟩), y8, lv, .string s] M N) fun X e m n w => Q X e m n (Nat.lor w0 w) := by
  intro k
  induction k with
  | zero =>
    intro j hj hno M N w0 x0 hq hnq hI hlq hMq hw
    obtain rfl : j = 2 := by omega
    refine wr_loopN (L := ac14L0) (b := ac14L0b) rfl ?_
    simp only [ac14L0b]
    simp (implicitDefEqProofs := false) (disch := omega) only [WPs, opds, List.all_cons, List.all_nil, List.cons_append, List.nil_append, cond_true, cond_false, eq_self, List.map_cons, List.map_nil, Nat.reduceAdd, Nat.testBit, Nat.reduceShiftRight, Nat.reduceAnd, Nat.reduceBNe, Nat.reduceMul]
    exact hQn (hno 0 (by omega)) (hno 1 (by omega)) _ _ _ _ _ hq hI hlq hw
  | succ k ih =>
    intro j hj hno M N w0 x0 hq hnq hI hlq hMq hw
    have hj2 : j < 2 := by omega
    have hsp := fun M N => L.split M N s ⟨#[32]⟩ (by omega) (by decide) (by have := Lib.countB_mul_le ⟨#[32]⟩ (by decide) s.size s (Nat.le_refl _); have e : (⟨#[32]⟩ : ByteArray).size = 1 := rfl; rw [e] at this; omega)
    have hcb := hI.cb
    simp only [Cmd.cells] at hcb
    refine wr_loopN (L := ac14L0) (b := ac14L0b) rfl ?_
    rw [l28]
    simp only [ta, tb, tc, tp0, tp1, tp2, tp3, tB, sqA, sqB, blkC, pstC, ac14L0b]
    simp (implicitDefEqProofs := false) (disch := omega) only [WPs, opds, List.all_cons, List.all_nil, List.cons_append, List.nil_append, cond_true, cond_false, eq_self, List.map_cons, List.map_nil, Nat.reduceAdd, Nat.testBit, Nat.reduceShiftRight, Nat.reduceAnd, Nat.reduceBNe, Nat.reduceMul, hMq, ords_at hj2, hcb, hd.one, hd.belF, hsp]
    generalize hM3 : (AMem.put (AMem.put M N (some (.cells [.int .i64 c.tag, .int .i64 c.kind, .int .i64 (j : Int), .bool f, .string c.vol, .string c.oth, .int .i64 c.at_, .int .i64 c.len, cd] 0 false true))) (N + 1) (some (.cells ((splitL s ⟨#[32]⟩).map Value.string) 1 false true)) : FM) = M3
    have lo3 : ∀ b, b < N → M3 b = M b := fun b hb => by rw [← hM3, fput_ne _ _ _ _ (by omega), fput_ne _ _ _ _ (by omega)]
    have hdq : M3 N = some (.cells (({ c with force := f, ord := (j : Int) } : Cmd).cells cd) 0 false true) := by rw [← hM3, fput_ne _ _ _ _ (by omega)]; exact fput_same _ _ _
    have hlen := wsS_ne s
    have hcs : Lib.countB s ⟨#[32]⟩ ≤ 1000 := by have := Lib.countB_mul_le ⟨#[32]⟩ (by decide) s.size s (Nat.le_refl _); have e : (⟨#[32]⟩ : ByteArray).size = 1 := rfl; rw [e] at this; omega
    have hL0 : LV M3 (N + 1) (N + 2) (.slice (some ⟨N + 1, 0, none⟩) (Lib.countB s ⟨#[32]⟩ + 1) (Lib.countB s ⟨#[32]⟩ + 1)) (wsS s) := ⟨N + 1, _, [], false, true, by rw [hlen], Nat.le_refl _, by omega, by rw [← hM3, List.append_nil]; exact fput_same _ _ _, .inr ⟨by rw [hlen]; exact Nat.le_refl _, by omega⟩⟩
    have hdl : ∀ (b : Bool) (ws : List ByteArray), (dropW b ws).length ≤ ws.length := fun b ws => by
      unfold dropW
      split
      · rw [List.length_take]; omega
      · exact Nat.le_refl _
    have b1 := hdl (decide ((j : Int) = 1)) (wsS s)
    have b2 := hdl f (dropW (decide ((j : Int) = 1)) (wsS s))
    have hjo : (j : Int) = 0 ∨ (j : Int) = 1 := by omega
    refine tw_ord hL0 (Nat.le_refl _) (by omega) _ _ _ _ _ _ fun v1 u1 hL1 => ?_
    refine tw_frc hL1 (Nat.le_refl _) (by omega) _ _ _ _ _ _ _ _ _ _ _ _ _ _ _ _ fun v2 hL2 => ?_
    refine tw_vol hL2 (Nat.le_refl _) (by omega) (by omega) (by omega) hd.one hdq _ _ _ _ _ _ fun M4 w4 g1 g2 h4 f4 wf4 => ?_
    refine tw_oth (hL2.frame (Nat.le_refl _) fun b h1 h2 => f4 b (by omega)) (Nat.le_refl _) (by omega) (by omega) (by omega) hd.one h4 _ _ _ _ _ _ _ _ fun M5 w5 p1 p2 p3 p4 p5 p6 p7 h5 f5 wf5 => ?_
    have lo5 : ∀ b, b < N → M5 b = M b := fun b hb => by rw [f5 b (by omega), f4 b (by omega), lo3 b hb]
    have fw : ∀ i, i ≤ n → Nat.mod w5 (bit i) = 0 := fun i hi => wf5 i (by omega) (wf4 i (by omega) (by
      simp only [frz_iff]
      exact ⟨⟨⟨frz_bit (by omega), frz_bit (by omega)⟩, frz_bit (by omega), frz_bit (by omega)⟩, frz_bit (by omega)⟩))
    obtain ⟨cr, hcr, hrb⟩ := hI.rb
    refine tw_end hT (e := candC c s f (j : Int)) (hF f _ hjo) hB (hd.frame (by omega) fun b hb => by rw [lo5 b (by omega), hI.lo b hb]) (by omega) h5 ⟨cr, hcr, by rw [lo5 _ (by omega)]; exact hrb⟩ (by omega) hl1 hl hl0 s _ _ _ _ _ _ _ _ _ _ _ _ _ _ _ _ _ _ _ _ _ _ _ _ _ _ _ _ _ _ _ _ _ _ _ (fun e1 e2 M6 e' r hM6 => ?_) (fun hno2 x1 x2 x3 x4 x5 x6 x7 x8 x9 x10 => ?_)
    · simp (implicitDefEqProofs := false) (disch := omega) only [WPs, opds, List.all_cons, List.all_nil, List.cons_append, List.nil_append, cond_true, cond_false, eq_self, List.map_cons, List.map_nil, Nat.reduceAdd, Nat.testBit, Nat.reduceShiftRight, Nat.reduceAnd, Nat.reduceBNe, Nat.reduceMul]
      refine hQ f _ hjo ⟨e1, e2⟩ _ _ _ _ (by omega) (fun b hb => by rw [hM6 b (by omega), lo5 b (by omega), hI.lo b hb]) ?_
      simp only [frz_iff]
      exact ⟨hw n (Nat.le_refl _), fw n (Nat.le_refl _), frz_bit (by omega)⟩
    · simp (implicitDefEqProofs := false) (disch := omega) only [WPs, opds, List.all_cons, List.all_nil, List.cons_append, List.nil_append, cond_true, cond_false, eq_self, List.map_cons, List.map_nil, Nat.reduceAdd, Nat.testBit, Nat.reduceShiftRight, Nat.reduceAnd, Nat.reduceBNe, Nat.reduceMul]
      have hi := ih (j + 1) (by omega) (fun i hi => by
        rcases (by omega : i < j ∨ i = j) with h | rfl
        · exact hno i h
        · exact hno2) M5 (N + 2) (Nat.lor w0 w5) x0 (by omega) hnq ⟨fun b hb => by rw [lo5 b (by omega), hI.lo b hb], by rw [lo5 n (by omega)]; exact hI.cb, cr, hcr, by rw [lo5 _ (by omega)]; exact hrb⟩ (fun b h1 h2 => by rw [lo5 b (by omega), hlq b h1 h2]) (by rw [lo5 q hq]; exact hMq) (fun i hi => by rw [frz_iff]; exact ⟨hw i hi, fw i hi⟩)
      refine wr_end hi fun X e m n w hq => ?_
      rw [lor_asc] at hq
      exact hq
theorem twin_L1 (L : LibP E Y) (hT : Texts E Y) {m : FM} {n : Nat} {c : Cmd} {cd : Value} {s : ByteArray} (hF : ∀ f o, (o = 0 ∨ o = 1) → (candC c s f o).Fit) (hB : Bytes c) (hd : DatV m n cd c.data) {lv : Value} {l : Nat} (hl1 : Am.one lv = true) (hl : lenV false lv = some (.int .i64 (l : Int))) (hl0 : 0 < l) (hs : s.size ≤ 1000) (y2 y5 y8 : Value) {Q : AX → List Value → FM → Nat → Nat → Prop} (hQ : HitQ Q m n c cd s)
    (hQn : (∀ f, ¬ hitP c s f 0 ∧ ¬ hitP c s f 1) → ∀ M N w x, n + 2 ≤ N → TI m n M c cd → (∀ j, j ≤ n → Nat.mod w (bit j) = 0) → Q (.exit 0) [x, y2, .int .i64 2, .slice (some ⟨n + 2, 0, none⟩) 2 2, y5, .pointer (some ⟨n + 1, 0, none⟩), .pointer (some ⟨n, 0, none⟩), y8, lv, .string s] M N w) :
    ∀ (k j : Nat), j + k = 2 → (∀ i : Nat, i < j → ¬ hitP c s (decide (i = 1)) 0 ∧ ¬ hitP c s (decide (i = 1)) 1) → ∀ (M : FM) (N w0 : Nat) (x0 : Value), n + 3 ≤ N → TI m n M c cd → M (n + 2) = some (.cells [.bool false, .bool true] 1 false true) → (∀ j, j ≤ n → Nat.mod w0 (bit j) = 0) →
    Gv (execW PG E Y ac14L1 [x0, .int .i64 (j : Int), y2, .int .i64 2, .slice (some ⟨n + 2, 0, none⟩) 2 2, y5, .pointer (some ⟨n + 1, 0, none⟩), .pointer (some ⟨n, 0, none⟩), y8, lv, .string s] M N) fun X e m n w => Q X e m n (Nat.lor w0 w) := by
  intro k
  induction k with
  | zero =>
    intro j hj hno M N w0 x0 hN hI hM2 hw
    obtain rfl : j = 2 := by omega
    refine wr_loopN (L := ac14L1) (b := ac14L1b) rfl ?_
    simp only [ac14L1b]
    simp (implicitDefEqProofs := false) (disch := omega) only [WPs, opds, List.all_cons, List.all_nil, List.cons_append, List.nil_append, cond_true, cond_false, eq_self, List.map_cons, List.map_nil, Nat.reduceAdd, Nat.testBit, Nat.reduceShiftRight, Nat.reduceAnd, Nat.reduceBNe, Nat.reduceMul]
    exact hQn (fun f => by
      cases f
      · exact hno 0 (by omega)
      · exact hno 1 (by omega)) _ _ _ _ (by omega) hI hw
  | succ k ih =>
    intro j hj hno M N w0 x0 hN hI hM2 hw
    have hj2 : j < 2 := by omega
    have hfa : cget [Value.bool false, Value.bool true] j = some (.bool (decide (j = 1))) := by
      rcases (by omega : j = 0 ∨ j = 1) with rfl | rfl <;> rfl
    refine wr_loopN (L := ac14L1) (b := ac14L1b) rfl ?_
    simp only [ac14L1b]
    simp (implicitDefEqProofs := false) (disch := omega) only [WPs, opds, List.all_cons, List.all_nil, List.cons_append, List.nil_append, cond_true, cond_false, eq_self, List.map_cons, List.map_nil, Nat.reduceAdd, Nat.testBit, Nat.reduceShiftRight, Nat.reduceAnd, Nat.reduceBNe, Nat.reduceMul, hM2, hfa]
    generalize hM3 : (AMem.put M N (some (.cells [.int .i64 0, .int .i64 1] 1 false true)) : FM) = M3
    have lo3 : ∀ b, b < N → M3 b = M b := fun b hb => by rw [← hM3, fput_ne _ _ _ _ (by omega)]
    have hq3 : M3 N = some (.cells [.int .i64 0, .int .i64 1] 1 false true) := by rw [← hM3]; exact fput_same _ _ _
    obtain ⟨cr, hcr, hrb⟩ := hI.rb
    have hI3 : TI m n M3 c cd := ⟨fun b hb => by rw [lo3 b (by omega), hI.lo b hb], by rw [lo3 n (by omega)]; exact hI.cb, cr, hcr, by rw [lo3 _ (by omega)]; exact hrb⟩
    refine wr_kont ((twin_L0 L hT hF hB hd hl1 hl hl0 hs N M3 (decide (j = 1)) _ _ _ _ _ _ _ _ _ _ (fun f o ho hh M' N' w' e' h1 h2 h3 => ?_) (fun n0 n1 M' N' w' x x1 h1 h2 h3 h4 => ?_) 2 0 rfl (fun i hi => by omega) M3 (N + 1) 0 x0 (by omega) (by omega) hI3 (fun b _ _ => rfl) hq3 (fun i _ => frz_zero _)).mono fun X e m' n' w hq => by simpa only [zero_lor'] using hq)
    · intro rr
      simp (implicitDefEqProofs := false) (disch := omega) only [WPs, opds, List.all_cons, List.all_nil, List.cons_append, List.nil_append, cond_true, cond_false, eq_self, List.map_cons, List.map_nil, Nat.reduceAdd, Nat.testBit, Nat.reduceShiftRight, Nat.reduceAnd, Nat.reduceBNe, Nat.reduceMul]
      refine hQ f o ho hh _ _ _ _ h1 h2 ?_
      simp only [frz_iff]
      exact ⟨hw n (Nat.le_refl _), frz_bit (by omega), h3⟩
    · intro rr
      simp (implicitDefEqProofs := false) (disch := omega) only [WPs, opds, List.all_cons, List.all_nil, List.cons_append, List.nil_append, cond_true, cond_false, eq_self, List.map_cons, List.map_nil, Nat.reduceAdd, Nat.testBit, Nat.reduceShiftRight, Nat.reduceAnd, Nat.reduceBNe, Nat.reduceMul]
      have hi := ih (j + 1) (by omega) (fun i hi => by
        rcases (by omega : i < j ∨ i = j) with h | rfl
        · exact hno i h
        · exact ⟨n0, n1⟩) M' N' (Nat.lor w0 (Nat.lor (bit N) w')) x (by omega) h2 (by rw [h3 _ (by omega) (by omega), lo3 _ (by omega)]; exact hM2) (fun i hi => by rw [frz_iff, frz_iff]; exact ⟨hw i hi, frz_bit (by omega), h4 i hi⟩)
      refine wr_end hi fun X e m n w hq => ?_
      rw [lor_asc] at hq
      exact hq
theorem twin_spec (L : LibP E Y) (hE : E 14 = some ac14) (hT : Texts E Y) (m : FM) (n : Nat) {c : Cmd} {cd : Value} {s : ByteArray} (hF : ∀ f o, (o = 0 ∨ o = 1) → (candC c s f o).Fit) (hB : Bytes c) (hd : DatV m n cd c.data) {lv : Value} {l : Nat} (hl1 : Am.one lv = true) (hl : lenV false lv = some (.int .i64 (l : Int))) (hl0 : 0 < l) (hs : s.size ≤ 1000) :
    Rt (callW PG E Y 14 [cmdV c cd, lv, .string s] m n) fun v m' n' w => n ≤ n' ∧ (∀ b, b < n → m' b = m b) ∧ (∀ j, j ≤ n → Nat.mod w (bit j) = 0) ∧
      ((∃ f o, (o = 0 ∨ o = 1) ∧ hitP c s f o ∧ v = .tuple #[cmdV (candC c s f o) cd, .int .i64 0]) ∨ ((∀ f, ¬ hitP c s f 0 ∧ ¬ hitP c s f 1) ∧ v = .tuple #[cmdV zeroC (.slice none 0 0), .int .i64 4])) := by
  refine kept_specQ (R := fun v m' n' => (∃ f o, (o = 0 ∨ o = 1) ∧ hitP c s f o ∧ v = .tuple #[cmdV (candC c s f o) cd, .int .i64 0]) ∨ ((∀ f, ¬ hitP c s f 0 ∧ ¬ hitP c s f 1) ∧ v = .tuple #[cmdV zeroC (.slice none 0 0), .int .i64 4])) hE rfl fun Q hQ => ?_
  simp only [ac14, cmdV]
  simp (implicitDefEqProofs := false) (disch := omega) only [WPs, opds, List.all_cons, List.all_nil, List.cons_append, List.nil_append, cond_true, cond_false, eq_self, List.map_cons, List.map_nil, Nat.reduceAdd, Nat.testBit, Nat.reduceShiftRight, Nat.reduceAnd, Nat.reduceBNe, Nat.reduceMul, STs, hd.one]
  generalize hM0 : (AMem.put (AMem.put (AMem.put m n (some (.cells [.int .i64 c.tag, .int .i64 c.kind, .int .i64 c.ord, .bool c.force, .string c.vol, .string c.oth, .int .i64 c.at_, .int .i64 c.len, cd] 0 false true))) (n + 1) (some (.cells [.int .i64 0, .int .i64 0, .int .i64 0, .bool false, .string ⟨#[]⟩, .string ⟨#[]⟩, .int .i64 0, .int .i64 0, .slice none 0 0] 0 false true))) (n + 2) (some (.cells [.bool false, .bool true] 1 false true)) : FM) = M0
  have lo0 : ∀ b, b < n → M0 b = m b := fun b hb => by rw [← hM0, fput_ne _ _ _ _ (by omega), fput_ne _ _ _ _ (by omega), fput_ne _ _ _ _ (by omega)]
  have hI : TI m n M0 c cd := ⟨lo0, by rw [← hM0, fput_ne _ _ _ _ (by omega), fput_ne _ _ _ _ (by omega)]; exact fput_same _ _ _, _, rfl, by rw [← hM0, fput_ne _ _ _ _ (by omega)]; exact fput_same _ _ _⟩
  refine wr_kont ((twin_L1 L hT hF hB hd hl1 hl hl0 hs _ _ _ (fun f o ho hh M' N' w' e' h1 h2 h3 => ?_) (fun hno M' N' w' x h1 h2 h3 => ?_) 2 0 rfl (fun i hi => by omega) M0 (n + 3) 0 _ (Nat.le_refl _) hI (by rw [← hM0]; exact fput_same _ _ _) (fun i _ => frz_zero _)).mono fun X e m' n' w hq => by simpa only [zero_lor'] using hq)
  · intro rr
    simp (implicitDefEqProofs := false) (disch := omega) only [WPs, opds, List.all_cons, List.all_nil, List.cons_append, List.nil_append, cond_true, cond_false, eq_self, List.map_cons, List.map_nil, Nat.reduceAdd, Nat.testBit, Nat.reduceShiftRight, Nat.reduceAnd, Nat.reduceBNe, Nat.reduceMul]
    refine hQ _ _ _ _ _ h1 h2 ?_ rfl (.inl ⟨f, o, ho, hh, rfl⟩)
    simp only [frz_iff]
    exact ⟨⟨⟨frz_bit (by omega), frz_bit (by omega)⟩, frz_bit (by omega)⟩, h3⟩
  · intro rr
    obtain ⟨cr, hcr, hrb⟩ := h2.rb
    have hst := st9 (vs := [.int .i64 0, .int .i64 0, .int .i64 0, .bool false, .string ⟨#[]⟩, .string ⟨#[]⟩, .int .i64 0, .int .i64 0, .slice none 0 0]) hcr rfl
    simp (implicitDefEqProofs := false) (disch := omega) only [WPs, opds, List.all_cons, List.all_nil, List.cons_append, List.nil_append, cond_true, cond_false, eq_self, List.map_cons, List.map_nil, Nat.reduceAdd, Nat.testBit, Nat.reduceShiftRight, Nat.reduceAnd, Nat.reduceBNe, Nat.reduceMul, hrb, hst]
    refine hQ _ _ _ _ _ (by omega) (fun b hb => by rw [fput_ne _ _ _ _ (by omega), h2.lo b hb]) ?_ rfl (.inr ⟨hno, rfl⟩)
    have fz := h3 n (Nat.le_refl _)
    simp only [frz_iff]
    exact ⟨⟨⟨⟨frz_bit (by omega), frz_bit (by omega)⟩, frz_bit (by omega)⟩, fz⟩, frz_bit (by omega)⟩
end Go.Am.C39
