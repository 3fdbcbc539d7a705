/- The machine and its runs, part 16: Az39za Az39zb Az39zc Az39zd AzUp. -/
import Derived.Test.YtibpnegblcdioaaGreatDoorB15
set_option linter.unusedVariables false
set_option linter.unusedSimpArgs false
set_option linter.unusedSectionVars false
namespace Go.Am.C39
set_option maxRecDepth 100000
open Go Go.Am Go.Am.V
def spW : List UInt8 → List UInt8 → List (List UInt8)
  | cur, [] => [cur]
  | cur, c :: r => if c = 32 then cur :: spW [] r else spW (cur ++ [c]) r
theorem spW_sp (cur r : List UInt8) : spW cur (32 :: r) = cur :: spW [] r := by
  rw [spW, if_pos rfl]
theorem spW_ne {c : UInt8} (h : c ≠ 32) (cur r : List UInt8) : spW cur (c :: r) = spW (cur ++ [c]) r := by
  rw [spW, if_neg h]
theorem spW_len : ∀ (r cur : List UInt8), 0 < (spW cur r).length ∧ (spW cur r).length ≤ r.length + 1
  | [], cur => ⟨Nat.one_pos, Nat.le_refl _⟩
  | c :: r, cur => by
    rw [spW]
    split
    · have := spW_len r []
      rw [List.length_cons, List.length_cons]; omega
    · have := spW_len r (cur ++ [c])
      rw [List.length_cons]; omega
theorem spW_mem : ∀ (r cur w : List UInt8), w ∈ spW cur r → w.length ≤ cur.length + r.length
  | [], cur, w, h => by
    rw [spW, List.mem_singleton] at h
    rw [h]; exact Nat.le_refl _
  | c :: r, cur, w, h => by
    rw [spW] at h
    split at h
    · rcases List.mem_cons.1 h with rfl | h
      · rw [List.length_cons]; omega
      · have := spW_mem r [] w h
        rw [List.length_nil] at this
        rw [List.length_cons]; omega
    · have := spW_mem r (cur ++ [c]) w h
      rw [List.length_append, List.length_singleton] at this
      rw [List.length_cons]; omega
theorem spW_word : ∀ (w cur r : List UInt8), (32 : UInt8) ∉ w → spW cur (w ++ r) = spW (cur ++ w) r
  | [], cur, r, _ => by rw [List.nil_append, List.append_nil]
  | c :: w, cur, r, h => by
    have hc : c ≠ 32 := fun e => h (by rw [e]; exact List.mem_cons_self ..)
    rw [List.cons_append, spW_ne hc, spW_word w _ r fun hw => h (List.mem_cons_of_mem _ hw), List.append_assoc]; rfl
theorem spW_join : ∀ (xs : List (List UInt8)) (x : List UInt8), (∀ q ∈ x :: xs, (32 : UInt8) ∉ q) → spW [] (Lib.join (x :: xs) [32]) = x :: xs
  | [], x, h => by
    have := spW_word x [] [] (h x (List.mem_cons_self ..))
    rw [List.append_nil, List.nil_append] at this
    rw [Lib.join_one, this]; rfl
  | y :: xs, x, h => by
    rw [Txt.join_cons2, List.append_assoc, spW_word x [] _ (h x (List.mem_cons_self ..)), List.nil_append]
    show spW x (32 :: Lib.join (y :: xs) [32]) = _
    rw [spW_sp, spW_join xs y fun q hq => h q (List.mem_cons_of_mem _ hq)]
def wordsR (s : ByteArray) : List ByteArray := (spW [] s.data.toList).map bytesS
theorem wordsR_len (s : ByteArray) : 0 < (wordsR s).length ∧ (wordsR s).length ≤ s.size + 1 := by
  have := spW_len s.data.toList []
  rw [size_list] at this
  rw [wordsR, List.length_map]; exact this
theorem wordsR_mem (s w : ByteArray) (h : w ∈ wordsR s) : w.size ≤ s.size := by
  obtain ⟨x, hx, rfl⟩ := List.mem_map.1 h
  have := spW_mem _ _ _ hx
  rw [size_list, List.length_nil] at this
  rw [← size_list, bytesS_list]; omega
theorem wordsR_back {ws : List ByteArray} (hne : ws ≠ []) (hns : ∀ w ∈ ws, NoSp w) : wordsR (joinS ws ⟨#[32]⟩) = ws := by
  cases ws with
  | nil => exact absurd rfl hne
  | cons x xs =>
    have hq : ∀ q ∈ x.data.toList :: xs.map (·.data.toList), (32 : UInt8) ∉ q := fun q hq => by
      rcases List.mem_cons.1 hq with rfl | hq
      · exact hns _ (List.mem_cons_self ..)
      · obtain ⟨z, hz, rfl⟩ := List.mem_map.1 hq
        exact hns z (List.mem_cons_of_mem _ hz)
    unfold wordsR
    rw [joinS_list, List.map_cons, spW_join _ _ hq, ← List.map_cons (f := fun w : ByteArray => w.data.toList)]
    exact map_back _
def rstep (n : Int) (c : UInt8) : Int := n * 10 + (c.toNat : Int) - 48
def rnumL (l : List UInt8) : Int := l.foldl rstep 0
def rnum (w : ByteArray) : Int := rnumL (w.data.toList.take 12)
theorem rnumL_snoc (l : List UInt8) (c : UInt8) : rnumL (l ++ [c]) = rstep (rnumL l) c := by
  unfold rnumL
  rw [List.foldl_append]; rfl
theorem rnumL_dec (u : Nat) : rnumL (Lib.decDigits u) = (u : Int) := by
  induction u using Nat.strongRecOn with
  | ind u ih =>
    rw [Lib.decDigits]
    split
    · rename_i h
      show rstep 0 (UInt8.ofNat (48 + u)) = _
      unfold rstep
      rw [UInt8.toNat_ofNat', show (48 + u) % 2 ^ 8 = 48 + u by omega]; omega
    · rename_i h
      rw [rnumL_snoc, ih (u / 10) (by omega)]
      unfold rstep
      rw [UInt8.toNat_ofNat', show (48 + u % 10) % 2 ^ 8 = 48 + u % 10 by omega]; omega
theorem dec_len : ∀ (k u : Nat), u < 10 ^ (k + 1) → (Lib.decDigits u).length ≤ k + 1 := by
  intro k
  induction k with
  | zero =>
    intro u h
    rw [Lib.decDigits, dif_pos (by omega)]; exact Nat.le_refl _
  | succ k ih =>
    intro u h
    rw [Lib.decDigits]
    split
    · rw [List.length_singleton]; omega
    · have := ih (u / 10) (by rw [Nat.pow_succ] at h; omega)
      rw [List.length_append, List.length_singleton]; omega
theorem rnum_itoa {z : Int} (h0 : 0 ≤ z) (h1 : z ≤ 2147483647) : rnum (itoaB z) = z := by
  obtain ⟨u, rfl⟩ := Int.eq_ofNat_of_zero_le h0
  have hl := dec_len 11 u (by omega)
  unfold rnum
  rw [itoa_list, Txt.itoa_nat, List.take_of_length_le hl, rnumL_dec]
theorem rnumL_le (l : List UInt8) : ∀ k, l.length ≤ k → -(10 : Int) ^ (k + 3) + 100 ≤ rnumL l ∧ rnumL l + 100 ≤ (10 : Int) ^ (k + 3) := by
  intro k
  induction k generalizing l with
  | zero =>
    intro h
    obtain rfl : l = [] := List.length_eq_zero_iff.1 (by omega)
    decide
  | succ k ih =>
    intro h
    rcases List.eq_nil_or_concat l with rfl | ⟨l', c, rfl⟩
    · have h1 : (10 : Int) ^ (k + 1 + 3) = (10 : Int) ^ (k + 1) * 1000 := by rw [Int.pow_add]; rfl
      have h2 : (0 : Int) < (10 : Int) ^ (k + 1) := Int.pow_pos (by decide)
      show -_ + 100 ≤ (0 : Int) ∧ (0 : Int) + 100 ≤ _
      omega
    · rw [List.concat_eq_append] at h ⊢
      rw [List.length_append, List.length_singleton] at h
      have := ih l' (by omega)
      have hc : c.toNat < 256 := c.toNat_lt
      have hp : (1000 : Int) ≤ (10 : Int) ^ (k + 3) := by
        have h1 : (10 : Int) ^ (k + 3) = (10 : Int) ^ k * 1000 := by rw [Int.pow_add]; rfl
        have h2 : (0 : Int) < (10 : Int) ^ k := Int.pow_pos (by decide)
        omega
      have e : (10 : Int) ^ (k + 1 + 3) = (10 : Int) ^ (k + 3) * 10 := by rw [show k + 1 + 3 = (k + 3) + 1 by omega, Int.pow_succ]
      rw [rnumL_snoc, e]
      unfold rstep
      omega
theorem rnumL_12 (l : List UInt8) (h : l.length ≤ 12) : -1000000000000000 ≤ rnumL l ∧ rnumL l ≤ 1000000000000000 := by
  have := rnumL_le l 12 h
  have e : (10 : Int) ^ (12 + 3) = 1000000000000000 := by decide
  rw [e] at this
  omega
theorem rnum_le (w : ByteArray) : -1000000000000000 ≤ rnum w ∧ rnum w ≤ 1000000000000000 :=
  rnumL_12 _ (by rw [List.length_take]; omega)
def dgR (c : Nat) : Nat := if 97 ≤ c then (c - 97 + 10) % 256 else (c + 208) % 256
theorem dgR_lt (c : Nat) : dgR c < 256 := by unfold dgR; split <;> omega
theorem dgR_dig {k : Nat} (h : k < 16) : dgR (digN k) = k := by
  unfold dgR digN
  split <;> split <;> omega
def byR (a b : Nat) : Nat := (dgR a * 16 % 256) ||| (dgR b % 16)
theorem byR_lt (a b : Nat) : byR a b < 256 := by
  unfold byR
  refine Nat.or_lt_two_pow (n := 8) ?_ ?_ <;> omega
theorem or_add {a b : Nat} (h : b < 16) : (16 * a) ||| b = 16 * a + b := by
  have := Nat.two_pow_add_eq_or_of_lt (i := 4) (a := a) (b := b) (by omega)
  simpa using this.symm
theorem byR_dig {z : Nat} (h : z < 256) : byR (digN (z / 16)) (digN (z % 16)) = z := by
  unfold byR
  rw [dgR_dig (by omega), dgR_dig (by omega), show z / 16 * 16 % 256 = 16 * (z / 16) by omega, show z % 16 % 16 = z % 16 by omega, or_add (by omega)]
  omega
def rcell (w : ByteArray) (i : Nat) : Int := if 2 * i + 1 < w.size then (byR (bt w (2 * i)) (bt w (2 * i + 1)) : Int) else 0
def rblk (w : ByteArray) : List Int := (List.range 8).map (rcell w)
theorem rcell_ok (w : ByteArray) (i : Nat) : 0 ≤ rcell w i ∧ rcell w i < 256 := by
  unfold rcell
  split
  · have := byR_lt (bt w (2 * i)) (bt w (2 * i + 1)); omega
  · omega
theorem rblk_ok (w : ByteArray) : (rblk w).length = 8 ∧ ∀ z ∈ rblk w, 0 ≤ z ∧ z < 256 := by
  refine ⟨by rw [rblk, List.length_map, List.length_range], fun z hz => ?_⟩
  obtain ⟨i, _, rfl⟩ := List.mem_map.1 hz
  exact rcell_ok w i
theorem hexI_get : ∀ (l : List Nat) (i : Nat) (h : i < l.length), (hexI l)[2 * i]? = some (digN (l[i] / 16) : Int) ∧ (hexI l)[2 * i + 1]? = some (digN (l[i] % 16) : Int)
  | [], i, h => by cases h
  | z :: l, 0, h => ⟨rfl, rfl⟩
  | z :: l, i + 1, h => by
    have := hexI_get l i (by rw [List.length_cons] at h; omega)
    rw [show 2 * (i + 1) = 2 * i + 1 + 1 by omega]
    simp only [hexI, List.getElem?_cons_succ, List.getElem_cons_succ]
    exact this
theorem bt_hex {l : List Nat} {j k : Nat} (hk : k < 16) (h : (hexI l)[j]? = some (digN k : Int)) : bt (hexB l) j = digN k := by
  have hd := dig_ne hk
  unfold bt
  rw [hexB_list, List.getD_eq_getElem?_getD, List.getElem?_map, h]
  show (UInt8.ofNat ((digN k : Int)).toNat).toNat = digN k
  rw [UInt8.toNat_ofNat', Int.toNat_natCast]; omega
theorem rblk_hex {d : List Int} (hl : d.length = 8) (h : ∀ z ∈ d, 0 ≤ z ∧ z < 256) : rblk (hexW d) = d := by
  have hn : (nats d).length = 8 := by rw [nats_len, hl]
  have hb := nats_lt h
  refine List.ext_getElem (by rw [(rblk_ok _).1, hl]) fun i h1 h2 => ?_
  have hi : i < (nats d).length := by omega
  have hz := hb _ (List.getElem_mem hi)
  obtain ⟨g1, g2⟩ := hexI_get (nats d) i hi
  have e1 := bt_hex (by omega) g1
  have e2 := bt_hex (by omega) g2
  have hs : (hexW d).size = 16 := hexW_size hl
  simp only [rblk, List.getElem_map, List.getElem_range]
  unfold rcell
  rw [if_pos (by omega)]
  show ((byR (bt (hexB (nats d)) (2 * i)) (bt (hexB (nats d)) (2 * i + 1)) : Nat) : Int) = _
  rw [e1, e2, byR_dig hz]
  have hd := h _ (List.getElem_mem h2)
  simp only [nats, List.getElem_map]
  omega
theorem map_rblk {ds : List (List Int)} (h : ∀ d ∈ ds, d.length = 8 ∧ ∀ z ∈ d, 0 ≤ z ∧ z < 256) : (ds.map hexW).map rblk = ds := by
  rw [List.map_map]
  conv => rhs; rw [← List.map_id ds]
  exact List.map_congr_left fun d hd => rblk_hex (h d hd).1 (h d hd).2
def fillC (c : Cmd) (l : List ByteArray) : Cmd :=
  if c.kind = 1 ∨ c.kind = 3 then { c with vol := atW l 0, at_ := rnum (atW l 1), len := rnum (atW l 2) } else
  if c.kind = 2 then { c with vol := atW l 0, at_ := rnum (atW l 1), data := (l.drop 2).map rblk, len := (((l.drop 2).map rblk).length : Int) } else
  if c.kind = 5 then { c with vol := atW l 0, len := rnum (atW l 1), at_ := rnum (atW l 2) } else
  if c.kind = 6 then { c with vol := atW l 0, oth := atW l 1 } else { c with vol := atW l 0 }
def wayC (ws : List ByteArray) (used way k : Nat) : Cmd := fillC { zeroC with tag := rnum (atW ws 1), force := decide (way % 2 = 1), ord := ((way / 2 : Nat) : Int), kind := (k : Int) } ((ws.take (ws.length - used)).drop 2)
theorem way_of {c : Cmd} (hv : ValidP c) (hB : Bytes c) : ∃ used way k, used < 3 ∧ used + 2 ≤ (wordsR (textB c)).length ∧ way < 4 ∧ 1 ≤ k ∧ k ≤ 7 ∧ wayC (wordsR (textB c)) used way k = c := by
  have o := okay_of hv
  have hk := kind_of hv
  have kc := kind_cast hv
  have hw := wordsR_back (textW_ne c) (words_nosp hv hB)
  rw [← textB_t hv] at hw
  have lF : (endF c).length = if c.force = true then 1 else 0 := by unfold endF; split <;> rfl
  have lO : (endO c).length = if c.ord = 1 then 1 else 0 := by unfold endO; split <;> rfl
  have lH : 2 ≤ (headT c).length := by unfold headT; rw [List.length_append]; simp only [List.length_cons, List.length_nil]; omega
  have lT : (textW c).length = (headT c).length + (endF c).length + (endO c).length := by unfold textW; rw [List.length_append, List.length_append]
  have hF1 : (endF c).length ≤ 1 := by rw [lF]; split <;> omega
  have hO1 : (endO c).length ≤ 1 := by rw [lO]; split <;> omega
  refine ⟨(endF c).length + (endO c).length, (if c.force = true then 1 else 0) + 2 * (if c.ord = 1 then 1 else 0), c.kind.toNat, by omega, by rw [hw]; omega, by split <;> split <;> omega, by omega, by omega, ?_⟩
  rw [hw]
  unfold wayC
  have e1 : (textW c).take ((textW c).length - ((endF c).length + (endO c).length)) = headT c := by
    rw [lT, show (headT c).length + (endF c).length + (endO c).length - ((endF c).length + (endO c).length) = (headT c).length by omega]
    unfold textW
    rw [List.append_assoc]
    exact List.take_left' rfl
  have e2 : (headT c).drop 2 = midT c c.kind.toNat := rfl
  have e3 : atW (textW c) 1 = itoaB c.tag := rfl
  have e4 : rnum (itoaB c.tag) = c.tag := rnum_itoa o.tag.1 o.tag.2
  have e5 : (((if c.force = true then 1 else 0) + 2 * (if c.ord = 1 then 1 else 0)) % 2 = 1) = (c.force = true) := by
    refine propext ?_
    split <;> split <;> simp_all
  have e6 : ((((if c.force = true then 1 else 0) + 2 * (if c.ord = 1 then 1 else 0)) / 2 : Nat) : Int) = c.ord := by
    rcases o.ord with h | h <;> rw [h] <;> split <;> simp
  rw [e1, e2, e3, e4]
  have e7 : decide (((if c.force = true then 1 else 0) + 2 * (if c.ord = 1 then 1 else 0)) % 2 = 1) = c.force := by
    rw [Bool.eq_iff_iff, decide_eq_true_eq]
    exact iff_of_eq e5
  have na : rnum (itoaB c.at_) = c.at_ := rnum_itoa o.at_.1 (by have := o.at_; omega)
  have nl : rnum (itoaB c.len) = c.len := rnum_itoa o.len.1 (by have := o.len; omega)
  rw [e6, e7]
  rcases (by omega : c.kind = 1 ∨ c.kind = 2 ∨ c.kind = 3 ∨ c.kind = 4 ∨ c.kind = 5 ∨ c.kind = 6 ∨ c.kind = 7) with k | k | k | k | k | k | k
  · obtain ⟨_, a1, a2, a3, a4, a5, a6⟩ := (valid_1 k).1 hv
    rw [k]
    refine Cmd.ext' ?_ ?_ ?_ ?_ ?_ ?_ ?_ ?_ ?_ <;> simp [fillC, midT, zeroC, k, at_cons, at_cons0, at_nil, na, nl, a2, a3]
  · obtain ⟨_, a1, a2, a3, a4, a5⟩ := (valid_2 k).1 hv
    have hdat := map_rblk hB
    rw [k]
    refine Cmd.ext' ?_ ?_ ?_ ?_ ?_ ?_ ?_ ?_ ?_ <;> simp [fillC, midT, zeroC, k, at_cons, at_cons0, at_nil, na, nl, a2, a5]
    simpa using hdat
  · obtain ⟨_, a1, a2, a3, a4⟩ := (valid_3 k).1 hv
    rw [k]
    refine Cmd.ext' ?_ ?_ ?_ ?_ ?_ ?_ ?_ ?_ ?_ <;> simp [fillC, midT, zeroC, k, at_cons, at_cons0, at_nil, na, nl, a2, a3]
  · obtain ⟨_, a1, a2, a3, a4, a5, a6⟩ := (valid_4 k).1 hv
    rw [k]
    refine Cmd.ext' ?_ ?_ ?_ ?_ ?_ ?_ ?_ ?_ ?_ <;> simp [fillC, midT, zeroC, k, at_cons, at_cons0, at_nil, a1, a2, a3, a4, a5, a6]
  · obtain ⟨_, a1, a2, a3, a4, a5⟩ := (valid_5 k).1 hv
    rw [k]
    refine Cmd.ext' ?_ ?_ ?_ ?_ ?_ ?_ ?_ ?_ ?_ <;> simp [fillC, midT, zeroC, k, at_cons, at_cons0, at_nil, na, nl, a2, a3]
  · obtain ⟨_, a1, a2, a3, a4, a5, a6, a7⟩ := (valid_6 k).1 hv
    rw [k]
    refine Cmd.ext' ?_ ?_ ?_ ?_ ?_ ?_ ?_ ?_ ?_ <;> simp [fillC, midT, zeroC, k, at_cons, at_cons0, at_nil, a4, a6, a7]
  · obtain ⟨_, a1, a2, a3, a4, a5, a6⟩ := (valid_7 k).1 hv
    rw [k]
    refine Cmd.ext' ?_ ?_ ?_ ?_ ?_ ?_ ?_ ?_ ?_ <;> simp [fillC, midT, zeroC, k, at_cons, at_cons0, at_nil, a2, a3, a5, a6]
end Go.Am.C39
namespace Go.Am.C39
set_option maxRecDepth 100000
open Go Go.Am Go.Am.V
variable {E : Nat → Option AFn} {Y : Nat → List Value → FM → Nat → OR FM}
theorem conv_i64b {z : Nat} (h : z < 256) : convV .i64 (.int .u8 (z : Int)) = some (.int .i64 (z : Int)) := by
  show some (Value.int .i64 (wrapF .i64 (z : Int))) = _
  rw [wrapF_eq, wrap_i64 (by omega) (by omega)]
theorem list_at {s : ByteArray} {j : Nat} (h : j < s.size) : s.data.toList.take (j + 1) = s.data.toList.take j ++ [s.data.toList.getD j 0] := by
  have h1 : j < s.data.toList.length := by rw [str_len]; exact h
  rw [List.take_succ_eq_append_getElem h1, List.getD_eq_getElem?_getD, List.getElem?_eq_getElem h1]; rfl
theorem rnum_step {s : ByteArray} {j : Nat} (h : j < s.size) : rnumL (s.data.toList.take (j + 1)) = rnumL (s.data.toList.take j) * 10 + (bt s j : Int) - 48 := by
  rw [list_at h, rnumL_snoc]; rfl
theorem rnum_bd (s : ByteArray) (j : Nat) (h : j ≤ 12) : -1000000000000000 ≤ rnumL (s.data.toList.take j) ∧ rnumL (s.data.toList.take j) ≤ 1000000000000000 :=
  rnumL_12 _ (by rw [List.length_take]; omega)
theorem refNum_L0 {s : ByteArray} (hs : s.size ≤ 1000000) (m : FM) (n : Nat) (x2 x3 x4 : Value) {Q : AX → List Value → FM → Nat → Nat → Prop} (hQ : Q (.exit 0) [.int .i64 (rnum s), x2, x3, x4, .string s] m n 0) :
    ∀ (d j : Nat), j + d = min 12 s.size → Gv (execW PG E Y ac16L0 [.int .i64 (rnumL (s.data.toList.take j)), .int .i64 (j : Int), x2, x3, x4, .string s] m n) fun X e m n w => Q X e m n (Nat.lor 0 w) := by
  intro d
  induction d with
  | zero =>
    intro j hj
    have e : rnumL (s.data.toList.take j) = rnum s := by
      unfold rnum
      by_cases h : j < s.size
      · rw [show j = 12 by omega]
      · rw [List.take_of_length_le (by rw [str_len]; omega), List.take_of_length_le (by rw [str_len]; omega)]
    rw [e]
    refine wr_loopN (L := ac16L0) (b := ac16L0b) rfl ?_
    simp only [ac16L0b]
    by_cases h : j < s.size
    · obtain rfl : j = 12 := by omega
      simp (implicitDefEqProofs := false) (disch := omega) only [WPs, opds, List.all_cons, List.all_nil, List.cons_append, List.nil_append, cond_true, cond_false, eq_self, List.map_cons, List.map_nil, Nat.reduceAdd, Nat.testBit, Nat.reduceShiftRight, Nat.reduceAnd, Nat.reduceBNe, Nat.reduceMul]
      exact hQ
    · simp (implicitDefEqProofs := false) (disch := omega) only [WPs, opds, List.all_cons, List.all_nil, List.cons_append, List.nil_append, cond_true, cond_false, eq_self, List.map_cons, List.map_nil, Nat.reduceAdd, Nat.testBit, Nat.reduceShiftRight, Nat.reduceAnd, Nat.reduceBNe, Nat.reduceMul]
      exact hQ
  | succ d ih =>
    intro j hj
    have hb := rnum_bd s j (by omega)
    have hc := bt_lt s j
    have i1 := t_chr (s := s) (i := j) (by omega)
    have i2 := conv_i64b hc
    have st := rnum_step (s := s) (j := j) (by omega)
    have ih1 := ih (j + 1) (by omega)
    rw [st] at ih1
    generalize rnumL (s.data.toList.take j) = z at hb ih1
    refine wr_loopN (L := ac16L0) (b := ac16L0b) rfl ?_
    simp only [ac16L0b]
    simp (implicitDefEqProofs := false) (disch := omega) only [WPs, opds, List.all_cons, List.all_nil, List.cons_append, List.nil_append, cond_true, cond_false, eq_self, List.map_cons, List.map_nil, Nat.reduceAdd, Nat.testBit, Nat.reduceShiftRight, Nat.reduceAnd, Nat.reduceBNe, Nat.reduceMul, t_pur, t_byteN, i1, i2]
    exact wr_end' ih1
theorem refNum_spec (hE : E 16 = some ac16) (s : ByteArray) (hs : s.size ≤ 1000000) (m : FM) (n : Nat) : Pure (callW PG E Y 16 [.string s] m n) m n (.int .i64 (rnum s)) := by
  refine pure_spec hE rfl rfl ?_
  simp only [ac16]
  simp (implicitDefEqProofs := false) (disch := omega) only [WPs, opds, List.all_cons, List.all_nil, List.cons_append, List.nil_append, cond_true, cond_false, eq_self, List.map_cons, List.map_nil, Nat.reduceAdd, Nat.testBit, Nat.reduceShiftRight, Nat.reduceAnd, Nat.reduceBNe, Nat.reduceMul]
  refine wr_kont ((refNum_L0 hs _ _ _ _ _ ?_ (min 12 s.size) 0 (by omega)).mono fun X e m' n' w hq => by simpa only [zero_lor'] using hq)
  intro rr
  simp (implicitDefEqProofs := false) (disch := omega) only [WPs, opds, List.all_cons, List.all_nil, List.cons_append, List.nil_append, cond_true, cond_false, eq_self, List.map_cons, List.map_nil, Nat.reduceAdd, Nat.testBit, Nat.reduceShiftRight, Nat.reduceAnd, Nat.reduceBNe, Nat.reduceMul]
theorem refDigit_spec (hE : E 45 = some ac45) (c : Nat) (hc : c < 256) (m : FM) (n : Nat) : Pure (callW PG E Y 45 [.int .u8 (c : Int)] m n) m n (.int .u8 (dgR c : Int)) := by
  refine pure_spec hE rfl rfl ?_
  simp only [ac45]
  by_cases h : 97 ≤ c
  · have e : dgR c = (c - 97 + 10) % 256 := if_pos h
    rw [e]
    simp (implicitDefEqProofs := false) (disch := omega) only [WPs, opds, List.all_cons, List.all_nil, List.cons_append, List.nil_append, cond_true, cond_false, eq_self, List.map_cons, List.map_nil, Nat.reduceAdd, Nat.testBit, Nat.reduceShiftRight, Nat.reduceAnd, Nat.reduceBNe, Nat.reduceMul]
    have e1 : IntKind.u8.wrap (IntKind.u8.wrap ((c - 97 : Nat) : Int) + 10) = (((c - 97 + 10) % 256 : Nat) : Int) := by
      show (((c - 97 : Nat) : Int) % 256 + 10) % 256 = _
      omega
    exact e1
  · have e : dgR c = (c + 208) % 256 := if_neg h
    rw [e]
    simp (implicitDefEqProofs := false) (disch := omega) only [WPs, opds, List.all_cons, List.all_nil, List.cons_append, List.nil_append, cond_true, cond_false, eq_self, List.map_cons, List.map_nil, Nat.reduceAdd, Nat.testBit, Nat.reduceShiftRight, Nat.reduceAnd, Nat.reduceBNe, Nat.reduceMul]
    have e1 : IntKind.u8.wrap ((c : Int) - 48) = (((c + 208) % 256 : Nat) : Int) := by
      show ((c : Int) - 48) % 256 = _
      omega
    exact e1
theorem u8_shl (z : Nat) : purV PG (.bit .shl 5) [.int .u8 (z : Int), .int .u64 4] = some (.int .u8 ((z * 16 % 256 : Nat) : Int)) := by
  show some (Value.int .u8 (IntKind.u8.wrap ((z : Int) * (2 ^ (min (4 : Int).toNat 8))))) = _
  have e : (2 : Int) ^ (min (4 : Int).toNat 8) = 16 := by decide
  rw [e]
  congr 2
theorem u8_or (a b : Nat) (ha : a < 256) (hb : b < 256) : purV PG (.bit .or 5) [.int .u8 (a : Int), .int .u8 (b : Int)] = some (.int .u8 ((a ||| b : Nat) : Int)) := by
  show some (Value.int .u8 (IntKind.u8.wrap ((BitVec.ofInt 8 (a : Int) ||| BitVec.ofInt 8 (b : Int)).toNat : Int))) = _
  have e : (BitVec.ofInt 8 (a : Int) ||| BitVec.ofInt 8 (b : Int)).toNat = a ||| b := by
    rw [BitVec.toNat_or]
    have h1 : (BitVec.ofInt 8 (a : Int)).toNat = a := by rw [BitVec.toNat_ofInt]; omega
    have h2 : (BitVec.ofInt 8 (b : Int)).toNat = b := by rw [BitVec.toNat_ofInt]; omega
    rw [h1, h2]
  rw [e]
  congr 2
  have hl : a ||| b < 256 := Nat.or_lt_two_pow (n := 8) ha hb
  show ((a ||| b : Nat) : Int) % 256 = _
  omega
def part (w : ByteArray) (j : Nat) : List Int := (List.range 8).map fun i => if i < j then rcell w i else 0
theorem part_len (w : ByteArray) (j : Nat) : (part w j).length = 8 := by rw [part, List.length_map, List.length_range]
theorem part_all (w : ByteArray) (j : Nat) (h : ∀ i, j ≤ i → i < 8 → rcell w i = 0) : part w j = rblk w := by
  refine List.map_congr_left fun i hi => ?_
  rw [List.mem_range] at hi
  split
  · rfl
  · exact (h i (by omega) hi).symm
theorem part_set (w : ByteArray) {j : Nat} (h : j < 8) : (u8s (part w j)).set j (.int .u8 (rcell w j)) = u8s (part w (j + 1)) := by
  unfold u8s
  rw [← List.map_set]
  congr 1
  refine List.ext_getElem (by rw [List.length_set, part_len, part_len]) fun i h1 h2 => ?_
  rw [List.getElem_set]
  simp only [part, List.getElem_map, List.getElem_range]
  split
  · rename_i e; subst e; rw [if_pos (by omega)]
  · split
    · rw [if_pos (by omega)]
    · rw [if_neg (by omega)]
theorem rcell_in {w : ByteArray} {i : Nat} (h : 2 * i + 1 < w.size) : rcell w i = (byR (bt w (2 * i)) (bt w (2 * i + 1)) : Int) := if_pos h
theorem rcell_out {w : ByteArray} {i : Nat} (h : ¬ 2 * i + 1 < w.size) : rcell w i = 0 := if_neg h
theorem refBytes_L0 (hD : E 45 = some ac45) {n : Nat} {M0 : FM} {s : ByteArray} (hs : s.size ≤ 1000000) (x2 x3 : Value) {Q : AX → List Value → FM → Nat → Nat → Prop}
    (hQ : ∀ M w, (∀ b, b ≠ n + 1 → M b = M0 b) → (∀ j, j ≤ n → Nat.mod w (bit j) = 0) → M (n + 1) = some (.cells (u8s (rblk s)) 0 false true) → Q (.exit 0) [x2, .pointer (some ⟨n + 1, 0, none⟩), x3, .string s] M (n + 2) w) :
    ∀ (d j : Nat), j + d = min 8 (s.size / 2) → ∀ (M : FM) (w0 : Nat), (∀ b, b ≠ n + 1 → M b = M0 b) → (∀ j, j ≤ n → Nat.mod w0 (bit j) = 0) → M (n + 1) = some (.cells (u8s (part s j)) 0 false true) →
    Gv (execW PG E Y ac28L0 [.int .i64 (j : Int), x2, .pointer (some ⟨n + 1, 0, none⟩), x3, .string s] M (n + 2)) fun X e m n w => Q X e m n (Nat.lor w0 w) := by
  intro d
  induction d with
  | zero =>
    intro j hj M w0 hM hw hP
    rw [part_all s j (fun i h1 h2 => rcell_out (by omega))] at hP
    refine wr_loopN (L := ac28L0) (b := ac28L0b) rfl ?_
    simp only [ac28L0b]
    by_cases h : j < 8
    · simp (implicitDefEqProofs := false) (disch := omega) only [WPs, opds, List.all_cons, List.all_nil, List.cons_append, List.nil_append, cond_true, cond_false, eq_self, List.map_cons, List.map_nil, Nat.reduceAdd, Nat.testBit, Nat.reduceShiftRight, Nat.reduceAnd, Nat.reduceBNe, Nat.reduceMul]
      exact hQ _ _ hM hw hP
    · obtain rfl : j = 8 := by omega
      simp (implicitDefEqProofs := false) (disch := omega) only [WPs, opds, List.all_cons, List.all_nil, List.cons_append, List.nil_append, cond_true, cond_false, eq_self, List.map_cons, List.map_nil, Nat.reduceAdd, Nat.testBit, Nat.reduceShiftRight, Nat.reduceAnd, Nat.reduceBNe, Nat.reduceMul]
      exact hQ _ _ hM hw hP
  | succ d ih =>
    intro j hj M w0 hM hw hP
    have hc1 := bt_lt s (2 * j)
    have hc2 := bt_lt s (2 * j + 1)
    have i1 := t_chr (s := s) (i := 2 * j) (by omega)
    have i2 := t_chr (s := s) (i := 2 * j + 1) (by omega)
    have d1 := dgR_lt (bt s (2 * j))
    have d2 := dgR_lt (bt s (2 * j + 1))
    have i3 := u8_shl (dgR (bt s (2 * j)))
    have i4 := u8_and (dgR (bt s (2 * j + 1))) d2
    have i5 := u8_or (dgR (bt s (2 * j)) * 16 % 256) (dgR (bt s (2 * j + 1)) % 16) (by omega) (by omega)
    have e1 : (2 * (j : Int)) = ((2 * j : Nat) : Int) := by omega
    have e2 : (2 * (j : Int) + 1) = ((2 * j + 1 : Nat) : Int) := by omega
    refine wr_loopN (L := ac28L0) (b := ac28L0b) rfl ?_
    simp only [ac28L0b]
    simp (implicitDefEqProofs := false) (disch := omega) only [WPs, opds, List.all_cons, List.all_nil, List.cons_append, List.nil_append, cond_true, cond_false, eq_self, List.map_cons, List.map_nil, Nat.reduceAdd, Nat.testBit, Nat.reduceShiftRight, Nat.reduceAnd, Nat.reduceBNe, Nat.reduceMul, t_pur, e1, t_byteN, i1]
    refine use_pureX (refDigit_spec hD _ hc1 _ _) fun r1 => ?_
    simp (implicitDefEqProofs := false) (disch := omega) only [WPs, opds, List.all_cons, List.all_nil, List.cons_append, List.nil_append, cond_true, cond_false, eq_self, List.map_cons, List.map_nil, Nat.reduceAdd, Nat.testBit, Nat.reduceShiftRight, Nat.reduceAnd, Nat.reduceBNe, Nat.reduceMul, t_pur, e1, e2, t_byteN, i2, i3]
    refine use_pureX (refDigit_spec hD _ hc2 _ _) fun r2 => ?_
    have hl : j < (u8s (part s j)).length := by rw [u8s, List.length_map, part_len]; omega
    simp (implicitDefEqProofs := false) (disch := omega) only [WPs, opds, List.all_cons, List.all_nil, List.cons_append, List.nil_append, cond_true, cond_false, eq_self, List.map_cons, List.map_nil, Nat.reduceAdd, Nat.testBit, Nat.reduceShiftRight, Nat.reduceAnd, Nat.reduceBNe, Nat.reduceMul, t_pur, i4, i5, s_ida, ida_mk (show j < 8 by omega), Nat.mul_one, Nat.zero_add, hP, Go.Am.set_one hl]
    have e3 : (u8s (part s j)).set j (Value.int .u8 ((dgR (bt s (2 * j)) * 16 % 256 ||| dgR (bt s (2 * j + 1)) % 16 : Nat) : Int)) = u8s (part s (j + 1)) := by
      rw [← part_set s (show j < 8 by omega), rcell_in (by omega)]; rfl
    rw [e3]
    refine wr_end (ih (j + 1) (by omega) _ (Nat.lor w0 (bit (n + 1))) (fun b hb => by rw [fput_ne _ _ _ _ hb]; exact hM b hb) (fun k hk => by rw [frz_iff]; exact ⟨hw k hk, frz_bit (by omega)⟩) (fput_same _ _ _)) fun X e m n w hq => ?_
    rw [lor_asc] at hq
    exact hq
theorem u8s_free (l : List Int) : addrFree (.agg (u8s l).toArray) = true := by
  show (u8s l).all flat = true
  rw [u8s, List.all_map, List.all_eq_true]
  intro x _; rfl
theorem refBytes_spec (hE : E 28 = some ac28) (hD : E 45 = some ac45) (s : ByteArray) (hs : s.size ≤ 1000000) (m : FM) (n : Nat) : Pure (callW PG E Y 28 [.string s] m n) m n (.agg (u8s (rblk s)).toArray) := by
  refine pure_spec hE rfl (u8s_free _) ?_
  simp only [ac28]
  simp (implicitDefEqProofs := false) (disch := omega) only [WPs, opds, List.all_cons, List.all_nil, List.cons_append, List.nil_append, cond_true, cond_false, eq_self, List.map_cons, List.map_nil, Nat.reduceAdd, Nat.testBit, Nat.reduceShiftRight, Nat.reduceAnd, Nat.reduceBNe, Nat.reduceMul, STs]
  have hl8 := (rblk_ok s).1
  generalize hM0 : (AMem.put (AMem.put m n (some (.cells [.int .u8 0, .int .u8 0, .int .u8 0, .int .u8 0, .int .u8 0, .int .u8 0, .int .u8 0, .int .u8 0] 0 false true))) (n + 1) (some (.cells [.int .u8 0, .int .u8 0, .int .u8 0, .int .u8 0, .int .u8 0, .int .u8 0, .int .u8 0, .int .u8 0] 0 false true)) : FM) = M0
  have hr0 : M0 n = some (.cells [.int .u8 0, .int .u8 0, .int .u8 0, .int .u8 0, .int .u8 0, .int .u8 0, .int .u8 0, .int .u8 0] 0 false true) := by rw [← hM0, fput_ne _ _ _ _ (by omega)]; exact fput_same _ _ _
  have hx0 : M0 (n + 1) = some (.cells (u8s (part s 0)) 0 false true) := by rw [← hM0]; exact fput_same _ _ _
  refine wr_kont ((refBytes_L0 (M0 := M0) (n := n) hD hs (.int .i64 0) (.pointer (some ⟨n, 0, none⟩)) (fun M w hM hw hP => ?_) (min 8 (s.size / 2)) 0 (by omega) _ 0 (fun b _ => rfl) (fun j _ => frz_zero _) hx0).mono fun X e m' n' w hq => by simpa only [zero_lor'] using hq)
  intro rr
  have hrM := (hM n (by omega)).trans hr0
  have hst := st_all (cs := [Value.int .u8 0, .int .u8 0, .int .u8 0, .int .u8 0, .int .u8 0, .int .u8 0, .int .u8 0, .int .u8 0]) rfl hl8
  have hc8 := u8s_llen hl8
  have fz := hw n (by omega)
  simp (implicitDefEqProofs := false) (disch := omega) only [WPs, opds, List.all_cons, List.all_nil, List.cons_append, List.nil_append, cond_true, cond_false, eq_self, List.map_cons, List.map_nil, Nat.reduceAdd, Nat.testBit, Nat.reduceShiftRight, Nat.reduceAnd, Nat.reduceBNe, Nat.reduceMul, STs, hP, hrM, u8s_all hl8, u8s_bel, u8s_one, hc8, hst, fz]
end Go.Am.C39
namespace Go.Am.C39
set_option maxRecDepth 100000
open Go Go.Am Go.Am.V
variable {E : Nat → Option AFn} {Y : Nat → List Value → FM → Nat → OR FM}
theorem strZ_cells {M : FM} {n0 N : Nat} {v : Value} {xs : List ByteArray} (h : StrZ M n0 N v xs) : ∃ b c opn, v = .slice (some ⟨b, 0, none⟩) xs.length c ∧ n0 ≤ b ∧ b < N ∧ M b = some (.cells (xs.map Value.string) 1 opn true) ∧ 0 < xs.length ∧
    ∀ (M' : FM) (ys : List ByteArray), ys.length = xs.length → M' b = some (.cells (ys.map Value.string) 1 opn true) → StrZ M' n0 N v ys := by
  rcases h with ⟨b, rfl, h2, h3, h4, h5, h6⟩ | ⟨h1, h2⟩
  · exact ⟨b, _, false, rfl, h4, h5, h6, h2, fun M' ys hl hM => .inl ⟨b, by rw [hl], by omega, by omega, h4, h5, hM⟩⟩
  · obtain ⟨h, _⟩ | ⟨hp, hcl, b, rfl, hb1, hbN, hMb⟩ := h2
    · omega
    · exact ⟨b, UNK, true, rfl, hb1, hbN, hMb, h1, fun M' ys hl hM => .inr ⟨by omega, .inr ⟨by omega, by rw [List.length_map, Nat.mul_one], b, by rw [hl], hb1, hbN, hM⟩⟩⟩
theorem strZ_one {M : FM} {n0 N : Nat} {v : Value} {xs : List ByteArray} (h : StrZ M n0 N v xs) : Am.one v = true := by
  obtain ⟨b, c, opn, rfl, _⟩ := strZ_cells h; rfl
theorem strZ_bel {M : FM} {n0 N : Nat} {v : Value} {xs : List ByteArray} (h : StrZ M n0 N v xs) (k : Nat) (hk : N ≤ k) : belowV k v = true := by
  obtain ⟨b, c, opn, rfl, _, hb, _⟩ := strZ_cells h
  exact blt_true (show b < k by omega)
theorem drop_at {s : ByteArray} {j : Nat} (h : j < s.size) : s.data.toList.drop j = s.data.toList.getD j 0 :: s.data.toList.drop (j + 1) := by
  have h1 : j < s.data.toList.length := by rw [str_len]; exact h
  rw [List.drop_eq_getElem_cons h1, List.getD_eq_getElem?_getD, List.getElem?_eq_getElem h1]; rfl
theorem bt_ofNat (s : ByteArray) (j : Nat) : UInt8.ofNat ((bt s j : Int)).toNat = s.data.toList.getD j 0 := by
  rw [Int.toNat_natCast]
  exact UInt8.ofNat_toNat
theorem set_last (pre : List ByteArray) (cur x : ByteArray) : (pre ++ [cur]).set ((pre ++ [cur]).length - 1) x = pre ++ [x] := by
  rw [List.length_append, List.length_singleton, Nat.add_sub_cancel, List.set_append_right _ _ (Nat.le_refl _), Nat.sub_self]; rfl
theorem get_last (pre : List ByteArray) (cur : ByteArray) : cget ((pre ++ [cur]).map Value.string) pre.length = some (.string cur) := by
  rw [cget_eq, List.getElem?_map, List.getElem?_append_right (Nat.le_refl _), Nat.sub_self]; rfl
theorem split_L0 {n : Nat} {M0 : FM} {s : ByteArray} (hs : s.size ≤ 1000) (x2 x3 x4 : Value) {Q : AX → List Value → FM → Nat → Nat → Prop}
    (hQ : ∀ v M N w, n ≤ N → (∀ b, b < n → M b = M0 b) → (∀ j, j ≤ n → Nat.mod w (bit j) = 0) → StrZ M n N v (wordsR s) → Q (.exit 0) [v, x2, x3, x4, .string s] M N w) :
    ∀ (d j : Nat), j + d = s.size → ∀ (pre : List ByteArray) (cur : ByteArray) (v : Value) (M : FM) (N w0 : Nat), n ≤ N → (∀ b, b < n → M b = M0 b) → (∀ j, j ≤ n → Nat.mod w0 (bit j) = 0) → StrZ M n N v (pre ++ [cur]) →
    wordsR s = pre ++ (spW cur.data.toList (s.data.toList.drop j)).map bytesS → pre.length ≤ j → cur.size ≤ j →
    Gv (execW PG E Y ac15L0 [v, .int .i64 (j : Int), x2, x3, x4, .string s] M N) fun X e m n w => Q X e m n (Nat.lor w0 w) := by
  intro d
  induction d with
  | zero =>
    intro j hj pre cur v M N w0 hN hM hw hS hW hpl hcl
    have e : wordsR s = pre ++ [cur] := by
      rw [hW, List.drop_eq_nil_of_le (by rw [str_len]; omega)]
      show pre ++ [bytesS cur.data.toList] = _
      rw [bytesS_back]
    rw [← e] at hS
    refine wr_loopN (L := ac15L0) (b := ac15L0b) rfl ?_
    simp only [ac15L0b]
    simp (implicitDefEqProofs := false) (disch := omega) only [WPs, opds, List.all_cons, List.all_nil, List.cons_append, List.nil_append, cond_true, cond_false, eq_self, List.map_cons, List.map_nil, Nat.reduceAdd, Nat.testBit, Nat.reduceShiftRight, Nat.reduceAnd, Nat.reduceBNe, Nat.reduceMul]
    exact hQ _ _ _ _ hN hM hw hS
  | succ d ih =>
    intro j hj pre cur v M N w0 hN hM hw hS hW hpl hcl
    have hc := bt_lt s j
    have i1 := t_chr (s := s) (i := j) (by omega)
    have hd := drop_at (s := s) (j := j) (by omega)
    have hone := strZ_one hS
    have hbel := strZ_bel hS
    rw [hd] at hW
    refine wr_loopN (L := ac15L0) (b := ac15L0b) rfl ?_
    simp only [ac15L0b]
    by_cases h32 : bt s j = 32
    · have e1 : s.data.toList.getD j 0 = 32 := by
        have := bt_ofNat s j
        rw [h32] at this
        exact this.symm
      rw [e1, spW_sp] at hW
      rw [h32] at i1
      simp (implicitDefEqProofs := false) (disch := omega) only [WPs, opds, List.all_cons, List.all_nil, List.cons_append, List.nil_append, cond_true, cond_false, eq_self, List.map_cons, List.map_nil, Nat.reduceAdd, Nat.testBit, Nat.reduceShiftRight, Nat.reduceAnd, Nat.reduceBNe, Nat.reduceMul, t_pur, t_byteN, i1]
      generalize hM1 : (AMem.put M N (some (.cells [.string ⟨#[]⟩] 1 false true)) : FM) = M1
      have lo1 : ∀ b, b < N → M1 b = M b := fun b hb => by rw [← hM1, fput_ne _ _ _ _ (by omega)]
      have hS1 : StrZ M1 n (N + 1) v (pre ++ [cur]) := hS.frame (by omega) fun b h1 h2 => lo1 b h2
      refine use_rt (app_str (ys := [⟨#[]⟩]) hS1 _ _ _ (by omega) (by simp) (by simp only [List.length_append, List.length_cons, List.length_nil]; omega)) fun v4 M4 N4 r4 w4 ⟨n4, hW4, m4, f4⟩ => ?_
      subst n4
      simp (implicitDefEqProofs := false) (disch := omega) only [WPs, opds, List.all_cons, List.all_nil, List.cons_append, List.nil_append, cond_true, cond_false, eq_self, List.map_cons, List.map_nil, Nat.reduceAdd, Nat.testBit, Nat.reduceShiftRight, Nat.reduceAnd, Nat.reduceBNe, Nat.reduceMul]
      refine wr_end (ih (j + 1) (by omega) (pre ++ [cur]) ⟨#[]⟩ v4 M4 (N + 2) (Nat.lor w0 (Nat.lor (bit N) w4)) (by omega) (fun b hb => by rw [m4 b hb, lo1 b (by omega), hM b hb]) (fun k hk => by simp only [frz_iff]; exact ⟨hw k hk, frz_bit (by omega), f4 k hk⟩) hW4 (by
        rw [hW, List.map_cons, List.append_assoc, bytesS_back]; rfl) (by rw [List.length_append]; simp only [List.length_cons, List.length_nil]; omega) (Nat.zero_le _)) fun X e m n w hq => ?_
      rw [lor_asc] at hq
      exact hq
    · have e1 : s.data.toList.getD j 0 ≠ 32 := fun e => h32 (by unfold bt; rw [e]; rfl)
      have h32' : ¬ ((bt s j : Int) = 32) := fun e => h32 (by omega)
      rw [spW_ne e1] at hW
      obtain ⟨b, c, opn, rfl, hb0, hbN, hMb, hpos, hset⟩ := strZ_cells hS
      have hlen : (pre ++ [cur]).length = pre.length + 1 := by rw [List.length_append, List.length_singleton]
      have hg := get_last pre cur
      have hs1 := str_one (P := PG) (m := AMem.put M N (some (.cells [.int .u8 (bt s j : Int)] 1 false true))) (n := N + 1) (b := N) (c := 1) (by omega) (fput_same _ _ _)
      have hcs : (⟨#[UInt8.ofNat ((bt s j : Int)).toNat]⟩ : ByteArray).size = 1 := rfl
      have ha1 := add_str (P := PG) 9 (a := cur) (b := ⟨#[UInt8.ofNat ((bt s j : Int)).toNat]⟩) (by omega)
      rw [hlen] at hone hbel ⊢
      have hst := Go.Am.set_one (x := Value.string (cur ++ ⟨#[UInt8.ofNat ((bt s j : Int)).toNat]⟩)) (show pre.length < ((pre ++ [cur]).map Value.string).length by rw [List.length_map, hlen]; omega)
      have hse : ((pre ++ [cur]).map Value.string).set pre.length (Value.string (cur ++ ⟨#[UInt8.ofNat ((bt s j : Int)).toNat]⟩)) = (pre ++ [cur ++ ⟨#[UInt8.ofNat ((bt s j : Int)).toNat]⟩]).map Value.string := by
        have := set_last pre cur (cur ++ ⟨#[UInt8.ofNat ((bt s j : Int)).toNat]⟩)
        rw [hlen, Nat.add_sub_cancel] at this
        rw [← this, List.map_set]
      rw [hse] at hst
      simp (implicitDefEqProofs := false) (disch := omega) only [WPs, opds, List.all_cons, List.all_nil, List.cons_append, List.nil_append, cond_true, cond_false, eq_self, List.map_cons, List.map_nil, Nat.reduceAdd, Nat.testBit, Nat.reduceShiftRight, Nat.reduceAnd, Nat.reduceBNe, Nat.reduceMul, t_pur, t_byteN, i1, decide_eq_false h32', hbel, s_mp, hs1, hMb, hg, ha1, Nat.add_sub_cancel, hst]
      have hx : (cur ++ ⟨#[UInt8.ofNat ((bt s j : Int)).toNat]⟩).data.toList = cur.data.toList ++ [s.data.toList.getD j 0] := by
        rw [app_list, ← bt_ofNat]
      have hxs : (cur ++ ⟨#[UInt8.ofNat ((bt s j : Int)).toNat]⟩).size = cur.size + 1 := by rw [size_app, hcs]
      rw [← hx] at hW
      generalize cur ++ ⟨#[UInt8.ofNat ((bt s j : Int)).toNat]⟩ = y at hx hxs hW hst hse
      have hS2 := hset (AMem.put (AMem.put M N (some (.cells [.int .u8 (bt s j : Int)] 1 false true))) b (some (.cells ((pre ++ [y]).map Value.string) 1 opn true)) : FM) (pre ++ [y]) (by rw [List.length_append, List.length_append]; rfl) (fput_same _ _ _)
      rw [hlen] at hS2
      refine wr_end (ih (j + 1) (by omega) pre y _ _ (N + 1) (Nat.lor w0 (Nat.lor (bit N) (bit b))) (by omega) (fun k hk => by rw [fput_ne _ _ _ _ (by omega), fput_ne _ _ _ _ (by omega), hM k hk]) (fun k hk => by simp only [frz_iff]; exact ⟨hw k hk, frz_bit (by omega), frz_bit (by omega)⟩) (hS2.frame (by omega) fun _ _ _ => rfl) hW (by omega) (by omega)) fun X e m n w hq => ?_
      rw [lor_asc] at hq
      exact hq
theorem refSplit_spec (hE : E 15 = some ac15) (s : ByteArray) (hs : s.size ≤ 1000) (m : FM) (n : Nat) : Rt (callW PG E Y 15 [.string s] m n) fun v m' n' w => n ≤ n' ∧ (∀ b, b < n → m' b = m b) ∧ (∀ j, j ≤ n → Nat.mod w (bit j) = 0) ∧ StrZ m' n n' v (wordsR s) := by
  refine kept_specQ (R := fun v m' n' => StrZ m' n n' v (wordsR s)) hE rfl fun Q hQ => ?_
  simp only [ac15]
  simp (implicitDefEqProofs := false) (disch := omega) only [WPs, opds, List.all_cons, List.all_nil, List.cons_append, List.nil_append, cond_true, cond_false, eq_self, List.map_cons, List.map_nil, Nat.reduceAdd, Nat.testBit, Nat.reduceShiftRight, Nat.reduceAnd, Nat.reduceBNe, Nat.reduceMul, STs]
  generalize hM0 : (AMem.put m n (some (.cells [.string ⟨#[]⟩] 1 false true)) : FM) = M0
  have lo : ∀ b, b < n → M0 b = m b := fun b hb => by rw [← hM0, fput_ne _ _ _ _ (by omega)]
  have hS0 : StrZ M0 n (n + 1) (.slice (some ⟨n, 0, none⟩) 1 1) ([] ++ [⟨#[]⟩]) := .inl ⟨n, rfl, by decide, by decide, Nat.le_refl _, Nat.lt_succ_self _, by rw [← hM0]; exact fput_same _ _ _⟩
  refine wr_kont ((split_L0 (M0 := m) (n := n) hs _ _ _ (fun v M N w hN hM hw hS => ?_) s.size 0 (Nat.zero_add _) [] ⟨#[]⟩ _ M0 (n + 1) 0 (by omega) lo (fun j _ => frz_zero _) hS0 rfl (Nat.zero_le _) (Nat.zero_le _)).mono fun X e m' n' w hq => by simpa only [zero_lor'] using hq)
  intro rr
  have hone := strZ_one hS
  have fz := hw n (Nat.le_refl _)
  simp (implicitDefEqProofs := false) (disch := omega) only [WPs, opds, List.all_cons, List.all_nil, List.cons_append, List.nil_append, cond_true, cond_false, eq_self, List.map_cons, List.map_nil, Nat.reduceAdd, Nat.testBit, Nat.reduceShiftRight, Nat.reduceAnd, Nat.reduceBNe, Nat.reduceMul]
  refine hQ _ _ _ _ _ hN hM ?_ ?_ hS
  · simp (implicitDefEqProofs := false) (disch := omega) only [WPs, opds, List.all_cons, List.all_nil, List.cons_append, List.nil_append, cond_true, cond_false, eq_self, List.map_cons, List.map_nil, Nat.reduceAdd, Nat.testBit, Nat.reduceShiftRight, Nat.reduceAnd, Nat.reduceBNe, Nat.reduceMul, fz]
  · obtain ⟨b, c, opn, rfl, _⟩ := strZ_cells hS
    rfl
end Go.Am.C39
namespace Go.Am.C39
set_option maxRecDepth 100000
open Go Go.Am Go.Am.V
variable {E : Nat → Option AFn} {Y : Nat → List Value → FM → Nat → OR FM}
def SV (M : FM) (N : Nat) (v : Value) (ws : List ByteArray) : Prop :=
  ∃ b o c, v = .slice (some ⟨b, o, none⟩) ws.length c ∧ b < N ∧ ∃ cs opn wr, M b = some (.cells cs 1 opn wr) ∧ (0 < ws.length → cellsAt cs o ws.length = some (ws.map Value.string))
theorem SV.shows {M : FM} {N : Nat} {v : Value} {ws : List ByteArray} (h : SV M N v ws) : ∃ r, shown M N 1 v = some (ws.map Value.string, r) := by
  obtain ⟨b, o, c, rfl, hb, cs, opn, wr, hM, hc⟩ := h
  by_cases h0 : 0 < ws.length
  · rw [shown_pos h0, getb_lt hb, hM, shownB_mk, Nat.beq_refl, cond_true, Nat.mul_one, hc h0]
    exact ⟨_, rfl⟩
  · have : ws = [] := List.eq_nil_of_length_eq_zero (by omega)
    subst this
    exact ⟨0, rfl⟩
theorem SV.frame {M M' : FM} {N N' : Nat} {v : Value} {ws : List ByteArray} (h : SV M N v ws) (hN : N ≤ N') (hf : ∀ b, b < N → M' b = M b) : SV M' N' v ws := by
  obtain ⟨b, o, c, h1, hb, cs, opn, wr, hM, hc⟩ := h
  exact ⟨b, o, c, h1, by omega, cs, opn, wr, (hf b hb).trans hM, hc⟩
theorem SV.one {M : FM} {N : Nat} {v : Value} {ws : List ByteArray} (h : SV M N v ws) : Am.one v = true := by
  obtain ⟨b, o, c, rfl, _⟩ := h; rfl
theorem SV.bel {M : FM} {N : Nat} {v : Value} {ws : List ByteArray} (h : SV M N v ws) (k : Nat) (hk : N ≤ k) : belowV k v = true := by
  obtain ⟨b, o, c, rfl, hb, _⟩ := h
  exact blt_true (show b < k by omega)
theorem SV.sl {M : FM} {N : Nat} {v : Value} {ws : List ByteArray} (h : SV M N v ws) : ∃ a c, v = .slice a ws.length c := by
  obtain ⟨b, o, c, rfl, _⟩ := h; exact ⟨_, _, rfl⟩
def e3 : List ByteArray := [⟨#[]⟩, ⟨#[]⟩, ⟨#[]⟩]
theorem strs_one (zs : List ByteArray) : (zs.map Value.string).all Am.one = true := by rw [List.all_map, List.all_eq_true]; intro x _; rfl
def StrE (M : FM) (n0 N : Nat) (v : Value) (ws : List ByteArray) : Prop :=
  (ws = [] ∧ ∃ b, v = .slice (some ⟨b, 0, none⟩) 0 0 ∧ n0 ≤ b ∧ b < N ∧ M b = some (.cells [] 1 false true)) ∨ StrZ M n0 N v ws
theorem StrE.frame {M M' : FM} {n0 N N' : Nat} {v : Value} {xs : List ByteArray} (h : StrE M n0 N v xs) (hN : N ≤ N') (hf : ∀ b, n0 ≤ b → b < N → M' b = M b) : StrE M' n0 N' v xs := by
  rcases h with ⟨h1, b, h2, h3, h4, h5⟩ | h
  · exact .inl ⟨h1, b, h2, h3, by omega, (hf b h3 h4).trans h5⟩
  · exact .inr (h.frame hN hf)
theorem app_e1 {M : FM} {n0 N b : Nat} {ws : List ByteArray} (hb : n0 ≤ b) (hbN : b < N) (hM : M b = some (.cells [] 1 false true)) (ya : Option Addr) (yc ry : Nat) (hl : ws.length ≤ 1000000) :
    Rt (appO 1 16 M N (.slice (some ⟨b, 0, none⟩) 0 0) (.slice ya ws.length yc) (some ([], 0)) (some (ws.map Value.string, ry))) fun v' M' N' w => N ≤ N' ∧ StrE M' n0 N' v' ws ∧ (∀ b, b < n0 → M' b = M b) ∧ (∀ j, j ≤ n0 → Nat.mod w (bit j) = 0) := by
  rw [appO_mk, appV_mk]
  rw [show (ws.map Value.string, ry).1.all Am.one = true from strs_one ws, blt_true (show 0 < 1 by omega), blt_true (show 0 < 16 by omega), ble_true (show (0 + ws.length) * 16 ≤ 140737488355328 by omega)]
  simp only [Bool.and_self, Bool.true_and, cond_true]
  by_cases h0 : 0 < ws.length
  · have h1 := appG_full (m := M) (n := N) (sz := 1) (lx := 0) (ly := ws.length) (cx := 0) (r := Nat.lor 0 ry) (bx := b) (ox := 0) (a := []) (b := ws.map Value.string) (by omega) (by omega)
    rw [h1, Nat.zero_add, List.nil_append]
    exact ⟨by omega, .inr (.inr ⟨h0, .inr ⟨h0, by rw [List.length_map, Nat.mul_one], N, rfl, by omega, by omega, fput_same _ _ _⟩⟩), fun b hb => fput_ne _ _ _ _ (by omega), fun j hj => frz_bit (by omega)⟩
  · have : ws = [] := List.eq_nil_of_length_eq_zero (by omega)
    subst this
    have e : appG M N 1 0 0 0 [] [] (Nat.lor 0 ry) (some ⟨b, 0, none⟩) = .ok (.slice (some ⟨b, 0, none⟩) 0 0) (AMem.put M b (some (.cells [] 1 false true))) N (Nat.lor 0 ry) (bit b) := by
      show appR M N 1 0 0 0 [] (Nat.lor 0 ry) b 0 (getb M N b) = _
      rw [getb_lt hbN, hM]; rfl
    show Rt (appG M N 1 0 0 0 [] [] (Nat.lor 0 ry) (some ⟨b, 0, none⟩)) _
    rw [e]
    exact ⟨Nat.le_refl _, .inl ⟨rfl, b, rfl, hb, hbN, fput_same _ _ _⟩, fun k hk => fput_ne _ _ _ _ (by omega), fun j hj => frz_bit (by omega)⟩
theorem app_e2 {M : FM} {n0 N : Nat} {v : Value} {ws ys : List ByteArray} (h : StrE M n0 N v ws) (ya : Option Addr) (yc ry : Nat) (h0 : n0 ≤ N) (hk : 0 < ys.length) (hl : ws.length + ys.length ≤ 1000000) :
    Rt (appO 1 16 M N v (.slice ya ys.length yc) (shown M N 1 v) (some (ys.map Value.string, ry))) fun v' M' N' w => N' = N + 1 ∧ StrZ M' n0 N' v' (ws ++ ys) ∧ (∀ b, b < n0 → M' b = M b) ∧ (∀ j, j ≤ n0 → Nat.mod w (bit j) = 0) := by
  rcases h with ⟨rfl, b, rfl, hb, hbN, hM⟩ | h
  · rw [shown_zero, appO_mk, appV_mk]
    rw [show (ys.map Value.string, ry).1.all Am.one = true from strs_one ys, blt_true (show 0 < 1 by omega), blt_true (show 0 < 16 by omega), ble_true (show (0 + ys.length) * 16 ≤ 140737488355328 by simp only [List.length_nil] at hl; omega)]
    simp only [Bool.and_self, Bool.true_and, cond_true]
    have h1 := appG_full (m := M) (n := N) (sz := 1) (lx := 0) (ly := ys.length) (cx := 0) (r := Nat.lor 0 ry) (bx := b) (ox := 0) (a := []) (b := ys.map Value.string) (by omega) (by omega)
    rw [h1, Nat.zero_add, List.nil_append, List.nil_append]
    exact ⟨rfl, .inr ⟨hk, .inr ⟨hk, by rw [List.length_map, Nat.mul_one], N, rfl, by omega, by omega, fput_same _ _ _⟩⟩, fun b hb => fput_ne _ _ _ _ (by omega), fun j hj => frz_bit (by omega)⟩
  · exact app_str h ya yc ry h0 hk hl
theorem w_at (ws : List ByteArray) {i : Nat} (h : i < ws.length + 3) : cget ((ws ++ e3).map Value.string) i = some (.string (atW ws i)) := by
  rw [cget_eq, List.getElem?_map]
  by_cases hi : i < ws.length
  · rw [List.getElem?_append_left hi, List.getElem?_eq_getElem hi]
    unfold atW
    rw [List.getD_eq_getElem?_getD, List.getElem?_eq_getElem hi]; rfl
  · rw [List.getElem?_append_right (by omega)]
    have e : atW ws i = ⟨#[]⟩ := by unfold atW; rw [List.getD_eq_getElem?_getD, List.getElem?_eq_none (by omega)]; rfl
    rw [e]
    have : i - ws.length = 0 ∨ i - ws.length = 1 ∨ i - ws.length = 2 := by omega
    rcases this with h | h | h <;> rw [h] <;> rfl
theorem w_len (ws : List ByteArray) : (ws ++ e3).length = ws.length + 3 := by rw [List.length_append]; rfl
theorem fill_L0 (hB : E 28 = some ac28) (hD : E 45 = some ac45) {pb lb lc N1 : Nat} {lo : Bool} {M0 : FM} {c : Cmd} {ws : List ByteArray} (hpb : pb < N1) (hlb : lb < N1) (hne : lb ≠ pb) (hMl : M0 lb = some (.cells ((ws ++ e3).map Value.string) 1 lo true)) (hws : ws.length ≤ 2000) (hsz : ∀ i, (atW ws i).size ≤ 2000) (e1 e2 e3' e4 e5 e7 : Value) (ys : List Value) {Q : AX → List Value → FM → Nat → Nat → Prop}
    (hQ : ∀ M N w dv, N1 ≤ N → (∀ b, b < N1 → b ≠ pb → M b = M0 b) → M pb = some (.cells (({ c with data := (ws.drop 2).map rblk } : Cmd).cells dv) 0 false true) → SlZ 8 M N1 N dv ((ws.drop 2).map rblk).length (u8all ((ws.drop 2).map rblk)) → (∀ j, j ≤ pb → Nat.mod w (bit j) = 0) → Q (.exit 1) (e1 :: e2 :: e3' :: e4 :: e5 :: .slice (some ⟨lb, 0, none⟩) (ws.length + 3) lc :: e7 :: .pointer (some ⟨pb, 0, none⟩) :: ys) M N w) :
    ∀ (d j : Nat), j + d = (ws.drop 2).length → ∀ (M : FM) (N w0 : Nat) (dv : Value), N1 ≤ N → (∀ b, b < N1 → b ≠ pb → M b = M0 b) → M pb = some (.cells (({ c with data := ((ws.drop 2).take j).map rblk } : Cmd).cells dv) 0 false true) → SlZ 8 M N1 N dv (((ws.drop 2).take j).map rblk).length (u8all (((ws.drop 2).take j).map rblk)) → (∀ j, j ≤ pb → Nat.mod w0 (bit j) = 0) →
    Gv (execW PG E Y ac17L0 (.int .i64 ((2 + j : Nat) : Int) :: e1 :: e2 :: e3' :: e4 :: e5 :: .slice (some ⟨lb, 0, none⟩) (ws.length + 3) lc :: e7 :: .pointer (some ⟨pb, 0, none⟩) :: ys) M N) fun X e m n w => Q X e m n (Nat.lor w0 w) := by
  intro d
  induction d with
  | zero =>
    intro j hj M N w0 dv hN hM hP hS hw
    have hl : (ws.drop 2).length = ws.length - 2 := List.length_drop ..
    refine wr_loopN (L := ac17L0) (b := ac17L0b) rfl ?_
    simp only [ac17L0b]
    simp (implicitDefEqProofs := false) (disch := omega) only [WPs, opds, List.all_cons, List.all_nil, List.cons_append, List.nil_append, cond_true, cond_false, eq_self, List.map_cons, List.map_nil, Nat.reduceAdd, Nat.testBit, Nat.reduceShiftRight, Nat.reduceAnd, Nat.reduceBNe, Nat.reduceMul]
    rw [List.take_of_length_le (by omega)] at hP hS
    exact hQ _ _ _ _ hN hM hP hS hw
  | succ d ih =>
    intro j hj M N w0 dv hN hM hP hS hw
    have hl : (ws.drop 2).length = ws.length - 2 := List.length_drop ..
    have hj2 : 2 + j < ws.length := by omega
    have hcc := hP
    simp only [Cmd.cells] at hcc
    have hmb := (hM lb hlb hne).trans hMl
    have hat := w_at ws (show 2 + j < ws.length + 3 by omega)
    have hbk := rblk_ok (atW ws (2 + j))
    have hone := hS.one
    refine wr_loopN (L := ac17L0) (b := ac17L0b) rfl ?_
    simp only [ac17L0b]
    simp (implicitDefEqProofs := false) (disch := omega) only [WPs, opds, List.all_cons, List.all_nil, List.cons_append, List.nil_append, cond_true, cond_false, eq_self, List.map_cons, List.map_nil, Nat.reduceAdd, Nat.testBit, Nat.reduceShiftRight, Nat.reduceAnd, Nat.reduceBNe, Nat.reduceMul, hcc, hmb, hat, hS.bel, hone]
    refine use_pureX (refBytes_spec hB hD (atW ws (2 + j)) (by have := hsz (2 + j); omega) M N) fun r1 => ?_
    simp (implicitDefEqProofs := false) (disch := omega) only [WPs, opds, List.all_cons, List.all_nil, List.cons_append, List.nil_append, cond_true, cond_false, eq_self, List.map_cons, List.map_nil, Nat.reduceAdd, Nat.testBit, Nat.reduceShiftRight, Nat.reduceAnd, Nat.reduceBNe, Nat.reduceMul, hcc, u8s_llen hbk.1, u8s_one, u8s_set hbk.1, u8s_all hbk.1, hS.bel, hone, u8s_bel]
    generalize hM2 : (AMem.put M N (some (.cells (u8s (rblk (atW ws (2 + j)))) 8 false true)) : FM) = M2
    have lo2 : ∀ b, b < N → M2 b = M b := fun b hb => by rw [← hM2, fput_ne _ _ _ _ (by omega)]
    have hS2 : SlZ 8 M2 N1 (N + 1) dv (((ws.drop 2).take j).map rblk).length (u8all (((ws.drop 2).take j).map rblk)) := hS.frame (by omega) fun b h1 h2 => lo2 b h2
    refine use_rtX (app_slZn hS2 _ _ _ (by omega) (k := 1) (by omega) (by omega) (zs := u8s (rblk (atW ws (2 + j)))) (by rw [u8s, List.length_map, hbk.1]) (u8s_one _) (by omega) (by rw [List.length_map, List.length_take]; omega)) fun v3 M3 N3 r3 w3 hh => ?_
    obtain ⟨hv3, hn3, hS3, f3, fw3⟩ := hh
    subst hn3
    have eat : atW ws (2 + j) = (ws.drop 2)[j]'(by omega) := by rw [atW_lt hj2, List.getElem_drop]
    have e3 : u8all (((ws.drop 2).take j).map rblk) ++ u8s (rblk (atW ws (2 + j))) = u8all (((ws.drop 2).take (j + 1)).map rblk) := by
      rw [List.take_succ_eq_append_getElem (by omega), List.map_append, List.map_cons, List.map_nil, u8all_snoc, eat]
    have l3 : (((ws.drop 2).take j).map rblk).length + 1 = (((ws.drop 2).take (j + 1)).map rblk).length := by
      rw [List.length_map, List.length_map, List.length_take, List.length_take]; omega
    rw [e3, l3] at hS3
    have hP3 : M3 pb = some (.cells (({ c with data := ((ws.drop 2).take j).map rblk } : Cmd).cells dv) 0 false true) := (f3 pb hpb).trans ((lo2 pb (by omega)).trans hP)
    have hcc3 := hP3
    simp only [Cmd.cells] at hcc3
    have hone3 := hS3.one
    simp (implicitDefEqProofs := false) (disch := omega) only [WPs, opds, List.all_cons, List.all_nil, List.cons_append, List.nil_append, cond_true, cond_false, eq_self, List.map_cons, List.map_nil, Nat.reduceAdd, Nat.testBit, Nat.reduceShiftRight, Nat.reduceAnd, Nat.reduceBNe, Nat.reduceMul, hcc3, hone3, cells_of_one hone3, hS3.bel]
    refine wr_end (ih (j + 1) (by omega) _ (N + 1 + 1) (Nat.lor w0 (Nat.lor (Nat.lor (bit N) w3) (bit pb))) v3 (by omega) (fun b h1 h2 => by rw [fput_ne _ _ _ _ h2, f3 b h1, lo2 b (by omega), hM b h1 h2]) (fput_same _ _ _) (hS3.frame (Nat.le_refl _) fun b h1 h2 => fput_ne _ _ _ _ (by omega)) (fun i hi => by
      simp only [frz_iff]
      exact ⟨hw i hi, ⟨frz_bit (by omega), fw3 i (by omega)⟩, frz_bit (by omega)⟩)) fun X e m n w hq => ?_
    rw [lor_asc] at hq
    exact hq
def FillR (c : Cmd) (ws : List ByteArray) (n : Nat) (v : Value) (m' : FM) (n' : Nat) : Prop :=
  ∃ dv, v = cmdV (fillC c ws) dv ∧ SlZ 8 m' n n' dv (fillC c ws).data.length (u8all (fillC c ws).data)
theorem fill_spec (hE : E 17 = some ac17) (hN : E 16 = some ac16) (hB : E 28 = some ac28) (hD : E 45 = some ac45) (m : FM) (n : Nat) {c : Cmd} (hc0 : c.data = []) {lv : Value} {ws : List ByteArray} (hL : SV m n lv ws) (hws : ws.length ≤ 2000) (hsz : ∀ i, (atW ws i).size ≤ 2000) (hk : 1 ≤ c.kind ∧ c.kind ≤ 7) :
    Rt (callW PG E Y 17 [cmdV c (.slice none 0 0), lv] m n) fun v m' n' w => n ≤ n' ∧ (∀ b, b < n → m' b = m b) ∧ (∀ j, j ≤ n → Nat.mod w (bit j) = 0) ∧ FillR c ws n v m' n' := by
  refine kept_specA (R := fun v m' n' => FillR c ws n v m' n') hE rfl fun Q hQ => ?_
  have hone := hL.one
  simp only [ac17, cmdV]
  simp (implicitDefEqProofs := false) (disch := omega) only [WPs, opds, List.all_cons, List.all_nil, List.cons_append, List.nil_append, cond_true, cond_false, eq_self, List.map_cons, List.map_nil, Nat.reduceAdd, Nat.testBit, Nat.reduceShiftRight, Nat.reduceAnd, Nat.reduceBNe, Nat.reduceMul, STs, hone]
  generalize hM1 : (AMem.put (AMem.put (AMem.put m n (some (.cells [.int .i64 c.tag, .int .i64 c.kind, .int .i64 c.ord, .bool c.force, .string c.vol, .string c.oth, .int .i64 c.at_, .int .i64 c.len, .slice none 0 0] 0 false true))) (n + 1) (some (.cells [.int .i64 0, .int .i64 0, .int .i64 0, .bool false, .string ⟨#[]⟩, .string ⟨#[]⟩, .int .i64 0, .int .i64 0, .slice none 0 0] 0 false true))) (n + 2) (some (.cells [] 1 false true)) : FM) = M1
  have lo1 : ∀ b, b < n → M1 b = m b := fun b hb => by rw [← hM1]; simp (disch := omega) only [fput_ne]
  have hb1 : M1 n = some (.cells [.int .i64 c.tag, .int .i64 c.kind, .int .i64 c.ord, .bool c.force, .string c.vol, .string c.oth, .int .i64 c.at_, .int .i64 c.len, .slice none 0 0] 0 false true) := by rw [← hM1, fput_ne _ _ _ _ (by omega), fput_ne _ _ _ _ (by omega)]; exact fput_same _ _ _
  have hr1 : M1 (n + 1) = some (.cells [.int .i64 0, .int .i64 0, .int .i64 0, .bool false, .string ⟨#[]⟩, .string ⟨#[]⟩, .int .i64 0, .int .i64 0, .slice none 0 0] 0 false true) := by rw [← hM1, fput_ne _ _ _ _ (by omega)]; exact fput_same _ _ _
  have he1 : M1 (n + 2) = some (.cells [] 1 false true) := by rw [← hM1]; exact fput_same _ _ _
  have hL1 : SV M1 (n + 3) lv ws := hL.frame (by omega) lo1
  obtain ⟨r0, hsh⟩ := hL1.shows
  obtain ⟨la, lcap, rfl⟩ := hL.sl
  rw [hsh]
  refine use_rt (app_e1 (n0 := n + 2) (by omega) (by omega) he1 _ _ _ (by omega)) fun v2 M2 N2 r2 w2 ⟨hN2, hE2, f2, fw2⟩ => ?_
  simp (implicitDefEqProofs := false) (disch := omega) only [WPs, opds, List.all_cons, List.all_nil, List.cons_append, List.nil_append, cond_true, cond_false, eq_self, List.map_cons, List.map_nil, Nat.reduceAdd, Nat.testBit, Nat.reduceShiftRight, Nat.reduceAnd, Nat.reduceBNe, Nat.reduceMul]
  generalize hM3 : (AMem.put M2 N2 (some (.cells [.string ⟨#[]⟩, .string ⟨#[]⟩, .string ⟨#[]⟩] 1 false true)) : FM) = M3
  have lo3 : ∀ b, b < N2 → M3 b = M2 b := fun b hb => by rw [← hM3, fput_ne _ _ _ _ (by omega)]
  have hE3 : StrE M3 (n + 2) (N2 + 1) v2 ws := hE2.frame (by omega) fun b _ hb => lo3 b hb
  refine use_rt (app_e2 (ys := e3) hE3 _ _ _ (by omega) (by decide) (by have : e3.length = 3 := rfl; omega)) fun v4 M4 N4 r4 w4 ⟨n4, hS4, f4, fw4⟩ => ?_
  subst n4
  obtain ⟨lb, lcp, lopn, rfl, hlb0, hlbN, hMl, _, _⟩ := strZ_cells hS4
  rw [w_len] at *
  have lo4 : ∀ b, b < n → M4 b = m b := fun b hb => by rw [f4 b (by omega), lo3 b (by omega), f2 b (by omega), lo1 b hb]
  have hb4 : M4 n = some (.cells [.int .i64 c.tag, .int .i64 c.kind, .int .i64 c.ord, .bool c.force, .string c.vol, .string c.oth, .int .i64 c.at_, .int .i64 c.len, .slice none 0 0] 0 false true) := by rw [f4 n (by omega), lo3 n (by omega), f2 n (by omega), hb1]
  have hr4 : M4 (n + 1) = some (.cells [.int .i64 0, .int .i64 0, .int .i64 0, .bool false, .string ⟨#[]⟩, .string ⟨#[]⟩, .int .i64 0, .int .i64 0, .slice none 0 0] 0 false true) := by rw [f4 (n + 1) (by omega), lo3 (n + 1) (by omega), f2 (n + 1) (by omega), hr1]
  have a0 := w_at ws (i := 0) (by omega)
  have a1 := w_at ws (i := 1) (by omega)
  have a2 := w_at ws (i := 2) (by omega)
  rcases (by omega : c.kind = 1 ∨ c.kind = 2 ∨ c.kind = 3 ∨ c.kind = 4 ∨ c.kind = 5 ∨ c.kind = 6 ∨ c.kind = 7) with k | k | k | k | k | k | k
  · have e : fillC c ws = { c with vol := atW ws 0, at_ := rnum (atW ws 1), len := rnum (atW ws 2) } := by unfold fillC; rw [if_pos (.inl k)]
    have hR : ∀ M N, FillR c ws n (cmdV ({ c with vol := atW ws 0, at_ := rnum (atW ws 1), len := rnum (atW ws 2) } : Cmd) (.slice none 0 0)) M N := fun M N => ⟨.slice none 0 0, by rw [e], by rw [e]; exact .inl ⟨by simp [hc0], by simp [hc0, u8all], rfl⟩⟩
    simp (implicitDefEqProofs := false) (disch := omega) only [WPs, opds, List.all_cons, List.all_nil, List.cons_append, List.nil_append, cond_true, cond_false, eq_self, List.map_cons, List.map_nil, Nat.reduceAdd, Nat.testBit, Nat.reduceShiftRight, Nat.reduceAnd, Nat.reduceBNe, Nat.reduceMul, hb4, hr4, hMl, a0, a1, a2]
    refine use_pureX (refNum_spec hN _ (by have := hsz 1; omega) _ _) fun r5 => ?_
    simp (implicitDefEqProofs := false) (disch := omega) only [WPs, opds, List.all_cons, List.all_nil, List.cons_append, List.nil_append, cond_true, cond_false, eq_self, List.map_cons, List.map_nil, Nat.reduceAdd, Nat.testBit, Nat.reduceShiftRight, Nat.reduceAnd, Nat.reduceBNe, Nat.reduceMul, hb4, hr4, hMl, a0, a1, a2]
    refine use_pureX (refNum_spec hN _ (by have := hsz 2; omega) _ _) fun r6 => ?_
    simp (implicitDefEqProofs := false) (disch := omega) only [WPs, opds, List.all_cons, List.all_nil, List.cons_append, List.nil_append, cond_true, cond_false, eq_self, List.map_cons, List.map_nil, Nat.reduceAdd, Nat.testBit, Nat.reduceShiftRight, Nat.reduceAnd, Nat.reduceBNe, Nat.reduceMul, hb4, hr4, hMl, a0, a1, a2]
    refine hQ _ _ _ _ _ (by omega) (fun b hb => by simp (disch := omega) only [fput_ne]; exact lo4 b hb) ?_ (fun _ => hR _ _) (fun _ => hR _ _)
    have fz2 := fw2 n (by omega)
    have fz4 := fw4 n (by omega)
    simp (implicitDefEqProofs := false) (disch := omega) only [WPs, opds, List.all_cons, List.all_nil, List.cons_append, List.nil_append, cond_true, cond_false, eq_self, List.map_cons, List.map_nil, Nat.reduceAdd, Nat.testBit, Nat.reduceShiftRight, Nat.reduceAnd, Nat.reduceBNe, Nat.reduceMul, fz2, fz4]
  · have e : fillC c ws = { c with vol := atW ws 0, at_ := rnum (atW ws 1), data := (ws.drop 2).map rblk, len := (((ws.drop 2).map rblk).length : Int) } := by unfold fillC; rw [if_neg (by omega), if_pos k]
    simp (implicitDefEqProofs := false) (disch := omega) only [WPs, opds, List.all_cons, List.all_nil, List.cons_append, List.nil_append, cond_true, cond_false, eq_self, List.map_cons, List.map_nil, Nat.reduceAdd, Nat.testBit, Nat.reduceShiftRight, Nat.reduceAnd, Nat.reduceBNe, Nat.reduceMul, hb4, hr4, hMl, a0, a1, a2]
    refine use_pure (refNum_spec hN _ (by have := hsz 1; omega) _ _) fun r5 => ?_
    simp (implicitDefEqProofs := false) (disch := omega) only [WPs, opds, List.all_cons, List.all_nil, List.cons_append, List.nil_append, cond_true, cond_false, eq_self, List.map_cons, List.map_nil, Nat.reduceAdd, Nat.testBit, Nat.reduceShiftRight, Nat.reduceAnd, Nat.reduceBNe, Nat.reduceMul, hb4, hr4, hMl, a0, a1, a2]
    generalize hM5 : (AMem.put M4 n (some (.cells [.int .i64 c.tag, .int .i64 c.kind, .int .i64 c.ord, .bool c.force, .string (atW ws 0), .string c.oth, .int .i64 (rnum (atW ws 1)), .int .i64 c.len, .slice none 0 0] 0 false true)) : FM) = M5
    have hP0 : M5 n = some (.cells (({ c with vol := atW ws 0, at_ := rnum (atW ws 1), data := ((ws.drop 2).take 0).map rblk } : Cmd).cells (.slice none 0 0)) 0 false true) := by rw [← hM5]; exact fput_same _ _ _
    have lo5 : ∀ b, b ≠ n → M5 b = M4 b := fun b hb => by rw [← hM5, fput_ne _ _ _ _ hb]
    refine wr_kont ((fill_L0 (N1 := N2 + 2) (pb := n) (lb := lb) (M0 := M5) (c := { c with vol := atW ws 0, at_ := rnum (atW ws 1) }) hB hD (by omega) hlbN (by omega) ((lo5 lb (by omega)).trans hMl) hws hsz _ _ _ _ _ _ _ (fun M6 N6 w6 dv6 hN6 hf6 hP6 hS6 hw6 => ?_) (ws.drop 2).length 0 (by omega) M5 (N2 + 2) 0 (.slice none 0 0) (Nat.le_refl _) (fun b h1 h2 => rfl) hP0 (.inl ⟨rfl, rfl, rfl⟩) (fun j _ => frz_zero _)).mono fun X e m' n' w hq => by simpa only [zero_lor'] using hq)
    intro rr
    simp only [Cmd.cells] at hP6
    have hone6 := hS6.one
    have hlen6 := hS6.len
    have hr6 := (hf6 (n + 1) (by omega) (by omega)).trans ((lo5 (n + 1) (by omega)).trans hr4)
    have fz6 := hw6 n (Nat.le_refl _)
    simp (implicitDefEqProofs := false) (disch := omega) only [WPs, opds, List.all_cons, List.all_nil, List.cons_append, List.nil_append, cond_true, cond_false, eq_self, List.map_cons, List.map_nil, Nat.reduceAdd, Nat.testBit, Nat.reduceShiftRight, Nat.reduceAnd, Nat.reduceBNe, Nat.reduceMul, hP6, hr6, hone6, hlen6]
    have fz2 := fw2 n (by omega)
    have fz4 := fw4 n (by omega)
    refine hQ _ _ _ _ _ (by omega) (fun b hb => by simp (disch := omega) only [fput_ne]; rw [hf6 b (by omega) (by omega), lo5 b (by omega), lo4 b hb]) ?_ (fun _ => ⟨dv6, by rw [e]; rfl, ?_⟩) (fun hfree => ?_)
    · simp (implicitDefEqProofs := false) (disch := omega) only [WPs, opds, List.all_cons, List.all_nil, List.cons_append, List.nil_append, cond_true, cond_false, eq_self, List.map_cons, List.map_nil, Nat.reduceAdd, Nat.testBit, Nat.reduceShiftRight, Nat.reduceAnd, Nat.reduceBNe, Nat.reduceMul, fz2, fz4, fz6]
    · rw [e]
      exact (hS6.frame (Nat.le_refl _) fun b h1 h2 => by simp (disch := omega) only [fput_ne]).low (by omega)
    · rcases hS6 with ⟨h1, h2, rfl⟩ | ⟨_, _, b, rfl, _⟩
      · exact ⟨.slice none 0 0, by rw [e]; rfl, by rw [e]; exact .inl ⟨h1, h2, rfl⟩⟩
      · exact absurd (show false = true from hfree) (by decide)
  · have e : fillC c ws = { c with vol := atW ws 0, at_ := rnum (atW ws 1), len := rnum (atW ws 2) } := by unfold fillC; rw [if_pos (.inr k)]
    have hR : ∀ M N, FillR c ws n (cmdV ({ c with vol := atW ws 0, at_ := rnum (atW ws 1), len := rnum (atW ws 2) } : Cmd) (.slice none 0 0)) M N := fun M N => ⟨.slice none 0 0, by rw [e], by rw [e]; exact .inl ⟨by simp [hc0], by simp [hc0, u8all], rfl⟩⟩
    simp (implicitDefEqProofs := false) (disch := omega) only [WPs, opds, List.all_cons, List.all_nil, List.cons_append, List.nil_append, cond_true, cond_false, eq_self, List.map_cons, List.map_nil, Nat.reduceAdd, Nat.testBit, Nat.reduceShiftRight, Nat.reduceAnd, Nat.reduceBNe, Nat.reduceMul, hb4, hr4, hMl, a0, a1, a2]
    refine use_pureX (refNum_spec hN _ (by have := hsz 1; omega) _ _) fun r5 => ?_
    simp (implicitDefEqProofs := false) (disch := omega) only [WPs, opds, List.all_cons, List.all_nil, List.cons_append, List.nil_append, cond_true, cond_false, eq_self, List.map_cons, List.map_nil, Nat.reduceAdd, Nat.testBit, Nat.reduceShiftRight, Nat.reduceAnd, Nat.reduceBNe, Nat.reduceMul, hb4, hr4, hMl, a0, a1, a2]
    refine use_pureX (refNum_spec hN _ (by have := hsz 2; omega) _ _) fun r6 => ?_
    simp (implicitDefEqProofs := false) (disch := omega) only [WPs, opds, List.all_cons, List.all_nil, List.cons_append, List.nil_append, cond_true, cond_false, eq_self, List.map_cons, List.map_nil, Nat.reduceAdd, Nat.testBit, Nat.reduceShiftRight, Nat.reduceAnd, Nat.reduceBNe, Nat.reduceMul, hb4, hr4, hMl, a0, a1, a2]
    refine hQ _ _ _ _ _ (by omega) (fun b hb => by simp (disch := omega) only [fput_ne]; exact lo4 b hb) ?_ (fun _ => hR _ _) (fun _ => hR _ _)
    have fz2 := fw2 n (by omega)
    have fz4 := fw4 n (by omega)
    simp (implicitDefEqProofs := false) (disch := omega) only [WPs, opds, List.all_cons, List.all_nil, List.cons_append, List.nil_append, cond_true, cond_false, eq_self, List.map_cons, List.map_nil, Nat.reduceAdd, Nat.testBit, Nat.reduceShiftRight, Nat.reduceAnd, Nat.reduceBNe, Nat.reduceMul, fz2, fz4]
  · have e : fillC c ws = { c with vol := atW ws 0 } := by unfold fillC; rw [if_neg (by omega), if_neg (by omega), if_neg (by omega), if_neg (by omega)]
    have hR : ∀ M N, FillR c ws n (cmdV ({ c with vol := atW ws 0 } : Cmd) (.slice none 0 0)) M N := fun M N => ⟨.slice none 0 0, by rw [e], by rw [e]; exact .inl ⟨by simp [hc0], by simp [hc0, u8all], rfl⟩⟩
    simp (implicitDefEqProofs := false) (disch := omega) only [WPs, opds, List.all_cons, List.all_nil, List.cons_append, List.nil_append, cond_true, cond_false, eq_self, List.map_cons, List.map_nil, Nat.reduceAdd, Nat.testBit, Nat.reduceShiftRight, Nat.reduceAnd, Nat.reduceBNe, Nat.reduceMul, hb4, hr4, hMl, a0, a1, a2]
    refine hQ _ _ _ _ _ (by omega) (fun b hb => by simp (disch := omega) only [fput_ne]; exact lo4 b hb) ?_ (fun _ => hR _ _) (fun _ => hR _ _)
    have fz2 := fw2 n (by omega)
    have fz4 := fw4 n (by omega)
    simp (implicitDefEqProofs := false) (disch := omega) only [WPs, opds, List.all_cons, List.all_nil, List.cons_append, List.nil_append, cond_true, cond_false, eq_self, List.map_cons, List.map_nil, Nat.reduceAdd, Nat.testBit, Nat.reduceShiftRight, Nat.reduceAnd, Nat.reduceBNe, Nat.reduceMul, fz2, fz4]
  · have e : fillC c ws = { c with vol := atW ws 0, len := rnum (atW ws 1), at_ := rnum (atW ws 2) } := by unfold fillC; rw [if_neg (by omega), if_neg (by omega), if_pos k]
    have hR : ∀ M N, FillR c ws n (cmdV ({ c with vol := atW ws 0, len := rnum (atW ws 1), at_ := rnum (atW ws 2) } : Cmd) (.slice none 0 0)) M N := fun M N => ⟨.slice none 0 0, by rw [e], by rw [e]; exact .inl ⟨by simp [hc0], by simp [hc0, u8all], rfl⟩⟩
    simp (implicitDefEqProofs := false) (disch := omega) only [WPs, opds, List.all_cons, List.all_nil, List.cons_append, List.nil_append, cond_true, cond_false, eq_self, List.map_cons, List.map_nil, Nat.reduceAdd, Nat.testBit, Nat.reduceShiftRight, Nat.reduceAnd, Nat.reduceBNe, Nat.reduceMul, hb4, hr4, hMl, a0, a1, a2]
    refine use_pureX (refNum_spec hN _ (by have := hsz 1; omega) _ _) fun r5 => ?_
    simp (implicitDefEqProofs := false) (disch := omega) only [WPs, opds, List.all_cons, List.all_nil, List.cons_append, List.nil_append, cond_true, cond_false, eq_self, List.map_cons, List.map_nil, Nat.reduceAdd, Nat.testBit, Nat.reduceShiftRight, Nat.reduceAnd, Nat.reduceBNe, Nat.reduceMul, hb4, hr4, hMl, a0, a1, a2]
    refine use_pureX (refNum_spec hN _ (by have := hsz 2; omega) _ _) fun r6 => ?_
    simp (implicitDefEqProofs := false) (disch := omega) only [WPs, opds, List.all_cons, List.all_nil, List.cons_append, List.nil_append, cond_true, cond_false, eq_self, List.map_cons, List.map_nil, Nat.reduceAdd, Nat.testBit, Nat.reduceShiftRight, Nat.reduceAnd, Nat.reduceBNe, Nat.reduceMul, hb4, hr4, hMl, a0, a1, a2]
    refine hQ _ _ _ _ _ (by omega) (fun b hb => by simp (disch := omega) only [fput_ne]; exact lo4 b hb) ?_ (fun _ => hR _ _) (fun _ => hR _ _)
    have fz2 := fw2 n (by omega)
    have fz4 := fw4 n (by omega)
    simp (implicitDefEqProofs := false) (disch := omega) only [WPs, opds, List.all_cons, List.all_nil, List.cons_append, List.nil_append, cond_true, cond_false, eq_self, List.map_cons, List.map_nil, Nat.reduceAdd, Nat.testBit, Nat.reduceShiftRight, Nat.reduceAnd, Nat.reduceBNe, Nat.reduceMul, fz2, fz4]
  · have e : fillC c ws = { c with vol := atW ws 0, oth := atW ws 1 } := by unfold fillC; rw [if_neg (by omega), if_neg (by omega), if_neg (by omega), if_pos k]
    have hR : ∀ M N, FillR c ws n (cmdV ({ c with vol := atW ws 0, oth := atW ws 1 } : Cmd) (.slice none 0 0)) M N := fun M N => ⟨.slice none 0 0, by rw [e], by rw [e]; exact .inl ⟨by simp [hc0], by simp [hc0, u8all], rfl⟩⟩
    simp (implicitDefEqProofs := false) (disch := omega) only [WPs, opds, List.all_cons, List.all_nil, List.cons_append, List.nil_append, cond_true, cond_false, eq_self, List.map_cons, List.map_nil, Nat.reduceAdd, Nat.testBit, Nat.reduceShiftRight, Nat.reduceAnd, Nat.reduceBNe, Nat.reduceMul, hb4, hr4, hMl, a0, a1, a2]
    refine hQ _ _ _ _ _ (by omega) (fun b hb => by simp (disch := omega) only [fput_ne]; exact lo4 b hb) ?_ (fun _ => hR _ _) (fun _ => hR _ _)
    have fz2 := fw2 n (by omega)
    have fz4 := fw4 n (by omega)
    simp (implicitDefEqProofs := false) (disch := omega) only [WPs, opds, List.all_cons, List.all_nil, List.cons_append, List.nil_append, cond_true, cond_false, eq_self, List.map_cons, List.map_nil, Nat.reduceAdd, Nat.testBit, Nat.reduceShiftRight, Nat.reduceAnd, Nat.reduceBNe, Nat.reduceMul, fz2, fz4]
  · have e : fillC c ws = { c with vol := atW ws 0 } := by unfold fillC; rw [if_neg (by omega), if_neg (by omega), if_neg (by omega), if_neg (by omega)]
    have hR : ∀ M N, FillR c ws n (cmdV ({ c with vol := atW ws 0 } : Cmd) (.slice none 0 0)) M N := fun M N => ⟨.slice none 0 0, by rw [e], by rw [e]; exact .inl ⟨by simp [hc0], by simp [hc0, u8all], rfl⟩⟩
    simp (implicitDefEqProofs := false) (disch := omega) only [WPs, opds, List.all_cons, List.all_nil, List.cons_append, List.nil_append, cond_true, cond_false, eq_self, List.map_cons, List.map_nil, Nat.reduceAdd, Nat.testBit, Nat.reduceShiftRight, Nat.reduceAnd, Nat.reduceBNe, Nat.reduceMul, hb4, hr4, hMl, a0, a1, a2]
    refine hQ _ _ _ _ _ (by omega) (fun b hb => by simp (disch := omega) only [fput_ne]; exact lo4 b hb) ?_ (fun _ => hR _ _) (fun _ => hR _ _)
    have fz2 := fw2 n (by omega)
    have fz4 := fw4 n (by omega)
    simp (implicitDefEqProofs := false) (disch := omega) only [WPs, opds, List.all_cons, List.all_nil, List.cons_append, List.nil_append, cond_true, cond_false, eq_self, List.map_cons, List.map_nil, Nat.reduceAdd, Nat.testBit, Nat.reduceShiftRight, Nat.reduceAnd, Nat.reduceBNe, Nat.reduceMul, fz2, fz4]
end Go.Am.C39
namespace Go.Am
open Go Go.RowKit
section
variable {μ : Type} [AMem μ] {P : Program}
def Up (n n' r w : Nat) : Prop := n ≤ n' ∧ ∀ i, n' ≤ i → r.testBit i = false ∧ w.testBit i = false
theorem Up.refl (n : Nat) : Up n n 0 0 := ⟨Nat.le_refl _, fun i _ => ⟨Nat.zero_testBit i, Nat.zero_testBit i⟩⟩
theorem Up.trans {n n1 n2 r1 w1 r2 w2 : Nat} (h : Up n n1 r1 w1) (k : Up n1 n2 r2 w2) : Up n n2 (Nat.lor r1 r2) (Nat.lor w1 w2) :=
  ⟨Nat.le_trans h.1 k.1, fun i hi => by
    have a := h.2 i (Nat.le_trans k.1 hi)
    have b := k.2 i hi
    rw [lor_test, lor_test, a.1, a.2, b.1, b.2]
    exact ⟨rfl, rfl⟩⟩
theorem bit_up {b n i : Nat} (hb : b < n) (hi : n ≤ i) : (bit b).testBit i = false := by
  rw [bit_test]
  exact decide_eq_false (by omega)
theorem up_read {b n : Nat} (hb : b < n) : Up n n (bit b) 0 := ⟨Nat.le_refl _, fun i hi => ⟨bit_up hb hi, Nat.zero_testBit i⟩⟩
theorem up_new (n : Nat) {r : Nat} (hr : ∀ i, n ≤ i → r.testBit i = false) : Up n (n + 1) r (bit n) := ⟨Nat.le_succ _, fun i hi => ⟨hr i (by omega), bit_up (Nat.lt_succ_self _) hi⟩⟩
theorem newb_up {m m' : μ} {n n' r wm : Nat} {O : Blk} {f : Nat → Value} {v : Value} (h : newb m n O f = .ok v m' n' r wm) : Up n n' r wm := by
  unfold newb at h
  cases hl : AMem.lim m n
  · rw [hl, cond_false] at h; cases h
  · rw [hl, cond_true] at h; injection h with e1 e2 e3 e4 e5; subst e2; subst e3; subst e4; subst e5; exact up_new _ fun i _ => Nat.zero_testBit i
omit [AMem μ] in
theorem valO_up {m m' : μ} {n n' r wm : Nat} {x : Option Value} {v : Value} (h : valO m n x = .ok v m' n' r wm) : Up n n' r wm := by
  obtain ⟨_, rfl, rfl, rfl, rfl⟩ := valO_ok h; exact Up.refl _
omit [AMem μ] in
theorem valR_up {m m' : μ} {n n' r wm b : Nat} {x : Option Value} {v : Value} (hb : b < n) (h : valR m n b x = .ok v m' n' r wm) : Up n n' r wm := by
  obtain ⟨_, rfl, rfl, rfl, rfl⟩ := valR_ok h; exact up_read hb
theorem szOk_lt {m : μ} {sz n b : Nat} (h : szOk sz (getb m n b) = true) : b < n := by
  unfold szOk at h
  split at h
  · rename_i hg; exact (getb_some hg).1
  · cases h
theorem withCells_lt {m : μ} {n b : Nat} {f : List Value → OR μ} {v : Value} {m' : μ} {n' r wm : Nat} (h : withCells (getb m n b) f = .ok v m' n' r wm) : b < n ∧ ∃ c, f c = .ok v m' n' r wm := by
  cases hg : getb m n b with
  | none => rw [hg] at h; cases h
  | some B => rw [hg] at h; exact ⟨(getb_some hg).1, withCells_ok h⟩
theorem putC_up {m m' : μ} {n n' r r0 wm b sz : Nat} {opn : Bool} {v0 v : Value} {c : Option (List Value)} (hb : b < n) (hr : ∀ i, n ≤ i → r0.testBit i = false) (h : putC m n b sz opn v0 r0 c = .ok v m' n' r wm) : Up n n' r wm := by
  unfold putC at h; split at h
  · injection h with e1 e2 e3 e4 e5; subst e2; subst e3; subst e4; subst e5; exact ⟨Nat.le_refl _, fun i hi => ⟨hr i hi, bit_up hb hi⟩⟩
  · cases h
theorem appN_up {m m' : μ} {n n' r r0 wm sz len : Nat} {c : List Value} {v : Value} (hr : ∀ i, n ≤ i → r0.testBit i = false) (h : appN m n sz len c r0 = .ok v m' n' r wm) : Up n n' r wm := by
  unfold appN at h
  cases hl : AMem.lim m n
  · rw [hl, cond_false] at h; cases h
  · rw [hl, cond_true] at h; injection h with e1 e2 e3 e4 e5; subst e2; subst e3; subst e4; subst e5; exact up_new _ hr
theorem putM_up {m m' : μ} {n n' r wm b : Nat} {v : Value} {es : Option (List (Value × Value))} (hb : b < n) (h : putM m n b es = .ok v m' n' r wm) : Up n n' r wm := by
  unfold putM at h; split at h
  · injection h with e1 e2 e3 e4 e5; subst e2; subst e3; subst e4; subst e5; exact ⟨Nat.le_refl _, fun i hi => ⟨bit_up hb hi, bit_up hb hi⟩⟩
  · cases h
theorem shown_up {m : μ} {n sz : Nat} {v : Value} {p : List Value × Nat} (h : shown m n sz v = some p) : ∀ i, n ≤ i → p.2.testBit i = false := by
  intro i hi
  unfold shown at h
  split at h
  · injection h with h; subst h; exact Nat.zero_testBit i
  · rename_i b o l c
    cases h0 : Nat.beq l 0
    · rw [h0, cond_false] at h
      unfold shownB at h
      split at h
      · rename_i cs s q1 q2 hg
        cases hs : Nat.beq s sz
        · rw [hs] at h; cases h
        · rw [hs, cond_true] at h
          cases hc : cellsAt cs o (Nat.mul l sz) with
          | none => rw [hc] at h; cases h
          | some x =>
            rw [hc] at h
            injection h with h
            subst h
            exact bit_up (getb_some hg).1 hi
      · cases h
    · rw [h0, cond_true] at h; injection h with h; subst h; exact Nat.zero_testBit i
  · cases h
theorem mapV_up {m m' : μ} {n n' r wm : Nat} {v : Value} {op : MOp} {xs : List Value} (h : mapV P op xs m n = .ok v m' n' r wm) : Up n n' r wm := by
  unfold mapV at h
  split at h
  · exact newb_up h
  · rename_i kt z ok x k
    cases hf : addrFree k
    · rw [hf, cond_false] at h; cases h
    · rw [hf, cond_true] at h
      split at h
      · exact valO_up h
      · unfold lookB at h
        split at h
        · rename_i hg; exact valR_up (getb_some hg).1 h
        · cases h
      · cases h
  · rename_i kt x k y
    cases hf : addrFree k
    · rw [hf, cond_false] at h; cases h
    · rw [hf, cond_true] at h
      split at h
      · unfold updB at h
        split at h
        · rename_i hg; exact putM_up (getb_some hg).1 h
        · cases h
      · cases h
  · rename_i kt x k
    cases hf : addrFree k
    · rw [hf, cond_false] at h; cases h
    · rw [hf, cond_true] at h
      split at h
      · unfold delB at h
        split at h
        · rename_i hg; exact putM_up (getb_some hg).1 h
        · cases h
      · cases h
  · split at h
    · unfold strB at h
      split at h
      · rename_i c sz opn wr hg
        cases hz : Nat.beq sz 1
        · rw [hz] at h; cases h
        · rw [hz] at h; exact valR_up (getb_some hg).1 h
      · cases h
    · cases h
  · cases h
theorem step_up {e : List Value} {m m' : μ} {n n' r wm : Nat} {v : Value} {rec : Nat → List Value → μ → Nat → OR μ} {x : AOp} (hrec : ∀ f args m n v m' n' r wm, rec f args m n = .ok v m' n' r wm → Up n n' r wm)
    (h : stepA P rec e m n x = .ok v m' n' r wm) : Up n n' r wm := by
  cases x with
  | mov x => injection h with e1 e2 e3 e4 e5; subst e2; subst e3; subst e4; subst e5; exact Up.refl _
  | func f a c => injection h with e1 e2 e3 e4 e5; subst e2; subst e3; subst e4; subst e5; exact Up.refl _
  | pick c a b => exact valO_up h
  | bin op t x y => exact valO_up h
  | una op x => exact valO_up h
  | conv k x => exact valO_up h
  | fld off x => exact valO_up h
  | idx sz x i => exact valO_up h
  | ida k sz x i => exact valO_up h
  | build z ps => exact valO_up h
  | extr i x => exact valO_up h
  | nilck x => exact valO_up h
  | len s x => exact valO_up h
  | mx x y => exact valO_up h
  | pur op xs => exact valO_up h
  | mp op xs => exact mapV_up h
  | slc sz x lo hi =>
    replace h : slcM m n sz (slcV sz (oev e lo) (oev e hi) (ev e x)) (ev e x) = .ok v m' n' r wm := h
    unfold slcM at h
    split at h
    · rename_i b o ln c hx
      cases hc : Nat.beq c UNK
      · rw [hc, cond_false] at h; exact valO_up h
      · rw [hc, cond_true] at h
        cases hz : szOk sz (getb m n b)
        · rw [hz, cond_false] at h; cases h
        · rw [hz, cond_true] at h; exact valR_up (szOk_lt hz) h
    · exact valO_up h
  | new c => exact newb_up h
  | box x => exact newb_up h
  | mkl sz len z ps =>
    replace h : mklC m n sz len (fillA (parts2 sz e ps) (reps z len)) = .ok v m' n' r wm := h
    unfold mklC at h; split at h
    · exact newb_up h
    · cases h
  | make sz bytes z l c =>
    replace h : makeV sz bytes z m n (natOf (ev e l)) (natOf (ev e c)) = .ok v m' n' r wm := h
    unfold makeV at h; split at h
    · rename_i l1 c1 _ _
      cases hb : (Nat.ble l1 c1 && Nat.ble (Nat.mul c1 bytes) 281474976710656 && Nat.ble c1 1099511627776)
      · rw [hb, cond_false] at h; cases h
      · rw [hb, cond_true] at h; exact newb_up h
    · cases h
  | ld1 x =>
    replace h : ld1V m n (ev e x) = .ok v m' n' r wm := h
    unfold ld1V at h; split at h
    · obtain ⟨hb, c, h⟩ := withCells_lt h; exact valR_up hb h
    · cases h
  | ldn k x =>
    replace h : ldnV k m n (ev e x) = .ok v m' n' r wm := h
    unfold ldnV at h; split at h
    · obtain ⟨hb, c, h⟩ := withCells_lt h; exact valR_up hb h
    · cases h
  | st k x y =>
    replace h : stV k (ev e y).cells.toList m n (ev e x) = .ok v m' n' r wm := h
    unfold stV at h; split at h
    · rename_i b o hx
      cases hc : (Nat.beq (llen (ev e y).cells.toList) k && (ev e y).cells.toList.all one)
      · rw [hc, cond_false] at h; cases h
      · rw [hc, cond_true] at h
        unfold stC at h; split at h
        · rename_i hg; exact putC_up (getb_some hg).1 (fun i hi => bit_up (getb_some hg).1 hi) h
        · cases h
    · cases h
  | app sz bytes x y =>
    replace h : appO sz bytes m n (ev e x) (ev e y) (shown m n sz (ev e x)) (shown m n sz (ev e y)) = .ok v m' n' r wm := h
    unfold appO at h; split at h
    · rename_i a b ha hb'
      have hr : ∀ i, n ≤ i → (Nat.lor a.2 b.2).testBit i = false := fun i hi => by rw [lor_test, shown_up ha i hi, shown_up hb' i hi]; rfl
      unfold appV at h; split at h
      · rename_i ax lx cx ay ly cy hx hy
        cases hc : (b.1.all one && Nat.blt 0 sz && Nat.blt 0 bytes && Nat.ble (Nat.mul (Nat.add lx ly) bytes) 140737488355328)
        · rw [hc, cond_false] at h; cases h
        · rw [hc, cond_true] at h
          unfold appG at h; split at h
          · cases hl : Nat.beq ly 0
            · rw [hl, cond_false] at h; exact appN_up hr h
            · rw [hl, cond_true] at h; injection h with e1 e2 e3 e4 e5; subst e2; subst e3; subst e4; subst e5; exact ⟨Nat.le_refl _, fun i hi => ⟨hr i hi, Nat.zero_testBit i⟩⟩
          · rename_i bx ox
            cases hv : Nat.beq cx VAG
            · rw [hv, cond_false] at h
              cases hu : Nat.beq cx UNK
              · rw [hu, cond_false] at h
                cases hl : Nat.ble (Nat.add lx ly) cx
                · rw [hl, cond_false] at h; exact appN_up hr h
                · rw [hl, cond_true] at h
                  unfold appR at h; split at h
                  · rename_i hg; exact putC_up (getb_some hg).1 hr h
                  · cases h
              · rw [hu, cond_true] at h
                unfold appU at h; split at h
                · rename_i c s hg
                  cases hl : (AMem.lim m n && Nat.beq s sz)
                  · rw [hl, cond_false] at h; cases h
                  · rw [hl, cond_true] at h; injection h with e1 e2 e3 e4 e5; subst e2; subst e3; subst e4; subst e5
                    rw [Bool.and_eq_true] at hl
                    exact ⟨Nat.le_succ _, fun i hi => ⟨hr i (Nat.le_of_succ_le hi), by rw [lor_test, bit_up (getb_some hg).1 (Nat.le_of_succ_le hi), bit_up (Nat.lt_succ_self n) hi]; rfl⟩⟩
                · cases h
            · rw [hv, cond_true] at h; cases h
          · cases h
      · cases h
    · cases h
  | call f args => exact hrec _ _ _ _ _ _ _ _ _ h
  | callv x args =>
    replace h : callV rec (evs e args) m n (ev e x) = .ok v m' n' r wm := h
    unfold callV at h; split at h
    · exact hrec _ _ _ _ _ _ _ _ _ h
    · cases h

theorem opsA_up {rec : Nat → List Value → μ → Nat → OR μ} (hrec : ∀ f args m n v m' n' r wm, rec f args m n = .ok v m' n' r wm → Up n n' r wm) :
    ∀ (l : List AI) (e : List Value) (m : μ) (n r0 w0 : Nat) (X : AX) (e' : List Value) (m' : μ) (n' r wm : Nat), opsA P rec l e m n r0 w0 = .ok X e' m' n' r wm →
      ∃ r1 w1, r = Nat.lor r0 r1 ∧ wm = Nat.lor w0 w1 ∧ Up n n' r1 w1
  | [], e, m, n, r0, w0, X, e', m', n', r, wm, h => by
    obtain ⟨_, _, rfl, rfl, rfl, rfl⟩ := doneA_ok h
    exact ⟨0, 0, (lor_zero' _).symm, (lor_zero' _).symm, Up.refl _⟩
  | i :: l, e, m, n, r0, w0, X, e', m', n', r, wm, h => by
    have ih := opsA_up hrec l
    have step : ∀ {o : AOp} {e2 : Value → List Value}, (orRec (stepA P rec e m n o) fun v m n r' w' => opsA P rec l (e2 v) m n (Nat.lor r0 r') (Nat.lor w0 w')) = .ok X e' m' n' r wm → ∃ r1 w1, r = Nat.lor r0 r1 ∧ wm = Nat.lor w0 w1 ∧ Up n n' r1 w1 := by
      intro o e2 h
      obtain ⟨v, m1, n1, r1, w1, h1, h2⟩ := orRec_ok h
      have l1 := step_up hrec h1
      obtain ⟨r2, w2, rfl, rfl, l2⟩ := ih _ _ _ _ _ _ _ _ _ _ _ h2
      exact ⟨Nat.lor r1 r2, Nat.lor w1 w2, lor_assoc' _ _ _, lor_assoc' _ _ _, l1.trans l2⟩
    cases i with
    | nop i => exact ih _ _ _ _ _ _ _ _ _ _ _ h
    | op o => exact step (e2 := fun v => v :: e) h
    | opg o gi gw =>
      replace h : cond (wantB gw (lget e gi)) (orRec (stepA P rec e m n o) fun v m n r' w' => opsA P rec l (v :: e) m n (Nat.lor r0 r') (Nat.lor w0 w')) (opsA P rec l (undef :: e) m n r0 w0) = .ok X e' m' n' r wm := h
      cases hw : wantB gw (lget e gi)
      · rw [hw, cond_false] at h; exact ih _ _ _ _ _ _ _ _ _ _ _ h
      · rw [hw, cond_true] at h; exact step (e2 := fun v => v :: e) h
    | eff o => exact step (e2 := fun _ => e) h
    | effg o gi gw =>
      replace h : cond (wantB gw (lget e gi)) (orRec (stepA P rec e m n o) fun v m n r' w' => opsA P rec l e m n (Nat.lor r0 r') (Nat.lor w0 w')) (opsA P rec l e m n r0 w0) = .ok X e' m' n' r wm := h
      cases hw : wantB gw (lget e gi)
      · rw [hw, cond_false] at h; exact ih _ _ _ _ _ _ _ _ _ _ _ h
      · rw [hw, cond_true] at h; exact step (e2 := fun _ => e) h

theorem opsD_up {rec : Nat → List Value → μ → Nat → OR μ} (hrec : ∀ f args m n v m' n' r wm, rec f args m n = .ok v m' n' r wm → Up n n' r wm) :
    ∀ (l : List AI) (bs : List Nat) (k : Nat) (done : List (Nat × Nat × Nat)) (e : List Value) (m : μ) (n r0 w0 : Nat) (X : AX) (e' : List Value) (m' : μ) (n' r wm : Nat), opsD P rec l bs k done e m n r0 w0 = .ok X e' m' n' r wm →
      ∃ r1 w1, r = Nat.lor r0 r1 ∧ wm = Nat.lor w0 w1 ∧ Up n n' r1 w1
  | [], bs, k, done, e, m, n, r0, w0, X, e', m', n', r, wm, h => by
    obtain ⟨_, _, rfl, rfl, rfl, rfl⟩ := doneA_ok h
    exact ⟨0, 0, (lor_zero' _).symm, (lor_zero' _).symm, Up.refl _⟩
  | i :: l, bs, k, done, e, m, n, r0, w0, X, e', m', n', r, wm, h => by
    have ih := opsD_up hrec l
    have step : ∀ {o : AOp} {e2 : Value → List Value}, (okD (bs.headD 0) k done (stepD P rec e m n o) fun v m n r' w' done => opsD P rec l bs.tail (Nat.succ k) done (e2 v) m n (Nat.lor r0 r') (Nat.lor w0 w')) = .ok X e' m' n' r wm → ∃ r1 w1, r = Nat.lor r0 r1 ∧ wm = Nat.lor w0 w1 ∧ Up n n' r1 w1 := by
      intro o e2 h
      obtain ⟨v, m1, n1, r1, w1, h1, h2⟩ := okD_ok h
      have l1 := step_up hrec (stepD_ok h1).2
      rcases h2 with ⟨_, h2⟩ | ⟨_, h2⟩
      all_goals
        obtain ⟨r2, w2, rfl, rfl, l2⟩ := ih _ _ _ _ _ _ _ _ _ _ _ _ _ _ h2
        exact ⟨Nat.lor r1 r2, Nat.lor w1 w2, lor_assoc' _ _ _, lor_assoc' _ _ _, l1.trans l2⟩
    cases i with
    | nop i => exact ih _ _ _ _ _ _ _ _ _ _ _ _ _ _ h
    | op o => exact step (e2 := fun v => v :: e) h
    | opg o gi gw =>
      replace h : cond (wantB gw (lget e gi)) (okD (bs.headD 0) k done (stepD P rec e m n o) fun v m n r' w' done => opsD P rec l bs.tail (Nat.succ k) done (v :: e) m n (Nat.lor r0 r') (Nat.lor w0 w')) (opsD P rec l bs.tail (Nat.succ k) done (undef :: e) m n r0 w0) = .ok X e' m' n' r wm := h
      cases hw : wantB gw (lget e gi)
      · rw [hw, cond_false] at h; exact ih _ _ _ _ _ _ _ _ _ _ _ _ _ _ h
      · rw [hw, cond_true] at h; exact step (e2 := fun v => v :: e) h
    | eff o => exact step (e2 := fun _ => e) h
    | effg o gi gw =>
      replace h : cond (wantB gw (lget e gi)) (okD (bs.headD 0) k done (stepD P rec e m n o) fun v m n r' w' done => opsD P rec l bs.tail (Nat.succ k) done e m n (Nat.lor r0 r') (Nat.lor w0 w')) (opsD P rec l bs.tail (Nat.succ k) done e m n r0 w0) = .ok X e' m' n' r wm := h
      cases hw : wantB gw (lget e gi)
      · rw [hw, cond_false] at h; exact ih _ _ _ _ _ _ _ _ _ _ _ _ _ _ h
      · rw [hw, cond_true] at h; exact step (e2 := fun _ => e) h

omit [AMem μ] in
theorem leaveA_up {m0 m m' : μ} {n0 n n' r r0 w0 wm : Nat} {v0 v : Value} (h0 : Up n0 n r0 w0) (h : leaveA m0 n0 v0 m n r0 w0 = .ok v m' n' r wm) : Up n0 n' r wm := by
  unfold leaveA at h
  cases hb : (addrFree v0 && Nat.beq (Nat.mod w0 (bit n0)) 0)
  · rw [hb, cond_false] at h; injection h with e1 e2 e3 e4 e5; subst e2; subst e3; subst e4; subst e5; exact h0
  · rw [hb, cond_true, forceN_eq] at h; injection h with e1 e2 e3 e4 e5; subst e2; subst e3; subst e4; subst e5
    refine ⟨Nat.le_refl _, fun i hi => ⟨?_, Nat.zero_testBit i⟩⟩
    show (r0 % bit n0).testBit i = false
    rw [show bit n0 = 2 ^ n0 by rw [bit]; exact Nat.one_shiftLeft n0, Nat.testBit_mod_two_pow]
    simp only [Bool.and_eq_false_imp, decide_eq_true_eq]
    omega

theorem resO_up {e : List Value} {m : μ} {n : Nat} {vs : List Value} {r : Nat} {x : ROp} {p : List Value × Nat} (hr : ∀ i, n ≤ i → r.testBit i = false) (h : resO e m n vs r x = some p) : ∀ i, n ≤ i → p.2.testBit i = false := by
  intro i hi
  have key : ∀ {f : Nat → List Value → Option Value} {v : Value}, resP m n vs r f v = some p → p.2.testBit i = false := by
    intro f v h
    unfold resP at h
    split at h
    · rename_i b o
      cases hg : getb m n b with
      | none => rw [hg] at h; cases h
      | some B =>
        rw [hg] at h
        cases B with
        | map es => cases h
        | cells c s q1 q2 =>
          replace h : Option.rec (motive := fun _ => Option (List Value × Nat)) none (fun v => some (v :: vs, Nat.lor r (bit b))) (f o c) = some p := h
          cases hf : f o c with
          | none => rw [hf] at h; cases h
          | some v =>
            rw [hf] at h
            injection h with h
            subst h
            show (Nat.lor r (bit b)).testBit i = false
            rw [lor_test, hr i hi, bit_up (getb_some hg).1 hi]; rfl
    · cases h
  cases x with
  | v j => injection h with h; subst h; exact hr i hi
  | cell j => exact key h
  | cells j k => exact key h
theorem resA_up {e : List Value} {m : μ} {n : Nat} : ∀ {l : List ROp} {p : List Value × Nat}, resA e m n l = some p → ∀ i, n ≤ i → p.2.testBit i = false
  | [], p, h => by
    intro i hi
    injection h with h; subst h; exact Nat.zero_testBit i
  | x :: l, p, h => by
    replace h : Option.rec (motive := fun _ => Option (List Value × Nat)) none (fun p => resO e m n p.1 p.2 x) (resA e m n l) = some p := h
    cases hq : resA e m n l with
    | none => rw [hq] at h; cases h
    | some q =>
      rw [hq] at h
      exact resO_up (resA_up hq) h

theorem call_up {E : Nat → Option AFn} {Y : Nat → List Value → μ → Nat → OR μ} (hY : ∀ f args m n v m' n' r wm, Y f args m n = .ok v m' n' r wm → Up n n' r wm) {rec : AC → List Value → μ → Nat → CR μ} (hrec : ∀ c e m n X e' m' n' r wm, rec c e m n = .ok X e' m' n' r wm → Up n n' r wm)
    {f : Nat} {args : List Value} {m m' : μ} {n n' r wm : Nat} {v : Value} (h : callA E Y rec f args m n = .ok v m' n' r wm) : Up n n' r wm := by
  unfold callA at h
  cases hE : E f with
  | none => rw [hE] at h; exact hY _ _ _ _ _ _ _ _ _ h
  | some fn =>
    rw [hE] at h
    replace h : callF rec args m n fn = .ok v m' n' r wm := h
    unfold callF at h
    cases hl : Nat.beq (llen args) fn.na
    · rw [hl, cond_false] at h; cases h
    · rw [hl, cond_true] at h
      cases hr : rec fn.code args m n with
      | no => rw [hr] at h; cases h
      | ok X e1 m1 n1 r1 w1 =>
        rw [hr] at h
        replace h : leaveX fn m n e1 m1 n1 r1 w1 X = .ok v m' n' r wm := h
        have l1 := hrec _ _ _ _ _ _ _ _ _ _ hr
        unfold leaveX at h
        split at h
        · unfold leaveO at h; split at h
          · rename_i vs r' hq
            have hq' := resA_up hq
            exact leaveA_up ⟨l1.1, fun i hi => ⟨by rw [lor_test, (l1.2 i hi).1, hq' i hi]; rfl, (l1.2 i hi).2⟩⟩ h
          · cases h
        · exact leaveA_up l1 h
        · cases h

theorem exec_up {E : Nat → Option AFn} {Y : Nat → List Value → μ → Nat → OR μ} (hY : ∀ f args m n v m' n' r wm, Y f args m n = .ok v m' n' r wm → Up n n' r wm) : ∀ (k : Nat) (c : AC) (e : List Value) (m : μ) (n : Nat) (X : AX) (e' : List Value) (m' : μ) (n' r wm : Nat), exec P E Y k c e m n = .ok X e' m' n' r wm → Up n n' r wm
  | 0, c, e, m, n, X, e', m', n', r, wm, h => by cases h
  | k + 1, c, e, m, n, X, e', m', n', r, wm, h => by
    have ih := exec_up (E := E) (Y := Y) hY k
    replace h : execF P E Y (exec P E Y k) c e m n = .ok X e' m' n' r wm := h
    have norm : ∀ {f : List Value → μ → Nat → CR μ} {X1 : AX} {e1 : List Value} {m1 : μ} {n1 r1 w1 : Nat}, Up n n1 r1 w1 → (∀ e m n X e' m' n' r wm, f e m n = .ok X e' m' n' r wm → Up n n' r wm) → onNorm f X1 e1 m1 n1 r1 w1 = .ok X e' m' n' r wm → Up n n' r wm := by
      intro f X1 e1 m1 n1 r1 w1 l1 hf h
      unfold onNorm at h
      split at h
      · obtain ⟨r2, w2, h2, rfl, rfl⟩ := addRW_ok h
        exact l1.trans (hf _ _ _ _ _ _ _ _ _ h2)
      · injection h with e1 e2 e3 e4 e5 e6; subst e3; subst e4; subst e5; subst e6; exact l1
    cases c with
    | skip => injection h with e1 e2 e3 e4 e5 e6; subst e3; subst e4; subst e5; subst e6; exact Up.refl _
    | reg l =>
      obtain ⟨r1, w1, rfl, rfl, l1⟩ := opsA_up (P := P) (fun f args m n v m' n' r wm h => call_up hY ih h) l _ _ _ _ _ _ _ _ _ _ _ h
      rw [zero_lor', zero_lor']; exact l1
    | regD l bs =>
      obtain ⟨r1, w1, rfl, rfl, l1⟩ := opsD_up (P := P) (fun f args m n v m' n' r wm h => call_up hY ih h) l _ _ _ _ _ _ _ _ _ _ _ _ _ _ h
      rw [zero_lor', zero_lor']; exact l1
    | seq a b =>
      obtain ⟨X1, e1, m1, n1, r1, w1, h1, h2⟩ := crRec_ok h
      exact norm (ih _ _ _ _ _ _ _ _ _ _ h1) (fun _ _ _ _ _ _ _ _ _ h => ih _ _ _ _ _ _ _ _ _ _ h) h2
    | cond x a b =>
      replace h : onCond (exec P E Y k a e m n) (exec P E Y k b e m n) (ev e x) = .ok X e' m' n' r wm := h
      unfold onCond at h
      split at h
      · rename_i t _
        cases t
        · exact ih _ _ _ _ _ _ _ _ _ _ h
        · exact ih _ _ _ _ _ _ _ _ _ _ h
      · cases h
    | block id sh b =>
      obtain ⟨X1, e1, m1, n1, r1, w1, h1, h2⟩ := crRec_ok h
      have l1 := ih _ _ _ _ _ _ _ _ _ _ h1
      unfold onBlock at h2
      split at h2
      · rename_i i
        cases hi : Nat.beq i id
        · rw [hi, cond_false] at h2; injection h2 with e1 e2 e3 e4 e5 e6; subst e3; subst e4; subst e5; subst e6; exact l1
        · rw [hi, cond_true] at h2; injection h2 with e1 e2 e3 e4 e5 e6; subst e3; subst e4; subst e5; subst e6; exact l1
      · injection h2 with e1 e2 e3 e4 e5 e6; subst e3; subst e4; subst e5; subst e6; exact l1
    | loop sh b =>
      obtain ⟨X1, e1, m1, n1, r1, w1, h1, h2⟩ := crRec_ok h
      exact norm (ih _ _ _ _ _ _ _ _ _ _ h1) (fun _ _ _ _ _ _ _ _ _ h => ih _ _ _ _ _ _ _ _ _ _ h) h2
    | pre sel d c => exact ih _ _ _ _ _ _ _ _ _ _ h
    | post c sel d =>
      obtain ⟨X1, e1, m1, n1, r1, w1, h1, h2⟩ := crRec_ok h
      have l1 := ih _ _ _ _ _ _ _ _ _ _ h1
      unfold onPost at h2
      split at h2
      · injection h2 with e1 e2 e3 e4 e5 e6; subst e3; subst e4; subst e5; subst e6; exact l1
      · injection h2 with e1 e2 e3 e4 e5 e6; subst e3; subst e4; subst e5; subst e6; exact l1
    | exit id => injection h with e1 e2 e3 e4 e5 e6; subst e3; subst e4; subst e5; subst e6; exact Up.refl _
    | ret rs =>
      replace h : onRet e m n (resA e m n rs) = .ok X e' m' n' r wm := h
      unfold onRet at h
      split at h
      · rename_i vs r' hq
        injection h with e1 e2 e3 e4 e5 e6; subst e3; subst e4; subst e5; subst e6
        exact ⟨Nat.le_refl _, fun i hi => ⟨resA_up hq i hi, Nat.zero_testBit i⟩⟩
      · cases h
theorem callW_up {E : Nat → Option AFn} {Y : Nat → List Value → μ → Nat → OR μ} (hY : ∀ f args m n v m' n' r wm, Y f args m n = .ok v m' n' r wm → Up n n' r wm) {f : Nat} {args : List Value} {m m' : μ} {n n' r w : Nat} {v : Value} (h : callA E Y (execW P E Y) f args m n = .ok v m' n' r w) : Up n n' r w :=
  call_up hY (fun c e m n X e' m' n' r wm h => by
    obtain ⟨k, hk⟩ := execW_some h
    exact exec_up hY k c e m n X e' m' n' r wm hk) h
end
end Go.Am
