/- The machine and its runs, part 16: An39pi An39pj An39pk An39rd An39vb An39re An39t An39k3 AnPost. -/
import Derived.Test.YtibpnegblcdioaaDoorRows
import Derived.Lib.LaidU8
import Derived.Lib.SmallJoins
import Derived.Lib.AppendIntMem
import Derived.HandedShaped
import Derived.SizedLaws
import Derived.OpenShut
import Derived.LaidLaws
import Derived.Stop.Joined
import Derived.Deep.DeepHandedRow
import Derived.ProofKit
import Derived.Test.YtibpnegblcdioaaDoorB15
set_option linter.unusedVariables false
set_option linter.unusedSimpArgs false
set_option linter.unusedSectionVars false
namespace Go.Am.C39
set_option maxRecDepth 100000
open Go Go.Am Go.Am.V
variable {E : Nat → Option AFn} {Y : Nat → List Value → FM → Nat → OR FM}
theorem cuts_mem : ∀ (k : Nat) (s w : List UInt8), w ∈ cuts k s → w.length ≤ s.length
  | 0, s, w, h => by
    rw [cuts, List.mem_singleton] at h
    rw [h]; exact Nat.le_refl _
  | k + 1, s, w, h => by
    rw [cuts] at h
    split at h
    · rename_i hf
      have hl := cut_less hf
      have e := congrArg List.length (Txt.cut_found hf)
      rw [List.length_append, List.length_append] at e
      rcases List.mem_cons.1 h with rfl | h
      · omega
      · have := cuts_mem k _ w h; omega
    · rename_i hf
      rw [List.mem_singleton] at h
      rw [h, cut_miss (by simpa using hf)]; exact Nat.le_refl _
theorem splitK_mem (sep : List UInt8) : ∀ (k : Nat) (s w : List UInt8), w ∈ Lib.splitK sep 0 k s → w.length ≤ s.length
  | 0, s, w, h => by
    rw [show Lib.splitK sep 0 0 s = [s] from rfl, List.mem_singleton] at h
    rw [h]; exact Nat.le_refl _
  | k + 1, s, w, h => by
    unfold Lib.splitK at h
    split at h
    · rw [List.mem_singleton] at h
      rw [h]; exact Nat.le_refl _
    · rcases List.mem_cons.1 h with rfl | h
      · rw [List.length_take]; omega
      · have := splitK_mem sep k _ w h
        rw [List.length_drop] at this; omega
theorem wsS_mem (s w : ByteArray) (h : w ∈ wsS s) : w.size ≤ s.size := by
  have h1 : w.data.toList ∈ (wsS s).map (·.data.toList) := List.mem_map.2 ⟨w, h, rfl⟩
  unfold wsS splitL at h1
  rw [Lib.splitB_data] at h1
  have := splitK_mem _ _ _ _ h1
  rw [size_list, size_list] at this
  exact this
theorem wordsP_mem (s w : ByteArray) (h : w ∈ wordsP s) : w.size ≤ s.size := by
  unfold wordsP at h
  obtain ⟨l, hl, rfl⟩ := List.mem_map.1 h
  have := cuts_mem _ _ _ hl
  rw [size_list] at this
  have e : (bytesS l).size = l.length := by rw [← size_list, bytesS_list]
  omega
theorem drop_mem {b : Bool} {ws : List ByteArray} {w : ByteArray} (h : w ∈ dropW b ws) : w ∈ ws := by
  unfold dropW at h
  split at h
  · exact List.mem_of_mem_take h
  · exact h
theorem atW_size {ws : List ByteArray} {B : Nat} (h : ∀ w ∈ ws, w.size ≤ B) (i : Nat) : (atW ws i).size ≤ B := by
  by_cases hi : i < ws.length
  · rw [atW_lt hi]; exact h _ (List.getElem_mem hi)
  · have e : atW ws i = ⟨#[]⟩ := by unfold atW; rw [List.getD_eq_getElem?_getD, List.getElem?_eq_none (by omega)]; rfl
    rw [e, nil_size]; exact Nat.zero_le _
theorem wordsP_len (s : ByteArray) : 0 < (wordsP s).length ∧ (wordsP s).length ≤ s.size + 1 := by
  unfold wordsP
  rw [List.length_map]
  exact cuts_len _ _
noncomputable def ws1 (s : ByteArray) : List ByteArray := dropW (lastB ordW (wordsP s)) (wordsP s)
noncomputable def ws2 (s : ByteArray) : List ByteArray := dropW (lastB forceW (ws1 s)) (ws1 s)
noncomputable def endC (s : ByteArray) : Cmd := { kC (kindW (atW (wordsP s) 0) 8) with ord := if lastB ordW (wordsP s) = true then 1 else 0, force := if lastB forceW (ws1 s) = true then true else false }
noncomputable def preC (s : ByteArray) : Cmd := swC (headC (endC s) (ws2 s)) (ws2 s)
theorem ws2_ok (s : ByteArray) : 0 < (ws1 s).length ∧ 0 < (ws2 s).length ∧ (ws1 s).length ≤ s.size + 1 ∧ (ws2 s).length ≤ s.size + 1 ∧ ∀ w ∈ ws2 s, w.size ≤ s.size := by
  obtain ⟨h1, h2⟩ := wordsP_len s
  have h3 : 0 < (ws1 s).length := drop_pos (b := true) h1
  have h4 : 0 < (ws2 s).length := drop_pos (b := true) h3
  have h5 := drop_le (lastB ordW (wordsP s)) (wordsP s)
  have h6 := drop_le (lastB forceW (ws1 s)) (ws1 s)
  have e5 : (ws1 s).length ≤ (wordsP s).length := h5
  have e6 : (ws2 s).length ≤ (ws1 s).length := h6
  exact ⟨h3, h4, by omega, by omega, fun w hw => wordsP_mem s w (drop_mem (drop_mem hw))⟩
theorem fit_swC {c : Cmd} {ws : List ByteArray} (h : c.Fit) (hs : ∀ i, (atW ws i).size ≤ 2000) (hl : ws.length ≤ 2000) : (swC c ws).Fit := by
  have n3 := numV_le (atW ws 3)
  have n4 := numV_le (atW ws 4)
  have s3 := hs 3
  have b3 : -9223372036854775808 ≤ numV (atW ws 3) ∧ numV (atW ws 3) < 9223372036854775808 := ⟨n3.1, by omega⟩
  have b4 : -9223372036854775808 ≤ numV (atW ws 4) ∧ numV (atW ws 4) < 9223372036854775808 := ⟨n4.1, by omega⟩
  have hdl : ((ws.drop 4).map blkB).length ≤ 2000 := by rw [List.length_map, List.length_drop]; omega
  have bl : (-9223372036854775808 : Int) ≤ (((ws.drop 4).map blkB).length : Int) ∧ (((ws.drop 4).map blkB).length : Int) < 9223372036854775808 := ⟨by omega, by omega⟩
  unfold swC
  split
  · exact ⟨h.tag, h.kind, h.ord, b3, b4, h.vol, h.oth, h.data⟩
  split
  · exact ⟨h.tag, h.kind, h.ord, b3, bl, h.vol, h.oth, by show ((ws.drop 4).map blkB).length ≤ _; omega⟩
  split
  · exact ⟨h.tag, h.kind, h.ord, b4, b3, h.vol, h.oth, h.data⟩
  split
  · exact ⟨h.tag, h.kind, h.ord, h.at_, h.len, h.vol, by show (atW ws 3).size ≤ _; omega, h.data⟩
  · exact h
theorem bytes_swC {c : Cmd} {ws : List ByteArray} (h : Bytes c) : Bytes (swC c ws) := by
  unfold swC
  split
  · exact h
  split
  · intro d hd
    obtain ⟨w, _, rfl⟩ := List.mem_map.1 hd
    exact blkB_ok w
  split
  · exact h
  split
  · exact h
  · exact h
theorem end_fit (s : ByteArray) : (endC s).Fit := by
  have := kindW_lt (atW (wordsP s) 0) 8
  exact ⟨⟨by show (-9223372036854775808 : Int) ≤ 0; decide, by show (0 : Int) < 9223372036854775808; decide⟩, ⟨by show (-9223372036854775808 : Int) ≤ ((kindW (atW (wordsP s) 0) 8 : Nat) : Int); omega, by show ((kindW (atW (wordsP s) 0) 8 : Nat) : Int) < 9223372036854775808; omega⟩, by show -9223372036854775808 ≤ (if lastB ordW (wordsP s) = true then (1 : Int) else 0) ∧ (if lastB ordW (wordsP s) = true then (1 : Int) else 0) < 9223372036854775808; split <;> omega, ⟨by show (-9223372036854775808 : Int) ≤ 0; decide, by show (0 : Int) < 9223372036854775808; decide⟩, ⟨by show (-9223372036854775808 : Int) ≤ 0; decide, by show (0 : Int) < 9223372036854775808; decide⟩, Nat.zero_le _, Nat.zero_le _, Nat.zero_le _⟩
theorem head_fit {c : Cmd} {ws : List ByteArray} (h : c.Fit) (hs : ∀ i, (atW ws i).size ≤ 2000) : (headC c ws).Fit := by
  have n1 := numV_le (atW ws 1)
  have s2 := hs 2
  have b1 : -9223372036854775808 ≤ numV (atW ws 1) ∧ numV (atW ws 1) < 9223372036854775808 := ⟨n1.1, by omega⟩
  exact ⟨b1, h.kind, h.ord, h.at_, h.len, by show (atW ws 2).size ≤ _; omega, h.oth, h.data⟩
theorem pre_fit {s : ByteArray} (hs : s.size ≤ 1000) : (preC s).Fit := by
  obtain ⟨h1, h2, h3, h4, h5⟩ := ws2_ok s
  have hz : ∀ i, (atW (ws2 s) i).size ≤ 2000 := fun i => by have := atW_size h5 i; omega
  exact fit_swC (head_fit (end_fit s) hz) hz (by omega)
theorem pre_bytes (s : ByteArray) : Bytes (preC s) := bytes_swC fun d hd => by cases hd
theorem cand_fit {c : Cmd} {s : ByteArray} (h : c.Fit) (hs : s.size ≤ 1000) (f : Bool) (o : Int) (ho : o = 0 ∨ o = 1) : (candC c s f o).Fit := by
  have hz : ∀ i, (atW (twW s f o) i).size ≤ 1000 := fun i => by
    have := atW_size (ws := twW s f o) (B := s.size) (fun w hw => wsS_mem s w (drop_mem (drop_mem hw))) i
    omega
  have z2 := hz 2
  have z3 := hz 3
  refine ⟨h.tag, h.kind, ⟨by show -9223372036854775808 ≤ o; omega, by show o < 9223372036854775808; omega⟩, h.at_, h.len, ?_, ?_, h.data⟩
  · show (if 2 < (twW s f o).length then atW (twW s f o) 2 else c.vol).size ≤ _
    split
    · omega
    · exact h.vol
  · show (if c.kind = 6 ∧ 3 < (twW s f o).length then atW (twW s f o) 3 else c.oth).size ≤ _
    split
    · omega
    · exact h.oth
theorem parse_spec (L : LibP E Y) (hT : Texts E Y) (hE : E 12 = some ac12) (h24 : E 24 = some ac24) (h25 : E 25 = some ac25) (h26 : E 26 = some ac26) (h27 : E 27 = some ac27) (h28 : E 28 = some ac28) (h30 : E 30 = some ac30) (m : FM) (n : Nat) (s : ByteArray) (hs : s.size ≤ 1000) :
    Rt (callW PG E Y 12 [.string s] m n) fun v m' n' w => n ≤ n' ∧ (∀ b, b < n → m' b = m b) ∧ (∀ j, j ≤ n → Nat.mod w (bit j) = 0) ∧ ParseR (preC s) s v m' n' := by
  obtain ⟨a1, a2, a3, a4, a5⟩ := ws2_ok s
  obtain ⟨hp1, hp2⟩ := wordsP_len s
  refine kept_specQ (R := fun v m' n' => ParseR (preC s) s v m' n') hE rfl fun Q hQ => ?_
  rw [code12]
  simp only [q0, q1, q2, q3, r1, r2, r3, sqA, sqB, ac12]
  simp (implicitDefEqProofs := false) (disch := omega) only [WPs, opds, List.all_cons, List.all_nil, List.cons_append, List.nil_append, cond_true, cond_false, eq_self, List.map_cons, List.map_nil, Nat.reduceAdd, Nat.testBit, Nat.reduceShiftRight, Nat.reduceAnd, Nat.reduceBNe, Nat.reduceMul, STs]
  generalize hM0 : (AMem.put (AMem.put m n (some (.cells [.int .i64 0, .int .i64 0, .int .i64 0, .bool false, .string ⟨#[]⟩, .string ⟨#[]⟩, .int .i64 0, .int .i64 0, .slice none 0 0] 0 false true))) (n + 1) (some (.cells [.slice none 0 0] 0 false true)) : FM) = M0
  have lo0 : ∀ b, b < n → M0 b = m b := fun b hb => by rw [← hM0, fput_ne _ _ _ _ (by omega), fput_ne _ _ _ _ (by omega)]
  have hr0 : M0 n = some (.cells [.int .i64 0, .int .i64 0, .int .i64 0, .bool false, .string ⟨#[]⟩, .string ⟨#[]⟩, .int .i64 0, .int .i64 0, .slice none 0 0] 0 false true) := by rw [← hM0, fput_ne _ _ _ _ (by omega)]; exact fput_same _ _ _
  have hl0 : M0 (n + 1) = some (.cells [.slice none 0 0] 0 false true) := by rw [← hM0]; exact fput_same _ _ _
  refine wr_kont ((cut_L0 L (n := n) (M0 := M0) (W := wordsP s) _ _ (fun M1 N1 w1 lv hN1 hf1 hl1 hS1 hw1 => ?_) s.size s (Nat.le_refl _) [] M0 (n + 2) 0 _ rfl (Nat.le_refl _) (fun b _ => rfl) hl0 (.inl ⟨rfl, rfl, rfl⟩) (by show 0 + s.size ≤ 2000; omega) (fun j _ => frz_zero _)).mono fun X e m' n' w hq => by simpa only [zero_lor'] using hq)
  intro rr
  simp (implicitDefEqProofs := false) (disch := omega) only [WPs, opds, List.all_cons, List.all_nil, List.cons_append, List.nil_append, cond_true, cond_false, eq_self, List.map_cons, List.map_nil, Nat.reduceAdd, Nat.testBit, Nat.reduceShiftRight, Nat.reduceAnd, Nat.reduceBNe, Nat.reduceMul]
  have hLV : LV M1 (n + 2) N1 lv (wordsP s) := lv_of_strz (.inr ⟨hp1, hS1⟩)
  have hPS : PS m n (AMem.put M1 N1 (some (.cells [.int .i64 0, .int .i64 0, .int .i64 0, .bool false, .string ⟨#[]⟩, .string ⟨#[]⟩, .int .i64 0, .int .i64 0, .slice none 0 0] 0 false true)) : FM) (N1 + 1) N1 lv (wordsP s) (kC 0) (.slice none 0 0) :=
    ⟨fun b hb => by rw [fput_ne _ _ _ _ (by omega), hf1 b (by omega), lo0 b hb], ⟨_, rfl, by rw [fput_ne _ _ _ _ (by omega), hf1 n (by omega)]; exact hr0⟩, by rw [fput_ne _ _ _ _ (by omega)]; exact hl1, hLV.frame (Nat.le_refl _) fun b _ hb => fput_ne _ _ _ _ (by omega), hN1, by omega, fput_same _ _ _, .inl ⟨rfl, rfl, rfl⟩⟩
  rw [r4_eq]
  simp only [q4, r4, r3, r2, r1, sqA, sqB, ac12]
  simp (implicitDefEqProofs := false) (disch := omega) only [WPs, opds, List.all_cons, List.all_nil, List.cons_append, List.nil_append, cond_true, cond_false, eq_self, List.map_cons, List.map_nil, Nat.reduceAdd, Nat.testBit, Nat.reduceShiftRight, Nat.reduceAnd, Nat.reduceBNe, Nat.reduceMul, STs]
  refine use_pure (kinds_spec h24 _ _) fun r2 => ?_
  simp (implicitDefEqProofs := false) (disch := omega) only [WPs, opds, List.all_cons, List.all_nil, List.cons_append, List.nil_append, cond_true, cond_false, eq_self, List.map_cons, List.map_nil, Nat.reduceAdd, Nat.testBit, Nat.reduceShiftRight, Nat.reduceAnd, Nat.reduceBNe, Nat.reduceMul]
  refine wr_kont ((kind_L1 (m := m) (n := n) (cb := N1) (lv := lv) (ws := wordsP s) hp1 _ _ _ (fun M3 w3 hP3 hw3 => ?_) 8 0 rfl _ 0 hPS (fun j _ => frz_zero _)).mono fun X e m' n' w hq => by simpa only [zero_lor'] using hq)
  intro rr2
  simp (implicitDefEqProofs := false) (disch := omega) only [WPs, opds, List.all_cons, List.all_nil, List.cons_append, List.nil_append, cond_true, cond_false, eq_self, List.map_cons, List.map_nil, Nat.reduceAdd, Nat.testBit, Nat.reduceShiftRight, Nat.reduceAnd, Nat.reduceBNe, Nat.reduceMul]
  refine ord_wr hP3 hp1 (by omega) _ _ _ _ fun M4 w4 b1 b2 lv4 hP4 hw4 => ?_
  refine force_wr (ws := ws1 s) hP4 a1 (by omega) _ _ _ _ _ _ fun M5 w5 b3 b4 lv5 hP5 hw5' => ?_
  have hz : ∀ i, (atW (ws2 s) i).size ≤ 2000 := fun i => by have := atW_size a5 i; omega
  refine num_wr L h25 h26 (ws := ws2 s) (c := endC s) hP5 (by omega) hz _ _ _ _ _ _ _ _ fun M6 w6 hP6 hw6 => ?_
  refine sw_wr L h25 h26 h27 h30 hP6 rfl (k := kindW (atW (wordsP s) 0) 8) rfl ?_ (by omega) hz _ _ _ _ _ _ _ _ fun M7 N7 w7 dv7 x0 hP7 hw7 => ?_
  · have : kindW (atW (wordsP s) 0) (7 + 1) ≤ 7 := by
      rw [kindW]
      split
      · exact Nat.le_refl _
      · exact kindW_lt _ _
    exact Nat.lt_succ_of_le this
  refine end_wr L hT h28 hP7 (pre_fit hs) (pre_bytes s) (fun f o ho => cand_fit (pre_fit hs) hs f o ho) a2 hs _ _ _ _ _ _ _ _ _ _ ?_ hQ
  refine hw7 n (Nat.le_refl _) (hw6 n (Nat.le_refl _) (hw5' n (Nat.le_refl _) (hw4 n (Nat.le_refl _) ?_)))
  simp only [frz_iff]
  exact ⟨⟨⟨⟨frz_bit (by omega), frz_bit (by omega)⟩, hw1 n (Nat.le_refl _)⟩, frz_bit (by omega)⟩, hw3 n (Nat.le_refl _)⟩
end Go.Am.C39
namespace Go.Am.C39
set_option maxRecDepth 100000
open Go Go.Am Go.Am.V
theorem cuts_join : ∀ (xs : List (List UInt8)) (x : List UInt8) (k : Nat), (∀ q ∈ x :: xs, (32 : UInt8) ∉ q) → (Lib.join (x :: xs) [32]).length ≤ k → cuts k (Lib.join (x :: xs) [32]) = x :: xs
  | [], x, k, h, hk => by
    rw [Lib.join_one]
    exact cuts_miss (by rw [Txt.cut_not (c := 32) (t := []) rfl (h x (List.mem_cons_self ..))])
  | y :: xs, x, k, h, hk => by
    rw [Txt.join_cons2] at hk ⊢
    have hc := Txt.cut_mid (b := Lib.join (y :: xs) [32]) (sep := [32]) (c := 32) (t := []) rfl (h x (List.mem_cons_self ..))
    rw [List.length_append, List.length_append] at hk
    simp only [List.length_cons, List.length_nil] at hk
    obtain ⟨k', rfl⟩ : ∃ k', k = k' + 1 := ⟨k - 1, by omega⟩
    rw [cuts_found (by rw [hc]), hc]
    simp only
    rw [cuts_join xs y k' (fun q hq => h q (List.mem_cons_of_mem _ hq)) (by omega)]
theorem bytesS_back (w : ByteArray) : bytesS w.data.toList = w := str_ext (bytesS_list _)
theorem map_back (ws : List ByteArray) : (ws.map (·.data.toList)).map bytesS = ws := by
  rw [List.map_map]
  conv => rhs; rw [← List.map_id ws]
  exact List.map_congr_left fun w _ => bytesS_back w
theorem joinS_list (ws : List ByteArray) : (joinS ws ⟨#[32]⟩).data.toList = Lib.join (ws.map (·.data.toList)) [32] := rfl
theorem words_back {ws : List ByteArray} (hne : ws ≠ []) (hns : ∀ w ∈ ws, NoSp w) : wordsP (joinS ws ⟨#[32]⟩) = ws ∧ wsS (joinS ws ⟨#[32]⟩) = ws := by
  cases ws with
  | nil => exact absurd rfl hne
  | cons x xs =>
    have hq : ∀ q ∈ x.data.toList :: xs.map (·.data.toList), (32 : UInt8) ∉ q := fun q hq => by
      rcases List.mem_cons.1 hq with rfl | hq
      · exact hns _ (List.mem_cons_self ..)
      · obtain ⟨z, hz, rfl⟩ := List.mem_map.1 hq
        exact hns z (List.mem_cons_of_mem _ hz)
    constructor
    · unfold wordsP
      rw [joinS_list, List.map_cons, cuts_join _ _ _ hq (by rw [← size_list, joinS_list, List.map_cons]; exact Nat.le_refl _), ← List.map_cons (f := fun w : ByteArray => w.data.toList)]
      exact map_back _
    · obtain ⟨h1, h2⟩ := Txt.split_join (sep := [32]) (c := 32) (t := []) rfl x.data.toList (xs.map (·.data.toList)) hq
      have e := Lib.splitB_data ⟨#[32]⟩ 0 (Lib.countB (joinS (x :: xs) ⟨#[32]⟩) ⟨#[32]⟩) (joinS (x :: xs) ⟨#[32]⟩)
      have e1 : Lib.countB (joinS (x :: xs) ⟨#[32]⟩) ⟨#[32]⟩ = (xs.map (·.data.toList)).length := h1
      refine map_list_inj (show (Lib.splitB ⟨#[32]⟩ 0 (Lib.countB (joinS (x :: xs) ⟨#[32]⟩) ⟨#[32]⟩) (joinS (x :: xs) ⟨#[32]⟩)).map (·.data.toList) = _ from ?_)
      rw [e, e1]
      exact h2
theorem atW_last (X : List ByteArray) (w : ByteArray) : atW (X ++ [w]) ((X ++ [w]).length - 1) = w := by
  unfold atW
  rw [List.length_append, List.length_singleton, Nat.add_sub_cancel, List.getD_eq_getElem?_getD, List.getElem?_append_right (Nat.le_refl _), Nat.sub_self]; rfl
theorem take_last (X : List ByteArray) (w : ByteArray) : (X ++ [w]).take ((X ++ [w]).length - 1) = X := by
  rw [List.length_append, List.length_singleton, Nat.add_sub_cancel, List.take_left']; rfl
theorem last_yes {X : List ByteArray} (hX : X ≠ []) (w : ByteArray) : lastB w (X ++ [w]) = true ∧ dropW (lastB w (X ++ [w])) (X ++ [w]) = X := by
  have h : lastB w (X ++ [w]) = true := lastB_t ⟨by rw [List.length_append, List.length_singleton]; have := List.length_pos_iff.2 hX; omega, atW_last X w⟩
  refine ⟨h, ?_⟩
  rw [h]
  unfold dropW
  rw [if_pos rfl, take_last]
theorem last_no {X : List ByteArray} {v w : ByteArray} (hv : v ≠ w) : lastB w (X ++ [v]) = false ∧ dropW (lastB w (X ++ [v])) (X ++ [v]) = X ++ [v] := by
  have h : lastB w (X ++ [v]) = false := lastB_f fun h => hv (by rw [← h.2, atW_last])
  exact ⟨h, by rw [h]; rfl⟩
theorem ends_read {c : Cmd} (ho : c.ord = 0 ∨ c.ord = 1) {X : List ByteArray} {v : ByteArray} (hX : X ≠ []) (h1 : v ≠ ordW) (h2 : v ≠ forceW) :
    lastB ordW ((X ++ [v]) ++ endF c ++ endO c) = decide (c.ord = 1) ∧ dropW (lastB ordW ((X ++ [v]) ++ endF c ++ endO c)) ((X ++ [v]) ++ endF c ++ endO c) = (X ++ [v]) ++ endF c ∧ lastB forceW ((X ++ [v]) ++ endF c) = c.force ∧ dropW (lastB forceW ((X ++ [v]) ++ endF c)) ((X ++ [v]) ++ endF c) = X ++ [v] := by
  have hne : X ++ [v] ≠ [] := by simp
  have fo := fo_ne
  have hF : lastB forceW ((X ++ [v]) ++ endF c) = c.force ∧ dropW (lastB forceW ((X ++ [v]) ++ endF c)) ((X ++ [v]) ++ endF c) = X ++ [v] := by
    cases hf : c.force
    · have e : endF c = [] := if_neg (by rw [hf]; decide)
      rw [e, List.append_nil]
      exact last_no h2
    · have e : endF c = [forceW] := if_pos hf
      rw [e]
      exact last_yes hne forceW
  refine ⟨?_, ?_, hF⟩
  · rcases ho with ho | ho
    · have e : endO c = [] := if_neg (by omega)
      rw [e, List.append_nil, ho]
      cases hf : c.force
      · have e : endF c = [] := if_neg (by rw [hf]; decide)
        rw [e, List.append_nil]
        exact (last_no h1).1
      · have e : endF c = [forceW] := if_pos hf
        rw [e]
        exact (last_no fo).1
    · have e : endO c = [ordW] := if_pos ho
      rw [e, ho]
      exact (last_yes (by simp) ordW).1
  · rcases ho with ho | ho
    · have e : endO c = [] := if_neg (by omega)
      rw [e, List.append_nil]
      cases hf : c.force
      · have e : endF c = [] := if_neg (by rw [hf]; decide)
        rw [e, List.append_nil]
        exact (last_no h1).2
      · have e : endF c = [forceW] := if_pos hf
        rw [e]
        exact (last_no fo).2
    · have e : endO c = [ordW] := if_pos ho
      rw [e]
      exact (last_yes (by simp) ordW).2
theorem itoa_ne {z : Int} (h : 0 ≤ z) : itoaB z ≠ ordW ∧ itoaB z ≠ forceW := by
  obtain ⟨u, rfl⟩ := Int.eq_ofNat_of_zero_le h
  have key : ∀ w : ByteArray, (∃ c ∈ w.data.toList, 57 < c.toNat) → itoaB (u : Int) ≠ w := by
    rintro w ⟨c, hc, h57⟩ rfl
    rw [itoa_list, Txt.itoa_nat] at hc
    have := Txt.dec_dig u c hc
    omega
  exact ⟨key _ ⟨111, by decide, by decide⟩, key _ ⟨102, by decide, by decide⟩⟩
theorem hex_ne {d : List Int} (h : d.length = 8) : hexW d ≠ ordW ∧ hexW d ≠ forceW := by
  have h1 := hexW_size h
  exact ⟨fun e => by rw [e] at h1; exact absurd h1 (by decide), fun e => by rw [e] at h1; exact absurd h1 (by decide)⟩
end Go.Am.C39
namespace Go.Am.C39
set_option maxRecDepth 100000
open Go Go.Am Go.Am.V
theorem at_cons0 (a : ByteArray) (l : List ByteArray) : atW (a :: l) 0 = a := rfl
theorem at_cons (a : ByteArray) (l : List ByteArray) (i : Nat) : atW (a :: l) (i + 1) = atW l i := rfl
theorem at_nil (i : Nat) : atW [] i = ⟨#[]⟩ := rfl
theorem map_blk {ds : List (List Int)} (h : ∀ d ∈ ds, d.length = 8 ∧ ∀ z ∈ d, 0 ≤ z ∧ z < 256) : (ds.map hexW).map blkB = ds := by
  rw [List.map_map]
  conv => rhs; rw [← List.map_id ds]
  exact List.map_congr_left fun d hd => blkB_hex (h d hd).1 (h d hd).2
theorem read_plain {c : Cmd} (hv : ValidP c) (hB : Bytes c) {X : List ByteArray} {v : ByteArray} (hX : X ≠ []) (h1 : v ≠ ordW) (h2 : v ≠ forceW) (hh : headT c = X ++ [v]) :
    wordsP (textB c) = textW c ∧ ws2 (textB c) = headT c ∧ endC (textB c) = { kC c.kind.toNat with ord := c.ord, force := c.force } := by
  have o := okay_of hv
  have hk := kind_of hv
  have hw := (words_back (textW_ne c) (words_nosp hv hB)).1
  rw [← textB_t hv] at hw
  have ht : textW c = (X ++ [v]) ++ endF c ++ endO c := by unfold textW; rw [hh]
  obtain ⟨r1, r2, r3, r4⟩ := ends_read o.ord hX h1 h2
  have e1 : ws1 (textB c) = (X ++ [v]) ++ endF c := by
    unfold ws1
    rw [hw, ht]; exact r2
  have e2 : ws2 (textB c) = X ++ [v] := by
    unfold ws2
    rw [e1]; exact r4
  refine ⟨hw, by rw [e2, hh], ?_⟩
  unfold endC
  rw [e1, hw]
  have e0 : atW (textW c) 0 = KW.getD c.kind.toNat ⟨#[]⟩ := rfl
  rw [e0, kindW_kw (by omega), ht, r1, r3]
  rcases o.ord with ho | ho
  · cases hf : c.force <;> simp [ho]
  · cases hf : c.force <;> simp [ho]
theorem kind_cast {c : Cmd} (hv : ValidP c) : ((c.kind.toNat : Nat) : Int) = c.kind := by have := kind_of hv; omega
theorem pre_plain {c : Cmd} (hv : ValidP c) (hB : Bytes c) (hk : c.kind ≤ 5) : preC (textB c) = c := by
  have o := okay_of hv
  have hk1 := kind_of hv
  have kc := kind_cast hv
  have nt : numV (itoaB c.tag) = c.tag := numV_itoa o.tag.1 (by have := o.tag; omega)
  have na : numV (itoaB c.at_) = c.at_ := numV_itoa o.at_.1 (by have := o.at_; omega)
  have nl : numV (itoaB c.len) = c.len := numV_itoa o.len.1 (by have := o.len; omega)
  have it := itoa_ne o.tag.1
  have ia := itoa_ne o.at_.1
  have il := itoa_ne o.len.1
  rcases (by omega : c.kind = 1 ∨ c.kind = 2 ∨ c.kind = 3 ∨ c.kind = 4 ∨ c.kind = 5) with k | k | k | k | k
  · obtain ⟨_, a1, a2, a3, a4, a5, a6⟩ := (valid_1 k).1 hv
    have hh : headT c = [KW.getD 1 ⟨#[]⟩, itoaB c.tag, c.vol, itoaB c.at_, itoaB c.len] := by unfold headT; rw [k]; rfl
    obtain ⟨e1, e2, e3⟩ := read_plain hv hB (X := [KW.getD 1 ⟨#[]⟩, itoaB c.tag, c.vol, itoaB c.at_]) (by simp) il.1 il.2 hh
    unfold preC
    rw [e2, e3, hh]
    refine Cmd.ext' ?_ ?_ ?_ ?_ ?_ ?_ ?_ ?_ ?_ <;> simp [swC, headC, kC, zeroC, k, kc, at_cons, at_cons0, at_nil, nt, na, nl, a2, a3]
  · obtain ⟨_, a1, a2, a3, a4, a5⟩ := (valid_2 k).1 hv
    have hh : headT c = [KW.getD 2 ⟨#[]⟩, itoaB c.tag, c.vol, itoaB c.at_] ++ c.data.map hexW := by unfold headT; rw [k]; rfl
    have hl : ∃ X v, headT c = X ++ [v] ∧ X ≠ [] ∧ v ≠ ordW ∧ v ≠ forceW := by
      rcases List.eq_nil_or_concat c.data with h0 | ⟨ds, d, hd⟩
      · exact ⟨[KW.getD 2 ⟨#[]⟩, itoaB c.tag, c.vol], itoaB c.at_, by rw [hh, h0]; rfl, by simp, ia.1, ia.2⟩
      · have h8 := hB d (by rw [hd]; simp)
        refine ⟨[KW.getD 2 ⟨#[]⟩, itoaB c.tag, c.vol, itoaB c.at_] ++ ds.map hexW, hexW d, ?_, by simp, (hex_ne h8.1).1, (hex_ne h8.1).2⟩
        rw [hh, hd, List.concat_eq_append, List.map_append, List.append_assoc]; rfl
    obtain ⟨X, v, hX, hX0, hv1, hv2⟩ := hl
    obtain ⟨e1, e2, e3⟩ := read_plain hv hB hX0 hv1 hv2 hX
    have hdat := map_blk hB
    unfold preC
    rw [e2, e3, hh]
    refine Cmd.ext' ?_ ?_ ?_ ?_ ?_ ?_ ?_ ?_ ?_ <;> simp [swC, headC, kC, zeroC, k, kc, at_cons, at_cons0, at_nil, nt, na, nl, a2, a5]
    simpa using hdat
  · obtain ⟨_, a1, a2, a3, a4⟩ := (valid_3 k).1 hv
    have hh : headT c = [KW.getD 3 ⟨#[]⟩, itoaB c.tag, c.vol, itoaB c.at_, itoaB c.len] := by unfold headT; rw [k]; rfl
    obtain ⟨e1, e2, e3⟩ := read_plain hv hB (X := [KW.getD 3 ⟨#[]⟩, itoaB c.tag, c.vol, itoaB c.at_]) (by simp) il.1 il.2 hh
    unfold preC
    rw [e2, e3, hh]
    refine Cmd.ext' ?_ ?_ ?_ ?_ ?_ ?_ ?_ ?_ ?_ <;> simp [swC, headC, kC, zeroC, k, kc, at_cons, at_cons0, at_nil, nt, na, nl, a2, a3]
  · obtain ⟨_, a1, a2, a3, a4, a5, a6⟩ := (valid_4 k).1 hv
    have hh : headT c = [KW.getD 4 ⟨#[]⟩, itoaB c.tag] := by unfold headT; rw [k]; rfl
    obtain ⟨e1, e2, e3⟩ := read_plain hv hB (X := [KW.getD 4 ⟨#[]⟩]) (by simp) it.1 it.2 hh
    unfold preC
    rw [e2, e3, hh]
    refine Cmd.ext' ?_ ?_ ?_ ?_ ?_ ?_ ?_ ?_ ?_ <;> simp [swC, headC, kC, zeroC, k, kc, at_cons, at_cons0, at_nil, nt, a1, a2, a3, a4, a5, a6]
  · obtain ⟨_, a1, a2, a3, a4, a5⟩ := (valid_5 k).1 hv
    have hh : headT c = [KW.getD 5 ⟨#[]⟩, itoaB c.tag, c.vol, itoaB c.len, itoaB c.at_] := by unfold headT; rw [k]; rfl
    obtain ⟨e1, e2, e3⟩ := read_plain hv hB (X := [KW.getD 5 ⟨#[]⟩, itoaB c.tag, c.vol, itoaB c.len]) (by simp) ia.1 ia.2 hh
    unfold preC
    rw [e2, e3, hh]
    refine Cmd.ext' ?_ ?_ ?_ ?_ ?_ ?_ ?_ ?_ ?_ <;> simp [swC, headC, kC, zeroC, k, kc, at_cons, at_cons0, at_nil, nt, na, nl, a2, a3]
theorem drop_tag {w t : ByteArray} (ht : t ≠ w) {ws : List ByteArray} (hl : 1 < ws.length) (h : atW ws 1 = t) : 1 < (dropW (lastB w ws) ws).length ∧ atW (dropW (lastB w ws) ws) 1 = t := by
  by_cases hb : 1 < ws.length ∧ atW ws (ws.length - 1) = w
  · have h3 : ws.length ≠ 2 := fun e => ht (by rw [← h, ← hb.2, e])
    have hl2 : 2 < ws.length := by omega
    rw [lastB_t hb]
    unfold dropW
    rw [if_pos rfl]
    refine ⟨by rw [List.length_take]; omega, ?_⟩
    rw [← h]
    unfold atW
    rw [List.getD_eq_getElem?_getD, List.getD_eq_getElem?_getD, List.getElem?_take, if_pos (by omega)]
  · rw [lastB_f hb]
    exact ⟨hl, h⟩
theorem cand_name {c : Cmd} (hv : ValidP c) (hB : Bytes c) (hk : c.kind = 6 ∨ c.kind = 7) : candC (preC (textB c)) (textB c) false c.ord = c := by
  have o := okay_of hv
  have kc := kind_cast hv
  have nt : numV (itoaB c.tag) = c.tag := numV_itoa o.tag.1 (by have := o.tag; omega)
  have it := itoa_ne o.tag.1
  obtain ⟨hw, hs⟩ := words_back (textW_ne c) (words_nosp hv hB)
  rw [← textB_t hv] at hw hs
  have hf : c.force = false := by
    rcases hk with k | k
    · exact ((valid_6 k).1 hv).2.2.2.2.2.1
    · exact ((valid_7 k).1 hv).2.2.2.2.1
  have ef : endF c = [] := if_neg (by rw [hf]; decide)
  have ht : textW c = headT c ++ endO c := by unfold textW; rw [ef, List.append_nil]
  have htw : twW (textB c) false c.ord = headT c := by
    unfold twW
    rw [hs, ht]
    rcases o.ord with ho | ho
    · have eo : endO c = [] := if_neg (by omega)
      rw [eo, ho, List.append_nil]; rfl
    · have eo : endO c = [ordW] := if_pos ho
      rw [eo, ho]
      show dropW true (headT c ++ [ordW]) = _
      unfold dropW
      rw [if_pos rfl, take_last]
  have h1 : atW (textW c) 1 = itoaB c.tag := rfl
  have hlen : 1 < (textW c).length := by
    unfold textW headT
    rw [List.length_append, List.length_append, List.length_append]
    simp only [List.length_cons, List.length_nil]; omega
  obtain ⟨b1, b2⟩ := drop_tag it.1 hlen h1
  have w1 : 1 < (ws1 (textB c)).length ∧ atW (ws1 (textB c)) 1 = itoaB c.tag := by unfold ws1; rw [hw]; exact ⟨b1, b2⟩
  obtain ⟨b3, b4⟩ := drop_tag it.2 w1.1 w1.2
  have w2 : atW (ws2 (textB c)) 1 = itoaB c.tag := b4
  have ek : kindW (atW (wordsP (textB c)) 0) 8 = c.kind.toNat := by
    have := kind_of hv
    rw [hw, show atW (textW c) 0 = KW.getD c.kind.toNat ⟨#[]⟩ from rfl, kindW_kw (by omega)]
  rcases hk with k | k
  · obtain ⟨_, a1, a2, a3, a4, a5, a6, a7⟩ := (valid_6 k).1 hv
    have hh : headT c = [KW.getD 6 ⟨#[]⟩, itoaB c.tag, c.vol, c.oth] := by unfold headT; rw [k]; rfl
    have hp : preC (textB c) = { headC (endC (textB c)) (ws2 (textB c)) with oth := atW (ws2 (textB c)) 3 } := by
      unfold preC swC
      have e6 : (headC (endC (textB c)) (ws2 (textB c))).kind = 6 := by show ((kindW (atW (wordsP (textB c)) 0) 8 : Nat) : Int) = 6; rw [ek, kc, k]
      rw [if_neg (by rw [e6]; decide), if_neg (by rw [e6]; decide), if_neg (by rw [e6]; decide), if_pos e6]
    refine Cmd.ext' ?_ ?_ ?_ ?_ ?_ ?_ ?_ ?_ ?_
    · show (preC (textB c)).tag = _
      rw [hp]; show numV (atW (ws2 (textB c)) 1) = _; rw [w2, nt]
    · show (preC (textB c)).kind = _
      rw [hp]; show ((kindW (atW (wordsP (textB c)) 0) 8 : Nat) : Int) = _; rw [ek, kc]
    · rfl
    · exact hf.symm
    · show (if 2 < (twW (textB c) false c.ord).length then atW (twW (textB c) false c.ord) 2 else (preC (textB c)).vol) = _
      rw [htw, hh]; rfl
    · show (if (preC (textB c)).kind = 6 ∧ 3 < (twW (textB c) false c.ord).length then atW (twW (textB c) false c.ord) 3 else (preC (textB c)).oth) = _
      have e6 : (preC (textB c)).kind = 6 := by rw [hp]; show ((kindW (atW (wordsP (textB c)) 0) 8 : Nat) : Int) = _; rw [ek, kc, k]
      rw [htw, hh, e6]; rfl
    · show (preC (textB c)).at_ = _
      rw [hp, a6]; rfl
    · show (preC (textB c)).len = _
      rw [hp, a7]; rfl
    · show (preC (textB c)).data = _
      rw [hp, a4]; rfl
  · obtain ⟨_, a1, a2, a3, a4, a5, a6⟩ := (valid_7 k).1 hv
    have hh : headT c = [KW.getD 7 ⟨#[]⟩, itoaB c.tag, c.vol] := by unfold headT; rw [k]; rfl
    have hp : preC (textB c) = headC (endC (textB c)) (ws2 (textB c)) := by
      unfold preC swC
      have e7 : (headC (endC (textB c)) (ws2 (textB c))).kind = 7 := by show ((kindW (atW (wordsP (textB c)) 0) 8 : Nat) : Int) = 7; rw [ek, kc, k]
      rw [e7, if_neg (by decide), if_neg (by decide), if_neg (by decide), if_neg (by decide)]
    refine Cmd.ext' ?_ ?_ ?_ ?_ ?_ ?_ ?_ ?_ ?_
    · show (preC (textB c)).tag = _
      rw [hp]; show numV (atW (ws2 (textB c)) 1) = _; rw [w2, nt]
    · show (preC (textB c)).kind = _
      rw [hp]; show ((kindW (atW (wordsP (textB c)) 0) 8 : Nat) : Int) = _; rw [ek, kc]
    · rfl
    · exact hf.symm
    · show (if 2 < (twW (textB c) false c.ord).length then atW (twW (textB c) false c.ord) 2 else (preC (textB c)).vol) = _
      rw [htw, hh]; rfl
    · show (if (preC (textB c)).kind = 6 ∧ 3 < (twW (textB c) false c.ord).length then atW (twW (textB c) false c.ord) 3 else (preC (textB c)).oth) = _
      have e7 : (preC (textB c)).kind = 7 := by rw [hp]; show ((kindW (atW (wordsP (textB c)) 0) 8 : Nat) : Int) = _; rw [ek, kc, k]
      rw [e7, if_neg (fun h => absurd h.1 (by decide)), hp, a2]; rfl
    · show (preC (textB c)).at_ = _
      rw [hp, a5]; rfl
    · show (preC (textB c)).len = _
      rw [hp, a6]; rfl
    · show (preC (textB c)).data = _
      rw [hp, a3]; rfl
theorem text_ne {c : Cmd} (hv : ValidP c) : textB c ≠ ⟨#[]⟩ := by
  rw [textB_t hv]
  intro h
  have := congrArg (fun s => s.data.toList) h
  simp only [joinS_list] at this
  have hk := kind_of hv
  have e : textW c = KW.getD c.kind.toNat ⟨#[]⟩ :: itoaB c.tag :: (midT c c.kind.toNat ++ endF c ++ endO c) := by simp [textW, headT]
  rw [e, List.map_cons, List.map_cons, Txt.join_cons2] at this
  have hlen := congrArg List.length this
  rw [List.length_append, List.length_append] at hlen
  simp at hlen
theorem valid_of_text {c : Cmd} {s : ByteArray} (hs : s ≠ ⟨#[]⟩) (h : textB c = s) : ValidP c := Classical.byContradiction fun hv => hs (by rw [← h, textB_f hv])
theorem parse_valid {c : Cmd} (hv : ValidP c) (hB : Bytes c) {v : Value} {m' : FM} {n' : Nat} (h : ParseR (preC (textB c)) (textB c) v m' n') : ∃ dv, v = .tuple #[cmdV c dv, .int .i64 0] ∧ DatV m' n' dv c.data := by
  obtain ⟨x, dv, e, rfl, hd, hF, hBx, hh⟩ := h
  rcases hh with ⟨rfl, h1, h2⟩ | ⟨rfl, rfl, h1, h2⟩
  · have hx := valid_of_text h1 h2
    obtain rfl := text_inj hx hv hBx hB h2
    exact ⟨dv, rfl, hd⟩
  · exfalso
    have hk := kind_of hv
    by_cases k : c.kind ≤ 5
    · exact h1 ⟨text_ne hv, by rw [pre_plain hv hB k]⟩
    · have hc := cand_name hv hB (by omega)
      have hit : hitP (preC (textB c)) (textB c) false c.ord := ⟨text_ne hv, by rw [hc]⟩
      rcases (okay_of hv).ord with ho | ho
      · rw [ho] at hit; exact (h2 false).1 hit
      · rw [ho] at hit; exact (h2 false).2 hit
end Go.Am.C39
namespace Go.Am.C39
set_option maxRecDepth 100000
open Go Go.Am Go.Am.V
variable {E : Nat → Option AFn} {Y : Nat → List Value → FM → Nat → OR FM}
theorem trip_law (L : LibP E Y) (hT : Texts E Y) (hE : E 3 = some ac3) (h10 : E 10 = some ac10) (h12 : E 12 = some ac12) (h14 : E 14 = some ac14) (h24 : E 24 = some ac24) (h25 : E 25 = some ac25) (h26 : E 26 = some ac26) (h27 : E 27 = some ac27) (h28 : E 28 = some ac28) (h30 : E 30 = some ac30) (hV : Vals E Y) (hA : ∀ m n, Pure (callW PG E Y 9 [] m n) m n (.bool true)) (m : FM) (n : Nat) (a : Cmd) (d : Value) (hF : a.Fit) (hB : Bytes a) (hd : DatV m n d a.data) :
    Pure (callW PG E Y 3 [cmdV a d] m n) m n (.bool true) := by
  have hd2 : ∀ {M : FM}, (∀ b, b < n → M b = m b) → DatV M (n + 1) d a.data := fun h => hd.frame (by omega) h
  refine pure_spec hE rfl rfl ?_
  simp only [ac3, cmdV]
  simp (implicitDefEqProofs := false) (disch := omega) only [WPs, opds, List.all_cons, List.all_nil, List.cons_append, List.nil_append, cond_true, cond_false, eq_self, List.map_cons, List.map_nil, Nat.reduceAdd, Nat.testBit, Nat.reduceShiftRight, Nat.reduceAnd, Nat.reduceBNe, Nat.reduceMul, hd.one]
  refine use_pure (hA _ _) fun r1 => ?_
  simp (implicitDefEqProofs := false) (disch := omega) only [WPs, opds, List.all_cons, List.all_nil, List.cons_append, List.nil_append, cond_true, cond_false, eq_self, List.map_cons, List.map_nil, Nat.reduceAdd, Nat.testBit, Nat.reduceShiftRight, Nat.reduceAnd, Nat.reduceBNe, Nat.reduceMul, hd.one, hd.belF]
  refine use_pure (fair_spec h10 _ _ a d (hd2 fun b hb => by simp (implicitDefEqProofs := false) (disch := omega) only [WPs, opds, List.all_cons, List.all_nil, List.cons_append, List.nil_append, cond_true, cond_false, eq_self, List.map_cons, List.map_nil, Nat.reduceAdd, Nat.testBit, Nat.reduceShiftRight, Nat.reduceAnd, Nat.reduceBNe, Nat.reduceMul])) fun r2 => ?_
  by_cases fa : FairP a
  case neg =>
    simp (implicitDefEqProofs := false) (disch := omega) only [WPs, opds, List.all_cons, List.all_nil, List.cons_append, List.nil_append, cond_true, cond_false, eq_self, List.map_cons, List.map_nil, Nat.reduceAdd, Nat.testBit, Nat.reduceShiftRight, Nat.reduceAnd, Nat.reduceBNe, Nat.reduceMul, decide_eq_false fa, hd.one, hd.belF]
    refine use_pure (hA _ _) fun r3 => ?_
    simp (implicitDefEqProofs := false) (disch := omega) only [WPs, opds, List.all_cons, List.all_nil, List.cons_append, List.nil_append, cond_true, cond_false, eq_self, List.map_cons, List.map_nil, Nat.reduceAdd, Nat.testBit, Nat.reduceShiftRight, Nat.reduceAnd, Nat.reduceBNe, Nat.reduceMul]
  simp (implicitDefEqProofs := false) (disch := omega) only [WPs, opds, List.all_cons, List.all_nil, List.cons_append, List.nil_append, cond_true, cond_false, eq_self, List.map_cons, List.map_nil, Nat.reduceAdd, Nat.testBit, Nat.reduceShiftRight, Nat.reduceAnd, Nat.reduceBNe, Nat.reduceMul, decide_eq_true fa, hd.one, hd.belF]
  refine use_pure (hV.v32 _ _ a d hF (hd2 fun b hb => by simp (implicitDefEqProofs := false) (disch := omega) only [WPs, opds, List.all_cons, List.all_nil, List.cons_append, List.nil_append, cond_true, cond_false, eq_self, List.map_cons, List.map_nil, Nat.reduceAdd, Nat.testBit, Nat.reduceShiftRight, Nat.reduceAnd, Nat.reduceBNe, Nat.reduceMul])) fun r4 => ?_
  by_cases va : ValidP a
  case neg =>
    simp (implicitDefEqProofs := false) (disch := omega) only [WPs, opds, List.all_cons, List.all_nil, List.cons_append, List.nil_append, cond_true, cond_false, eq_self, List.map_cons, List.map_nil, Nat.reduceAdd, Nat.testBit, Nat.reduceShiftRight, Nat.reduceAnd, Nat.reduceBNe, Nat.reduceMul, validB_f va, hd.one, hd.belF]
    refine use_pure (hA _ _) fun r3 => ?_
    simp (implicitDefEqProofs := false) (disch := omega) only [WPs, opds, List.all_cons, List.all_nil, List.cons_append, List.nil_append, cond_true, cond_false, eq_self, List.map_cons, List.map_nil, Nat.reduceAdd, Nat.testBit, Nat.reduceShiftRight, Nat.reduceAnd, Nat.reduceBNe, Nat.reduceMul]
  simp (implicitDefEqProofs := false) (disch := omega) only [WPs, opds, List.all_cons, List.all_nil, List.cons_append, List.nil_append, cond_true, cond_false, eq_self, List.map_cons, List.map_nil, Nat.reduceAdd, Nat.testBit, Nat.reduceShiftRight, Nat.reduceAnd, Nat.reduceBNe, Nat.reduceMul, validB_t va, hd.one, hd.belF]
  refine use_pure (hT.t13 _ _ a d hF hB (hd2 fun b hb => by simp (implicitDefEqProofs := false) (disch := omega) only [WPs, opds, List.all_cons, List.all_nil, List.cons_append, List.nil_append, cond_true, cond_false, eq_self, List.map_cons, List.map_nil, Nat.reduceAdd, Nat.testBit, Nat.reduceShiftRight, Nat.reduceAnd, Nat.reduceBNe, Nat.reduceMul])) fun r6 => ?_
  have hz : (textB a).size ≤ 1000 := by rw [textB_t va]; have := text_size va hB; omega
  simp (implicitDefEqProofs := false) (disch := omega) only [WPs, opds, List.all_cons, List.all_nil, List.cons_append, List.nil_append, cond_true, cond_false, eq_self, List.map_cons, List.map_nil, Nat.reduceAdd, Nat.testBit, Nat.reduceShiftRight, Nat.reduceAnd, Nat.reduceBNe, Nat.reduceMul, hd.one, hd.belF]
  generalize hM0 : (AMem.put m n (some (.cells [.int .i64 a.tag, .int .i64 a.kind, .int .i64 a.ord, .bool a.force, .string a.vol, .string a.oth, .int .i64 a.at_, .int .i64 a.len, d] 0 false true)) : FM) = M0
  have hr0 : M0 n = some (.cells [.int .i64 a.tag, .int .i64 a.kind, .int .i64 a.ord, .bool a.force, .string a.vol, .string a.oth, .int .i64 a.at_, .int .i64 a.len, d] 0 false true) := by rw [← hM0]; exact fput_same _ _ _
  have lo0 : ∀ b, b < n → M0 b = m b := fun b hb => by rw [← hM0, fput_ne _ _ _ _ (by omega)]
  refine use_rt (parse_spec L hT h12 h24 h25 h26 h27 h28 h30 _ _ (textB a) hz) fun v m1 n1 r7 w1 hh => ?_
  obtain ⟨hn1, hf1, hw1, hR⟩ := hh
  obtain ⟨dv, rfl, hdv⟩ := parse_valid va hB hR
  have hr1 := (hf1 n (by omega)).trans hr0
  have hlo1 : ∀ b, b < n → m1 b = m b := fun b hb => by rw [hf1 b (by omega), lo0 b hb]
  have fz := hw1 n (by omega)
  simp only [cmdV]
  simp (implicitDefEqProofs := false) (disch := omega) only [WPs, opds, List.all_cons, List.all_nil, List.cons_append, List.nil_append, cond_true, cond_false, eq_self, List.map_cons, List.map_nil, Nat.reduceAdd, Nat.testBit, Nat.reduceShiftRight, Nat.reduceAnd, Nat.reduceBNe, Nat.reduceMul, hd.one, hdv.one, ey0, ey1, hr1]
  refine use_pure (refSame_spec h14 _ _ a a d dv (hd.frame (by omega) fun b hb => by rw [fput_ne _ _ _ _ (by omega), hlo1 b hb]) (hdv.frame (by omega) fun b hb => by rw [fput_ne _ _ _ _ (by omega)]) hF.data hF.data) fun r8 => ?_
  rw [sameB_iff.2 rfl]
  simp (implicitDefEqProofs := false) (disch := omega) only [WPs, opds, List.all_cons, List.all_nil, List.cons_append, List.nil_append, cond_true, cond_false, eq_self, List.map_cons, List.map_nil, Nat.reduceAdd, Nat.testBit, Nat.reduceShiftRight, Nat.reduceAnd, Nat.reduceBNe, Nat.reduceMul, fz]
end Go.Am.C39
namespace Go.Am.C39
open Go Go.Am Go.Am.V Go.RowKit
set_option maxRecDepth 1000000
theorem lib_call {f : Nat} (h : look tabB f = none) (args : List Value) (m : FM) (n : Nat) (h1 : memoA m9 f args m n = .no) (h2 : memoA m44 f args m n = .no) : callW PG (look tabB) (memosA memL Y39) f args m n = Y39 f args m n := by
  rw [memo_call h]
  show altA (memoA m9) (altA (memoA m44) Y39) f args m n = _
  unfold altA
  rw [h1, h2]
theorem libB : LibY (look tabB) (memosA memL Y39) where
  itoa := fun m n z h0 h1 => ⟨0, by rw [lib_call (by kernel_rfl) _ _ _ rfl rfl]; exact y_itoa m n h0 h1⟩
  join := fun m n n0 v xs hS hl hs => by
    have hx : 0 < xs.length ∧ ∃ b c opn wr, v = .slice (some ⟨b, 0, none⟩) xs.length c ∧ b < n ∧ m b = some (.cells (xs.map Value.string) 1 opn wr) := by
      rcases hS with ⟨b, h1, h2, h3, h4, h5, h6⟩ | ⟨h1, h2⟩
      · exact ⟨h2, b, _, _, _, h1, h5, h6⟩
      · obtain ⟨h, h', h''⟩ | ⟨hp, hcl, b, h3, hb1, hbN, hMb⟩ := h2
        · omega
        · exact ⟨h1, b, _, _, _, h3, hbN, hMb⟩
    obtain ⟨h0, b, c, opn, wr, rfl, hb, hm⟩ := hx
    exact ⟨bit b, by rw [lib_call (by kernel_rfl) _ _ _ rfl rfl]; exact y_join m n b c opn wr xs _ hb hm h0 hl hs⟩
theorem refB : RefY (look tabB) (memosA memL Y39) where
  num := fun z h0 m n h1 => refNumber_spec (by kernel_rfl) z h0 m n h1
  blk := fun m n l hl hb => refBlock_spec (by kernel_rfl) (by kernel_rfl) m n l hl hb
theorem textsB : Texts (look tabB) (memosA memL Y39) where
  t13 := fun m n c d hF hB hd => text_spec (by kernel_rfl) (by kernel_rfl) (by kernel_rfl) valsB libB m n c d hF hB hd
  t18 := fun m n c d hF hB hd => refText_spec (by kernel_rfl) (by kernel_rfl) refB valsB m n c d hF hB hd
end Go.Am.C39
namespace Go.Am.C39
open Go Go.Am Go.Am.V Go.RowKit
set_option maxRecDepth 1000000
theorem libP : LibP (look tabB) (memosA memL Y39) where
  cut := fun m n s sep h => ⟨0, by rw [lib_call (by kernel_rfl) _ _ _ rfl rfl]; exact y_cut m n h⟩
  atoi := fun m n s h => ⟨0, by rw [lib_call (by kernel_rfl) _ _ _ rfl rfl]; exact y_atoi m n h⟩
  pu := fun m n s h => ⟨0, by rw [lib_call (by kernel_rfl) _ _ _ rfl rfl]; exact y_pu m n h⟩
  split := fun m n s sep h1 h2 h3 => by rw [lib_call (by kernel_rfl) _ _ _ rfl rfl]; exact y_split m n h1 h2 h3
theorem commandRoundTrip_calls (a : Cmd) (sa : Value) (w : World) (hgl : Glob w.heap.size w) (hF : a.Fit) (hB : Bytes a) (ha : DatW w sa a.data) :
    Calls Proofs.Tryd.prog 3 #[cmdV a sa] w fun e w' => e = .returned (.bool true) ∧ Below w.heap.size w w' :=
  one_calls a sa w hgl ha fun m n d hd => trip_law (E := look tabB) libP textsB (by kernel_rfl) (by kernel_rfl) (by kernel_rfl) (by kernel_rfl) (by kernel_rfl) (by kernel_rfl) (by kernel_rfl) (by kernel_rfl) (by kernel_rfl) (by kernel_rfl) valsB awake_pure m n a d hF hB hd
end Go.Am.C39
namespace Go.Am.C39
open Go Go.Am Go.Am.V Go.RowKit Go.ChangeShapes Go.WideShapes Go.ChangeAt
set_option maxRecDepth 1000000
theorem returns_listed {H : Type} {enc : TypeId × Value → H} {a : Assume} {C : Checked} {os : Os} {f : FuncId} {fn : Func} {s : ChangeSpec} {conds : List PathCond} {apart fresh handsOn again : Bool} {X : World → Array Value → Prop}
    (hX : ∀ (w w' : World) (args : Array Value), w.heap = w'.heap → X w args → X w' args)
    (own : ownKnob C.prog.godebug = none) (started : os.Started) (noInit : C.prog.inits.idxOf? f = none) (hfn : C.prog.funcs[f]? = some fn)
    (witness : ∃ (w : World) (tape : Tape) (i : Input), w.os = os ∧ (w.forCall tape i).Shaped C.prog ∧ i.vars = [] ∧ Input.okWide C.prog (w.forCall tape i) .any w.heap.size f i ∧
      ((s.pre enc C.prog fn conds apart (w.forCall tape i).memory i.args ∧ X (w.forCall tape i).memory i.args) ∧ sizedMet enc C.prog fn (OpenSpec.ofChange s) apart (w.forCall tape i).memory i.args) ∧ a.holds C.prog (lone (Frame.enter C.prog f i.args .normal) [] (w.forCall tape i)))
    (contract : ∀ (W : World) (args : Array Value) (base : Nat) (ds gs : List (DataW H)) (before : List MemPlace),
      (∀ (j : Nat) t v, fn.params[j]? = some t → args[j]? = some v → Value.okWide C.prog W .any base t v) →
      DataW.Whole enc C.prog fn.params.toList s.vars apart W args.toList ds gs before →
      (DataW.weightsEach C.prog (fn.params.toList ++ s.plain.varTypes C.prog) (ds ++ gs)).all (· ≤ reachBytes) = true → X W args → W.ShapedOpen C.prog →
      Calls C.prog f args W fun e W' => ∃ v, e = .returned v ∧ s.post enc C.prog fn apart fresh handsOn again W args v W') :
    ReturnsInHanded a C os f .any (fun w args => (s.pre enc C.prog fn conds apart w args ∧ X w args) ∧ sizedMet enc C.prog fn (OpenSpec.ofChange s) apart w args) (s.post enc C.prog fn apart fresh handsOn again) := by
  refine returnsInHanded_of_calls own started noInit witness ?_
  intro w tape i _ hsh _ hok hpre hholds
  obtain ⟨_, _, _, fn', hfn', _, _, _, _, hval⟩ := hok
  have e : fn' = fn := Option.some.inj (hfn'.symm.trans hfn)
  subst e
  obtain ⟨⟨⟨ds, gs, before, hw, hc⟩, hx⟩, hz⟩ := hpre
  have hw' := DataW.Whole.of_heap (w' := w.forCall tape i) (by rfl) hw
  refine (contract (w.forCall tape i) i.args w.heap.size ds gs before hval hw' (hz.weights hw) (hX _ _ _ (by rfl) hx) hsh).mono fun e W' ⟨v, he, hp⟩ => ?_
  subst he
  exact ChangeSpec.post_blind hp
theorem maxLen_cell {w : World} (h : w.ShapedOpen PG) : ∃ m, w.cell? ⟨0, 0, none⟩ = some (.int .i64 m) :=
  Go.Proofs.cell_of_shapedOpen_int (zero := #[.int .i64 0]) (t := 3) h (of_decide_eq_true (by kernel_rfl)) (by kernel_rfl) rfl (by kernel_rfl) (by kernel_rfl) u3
theorem cell_below {B : Nat} {w w' : World} (h : Below B w w') (hB : 0 < B) : w'.cell? ⟨0, 0, none⟩ = w.cell? ⟨0, 0, none⟩ := by
  unfold World.cell?
  rw [show w'.heap[(⟨0, 0, none⟩ : Addr).block]? = w.heap[(⟨0, 0, none⟩ : Addr).block]? from h.block 0 hB]
theorem pow_is {w : World} {l : List (String × DataW Unit)} (h : laidMet PG l w) (hm : ("internal/strconv.uint64pow10", Go.Proofs.YtibpnegblcdioaaDoor.Rows.laid_internal_strconv_uint64pow10) ∈ l) : Lib.TabIs PG w "internal/strconv.uint64pow10" .u64 Lib.pow10Tab := by
  obtain ⟨g, t, cs, fuel, p, h1, h2, h3, h4⟩ := Lib.laidMet.reads h hm
  obtain rfl : g = 3 := Option.some.inj (h1.symm.trans (by kernel_rfl))
  obtain rfl : t = 113 := Option.some.inj (h2.symm.trans (by kernel_rfl))
  rw [show (Go.Proofs.YtibpnegblcdioaaDoor.Rows.laid_internal_strconv_uint64pow10 : DataW Unit) = Lib.tabData .u64 Lib.pow10Tab by kernel_rfl] at h4
  unfold Lib.TabIs
  rw [h3, ← Lib.cells_of_tab (n := 20) (e := 56) (by kernel_rfl) (by kernel_rfl) (by kernel_rfl) (by kernel_rfl) h4]
theorem cell_belowG {B : Nat} {w w' : World} (h : Below B w w') {g : Nat} (hB : g < B) : w'.cell? ⟨g, 0, none⟩ = w.cell? ⟨g, 0, none⟩ := by
  unfold World.cell?
  rw [show w'.heap[(⟨g, 0, none⟩ : Addr).block]? = w.heap[(⟨g, 0, none⟩ : Addr).block]? from h.block g hB]
theorem cell_lt {w : World} {g : Nat} {v : Value} (hc : w.cell? ⟨g, 0, none⟩ = some v) : g < w.heap.size := by
  rcases Nat.lt_or_ge g w.heap.size with h | h
  · exact h
  · unfold World.cell? at hc
    rw [Array.getElem?_eq_none (by exact h)] at hc
    cases hc
theorem err_is {w : World} {l : List (String × DataW Unit)} (h : laidMet PG l w) {nm tn : String} {d : DataW Unit} {g t : Nat} {ms : Array (String × TypeId)} (hm : (nm, DataW.iface tn d) ∈ l) (hg : PG.globalNamed nm = some g) (ht : (PG.globals[g]?).map (·.type) = some t) (hi : PG.underlying t = some (.interface ms)) : ErrV w g := by
  obtain ⟨g', t', cs, fuel, p, h1, h2, h3, h4⟩ := Lib.laidMet.reads h hm
  obtain rfl : g' = g := Option.some.inj (h1.symm.trans hg)
  obtain rfl : t' = t := Option.some.inj (h2.symm.trans ht)
  obtain ⟨_, u, v, hcs, _, _⟩ := iface_of_trod hi h4
  refine ⟨.iface u v, ?_, .inr ⟨u, v, rfl⟩⟩
  unfold World.var? at h3
  rw [h1] at h3
  replace h3 : (match w.heap[g']? with | some (.cells cs _ _) => some cs | _ => none) = some cs := h3
  unfold World.cell?
  simp only
  split at h3
  · rename_i c _ _ hc
    injection h3 with h3
    subst h3
    rw [hc]
    obtain ⟨c⟩ := c
    replace hcs : c = _ := hcs
    subst hcs
    rfl
  · cases h3
theorem glob_of {w : World} {l : List (String × DataW Unit)} (hs : w.ShapedOpen PG) (h : laidMet PG l w) (hm : ("internal/strconv.uint64pow10", Go.Proofs.YtibpnegblcdioaaDoor.Rows.laid_internal_strconv_uint64pow10) ∈ l) (h1 : ("strconv.ErrSyntax", Go.Proofs.YtibpnegblcdioaaDoor.Rows.laid_strconv_ErrSyntax) ∈ l) (h2 : ("strconv.ErrRange", Go.Proofs.YtibpnegblcdioaaDoor.Rows.laid_strconv_ErrRange) ∈ l) : Glob w.heap.size w := fun w' hb => by
  obtain ⟨m, hc⟩ := maxLen_cell hs
  obtain ⟨e1, c1, k1⟩ := err_is h (tn := "*errors.errorString") (g := 1) (t := 53) (ms := ((PG.underlying 53).bind fun | .interface m => some m | _ => none).getD #[]) h1 (by kernel_rfl) (by kernel_rfl) (by kernel_rfl)
  obtain ⟨e2, c2, k2⟩ := err_is h (tn := "*errors.errorString") (g := 2) (t := 53) (ms := ((PG.underlying 53).bind fun | .interface m => some m | _ => none).getD #[]) h2 (by kernel_rfl) (by kernel_rfl) (by kernel_rfl)
  exact ⟨⟨⟨m, (cell_below hb (cell_lt hc)).trans hc⟩, Lib.tabBelow_of_tabIs (pow_is h hm) w' hb⟩, ⟨e1, (cell_belowG hb (cell_lt c1)).trans c1, k1⟩, ⟨e2, (cell_belowG hb (cell_lt c2)).trans c2, k2⟩⟩
end Go.Am.C39
namespace Go.Am
open Go Go.RowKit Go.ChangeShapes
theorem wf_u8 {n : Int} (h : (Lit.int .u8 n).wf = true) : 0 ≤ n ∧ n < 256 := by
  simp only [Lit.wf, Bool.and_eq_true, decide_eq_true_eq] at h
  have h1 : IntKind.u8.min = 0 := by kernel_rfl
  have h2 : IntKind.u8.max = 255 := by kernel_rfl
  rw [h1, h2] at h
  omega
theorem bytes_of_trodB {H : Type} {enc : TypeId × Value → H} {P : Program} {w : World} {held : Bool} {sp : Nat → Bool} {t e k : Nat} {fuel : Nat} {cs : List Value} {x : DataW H × List MemPlace} (ht : P.underlying t = some (.array k e)) (he : P.underlying e = some (.int .u8)) (ce : P.cellsOf e = 1)
    (hl : cs.length = k) (h : DataW.trod enc P w 0 sp held fuel t cs = some x) : ∃ d : List Int, (d.length = k ∧ ∀ z ∈ d, 0 ≤ z ∧ z < 256) ∧ cs = d.map (Value.int .u8) := by
  obtain ⟨xs, m, _, _, _, hn, hall⟩ := DataW.trod_array ht h
  have key : ∀ i (h1 : i < cs.length), ∃ z, cs[i] = .int .u8 z ∧ 0 ≤ z ∧ z < 256 := by
    intro i h1
    have h3 := hall i (by omega)
    rw [ce, Nat.mul_one, List.getElem?_eq_getElem (by omega)] at h3
    obtain ⟨z, hz, _, hw⟩ := DataW.trod_int he h3
    refine ⟨z, ?_, wf_u8 hw⟩
    have := congrArg (fun l => l[0]?) hz
    simp only [List.getElem?_take, List.getElem?_drop, Nat.add_zero] at this
    rw [if_pos (by omega), List.getElem?_eq_getElem h1] at this
    simpa using this
  refine ⟨cs.map intOf, ⟨by rw [List.length_map, hl], fun z hz => ?_⟩, ?_⟩
  · obtain ⟨y, hy, rfl⟩ := List.mem_map.1 hz
    obtain ⟨i, hi, rfl⟩ := List.mem_iff_getElem.1 hy
    obtain ⟨z, e1, e2⟩ := key i hi
    rw [e1]; exact e2
  · refine List.ext_getElem (by simp) fun i h1 h2 => ?_
    obtain ⟨z, e1, e2⟩ := key i h1
    rw [List.getElem_map, List.getElem_map, e1]; rfl
theorem datW_of_sliceB {w : World} {v : Value} {len : Nat} (h : SliceW w 8 (fun l => ∃ d : List Int, (d.length = 8 ∧ ∀ z ∈ d, 0 ≤ z ∧ z < 256) ∧ l = d.map (Value.int .u8)) v len) : ∃ ds, ds.length = len ∧ DatW w v ds ∧ ∀ d ∈ ds, d.length = 8 ∧ ∀ z ∈ d, 0 ≤ z ∧ z < 256 := by
  rcases h with ⟨rfl, rfl⟩ | ⟨a, c, rfl, rfl⟩ | ⟨blk, off, cap, cc, ty, fz, rfl, h0, h1, h2, h3, h4⟩
  · exact ⟨[], rfl, .inl ⟨rfl, rfl⟩, fun d hd => by cases hd⟩
  · exact ⟨[], rfl, .inr (.inl ⟨a, c, rfl, rfl⟩), fun d hd => by cases hd⟩
  · have h5 : ∀ i, i < len → ∃ d : List Int, (d.length = 8 ∧ ∀ z ∈ d, 0 ≤ z ∧ z < 256) ∧ ∀ j, j < 8 → cc[off + i * 8 + j]? = (d.map (Value.int .u8))[j]? := fun i hi => by
      obtain ⟨l, hl, hj, d, hd, rfl⟩ := h4 i hi
      exact ⟨d, hd, hj⟩
    have h6 : ∃ f : Nat → List Int, ∀ i, i < len → ((f i).length = 8 ∧ ∀ z ∈ f i, 0 ≤ z ∧ z < 256) ∧ ∀ j, j < 8 → cc[off + i * 8 + j]? = ((f i).map (Value.int .u8))[j]? :=
      ⟨fun i => if h : i < len then Classical.choose (h5 i h) else [], fun i hi => by
        simp only [dif_pos hi]
        exact Classical.choose_spec (h5 i hi)⟩
    obtain ⟨f, hf⟩ := h6
    have hl : ((List.range len).map f).length = len := by simp
    refine ⟨(List.range len).map f, hl, .inr (.inr ⟨blk, off, cap, cc, ty, fz, by rw [hl], by rw [hl]; exact h0, by rw [hl]; exact h1, h2, by rw [hl]; exact h3, fun i hi => ?_⟩), fun d hd => ?_⟩
    · have hi' : i < len := by rw [hl] at hi; exact hi
      have e : ((List.range len).map f)[i] = f i := by rw [List.getElem_map, List.getElem_range]
      rw [e]
      exact ⟨(hf i hi').1.1, (hf i hi').2⟩
    · obtain ⟨i, hi, rfl⟩ := List.mem_map.1 hd
      exact (hf i (List.mem_range.1 hi)).1
end Go.Am
namespace Go.Am.C39
open Go Go.Am Go.RowKit Go.ChangeShapes
set_option maxRecDepth 100000
theorem cmd_of_trodB {H : Type} {enc : TypeId × Value → H} {w : World} {held : Bool} {sp : Nat → Bool} {fuel : Nat} {cs : List Value} {x : DataW H × List MemPlace} (h : DataW.trod enc PG w 0 sp held fuel 24 cs = some x) :
    ∃ (c : Cmd) (sv : Value), cs = c.cells sv ∧ c.Fit ∧ DatW w sv c.data ∧ Bytes c := by
  obtain ⟨xs, n, _, _, hl, hn, hall⟩ := DataW.trod_struct u24 h
  rw [c24] at hl
  have fld : ∀ (i off ty : Nat), [(0, 3), (1, 3), (2, 3), (3, 4), (4, 9), (5, 9), (6, 3), (7, 3), (8, 22)][i]? = some (off, ty) → ∃ y, DataW.trod enc PG w 0 sp held n ty ((cs.drop off).take (PG.cellsOf ty)) = some y := fun i off ty hi => by
    rw [← l24, List.getElem?_map] at hi
    cases hf : (PG.fieldsOf 24).toList[i]? with
    | none => rw [hf] at hi; cases hi
    | some f =>
      rw [hf] at hi
      injection hi with hi; injection hi with e1 e2
      subst e1; subst e2
      have hf' : (PG.fieldsOf 24)[i]? = some f := by simpa using hf
      have hi9 : i < xs.length := by rw [hn]; exact (Array.getElem?_eq_some_iff.1 hf').1
      exact ⟨xs[i], by rw [hall i f hf', List.getElem?_eq_getElem hi9]⟩
  match cs, hl with
  | [a0, a1, a2, a3, a4, a5, a6, a7, a8], _ =>
    obtain ⟨_, h0⟩ := fld 0 0 3 rfl
    obtain ⟨_, h1⟩ := fld 1 1 3 rfl
    obtain ⟨_, h2⟩ := fld 2 2 3 rfl
    obtain ⟨_, h3⟩ := fld 3 3 4 rfl
    obtain ⟨_, h4⟩ := fld 4 4 9 rfl
    obtain ⟨_, h5⟩ := fld 5 5 9 rfl
    obtain ⟨_, h6⟩ := fld 6 6 3 rfl
    obtain ⟨_, h7⟩ := fld 7 7 3 rfl
    obtain ⟨_, h8⟩ := fld 8 8 22 rfl
    rw [c3] at h0 h1 h2 h6 h7
    rw [c4] at h3
    rw [c9] at h4 h5
    rw [c22] at h8
    obtain ⟨tag, k0, _, w0⟩ := DataW.trod_int u3 h0
    obtain ⟨kind, k1, _, w1⟩ := DataW.trod_int u3 h1
    obtain ⟨ord, k2, _, w2⟩ := DataW.trod_int u3 h2
    obtain ⟨force, k3, _⟩ := DataW.trod_bool t4 h3
    obtain ⟨vol, k4, _, w4⟩ := DataW.trod_string u9 h4
    obtain ⟨oth, k5, _, w5⟩ := DataW.trod_string u9 h5
    obtain ⟨at_, k6, _, w6⟩ := DataW.trod_int u3 h6
    obtain ⟨len, k7, _, w7⟩ := DataW.trod_int u3 h7
    obtain ⟨sv, dl, k8, hdl, hS⟩ := slice_of_trod u22 c35 (by omega) h8
    obtain ⟨ds, hds, hD, hB⟩ := datW_of_sliceB (w := w) (v := sv) (len := dl) (by
      rcases hS with h | h | ⟨blk, off, cap, cc, ty, fz, e1, e2, e3, e4, e5, e6⟩
      · exact .inl h
      · exact .inr (.inl h)
      · refine .inr (.inr ⟨blk, off, cap, cc, ty, fz, e1, e2, e3, e4, e5, fun i hi => ?_⟩)
        obtain ⟨l, q1, q2, n', y, q3⟩ := e6 i hi
        obtain ⟨d, hd, rfl⟩ := bytes_of_trodB u35 u5 c5 q1 q3
        exact ⟨_, q1, q2, d, hd, rfl⟩)
    simp only [List.drop_succ_cons, List.drop_zero, List.take_succ_cons, List.take_zero, List.cons.injEq, and_true] at k0 k1 k2 k3 k4 k5 k6 k7 k8
    subst k0; subst k1; subst k2; subst k3; subst k4; subst k5; subst k6; subst k7; subst k8
    exact ⟨⟨tag, kind, ord, force, vol, oth, at_, len, ds⟩, _, rfl, ⟨wf_i64 w0, wf_i64 w1, wf_i64 w2, wf_i64 w6, wf_i64 w7, w4, w5, by show ds.length ≤ _; rw [hds]; exact hdl⟩, hD, hB⟩
end Go.Am.C39
namespace Go.Am
open Go Go.RowKit Go.ChangeShapes
theorem post_below {H : Type} {enc : TypeId × Value → H} {P : Program} {f : Func} {s : ChangeSpec} {apart fresh handsOn again : Bool} {W W' : World} {args : Array Value} {v : Value} {ds gs : List (DataW H)} {before pa pv : List MemPlace}
    (hW : DataW.Whole enc P f.params.toList s.vars apart W args.toList ds gs before)
    (hres : ∀ (b : Nat) (sp : Nat → Bool) (hd : Bool), DataW.TrodAll enc P W' b sp hd f.resultTypes.toList (v.resultList f.resultTypes.size) (s.fn H (ds ++ gs)).results [])
    (hargs : ∀ sp : Nat → Bool, (∀ p ∈ before, sp p.block = true) → DataW.TrodAll enc P W' 0 sp true f.params.toList args.toList (s.fn H (ds ++ gs)).args pa)
    (hvars : ∀ sp : Nat → Bool, (∀ p ∈ before, sp p.block = true) → DataW.TrodVars enc P W' sp s.vars (s.fn H (ds ++ gs)).vars pv)
    (hps : before = pa ++ pv) (hb : Below W.heap.size W W')
    (hok : ∀ (j : Nat) (t : TypeId) (r : Value), f.resultTypes[j]? = some t → (v.resultList f.resultTypes.size)[j]? = some r → Value.okWide P W' .any 0 t r) :
    s.post enc P f apart fresh handsOn again W args v W' := by
  have hlt := hW.lt
  obtain ⟨_, _, _, _, _, hz, hn⟩ := id hW
  refine ⟨ds, gs, before, [], pa, pv, hW, hres _ _ _, hargs _ fun p hp => by simpa using hlt p hp, hvars _ fun p hp => by simpa using hlt p hp, World.keptBut_mono (fun p hp => ⟨hp, ?_⟩) (hb.frame (· ∈ before)), fun _ => ⟨hok, _, _, ([] ++ pa) ++ pv, ⟨[] ++ pa, pv, trodAll_append (hargs _ fun _ _ => rfl) (hres _ _ _), hvars _ fun _ _ => rfl, rfl, fun b off hp => ?_, fun ha => ?_⟩, fun p hp _ => ?_⟩⟩
  · rw [hps, List.mem_append] at hp; exact .inr hp
  · have hm : MemPlace.cell b off ∈ before := by rw [hps]; simpa using hp
    rw [hb.frozen (p := ⟨b, off, none⟩) (hlt _ hm)]
    exact hz b off hm
  · have := hn ha
    rw [hps] at this
    simpa using this
  · rw [hps]; simpa using hp
end Go.Am
