/- The machine and its runs, part 11: Am07m Am07n Am07p RgSeen Sets07a Sets07b Sets07d Sets07e Sets07f Sets07g Sets07h Sets07i Sets07j Sets07k Sets07l Sets07m Sets07n. -/
import Derived.RangeFuncNested
import Derived.RangeFuncLeaves
import Derived.Shelf.Abstract
import Derived.WalkKit
import Derived.OwnWalkIn
import Derived.TacticsInMore
import Derived.LoopNIn
import Derived.LoopIn
import Derived.Test.YtfkbmdhlopkfnaaProg
import Derived.Stop.RegionWithIn
import Derived.Lib.Walk
import Derived.Lib.SliceRun
import Derived.Deep.AppendLies
import Derived.OneCell
import Derived.Lib.BufferMore
import Derived.Test.YtfkbmdhlopkfnaaB10
set_option linter.unusedVariables false
set_option linter.unusedSimpArgs false
set_option linter.unusedSectionVars false
namespace Go.Am.C07
open Go Go.Am Go.Am.V
set_option maxRecDepth 1000000
theorem mix : Proofs.Try.prog.follows .mixedOrders = true := by kernel_rfl
theorem env6 : Env Proofs.Try.prog tab Y5 Yf5 where
  mix := mix
  good := good
  small := by kernel_rfl
  loc := Y5_loc
  sim := Y5_sim
  fast := Yf5_sim
  apart := by
    intro f fn h args m n
    show cond (Nat.beq f 58) (elemY m n args) .no = .no
    cases hb : Nat.beq f 58
    · rfl
    · obtain rfl := Nat.eq_of_beq_eq_true hb
      have h0 : look tab 58 = none := by kernel_rfl
      rw [h0] at h; cases h
def fBs (q p : Nat) (A T : Tab) : List FBlk := ⟨[.i (Int.ofNat q), .i (Int.ofNat p), .s 1 0 q UNK, .s 2 0 q UNK], 0, false, true⟩ :: ⟨(List.range q).map (fun i => FV.s (i + 3) 0 q UNK), 1, true, true⟩ :: ⟨(List.range q).map (fun i => FV.s (i + (3 + q)) 0 q UNK), 1, true, true⟩ :: (A ++ T).map (fun row => ⟨row.map FV.i, 1, true, true⟩)
def fM (q p : Nat) (A T : Tab) (pi : List Nat) : Memo := { f := 36, args := [.int .i64 (Int.ofNat q)], rs := [.p 0 0, .i (Int.ofNat 0)], bs := fBs q p A T, pi := pi }
def A2 : Tab := [[0, 1], [1, 0]]
def T2 : Tab := [[0, 0], [0, 1]]
theorem fit2 : fitsB (fM 2 2 A2 T2 [10, 32, 34, 16, 28, 18, 30]) (fcall Proofs.Try.prog (Fast.treeOf tab) Yf5 5000 6 36 [.i (Int.ofNat 2)] [] 0) = true := by kernel_rfl
theorem sim2 : CallSim Proofs.Try.prog (memoA (fM 2 2 A2 T2 [10, 32, 34, 16, 28, 18, 30])) := env6.memo (fargs := [.i (Int.ofNat 2)]) rfl rfl fit2
def A3 : Tab := [[0, 1, 2], [1, 2, 0], [2, 0, 1]]
def T3 : Tab := [[0, 0, 0], [0, 1, 2], [0, 2, 1]]
theorem fit3 : fitsB (fM 3 3 A3 T3 [10, 56, 58, 20, 36, 52, 22, 38, 54]) (fcall Proofs.Try.prog (Fast.treeOf tab) Yf5 5000 6 36 [.i (Int.ofNat 3)] [] 0) = true := by kernel_rfl
theorem sim3 : CallSim Proofs.Try.prog (memoA (fM 3 3 A3 T3 [10, 56, 58, 20, 36, 52, 22, 38, 54])) := env6.memo (fargs := [.i (Int.ofNat 3)]) rfl rfl fit3
def A4 : Tab := [[0, 1, 2, 3], [1, 0, 3, 2], [2, 3, 0, 1], [3, 2, 1, 0]]
def T4 : Tab := [[0, 0, 0, 0], [0, 1, 2, 3], [0, 2, 3, 1], [0, 3, 1, 2]]
theorem fit4 : fitsB (fM 4 2 A4 T4 [10, 88, 90, 24, 44, 64, 84, 26, 46, 66, 86]) (fcall Proofs.Try.prog (Fast.treeOf tab) Yf5 5000 6 36 [.i (Int.ofNat 4)] [] 0) = true := by kernel_rfl
theorem sim4 : CallSim Proofs.Try.prog (memoA (fM 4 2 A4 T4 [10, 88, 90, 24, 44, 64, 84, 26, 46, 66, 86])) := env6.memo (fargs := [.i (Int.ofNat 4)]) rfl rfl fit4
def A5 : Tab := [[0, 1, 2, 3, 4], [1, 2, 3, 4, 0], [2, 3, 4, 0, 1], [3, 4, 0, 1, 2], [4, 0, 1, 2, 3]]
def T5 : Tab := [[0, 0, 0, 0, 0], [0, 1, 2, 3, 4], [0, 2, 4, 1, 3], [0, 3, 1, 4, 2], [0, 4, 3, 2, 1]]
theorem fit5 : fitsB (fM 5 5 A5 T5 [10, 128, 130, 28, 52, 76, 100, 124, 30, 54, 78, 102, 126]) (fcall Proofs.Try.prog (Fast.treeOf tab) Yf5 5000 6 36 [.i (Int.ofNat 5)] [] 0) = true := by kernel_rfl
theorem sim5 : CallSim Proofs.Try.prog (memoA (fM 5 5 A5 T5 [10, 128, 130, 28, 52, 76, 100, 124, 30, 54, 78, 102, 126])) := env6.memo (fargs := [.i (Int.ofNat 5)]) rfl rfl fit5
def A7 : Tab := [[0, 1, 2, 3, 4, 5, 6], [1, 2, 3, 4, 5, 6, 0], [2, 3, 4, 5, 6, 0, 1], [3, 4, 5, 6, 0, 1, 2], [4, 5, 6, 0, 1, 2, 3], [5, 6, 0, 1, 2, 3, 4], [6, 0, 1, 2, 3, 4, 5]]
def T7 : Tab := [[0, 0, 0, 0, 0, 0, 0], [0, 1, 2, 3, 4, 5, 6], [0, 2, 4, 6, 1, 3, 5], [0, 3, 6, 2, 5, 1, 4], [0, 4, 1, 5, 2, 6, 3], [0, 5, 3, 1, 6, 4, 2], [0, 6, 5, 4, 3, 2, 1]]
theorem fit7 : fitsB (fM 7 7 A7 T7 [10, 232, 234, 36, 68, 100, 132, 164, 196, 228, 38, 70, 102, 134, 166, 198, 230]) (fcall Proofs.Try.prog (Fast.treeOf tab) Yf5 5000 6 36 [.i (Int.ofNat 7)] [] 0) = true := by kernel_rfl
theorem sim7 : CallSim Proofs.Try.prog (memoA (fM 7 7 A7 T7 [10, 232, 234, 36, 68, 100, 132, 164, 196, 228, 38, 70, 102, 134, 166, 198, 230])) := env6.memo (fargs := [.i (Int.ofNat 7)]) rfl rfl fit7
def A8 : Tab := [[0, 1, 2, 3, 4, 5, 6, 7], [1, 0, 3, 2, 5, 4, 7, 6], [2, 3, 0, 1, 6, 7, 4, 5], [3, 2, 1, 0, 7, 6, 5, 4], [4, 5, 6, 7, 0, 1, 2, 3], [5, 4, 7, 6, 1, 0, 3, 2], [6, 7, 4, 5, 2, 3, 0, 1], [7, 6, 5, 4, 3, 2, 1, 0]]
def T8 : Tab := [[0, 0, 0, 0, 0, 0, 0, 0], [0, 1, 2, 3, 4, 5, 6, 7], [0, 2, 4, 6, 3, 1, 7, 5], [0, 3, 6, 5, 7, 4, 1, 2], [0, 4, 3, 7, 6, 2, 5, 1], [0, 5, 1, 4, 2, 7, 3, 6], [0, 6, 7, 1, 5, 3, 2, 4], [0, 7, 5, 2, 1, 6, 4, 3]]
theorem fit8 : fitsB (fM 8 2 A8 T8 [10, 296, 298, 40, 76, 112, 148, 184, 220, 256, 292, 42, 78, 114, 150, 186, 222, 258, 294]) (fcall Proofs.Try.prog (Fast.treeOf tab) Yf5 5000 6 36 [.i (Int.ofNat 8)] [] 0) = true := by kernel_rfl
theorem sim8 : CallSim Proofs.Try.prog (memoA (fM 8 2 A8 T8 [10, 296, 298, 40, 76, 112, 148, 184, 220, 256, 292, 42, 78, 114, 150, 186, 222, 258, 294])) := env6.memo (fargs := [.i (Int.ofNat 8)]) rfl rfl fit8
def A9 : Tab := [[0, 1, 2, 3, 4, 5, 6, 7, 8], [1, 2, 0, 4, 5, 3, 7, 8, 6], [2, 0, 1, 5, 3, 4, 8, 6, 7], [3, 4, 5, 6, 7, 8, 0, 1, 2], [4, 5, 3, 7, 8, 6, 1, 2, 0], [5, 3, 4, 8, 6, 7, 2, 0, 1], [6, 7, 8, 0, 1, 2, 3, 4, 5], [7, 8, 6, 1, 2, 0, 4, 5, 3], [8, 6, 7, 2, 0, 1, 5, 3, 4]]
def T9 : Tab := [[0, 0, 0, 0, 0, 0, 0, 0, 0], [0, 1, 2, 3, 4, 5, 6, 7, 8], [0, 2, 1, 6, 8, 7, 3, 5, 4], [0, 3, 6, 2, 5, 8, 1, 4, 7], [0, 4, 8, 5, 6, 1, 7, 2, 3], [0, 5, 7, 8, 1, 3, 4, 6, 2], [0, 6, 3, 1, 7, 4, 2, 8, 5], [0, 7, 5, 4, 2, 6, 8, 3, 1], [0, 8, 4, 7, 3, 2, 5, 1, 6]]
theorem fit9 : fitsB (fM 9 3 A9 T9 [10, 368, 370, 44, 84, 124, 164, 204, 244, 284, 324, 364, 46, 86, 126, 166, 206, 246, 286, 326, 366]) (fcall Proofs.Try.prog (Fast.treeOf tab) Yf5 5000 6 36 [.i (Int.ofNat 9)] [] 0) = true := by kernel_rfl
theorem sim9 : CallSim Proofs.Try.prog (memoA (fM 9 3 A9 T9 [10, 368, 370, 44, 84, 124, 164, 204, 244, 284, 324, 364, 46, 86, 126, 166, 206, 246, 286, 326, 366])) := env6.memo (fargs := [.i (Int.ofNat 9)]) rfl rfl fit9
end Go.Am.C07
namespace Go.Am.C07
open Go Go.Am Go.Am.V
set_option maxRecDepth 1000000
theorem fM_spec {q p : Nat} {A T : Tab} {pi : List Nat} (hA : square A q) (hT : square T q) (m : FM) (n : Nat) : ∃ (m' : FM) (w : Nat), memoA (fM q p A T pi) 36 [.int .i64 (q : Int)] m n = .ok (.tuple #[.pointer (some ⟨n, 0, none⟩), .int .i64 0]) m' (n + (3 + (q + q))) 0 w ∧ (∀ b, b < n → m' b = m b) ∧ (∀ j, j ≤ n → Nat.mod w (bit j) = 0) ∧ FieldM m' (n + (3 + (q + q))) (.pointer (some ⟨n, 0, none⟩)) q A T := by
  have hl : (fM q p A T pi).bs.length = 3 + (q + q) := by
    show (fBs q p A T).length = _
    simp [fBs, hA.1, hT.1]
    omega
  have hself : veqL [.int .i64 (q : Int)] (fM q p A T pi).args = true := by
    show (veqF (.int .i64 (q : Int)) (.int .i64 (Int.ofNat q)) && true) = true
    simp [veqF]
  refine ⟨layA (fun b => n + b) (fM q p A T pi).bs n m, newW n (fM q p A T pi).bs.length, ?_, fun b hb => ?_, fun j hj => ?_, ?_⟩
  · unfold memoA
    rw [show (fM q p A T pi).f = 36 from rfl, Nat.beq_refl, hself, hl]
    rfl
  · rw [layA_get, if_neg (by omega)]
  · apply Nat.eq_of_testBit_eq
    intro i
    rw [mod_test, newW_test, Nat.zero_testBit]
    by_cases h1 : i < j
    · have : decide (n ≤ i) = false := decide_eq_false (by omega)
      simp [this]
    · simp [h1]
  · have get : ∀ i, i < 3 + (q + q) → (layA (fun b => n + b) (fM q p A T pi).bs n m) (n + i) = ((fBs q p A T)[i]?).map (fun b => toB (rnB (fun b => n + b) b)) := fun i hi => by
      rw [layA_get, if_pos (by rw [hl]; omega), Nat.add_sub_cancel_left]; rfl
    have h0 := get 0 (by omega)
    have h1 := get 1 (by omega)
    have h2 := get 2 (by omega)
    generalize layA (fun b => n + b) (fM q p A T pi).bs n m = M at *
    replace h0 : M (n + 0) = some (toB (rnB (fun b => n + b) ⟨[.i (Int.ofNat q), .i (Int.ofNat p), .s 1 0 q UNK, .s 2 0 q UNK], 0, false, true⟩)) := h0
    replace h1 : M (n + 1) = some (toB (rnB (fun b => n + b) ⟨(List.range q).map (fun i => FV.s (i + 3) 0 q UNK), 1, true, true⟩)) := h1
    replace h2 : M (n + 2) = some (toB (rnB (fun b => n + b) ⟨(List.range q).map (fun i => FV.s (i + (3 + q)) 0 q UNK), 1, true, true⟩)) := h2
    rw [rnB_cells] at h0 h1 h2
    rw [List.map_map, List.map_map] at h1 h2
    have row : ∀ i (r : List Int), (A ++ T)[i]? = some r → M (n + (i + 3)) = some (.cells (r.map (Value.int .i64)) 1 true true) := fun i r hr => by
      have hi : i < q + q := by
        have := (List.getElem?_eq_some_iff.1 hr).1
        rw [List.length_append, hA.1, hT.1] at this; exact this
      rw [get (i + 3) (by omega)]
      show (((A ++ T).map (fun row => (⟨row.map FV.i, 1, true, true⟩ : FBlk)))[i]?).map _ = _
      rw [List.getElem?_map, hr]
      show some (toB (rnB (fun b => n + b) ⟨r.map FV.i, 1, true, true⟩)) = _
      rw [rnB_cells, List.map_map, List.map_map]; rfl
    refine ⟨n, p, .slice (some ⟨n + 1, 0, none⟩) q UNK, .slice (some ⟨n + 2, 0, none⟩) q UNK, rfl, by omega, h0, ?_, ?_, hA, hT⟩
    · refine ⟨(List.range q).map (fun i => Value.slice (some ⟨n + (i + 3), 0, none⟩) q UNK), .inr (.inl ⟨n + 1, 0, UNK, _, true, true, by simp, by omega, h1, fun i x hx => by rw [Nat.zero_add]; exact hx⟩), by simp [hA.1], fun i x g hx hg => ?_⟩
      have hi : i < A.length := (List.getElem?_eq_some_iff.1 hg).1
      have hiq : i < q := by rw [← hA.1]; exact hi
      rw [List.getElem?_map, List.getElem?_range hiq] at hx
      injection hx with hx; subst hx
      have hgl : g.length = q := hA.2 g (List.mem_of_getElem? hg)
      exact .inr (.inl ⟨n + (i + 3), 0, UNK, _, true, true, by rw [List.length_map, hgl], by omega, row i g (by rw [List.getElem?_append_left hi]; exact hg), fun j x hx => by rw [Nat.zero_add]; exact hx⟩)
    · refine ⟨(List.range q).map (fun i => Value.slice (some ⟨n + (i + (3 + q)), 0, none⟩) q UNK), .inr (.inl ⟨n + 2, 0, UNK, _, true, true, by simp, by omega, h2, fun i x hx => by rw [Nat.zero_add]; exact hx⟩), by simp [hT.1], fun i x g hx hg => ?_⟩
      have hi : i < T.length := (List.getElem?_eq_some_iff.1 hg).1
      have hiq : i < q := by rw [← hT.1]; exact hi
      rw [List.getElem?_map, List.getElem?_range hiq] at hx
      injection hx with hx; subst hx
      have hgl : g.length = q := hT.2 g (List.mem_of_getElem? hg)
      exact .inr (.inl ⟨n + (i + (3 + q)), 0, UNK, _, true, true, by rw [List.length_map, hgl], by omega, by rw [show i + (3 + q) = (i + q) + 3 by omega]; exact row (i + q) g (by rw [List.getElem?_append_right (by rw [hA.1]; omega), hA.1, Nat.add_sub_cancel]; exact hg), fun j x hx => by rw [Nat.zero_add]; exact hx⟩)
noncomputable def okT (q : Nat) (A T : Tab) : Bool :=
  (List.range q).all fun a => (List.range q).all fun b => decide (0 ≤ tget A a b) && (decide (tget A a b < q) && (decide (0 ≤ tget T a b) && decide (tget T a b < q)))
noncomputable def okT2 (q : Nat) (A T : Tab) : Bool :=
  (List.range q).all fun a => decide (0 ≤ findI 0 (A.getD a []) 0) && (decide (findI 0 (A.getD a []) 0 < q) && (decide (a = 0) || (decide (0 ≤ findI 1 (T.getD a []) 0) && decide (findI 1 (T.getD a []) 0 < q))))
theorem good_of {q : Nat} {A T : Tab} (hq : q < 1000) (h : okT q A T = true) (h2 : okT2 q A T = true) : GoodT q A T := by
  simp only [okT, okT2, List.all_eq_true, List.mem_range, Bool.and_eq_true, Bool.or_eq_true, decide_eq_true_eq] at h h2
  refine ⟨hq, fun a b ha hb => ?_, fun a b ha hb => ?_, fun a h0 ha => ?_, fun a ha => ?_⟩
  · obtain ⟨h3, h4, _⟩ := h a ha b hb
    exact ⟨(tget A a b).toNat, by omega, by omega⟩
  · obtain ⟨_, _, h3, h4⟩ := h a ha b hb
    exact ⟨(tget T a b).toNat, by omega, by omega⟩
  · obtain ⟨_, _, h3⟩ := h2 a ha
    rcases h3 with h3 | h3
    · omega
    · exact ⟨(findI 1 (T.getD a []) 0).toNat, by omega, by omega⟩
  · obtain ⟨h3, h4, _⟩ := h2 a ha
    exact ⟨(findI 0 (A.getD a []) 0).toNat, by omega, by omega⟩
theorem sq2 : square A2 2 ∧ square T2 2 := ⟨⟨rfl, by decide⟩, ⟨rfl, by decide⟩⟩
theorem goodT2 : GoodT 2 A2 T2 := good_of (by omega) (by kernel_rfl) (by kernel_rfl)
theorem sq3 : square A3 3 ∧ square T3 3 := ⟨⟨rfl, by decide⟩, ⟨rfl, by decide⟩⟩
theorem goodT3 : GoodT 3 A3 T3 := good_of (by omega) (by kernel_rfl) (by kernel_rfl)
theorem sq4 : square A4 4 ∧ square T4 4 := ⟨⟨rfl, by decide⟩, ⟨rfl, by decide⟩⟩
theorem goodT4 : GoodT 4 A4 T4 := good_of (by omega) (by kernel_rfl) (by kernel_rfl)
theorem sq5 : square A5 5 ∧ square T5 5 := ⟨⟨rfl, by decide⟩, ⟨rfl, by decide⟩⟩
theorem goodT5 : GoodT 5 A5 T5 := good_of (by omega) (by kernel_rfl) (by kernel_rfl)
theorem sq7 : square A7 7 ∧ square T7 7 := ⟨⟨rfl, by decide⟩, ⟨rfl, by decide⟩⟩
theorem goodT7 : GoodT 7 A7 T7 := good_of (by omega) (by kernel_rfl) (by kernel_rfl)
theorem sq8 : square A8 8 ∧ square T8 8 := ⟨⟨rfl, by decide⟩, ⟨rfl, by decide⟩⟩
theorem goodT8 : GoodT 8 A8 T8 := good_of (by omega) (by kernel_rfl) (by kernel_rfl)
theorem sq9 : square A9 9 ∧ square T9 9 := ⟨⟨rfl, by decide⟩, ⟨rfl, by decide⟩⟩
theorem goodT9 : GoodT 9 A9 T9 := good_of (by omega) (by kernel_rfl) (by kernel_rfl)
end Go.Am.C07
namespace Go.Am.C07
open Go Go.Am Go.Am.V Go.RowKit
set_option maxRecDepth 1000000
abbrev m2 : Memo := fM 2 2 A2 T2 [10, 32, 34, 16, 28, 18, 30]
abbrev m3 : Memo := fM 3 3 A3 T3 [10, 56, 58, 20, 36, 52, 22, 38, 54]
abbrev m4 : Memo := fM 4 2 A4 T4 [10, 88, 90, 24, 44, 64, 84, 26, 46, 66, 86]
abbrev m5 : Memo := fM 5 5 A5 T5 [10, 128, 130, 28, 52, 76, 100, 124, 30, 54, 78, 102, 126]
abbrev m7 : Memo := fM 7 7 A7 T7 [10, 232, 234, 36, 68, 100, 132, 164, 196, 228, 38, 70, 102, 134, 166, 198, 230]
abbrev m8 : Memo := fM 8 2 A8 T8 [10, 296, 298, 40, 76, 112, 148, 184, 220, 256, 292, 42, 78, 114, 150, 186, 222, 258, 294]
abbrev m9 : Memo := fM 9 3 A9 T9 [10, 368, 370, 44, 84, 124, 164, 204, 244, 284, 324, 364, 46, 86, 126, 166, 206, 246, 286, 326, 366]
def notIn : Int → Bool
  | .negSucc _ => true
  | .ofNat n => Nat.rec true (fun n _ => Nat.rec true (fun n _ => Nat.rec false (fun n _ => Nat.rec false (fun n _ => Nat.rec false (fun n _ => Nat.rec false (fun n _ => Nat.rec true (fun n _ => Nat.rec false (fun n _ => Nat.rec false (fun n _ => Nat.rec false (fun _ _ => true) n) n) n) n) n) n) n) n) n) n
def errV : Value := .tuple #[.pointer none, .int .i64 (Int.ofNat 1)]
def isErr : Value → Bool
  | .tuple vs => veqL vs.toList [.pointer none, .int .i64 (Int.ofNat 1)]
  | _ => false
noncomputable def gaveErr (x : OR FM) : Bool := OR.rec (motive := fun _ => Bool) false (fun v _ _ _ _ => isErr v) x
theorem isErr_eq {v : Value} (h : isErr v = true) : v = errV := by
  unfold isErr at h
  split at h
  · rename_i vs
    have := veqL_eq h
    obtain ⟨l⟩ := vs
    replace this : l = _ := this
    rw [this]; rfl
  · cases h
noncomputable abbrev runN (q : Int) : OR FM := callA (look tab) Y5 (exec Proofs.Try.prog (look tab) Y5 300) 36 [.int .i64 q] FM0 0
theorem err_neg (x : Nat) : gaveErr (runN (Int.negSucc x)) = true := by kernel_rfl
theorem err_0 : gaveErr (runN (Int.ofNat 0)) = true := by kernel_rfl
theorem err_1 : gaveErr (runN (Int.ofNat 1)) = true := by kernel_rfl
theorem err_6 : gaveErr (runN (Int.ofNat 6)) = true := by kernel_rfl
theorem err_big (x : Nat) : gaveErr (runN (Int.ofNat (x + 10))) = true := by kernel_rfl
theorem err_run (q : Int) (h : notIn q = true) : gaveErr (runN q) = true := by
  cases q with
  | negSucc x => exact err_neg x
  | ofNat n =>
    match n, h with
    | 0, _ => exact err_0
    | 1, _ => exact err_1
    | 6, _ => exact err_6
    | n + 10, _ => exact err_big n
def mE (q : Int) : Memo := { f := 36, args := [.int .i64 q], rs := [.o (.pointer none), .i (Int.ofNat 1)], bs := [], pi := [] }
theorem simE (q : Int) (h : notIn q = true) : CallSim Proofs.Try.prog (memoA (mE q)) := by
  have hr := err_run q h
  cases hx : runN q with
  | no => rw [hx] at hr; cases hr
  | ok v m n r w =>
    rw [hx] at hr
    have hv := isErr_eq (v := v) hr
    subst hv
    exact memo_sim (M := mE q) rfl (env6.calls 300) hx ⟨rfl, rfl, rfl, List.nodup_nil, fun i b hb => by simp [mE] at hb⟩
theorem veqF_int (k : IntKind) (q : Int) : veqF (.int k q) (.int k q) = true := by simp [veqF]
def errA (f : Nat) (args : List Value) (m : FM) (n : Nat) : OR FM :=
  match args with
  | [.int .i64 q] => cond (Nat.beq f 36 && notIn q) (.ok errV m n 0 0) .no
  | _ => .no
theorem errA_memo {f : Nat} {args : List Value} {m m' : FM} {n n' r w : Nat} {v : Value} (h : errA f args m n = .ok v m' n' r w) : ∃ q, notIn q = true ∧ memoA (mE q) f args m n = .ok v m' n' r w := by
  unfold errA at h
  split at h
  · rename_i q
    cases hc : (Nat.beq f 36 && notIn q)
    · rw [hc] at h; cases h
    · rw [hc] at h
      rw [Bool.and_eq_true] at hc
      refine ⟨q, hc.2, ?_⟩
      rw [← h]
      have hv : veqL [Value.int .i64 q] [Value.int .i64 q] = true := by simp [veqL, veqF_int]
      have hw : newW n 0 = 0 := by show (2 ^ 0 - 1) <<< n = 0; simp
      show cond (Nat.beq f 36 && veqL [Value.int .i64 q] [Value.int .i64 q]) (OR.ok errV m (n + 0) 0 (newW n 0)) OR.no = OR.ok errV m n 0 0
      rw [hc.1, hv, hw]; rfl
  · cases h
theorem errA_loc : CallLoc errA := fun f args m n v m' n' r wm h => by
  obtain ⟨q, _, h⟩ := errA_memo h
  exact memo_loc (mE q) f args m n v m' n' r wm h
theorem errA_sim : CallSim Proofs.Try.prog errA := fun f args m n v m' n' r wm h => by
  obtain ⟨q, hq, h⟩ := errA_memo h
  exact simE q hq f args m n v m' n' r wm h
theorem errA_apart {t : List (Nat × AFn)} (h : look t 36 = none) : V.Apart t errA := by
  intro f fn hf args m n
  unfold errA
  split
  · cases hb : Nat.beq f 36
    · rfl
    · obtain rfl := Nat.eq_of_beq_eq_true hb
      rw [h] at hf; cases hf
  · rfl
def noF : FCal := fun _ _ _ _ => .no
theorem apart5 {t : List (Nat × AFn)} (h : look t 58 = none) : V.Apart t Y5 := by
  intro f fn hf args m n
  show cond (Nat.beq f 58) (elemY m n args) .no = .no
  cases hb : Nat.beq f 58
  · rfl
  · obtain rfl := Nat.eq_of_beq_eq_true hb
    rw [h] at hf; cases hf
end Go.Am.C07
namespace Go
open Go.RowKit
variable {F : Fence} {n : Nat} {P : Program} {w : World}

structure TurnsC (B : Nat) (C : Nat → Prop) (W W' : World) : Prop where
  size : W.heap.size ≤ W'.heap.size
  same : ∀ (k : Nat) (o : Obj), W.heap[k]? = some o → ¬ C k → (o.isCells = true ∨ B ≤ k) → W'.heap[k]? = some o
theorem TurnsC.refl (B : Nat) (C : Nat → Prop) (W : World) : TurnsC B C W W := ⟨Nat.le_refl _, fun _ _ h _ _ => h⟩
theorem TurnsC.trans {B : Nat} {C C' : Nat → Prop} {X Y Z : World} (h : TurnsC B C X Y) (k : TurnsC B C' Y Z) (hC : ∀ b, C' b → C b ∨ X.heap.size ≤ b) : TurnsC B C X Z :=
  ⟨Nat.le_trans h.size k.size, fun i o hi hc ho => k.same i o (h.same i o hi hc ho) (fun e => (hC i e).elim hc fun h2 => by have := (Array.getElem?_eq_some_iff.1 hi).1; omega) ho⟩
def SeqSeen {α β : Type} (F : Fence) (n : Nat) (P : Program) (g : Nat) (lb : Array Value) (enc : α → Value) (Seen : Nat → α → World → Prop) (val : α → β) (out : List β) (D : Nat → Prop) (w : World) : Prop :=
  ∀ (l : Nat) (J : List α → (Nat → Prop) → World → Prop) (C : Nat → Prop) (W : World), Below w.heap.size w W → (∀ C, OwnFrom W.heap.size (fun pre X => J pre C X)) → (∀ k, C k → k < W.heap.size ∧ ¬ D k) →
    (∀ pre C x W1, J pre C W1 → (∀ k, C k → k < W1.heap.size) → W.heap.size ≤ W1.heap.size → Seen W.heap.size x W1 → pre.length < out.length → YieldAt F (n - 1) P l #[enc x] W1 fun e W' =>
      e = .returned (.bool true) ∧ ∃ C', J (pre ++ [x]) C' W' ∧ (∀ k, C' k → k < W'.heap.size ∧ (C k ∨ W1.heap.size ≤ k)) ∧ TurnsC W.heap.size C W1 W') →
    J [] C W →
    CallsIn F n P g (#[.func (.yield l) #[] #[]] ++ lb) W fun e W' => (∃ v, e = .returned v) ∧ ∃ xs C', xs.map val = out ∧ J xs C' W'
def seenPost {α : Type} (B : Nat) (I : List α → (Nat → Prop) → World → Prop) (xs : List α) (C : Nat → Prop) (W : World) : Exit → Act → World → Prop
  | .normal, _, W' => ∃ C', I xs C' W' ∧ (∀ k, C' k → k < W'.heap.size ∧ (C k ∨ W.heap.size ≤ k)) ∧ TurnsC B C W W'
  | _, _, _ => False

set_option maxHeartbeats 1000000 in
theorem wpIn_range_seen {α β : Type} {g : Operand} {p : Tmp} {assign body : Code} {Q : Exit → Act → World → Prop} {a : Act}
    (hro : F.round = none) (h1 : F.depth.isSome = true → 1 ≤ n) {gf : Nat} {lb : Array Value} (hg : a.eval g = .func (.func gf) #[] lb) (hFg : F.fn gf) (eg : ∀ args w, (callFunc gf args).run P w = .ok (.enter gf args) w)
    {enc : α → Value} {Seen : Nat → α → World → Prop} {val : α → β} {out : List β} {D : Nat → Prop} {w0 : World} (hseq : SeqSeen F (n - 1) P gf lb enc Seen val out D w0) (hb0 : Below w0.heap.size w0 w)
    (hSeen : ∀ B x W l o o', Seen B x W → l < B → W.heap[l]? = some o → o.isCells = false → Seen B x (W.putObj l o'))
    (I : List α → (Nat → Prop) → World → Prop) (hI : ∀ C, OwnFrom w.heap.size (fun pre X => I pre C X)) (C0 : Nat → Prop) (hC0 : ∀ k, C0 k → k < w.heap.size ∧ ¬ D k) (h0 : I [] C0 w) (a₁ : α → Act)
    (hassign : ∀ (l : Nat) (x : α) (W : World) (K : Act → World → Prop), K (a₁ x) W →
      assign.wpIn (F.inRound l) (n - 1 - 1) P (Exit.then K (fun _ _ _ => False)) { tmps := (#[p].zip #[enc x]).foldl (fun t (p, v) => t.setIfInBounds p v) a.tmps, defers := [] } W)
    (hbody : ∀ (l : Nat) (pre : List α) (C : Nat → Prop) (x : α) (W : World), I pre C W → (∀ k, C k → k < W.heap.size) → w.heap.size + 2 ≤ W.heap.size → Seen (w.heap.size + 2) x W → pre.length < out.length → body.wpIn (F.inRound l) (n - 1 - 1) P (seenPost w.heap.size I (pre ++ [x]) C W) (a₁ x) W)
    (hdone : ∀ (D : Nat) (xs : List α) (C : Nat → Prop) (W : World), w.heap.size ≤ D → ¬ C D → xs.map val = out → I xs C W → W.heap[D]? = some (.deferred (some [])) → Q .normal { a with defers := { target := .collected D, args := #[] } :: a.defers } W) :
    (Code.rangeFunc g #[p] assign body).wpIn F n P Q a w := by
  refine wpIn_rangeFunc ?_
  intro fn hfn
  rw [hro]
  obtain ⟨rec, hrec⟩ : ∃ rec : LoopState → Option Code → Loop, rec = fun st pe => { state := st, pending := pe, fn, tmps := a.tmps, params := #[p], assign, body, defers := w.heap.size } := ⟨_, rfl⟩
  obtain ⟨W1, hW1⟩ : ∃ W1, (w.alloc (.deferred (some []))).alloc (.loop (rec .ready none)) = W1 := ⟨_, rfl⟩
  have sz1 : W1.heap.size = w.heap.size + 2 := by rw [← hW1]; simp
  have hL1 : W1.heap[w.heap.size + 1]? = some (.loop (rec .ready none)) := by
    rw [← hW1]; have := World.alloc_heap_new (w.alloc (.deferred (some []))) (.loop (rec .ready none)); rwa [World.size_alloc] at this
  have hK1 : W1.heap[w.heap.size]? = some (.deferred (some [])) := by
    rw [← hW1]; exact (Below.heap_alloc _ _ _ (by simp)).trans (World.alloc_heap_new w _)
  have hI1 : I [] C0 W1 := by rw [← hW1]; exact (hI C0).alloc _ ((hI C0).alloc _ h0)
  have hb1 : Below w0.heap.size w0 W1 := by
    rw [← hW1]; exact hb0.trans ((((Below.refl _ w).alloc (Nat.le_refl _) _).alloc (by simp) _).mono hb0.size)
  refine ⟨w.heap.size + 1, [{ target := .collected w.heap.size, args := #[] }], W1, { target := .fn (.func gf) lb, args := #[.func (.yield (w.heap.size + 1)) #[] #[]] }, W1, gf,
    #[.func (.yield (w.heap.size + 1)) #[] #[]] ++ lb, W1, ?_, ?_, ?_, ?_, h1, ?_⟩
  · rw [← hW1, hrec]; exact run_enterLoop_outer _ _ _ _ _
  · simp only [resolve, hg]
    simp [go_sem]
  · intro f' hf'; simp [Target.leads] at hf'; subst hf'; exact hFg
  · simp [invoke, go_sem, eg]
  · have hcell : ∀ {l : Nat} {o : Obj} {A B : World} {row : Option Nat}, l < W1.heap.size → A.heap[l]? = some o → A.grownBy B row → (∀ r, row = some r → W1.heap.size ≤ r ∧ ∃ o : Obj, A.heap[r]? = some o ∧ o.isCells = false) → B.heap[l]? = some o := fun hlt ho hg' hr =>
      (hg'.block _ (Array.getElem?_eq_some_iff.1 ho).1 (fun e => by have := (hr _ e.symm).1; omega)).trans ho
    refine (hseq (w.heap.size + 1)
      (fun pre C W => I pre C W ∧ ¬ C w.heap.size ∧ ¬ C (w.heap.size + 1) ∧ W.heap[w.heap.size + 1]? = some (.loop (rec .ready none)) ∧ W.heap[w.heap.size]? = some (.deferred (some [])))
      C0 W1 hb1
      (fun C s A B row hs hg' hr => ⟨hI C s A B row hs.1 hg' (fun r e => ⟨by have := (hr r e).1; omega, (hr r e).2⟩), hs.2.1, hs.2.2.1, hcell (by omega) hs.2.2.2.1 hg' hr, hcell (by omega) hs.2.2.2.2 hg' hr⟩)
      (fun k hk => ⟨by have := (hC0 k hk).1; omega, (hC0 k hk).2⟩) ?_ ⟨hI1, fun e => by have := (hC0 _ e).1; omega, fun e => by have := (hC0 _ e).1; omega, hL1, hK1⟩).mono ?_
    · rintro pre C x W ⟨hi, nc0, nc1, hl, hk⟩ hC hsz hsn hlen
      rw [sz1] at hsz hsn
      have hy := run_yield (P := P) (args := #[enc x]) hl (by rw [hrec]; rfl)
      rw [hrec] at hy
      refine ⟨fn, _, assign, body, hy, roundIn_of_wpIn hfn (hassign _ x W _ ?_)⟩
      clear hy
      have hlt : w.heap.size + 1 < W.heap.size := (Array.getElem?_eq_some_iff.1 hl).1
      refine ⟨_, run_beginRound hl (by rw [hrec]), ?_⟩
      obtain ⟨W2, hW2⟩ : ∃ W2, W.putObj (w.heap.size + 1) (.loop { rec .ready none with state := .busy }) = W2 := ⟨_, rfl⟩
      have sz2 : W2.heap.size = W.heap.size := by rw [← hW2]; simp
      have hl2 : W2.heap[w.heap.size + 1]? = some (.loop { rec .ready none with state := .busy }) := by rw [← hW2]; exact World.putObj_heap_same hlt
      have ho2 : ∀ k, k ≠ w.heap.size + 1 → W2.heap[k]? = W.heap[k]? := fun k hk => by rw [← hW2]; exact World.putObj_heap_other hk
      have hk2 : W2.heap[w.heap.size]? = some (.deferred (some [])) := (ho2 _ (by omega)).trans hk
      have hi2 : I pre C W2 := by rw [← hW2]; exact (hI C).putObj _ hi (by omega) hl rfl
      have hs2 : Seen (w.heap.size + 2) x W2 := by rw [← hW2]; exact hSeen _ _ _ _ _ _ hsn (by omega) hl rfl
      rw [hW2]
      refine wpIn_mono (hbody _ pre C x W2 hi2 (fun k hk => by have := hC k hk; omega) (by omega) hs2 hlen) ?_
      rintro e a3 W3 hp
      cases e with
      | normal =>
        obtain ⟨C', hi3, hC3, ht⟩ := hp
        have hl3 := ht.same _ _ hl2 nc1 (.inr (by omega))
        have hk3 := ht.same _ _ hk2 nc0 (.inr (Nat.le_refl _))
        have hlt3 : w.heap.size + 1 < W3.heap.size := (Array.getElem?_eq_some_iff.1 hl3).1
        have hr : (Instr.endRound (w.heap.size + 1) none).run P W3 = .ok (.bool true) (W3.putObj (w.heap.size + 1) (.loop (rec .ready none))) := by
          have := run_endRound (P := P) none hl3
          rw [hrec] at this ⊢
          exact this
        have sz3 : (W3.putObj (w.heap.size + 1) (.loop (rec .ready none))).heap.size = W3.heap.size := by simp
        have hz := ht.size
        refine ⟨_, _, hr, rfl, C', ⟨(hI C').putObj _ hi3 (by omega) hl3 rfl, fun h => ?_, fun h => ?_, World.putObj_heap_same hlt3, (World.putObj_heap_other (by omega)).trans hk3⟩, fun k hk => ?_, by omega, fun k o hk hnc ho => ?_⟩
        · rcases (hC3 _ h).2 with h | h
          · exact nc0 h
          · omega
        · rcases (hC3 _ h).2 with h | h
          · exact nc1 h
          · omega
        · have := hC3 k hk
          exact ⟨by omega, by rw [← sz2]; exact this.2⟩
        · have hne : k ≠ w.heap.size + 1 := fun e => by
            subst e
            rw [hl] at hk
            injection hk with hk; subst hk
            rcases ho with ho | ho
            · cases ho
            · omega
          rw [World.putObj_heap_other hne]
          exact ht.same k o ((ho2 k hne).trans hk) hnc (ho.imp id fun h => by omega)
      | _ => exact hp.elim
    · rintro e W2 ⟨⟨v, rfl⟩, xs, C', hS, hi, nc0, nc1, hl, hk⟩
      exact ⟨none, _, by have := run_endLoop (P := P) hl (by rw [hrec]; simp); rw [hrec] at this; exact this, hdone _ xs C' _ (Nat.le_refl _) nc0 hS ((hI C').putObj _ hi (by omega) hl rfl) ((World.putObj_heap_other (by omega)).trans hk)⟩
end Go
namespace Go.Proofs
open Go.RowKit Go.Shelf
attribute [local go_sem] Oper.semAt_some

def St.combos (disks : Int) : Nat → Int → List Int → List (List Int)
  | 0, _, p => [p]
  | k + 1, lo, p => ((List.range (disks - (k + 1 : Nat) - lo + 1).toNat).map fun (i : Nat) => St.combos disks k (lo + (i : Int) + 1) (p ++ [lo + (i : Int)])).flatten

set_option maxHeartbeats 1000000 in
theorem St.sets_in (F : Fence) (n : Nat) (h24 : F.fn 24) (hro : F.round = none) (pv : Value) (d k : Int) (h1 : pv.oneCell' = true) (w : World) :
    CallsIn F n Try.prog 24 #[pv, .int .i64 d, .int .i64 k] w fun e w' => e = .returned (.func (.func 32) #[] #[.pointer (some ⟨w.heap.size, 0, none⟩), .pointer (some ⟨w.heap.size + 2, 0, none⟩), .pointer (some ⟨w.heap.size + 1, 0, none⟩)]) ∧
      w' = ((w.alloc (.cells #[pv] 40)).alloc (.cells #[.int .i64 d] 3)).alloc (.cells #[.int .i64 k] 3) := by
  refine callsIn_of_wp Try.func24 rfl h24 ?_ hro
  simp only [Try.ntmps24, List.size_toArray, List.length_cons, List.length_nil, Nat.reduceAdd, Nat.reduceSub, Array.replicate_succ, Array.replicate_zero, List.push_toArray, List.append_toArray, List.nil_append, List.cons_append]
  gi_wp2
  go_ret
  simp
end Go.Proofs
namespace Go.Proofs
open Go.RowKit Go.Shelf
attribute [local go_sem] Oper.semAt_some
theorem St.room {F : Fence} (hd : F.depth = none) (k : Nat) : F.room k := fun d h => by rw [hd] at h; cases h
theorem St.round_any {F : Fence} (hd : F.depth = none) {m m' : Nat} {P : Program} {l : Nat} {f : FuncId} {tmps : Array Value} {assign body : Code} {w : World} {R : Ending → World → Prop}
    (h : RoundIn F m P l f tmps assign body w R) : RoundIn F m' P l f tmps assign body w R := ⟨h.1, fun c cs _ => h.2 c cs (St.room hd _)⟩
theorem St.grown_of_below {W W' : World} (h : Below W.heap.size W W') : W.grownBy W' none := ⟨h.os, h.tape, h.output, h.size, fun k hk _ => h.block k hk⟩
def St.Row (base : Nat) (v : Value) (p : List Int) (W : World) : Prop := W.ownsRow base 3 1 v p.length (p.map (Value.int .i64)) ∧ (v = .slice none 0 0 ↔ p = [])

theorem St.Row.mono {base base' : Nat} {v : Value} {p : List Int} {W : World} (h : St.Row base v p W) (hb : base' ≤ base) : St.Row base' v p W := by
  obtain ⟨⟨h1, h2⟩, h3⟩ := h
  refine ⟨⟨h1, ?_⟩, h3⟩
  rcases h2 with h2 | ⟨g, cap, cur, e1, e2, e3⟩
  · exact .inl h2
  · exact .inr ⟨g, cap, cur, e1, Nat.le_trans hb e2, e3⟩
set_option maxRecDepth 100000 in
set_option maxHeartbeats 2000000 in
theorem St.leaf_in (F : Fence) (hd : F.depth = none) (n : Nat) (h32 : F.fn 32) (h33 : F.fn 33) (hro : F.round = none) (l Bp Bw Bd : Nat) (a : Option Addr) (c : Nat) (p : List Int) (W : World) (Rj : World → Prop)
    (hCl : ∀ m W1, Below W.heap.size W W1 → CallsIn F m Try.prog 33 #[.slice a p.length c] W1 fun e W2 => ∃ v', e = .returned v' ∧ St.Row W1.heap.size v' p W2 ∧ Below W1.heap.size W1 W2)
    (hY : ∀ v' W2, Below W.heap.size W W2 → St.Row W.heap.size v' p W2 → YieldAt F (n - 1) Try.prog l #[v'] W2 fun e W' => e = .returned (.bool true) ∧ Rj W')
    (cp : W.cell? ⟨Bp, 0, none⟩ = some (.slice a p.length c)) (cw : W.cell? ⟨Bw, 0, none⟩ = some (.int .i64 (p.length : Int))) :
    CallsIn F n Try.prog 32 #[.func (.yield l) #[] #[], .pointer (some ⟨Bp, 0, none⟩), .pointer (some ⟨Bw, 0, none⟩), .pointer (some ⟨Bd, 0, none⟩)] W fun e W' => (∃ v, e = .returned v) ∧ Rj W' := by
  have hdd : ∀ k : Nat, (F.depth.isSome = true → 1 ≤ k) := fun k h => by rw [hd] at h; cases h
  obtain ⟨W1, hW1⟩ : ∃ W1, W.alloc (.cells #[.func (.yield l) #[] #[]] 60) = W1 := ⟨_, rfl⟩
  have b1 : Below W.heap.size W W1 := by rw [← hW1]; exact (Below.refl _ W).alloc (Nat.le_refl _) _
  have b1d : Below W.heap.size W W1.drew := b1.drew
  have lt1 : ∀ {b : Nat} {v : Value}, W.cell? ⟨b, 0, none⟩ = some v → b < W.heap.size := fun {b v} h => by
    obtain ⟨o, ho, _⟩ := cells_of_cell h
    exact (Array.getElem?_eq_some_iff.1 ho).1
  have cp1 : W1.cell? ⟨Bp, 0, none⟩ = some (.slice a p.length c) := (b1.cell (p := ⟨Bp, 0, none⟩) (lt1 cp)).trans cp
  have cw1 : W1.cell? ⟨Bw, 0, none⟩ = some (.int .i64 (p.length : Int)) := (b1.cell (p := ⟨Bw, 0, none⟩) (lt1 cw)).trans cw
  have hy1 : W1.heap[W.heap.size]? = some (.cells #[.func (.yield l) #[] #[]] 60) := by rw [← hW1]; exact World.alloc_heap_new W _
  have cy1 : W1.cell? ⟨W.heap.size, 0, none⟩ = some (.func (.yield l) #[] #[]) := by simp [World.cell?, hy1]
  have hc1 := (hCl (n - 1) W1.drew b1d).mono (R' := fun e W2 => ∃ v', e = .returned v' ∧ W2.cell? ⟨W.heap.size, 0, none⟩ = some (.func (.yield l) #[] #[]) ∧ YieldAt F (n - 1) Try.prog l #[v'] W2 fun e W' => e = .returned (.bool true) ∧ Rj W') (fun e W2 ⟨v', he, hr, hb⟩ => by
    have sz1 : W1.drew.heap.size = W.heap.size + 1 := by rw [← hW1]; simp [World.drew]
    refine ⟨v', he, (hb.cell (p := ⟨W.heap.size, 0, none⟩) (by rw [sz1]; exact Nat.lt_succ_self _)).trans cy1, hY v' W2 (b1d.trans (hb.mono (by omega))) ?_⟩
    exact hr.mono (by omega))
  refine callsIn_of_wp Try.func32 rfl h32 ?_ hro
  simp only [Try.ntmps32, List.size_toArray, List.length_cons, List.length_nil, Nat.reduceAdd, Nat.reduceSub, Array.replicate_succ, Array.replicate_zero, List.push_toArray, List.append_toArray, List.nil_append, List.cons_append]
  gi_wp2
  gi_region_with (first | (gi_at_call 33; refine hc1.mono ?_; clear hc1; rintro e W2 ⟨v', rfl, cy2, fn, tmps, assign, body, hy, hR⟩) | (refine hR.mono ?_; clear hR; rintro e W3 ⟨rfl, hj⟩))
  all_goals gi_wp2
  all_goals refine bodyPost_ret (results_none rfl _ _ _) rfl ?_
  all_goals exact ⟨⟨_, rfl⟩, hj⟩
end Go.Proofs
namespace Go.Proofs
open Go.RowKit Go.Shelf
attribute [local go_sem] Oper.semAt_some
def St.Sh (g : Nat) (p : List Int) (W : World) : Prop := ∀ j, j < p.length → W.cell? ⟨g, j, none⟩ = some (.int .i64 (p.getD j 0))
theorem St.info3 : (Try.prog.info? 3).map (fun i => (i.zero, i.size, i.bytes)) = some (some (.int .i64 0), 1, 8) := by kernel_rfl
end Go.Proofs
namespace Go.Proofs
open Go.RowKit Go.Shelf
attribute [local go_sem] Oper.semAt_some
theorem St.lt_of_cell {W : World} {b o : Nat} {v : Value} (h : W.cell? ⟨b, o, none⟩ = some v) : b < W.heap.size := by
  obtain ⟨o, ho, _⟩ := cells_of_cell h
  exact (Array.getElem?_eq_some_iff.1 ho).1
theorem St.Row.alloc {base : Nat} {v : Value} {p : List Int} {W : World} (h : St.Row base v p W) (o : Obj) : St.Row base v p (W.alloc o) := by
  obtain ⟨⟨h1, h2⟩, h3⟩ := h
  refine ⟨⟨h1, ?_⟩, h3⟩
  rcases h2 with h2 | ⟨g, cap, cur, e1, e2, e3, e4⟩
  · exact .inl h2
  · exact .inr ⟨g, cap, cur, e1, e2, (Below.heap_alloc W o g (Array.getElem?_eq_some_iff.1 e3).1).trans e3, e4⟩
theorem St.cell_alloc {W : World} {b k : Nat} {v : Value} (h : W.cell? ⟨b, k, none⟩ = some v) (o : Obj) : (W.alloc o).cell? ⟨b, k, none⟩ = some v := cell_kept h (World.grownBy_alloc W o none) (fun r e => by cases e)
end Go.Proofs
namespace Go.Proofs
open Go.RowKit Go.Shelf
attribute [local go_sem] Oper.semAt_some
attribute [-go_sem] Builtin.append_

noncomputable def St.sel : List Bool → Code → Code
  | false :: q, .seq x _ => St.sel q x
  | true :: q, .seq _ x => St.sel q x
  | _ :: q, .block _ x => St.sel q x
  | _ :: q, .loop x => St.sel q x
  | _, x => x
noncomputable def St.body : Code := Try.f32.body.getD .skip
def St.ShA (a : Option Addr) (p : List Int) (W : World) : Prop := ∀ j, j < p.length → ∃ g, a = some ⟨g, 0, none⟩ ∧ W.cell? ⟨g, j, none⟩ = some (.int .i64 (p.getD j 0))

set_option maxRecDepth 100000 in
set_option maxHeartbeats 0 in
theorem St.region_in (F : Fence) (hd : F.depth = none) (n : Nat) (h33 : F.fn 33) (h24 : F.fn 24) (hro : F.round = none) (Bp Bw Bd : Nat) (a : Option Addr) (pl c : Nat) (kw dk dv : Int) (p' : List Int) (wr : World)
    (rp : wr.cell? ⟨Bp, 0, none⟩ = some (.slice a pl c)) (rw' : wr.cell? ⟨Bw, 0, none⟩ = some (.int .i64 kw)) (rd : wr.cell? ⟨Bd, 0, none⟩ = some (.int .i64 dk))
    (hcA : CallsIn F (n - 1) Try.prog 33 #[.slice a pl c] wr.drew fun e W2 => ∃ v', e = .returned v' ∧ W2.cell? ⟨Bw, 0, none⟩ = some (.int .i64 kw) ∧ W2.cell? ⟨Bd, 0, none⟩ = some (.int .i64 dk) ∧
      (W2.alloc (.cells #[.int .i64 dv] 3)).cell? ⟨Bw, 0, none⟩ = some (.int .i64 kw) ∧ (W2.alloc (.cells #[.int .i64 dv] 3)).cell? ⟨Bd, 0, none⟩ = some (.int .i64 dk) ∧
      ∃ v3 W3, (Builtin.append_ #[40, 40] 40 #[v', .slice (some ⟨W2.heap.size, 0, none⟩) 1 1]).run Try.prog (W2.alloc (.cells #[.int .i64 dv] 3)) = .ok v3 W3 ∧ v3.oneCell' = true ∧
        W3.cell? ⟨Bw, 0, none⟩ = some (.int .i64 kw) ∧ W3.cell? ⟨Bd, 0, none⟩ = some (.int .i64 dk) ∧ St.Row wr.heap.size v3 p' W3 ∧ Below wr.heap.size wr W3)
    (hcB : CallsIn F (n - 1) Try.prog 33 #[.slice a pl c] (wr.drew.alloc (.cells #[.int .i64 dv] 3)) fun e W2 => ∃ v', e = .returned v' ∧ W2.cell? ⟨Bw, 0, none⟩ = some (.int .i64 kw) ∧ W2.cell? ⟨Bd, 0, none⟩ = some (.int .i64 dk) ∧
      ∃ v3 W3, (Builtin.append_ #[40, 40] 40 #[v', .slice (some ⟨wr.heap.size, 0, none⟩) 1 1]).run Try.prog W2 = .ok v3 W3 ∧ v3.oneCell' = true ∧
        W3.cell? ⟨Bw, 0, none⟩ = some (.int .i64 kw) ∧ W3.cell? ⟨Bd, 0, none⟩ = some (.int .i64 dk) ∧ St.Row wr.heap.size v3 p' W3 ∧ Below wr.heap.size wr W3)
    (t0 t4 t5 t7 t8 t9 t10 t11 t12 t13 t14 t15 t16 t17 t18 t19 t20 t21 t22 t23 t24 t25 t26 t27 t28 t29 t30 t31 t32 t33 t34 t35 t36 t37 t38 t39 t40 t41 t42 t43 t44 t45 t46 t47 t48 t49 : Value) (ds : List Deferred) :
    (St.sel [true, true, true, true, true, true, true, true, false, true, false] St.body).wpIn F n Try.prog
      (fun e a w' => e = .normal ∧ ∃ u37 u38 u39 u40 u41 u42 u43 v3 W3, St.Row wr.heap.size v3 p' W3 ∧ Below wr.heap.size wr W3 ∧ w' = ((W3.alloc (.cells #[v3] 40)).alloc (.cells #[.int .i64 dk] 3)).alloc (.cells #[.int .i64 kw] 3) ∧
        a = { tmps := #[t0, .pointer (some ⟨Bp, 0, none⟩), .pointer (some ⟨Bw, 0, none⟩), .pointer (some ⟨Bd, 0, none⟩), t4, t5, .int .i64 dv, t7, t8, t9, t10, t11, t12, t13, t14, t15, t16, t17, t18, t19, t20, t21, t22, t23, t24, t25, t26, t27, t28, t29, t30, t31, t32, t33, t34, t35, t36, u37, u38, u39, u40, u41, u42, u43,
          .func (.func 32) #[] #[.pointer (some ⟨W3.heap.size, 0, none⟩), .pointer (some ⟨W3.heap.size + 2, 0, none⟩), .pointer (some ⟨W3.heap.size + 1, 0, none⟩)], t45, t46, t47, t48, t49], defers := ds })
      { tmps := #[t0, .pointer (some ⟨Bp, 0, none⟩), .pointer (some ⟨Bw, 0, none⟩), .pointer (some ⟨Bd, 0, none⟩), t4, t5, .int .i64 dv, t7, t8, t9, t10, t11, t12, t13, t14, t15, t16, t17, t18, t19, t20, t21, t22, t23, t24, t25, t26, t27, t28, t29, t30, t31, t32, t33, t34, t35, t36, t37, t38, t39, t40, t41, t42, t43, t44, t45, t46, t47, t48, t49], defers := ds } wr := by
  have hdd : ∀ k : Nat, (F.depth.isSome = true → 1 ≤ k) := fun k h => by rw [hd] at h; cases h
  have bdr : Below wr.heap.size wr wr.drew := (Below.refl _ wr).drew
  have cdr : ∀ {b : Nat} {v : Value}, wr.cell? ⟨b, 0, none⟩ = some v → wr.drew.cell? ⟨b, 0, none⟩ = some v := fun {b v} h => (bdr.cell (p := ⟨b, 0, none⟩) (St.lt_of_cell h)).trans h
  have rpd := cdr rp
  have rwd := cdr rw'
  have rdd := cdr rd
  have caw : (wr.drew.alloc (.cells #[.int .i64 dv] 3)).cell? ⟨Bw, 0, none⟩ = some (.int .i64 kw) := St.cell_alloc (cdr rw') _
  have cad : (wr.drew.alloc (.cells #[.int .i64 dv] 3)).cell? ⟨Bd, 0, none⟩ = some (.int .i64 dk) := St.cell_alloc (cdr rd) _
  have cap : (wr.drew.alloc (.cells #[.int .i64 dv] 3)).cell? ⟨Bp, 0, none⟩ = some (.slice a pl c) := St.cell_alloc (cdr rp) _
  have caw2 : (wr.alloc (.cells #[.int .i64 dv] 3)).cell? ⟨Bw, 0, none⟩ = some (.int .i64 kw) := St.cell_alloc rw' _
  have cad2 : (wr.alloc (.cells #[.int .i64 dv] 3)).cell? ⟨Bd, 0, none⟩ = some (.int .i64 dk) := St.cell_alloc rd _
  have cap2 : (wr.alloc (.cells #[.int .i64 dv] 3)).cell? ⟨Bp, 0, none⟩ = some (.slice a pl c) := St.cell_alloc rp _
  obtain ⟨cc, hcc⟩ : ∃ cc, cc = St.sel [true, true, true, true, true, true, true, true, false, true, false] St.body := ⟨_, rfl⟩
  rw [← hcc]
  simp only [St.sel, St.body, Try.f32, Option.getD_some] at hcc
  rw [hcc]
  clear hcc cc
  dsimp only
  gi_region_with (first | (rw [hrun]) | (gi_at_call 33; refine hcA.mono ?_; rintro e W2 ⟨v', rfl, cw2, cd2, cw2', cd2', v3, W3, hrun, ho3, cw3, cd3, hrow, hbel⟩) | (gi_at_call 33; refine hcB.mono ?_; rintro e W2 ⟨v', rfl, cw2, cd2, v3, W3, hrun, ho3, cw3, cd3, hrow, hbel⟩) | (gi_at_call 24; refine (St.sets_in F (n - 1) h24 hro v3 _ _ ho3 W3).mono ?_; rintro e W4 ⟨rfl, rfl⟩))
  all_goals exact ⟨rfl, _, _, _, _, _, _, _, v3, W3, hrow, hbel, rfl, rfl⟩
end Go.Proofs
namespace Go.Proofs
open Go.RowKit Go.Shelf
attribute [local go_sem] Oper.semAt_some
theorem St.ShA.keep {a : Option Addr} {p : List Int} {W W' : World} (h : St.ShA a p W) (hk : ∀ g j v, a = some ⟨g, 0, none⟩ → W.cell? ⟨g, j, none⟩ = some v → W'.cell? ⟨g, j, none⟩ = some v) : St.ShA a p W' :=
  fun j hj => let ⟨g, e, hc⟩ := h j hj; ⟨g, e, hk g j _ e hc⟩
theorem St.ShA.below {a : Option Addr} {p : List Int} {W W' : World} (h : St.ShA a p W) (hb : Below W.heap.size W W') : St.ShA a p W' :=
  h.keep fun g j _ _ hc => (hb.cell (p := ⟨g, j, none⟩) (St.lt_of_cell hc)).trans hc
theorem St.append_run' {base : Nat} {v : Value} {p : List Int} {W : World} (h : St.Row base v p W) (b : Nat) (d : Int) (hd : W.cell? ⟨b, 0, none⟩ = some (.int .i64 d)) (hbase : base ≤ W.heap.size) (hl : p.length ≤ 60) :
    ∃ v3 W3, (Builtin.append_ #[40, 40] 40 #[v, .slice (some ⟨b, 0, none⟩) 1 1]).run Try.prog W = .ok v3 W3 ∧ v3.oneCell' = true ∧ St.Row base v3 (p ++ [d]) W3 ∧ Below base W W3 := by
  obtain ⟨i0, hi, hz0, hz1, hz2⟩ := info_parts St.info3
  obtain ⟨v3, W3, hrun, r1, r2, r3⟩ := run_append_own (P := Try.prog) W base 40 40 3 i0 (.int .i64 0) 1 8 Try.underlying40 hi hz0 hz1 hz2 rfl (by decide) v p.length (p.map (Value.int .i64)) h.1 ⟨b, 0, none⟩ 1 1 [.int .i64 d] rfl
    (fun j u hj => by
      match j, hj with
      | 0, hj => injection hj with hj; subst hj; exact hd) (fun u hu => by simp at hu; subst hu; rfl) (by simp only [maxLen]; omega) (by omega) hbase
  refine ⟨v3, W3, hrun, ?_, ⟨?_, ?_⟩, ?_⟩
  · rcases r1.2 with ⟨e, _⟩ | ⟨g, cap, cur, e, _⟩ <;> subst e <;> rfl
  · have : (p ++ [d]).length = p.length + 1 := by simp
    rw [this, List.map_append]; exact r1
  · rw [r3]; simp
  · refine ((Below.refl W.heap.size W).mono hbase).grown r2 hbase fun k e => ?_
    rcases h.1.2 with ⟨e0, _⟩ | ⟨g, cap, cur, e0, hg, _⟩
    · rw [e0] at e; cases e
    · rw [e0] at e
      injection e with e; subst e; exact hg
def St.Cl (F : Fence) : Prop := ∀ (a : Option Addr) (p : List Int) (c : Nat), (a = none ↔ p = []) → p.length ≤ 60 → ∀ m W1, St.ShA a p W1 →
  CallsIn F m Try.prog 33 #[.slice a p.length c] W1 fun e W2 => ∃ v', e = .returned v' ∧ St.Row W1.heap.size v' p W2 ∧ Below W1.heap.size W1 W2
theorem St.wordA' {F : Fence} {m : Nat} {a : Option Addr} {c : Nat} {p : List Int} (hap : a = none ↔ p = []) (hl : p.length ≤ 60) (hCl : St.Cl F)
    {wr : World} {Bw Bd : Nat} {kw dk d : Int} (rs : St.ShA a p wr) (rw' : wr.cell? ⟨Bw, 0, none⟩ = some (.int .i64 kw)) (rd : wr.cell? ⟨Bd, 0, none⟩ = some (.int .i64 dk)) :
    CallsIn F m Try.prog 33 #[.slice a p.length c] wr.drew fun e W2 => ∃ v', e = .returned v' ∧ W2.cell? ⟨Bw, 0, none⟩ = some (.int .i64 kw) ∧ W2.cell? ⟨Bd, 0, none⟩ = some (.int .i64 dk) ∧
          (W2.alloc (.cells #[.int .i64 d] 3)).cell? ⟨Bw, 0, none⟩ = some (.int .i64 kw) ∧ (W2.alloc (.cells #[.int .i64 d] 3)).cell? ⟨Bd, 0, none⟩ = some (.int .i64 dk) ∧
          ∃ v3 W3, (Builtin.append_ #[40, 40] 40 #[v', .slice (some ⟨W2.heap.size, 0, none⟩) 1 1]).run Try.prog (W2.alloc (.cells #[.int .i64 d] 3)) = .ok v3 W3 ∧ v3.oneCell' = true ∧
            W3.cell? ⟨Bw, 0, none⟩ = some (.int .i64 kw) ∧ W3.cell? ⟨Bd, 0, none⟩ = some (.int .i64 dk) ∧ St.Row wr.heap.size v3 (p ++ [d]) W3 ∧ Below wr.heap.size wr W3 := by
  have bd : Below wr.heap.size wr wr.drew := (Below.refl _ wr).drew
  have sz : wr.drew.heap.size = wr.heap.size := rfl
  refine (hCl a p c hap hl m wr.drew (rs.below bd)).mono fun e W2 ⟨v', he, hr, hb⟩ => ?_
  have lw := St.lt_of_cell rw'
  have ld := St.lt_of_cell rd
  have cw2 : W2.cell? ⟨Bw, 0, none⟩ = some (.int .i64 kw) := (hb.cell (p := ⟨Bw, 0, none⟩) lw).trans ((bd.cell (p := ⟨Bw, 0, none⟩) lw).trans rw')
  have cd2 : W2.cell? ⟨Bd, 0, none⟩ = some (.int .i64 dk) := (hb.cell (p := ⟨Bd, 0, none⟩) ld).trans ((bd.cell (p := ⟨Bd, 0, none⟩) ld).trans rd)
  have hsz := hb.size
  rw [sz] at hsz
  have ha : Below wr.heap.size W2 (W2.alloc (.cells #[.int .i64 d] 3)) := ((Below.refl _ W2).alloc (Nat.le_refl _) _).mono hsz
  have hn : (W2.alloc (.cells #[.int .i64 d] 3)).cell? ⟨W2.heap.size, 0, none⟩ = some (.int .i64 d) := by
    have := World.alloc_heap_new W2 (.cells #[.int .i64 d] 3)
    simp only [World.cell?, this]
    rfl
  obtain ⟨v3, W3, hrun, ho3, hrow, hb3⟩ := St.append_run' (hr.alloc _) W2.heap.size d hn (by rw [sz]; exact Nat.le_trans hsz ha.size) hl
  exact ⟨v', he, cw2, cd2, St.cell_alloc cw2 _, St.cell_alloc cd2 _, v3, W3, hrun, ho3, (hb3.cell (p := ⟨Bw, 0, none⟩) lw).trans (St.cell_alloc cw2 _), (hb3.cell (p := ⟨Bd, 0, none⟩) ld).trans (St.cell_alloc cd2 _), hrow, bd.trans (hb.trans (ha.trans hb3))⟩
theorem St.wordB' {F : Fence} {m : Nat} {a : Option Addr} {c : Nat} {p : List Int} (hap : a = none ↔ p = []) (hl : p.length ≤ 60) (hCl : St.Cl F)
    {wr : World} {Bw Bd : Nat} {kw dk d : Int} (rs : St.ShA a p wr) (rw' : wr.cell? ⟨Bw, 0, none⟩ = some (.int .i64 kw)) (rd : wr.cell? ⟨Bd, 0, none⟩ = some (.int .i64 dk)) :
    CallsIn F m Try.prog 33 #[.slice a p.length c] (wr.drew.alloc (.cells #[.int .i64 d] 3)) fun e W2 => ∃ v', e = .returned v' ∧ W2.cell? ⟨Bw, 0, none⟩ = some (.int .i64 kw) ∧ W2.cell? ⟨Bd, 0, none⟩ = some (.int .i64 dk) ∧
          ∃ v3 W3, (Builtin.append_ #[40, 40] 40 #[v', .slice (some ⟨wr.heap.size, 0, none⟩) 1 1]).run Try.prog W2 = .ok v3 W3 ∧ v3.oneCell' = true ∧
            W3.cell? ⟨Bw, 0, none⟩ = some (.int .i64 kw) ∧ W3.cell? ⟨Bd, 0, none⟩ = some (.int .i64 dk) ∧ St.Row wr.heap.size v3 (p ++ [d]) W3 ∧ Below wr.heap.size wr W3 := by
  have bd : Below wr.heap.size wr wr.drew := (Below.refl _ wr).drew
  have sz : wr.drew.heap.size = wr.heap.size := rfl
  have ba : Below wr.heap.size wr (wr.drew.alloc (.cells #[.int .i64 d] 3)) := bd.trans ((Below.refl _ wr.drew).alloc (Nat.le_refl _) _)
  have sza : (wr.drew.alloc (.cells #[.int .i64 d] 3)).heap.size = wr.heap.size + 1 := by rw [World.size_alloc, sz]
  have hn : (wr.drew.alloc (.cells #[.int .i64 d] 3)).cell? ⟨wr.heap.size, 0, none⟩ = some (.int .i64 d) := by
    have := World.alloc_heap_new wr.drew (.cells #[.int .i64 d] 3)
    rw [sz] at this
    simp only [World.cell?, this]
    rfl
  refine (hCl a p c hap hl m _ (rs.below ba)).mono fun e W2 ⟨v', he, hr, hb⟩ => ?_
  rw [sza] at hr hb
  have lw := St.lt_of_cell rw'
  have ld := St.lt_of_cell rd
  have cw2 : W2.cell? ⟨Bw, 0, none⟩ = some (.int .i64 kw) := (hb.cell (p := ⟨Bw, 0, none⟩) (Nat.lt_succ_of_lt lw)).trans ((ba.cell (p := ⟨Bw, 0, none⟩) lw).trans rw')
  have cd2 : W2.cell? ⟨Bd, 0, none⟩ = some (.int .i64 dk) := (hb.cell (p := ⟨Bd, 0, none⟩) (Nat.lt_succ_of_lt ld)).trans ((ba.cell (p := ⟨Bd, 0, none⟩) ld).trans rd)
  have hn2 := (hb.cell (p := ⟨wr.heap.size, 0, none⟩) (Nat.lt_succ_self _)).trans hn
  have hsz := hb.size
  rw [sza] at hsz
  obtain ⟨v3, W3, hrun, ho3, hrow, hb3⟩ := St.append_run' hr wr.heap.size d hn2 hsz hl
  exact ⟨v', he, cw2, cd2, v3, W3, hrun, ho3, (hb3.cell (p := ⟨Bw, 0, none⟩) (Nat.lt_succ_of_lt lw)).trans cw2, (hb3.cell (p := ⟨Bd, 0, none⟩) (Nat.lt_succ_of_lt ld)).trans cd2, hrow.mono (Nat.le_succ _), ba.trans ((hb.mono (Nat.le_succ _)).trans (hb3.mono (Nat.le_succ _)))⟩
def St.mark (D : Nat) : Deferred := { target := .collected D, args := #[] }
theorem St.leaves {B : Nat} {F : Fence} {n : Nat} {P : Program} {fn : Func} {tmps : Array Value} {R : Ending → World → Prop} (I : World → Prop) (hI : ∀ W D, I W → (∃ x, W.heap[D]? = some (.deferred x)) → B ≤ D → I (W.putObj D (.deferred none)))
    (hR : ∀ W, I W → LeavesIn F n P fn tmps R [] .returning W) : ∀ (Ds : List Nat) (W : World), Ds.Nodup → (∀ D ∈ Ds, B ≤ D ∧ W.heap[D]? = some (.deferred (some []))) → I W → LeavesInM F n P fn tmps R (Ds.map St.mark) .returning W := by
  intro Ds
  induction Ds with
  | nil => exact fun W _ _ h => hR W h
  | cons D Ds ih =>
    intro W hn hD hi
    have h0 := hD D (by simp)
    refine ⟨by simp, .inl ⟨D, W.putObj D (.deferred none), rfl, run_takeDeferred h0.2, ih _ (List.nodup_cons.1 hn).2 (fun D' h' => ?_) (hI _ _ hi ⟨_, h0.2⟩ h0.1)⟩⟩
    have hne : D' ≠ D := fun e => (List.nodup_cons.1 hn).1 (e ▸ h')
    exact ⟨(hD D' (by simp [h'])).1, (World.putObj_heap_other hne).trans (hD D' (by simp [h'])).2⟩
end Go.Proofs
namespace Go.Proofs
open Go.RowKit Go.Shelf
attribute [local go_sem] Oper.semAt_some
attribute [-go_sem] Builtin.append_

def St.Own (Bp Bw Bd : Nat) (a : Option Addr) (b : Nat) : Prop := b = Bp ∨ b = Bw ∨ b = Bd ∨ ∃ g, a = some ⟨g, 0, none⟩ ∧ b = g
def St.SeqK (F : Fence) (n k : Nat) : Prop := ∀ (lo dk : Int) (p : List Int) (a : Option Addr) (c Bp Bw Bd : Nat) (w : World),
  (a = none ↔ p = []) → p.length + k ≤ 60 → 0 ≤ lo → 0 ≤ dk → dk ≤ 60 → lo ≤ dk + 1 → (p = [] → lo = 0) → (p ≠ [] → p.getD (p.length - 1) 0 = lo - 1) →
  w.cell? ⟨Bp, 0, none⟩ = some (.slice a p.length c) → w.cell? ⟨Bw, 0, none⟩ = some (.int .i64 ((p.length + k : Nat) : Int)) → w.cell? ⟨Bd, 0, none⟩ = some (.int .i64 dk) → St.ShA a p w →
  SeqSeen F n Try.prog 32 #[.pointer (some ⟨Bp, 0, none⟩), .pointer (some ⟨Bw, 0, none⟩), .pointer (some ⟨Bd, 0, none⟩)] (Prod.fst (β := List Int)) (fun B x W => St.Row B x.1 x.2 W) Prod.snd (St.combos dk k lo p) (St.Own Bp Bw Bd a) w

structure St.Inv (J : List (Value × List Int) → (Nat → Prop) → World → Prop) (B0 l : Nat) (C0 : Nat → Prop) (Bp Bw Bd : Nat) (a : Option Addr) (p : List Int) (c : Nat) (kw dk : Int) (Ds : List Nat) (xs : List (Value × List Int)) (C : Nat → Prop) (W : World) : Prop where
  j : J xs C W
  old : ∀ b, C b → b < W.heap.size ∧ (C0 b ∨ B0 < b)
  size : B0 < W.heap.size
  marks : ∀ D ∈ Ds, B0 < D ∧ ¬ C D ∧ W.heap[D]? = some (.deferred (some []))
  cp : W.cell? ⟨Bp, 0, none⟩ = some (.slice a p.length c)
  cw : W.cell? ⟨Bw, 0, none⟩ = some (.int .i64 kw)
  cd : W.cell? ⟨Bd, 0, none⟩ = some (.int .i64 dk)
  cy : W.cell? ⟨B0, 0, none⟩ = some (.func (.yield l) #[] #[])
  sh : St.ShA a p W

theorem St.Inv.own {J : List (Value × List Int) → (Nat → Prop) → World → Prop} {B0 l : Nat} {C0 : Nat → Prop} {Bp Bw Bd : Nat} {a : Option Addr} {p : List Int} {c : Nat} {kw dk : Int} {Ds : List Nat} {xs : List (Value × List Int)} {C : Nat → Prop}
    (hJ : ∀ C, OwnFrom B0 (fun pre X => J pre C X)) {W W' : World} {row : Option Nat} (h : St.Inv J B0 l C0 Bp Bw Bd a p c kw dk Ds xs C W) (hg : W.grownBy W' row) (hr : ∀ r, row = some r → B0 < r ∧ r ∉ Ds ∧ ∃ o : Obj, W.heap[r]? = some o ∧ o.isCells = false) :
    St.Inv J B0 l C0 Bp Bw Bd a p c kw dk Ds xs C W' := by
  have hr' : ∀ r, row = some r → ∃ o : Obj, W.heap[r]? = some o ∧ o.isCells = false := fun r e => (hr r e).2.2
  exact ⟨hJ C xs W W' row h.j hg (fun r e => ⟨Nat.le_of_lt (hr r e).1, (hr r e).2.2⟩), fun b hb => ⟨Nat.lt_of_lt_of_le (h.old b hb).1 hg.size, (h.old b hb).2⟩, Nat.lt_of_lt_of_le h.size hg.size,
    fun D hD => ⟨(h.marks D hD).1, (h.marks D hD).2.1, (hg.block D (Array.getElem?_eq_some_iff.1 (h.marks D hD).2.2).1 (fun e => (hr D e.symm).2.1 hD)).trans (h.marks D hD).2.2⟩,
    cell_kept h.cp hg hr', cell_kept h.cw hg hr', cell_kept h.cd hg hr', cell_kept h.cy hg hr', h.sh.keep fun g j v _ hc => cell_kept hc hg hr'⟩

theorem St.Inv.turn {J : List (Value × List Int) → (Nat → Prop) → World → Prop} {B0 l : Nat} {C0 : Nat → Prop} {Bp Bw Bd : Nat} {a : Option Addr} {p : List Int} {c : Nat} {kw dk : Int} {Ds : List Nat} {xs ys : List (Value × List Int)} {C C' : Nat → Prop} {W W' : World}
    (hC0 : ∀ b, C0 b → b < B0 ∧ ¬ St.Own Bp Bw Bd a b) (hlt : ∀ b, St.Own Bp Bw Bd a b → b < B0) (h : St.Inv J B0 l C0 Bp Bw Bd a p c kw dk Ds xs C W) (ht : TurnsC B0 C W W') (hj : J ys C' W') (hc : ∀ k, C' k → k < W'.heap.size ∧ (C k ∨ W.heap.size ≤ k)) :
    St.Inv J B0 l C0 Bp Bw Bd a p c kw dk Ds ys C' W' := by
  have hs := h.size
  have hz := ht.size
  have own : ∀ b, St.Own Bp Bw Bd a b → ¬ C b := fun b hb hC => by
    rcases (h.old b hC).2 with h1 | h1
    · exact (hC0 b h1).2 hb
    · exact Nat.lt_asymm h1 (hlt b hb)
  have cell : ∀ {b o : Nat} {v : Value}, ¬ C b → W.cell? ⟨b, o, none⟩ = some v → W'.cell? ⟨b, o, none⟩ = some v := fun {b o v} hb hv => by
    obtain ⟨ob, ho, hcl⟩ := cells_of_cell hv
    exact (World.cell?_of_block ((ht.same b ob ho hb (.inl hcl)).trans ho.symm)).trans hv
  have n0 : ¬ C B0 := fun hC => by
    rcases (h.old B0 hC).2 with h1 | h1
    · exact Nat.lt_irrefl _ (hC0 B0 h1).1
    · exact Nat.lt_irrefl _ h1
  refine ⟨hj, fun b hb => ⟨(hc b hb).1, ?_⟩, by omega, fun D hD => ⟨(h.marks D hD).1, fun hC => ?_, ht.same D _ (h.marks D hD).2.2 (h.marks D hD).2.1 (.inr (Nat.le_of_lt (h.marks D hD).1))⟩, cell (own _ (.inl rfl)) h.cp, cell (own _ (.inr (.inl rfl))) h.cw, cell (own _ (.inr (.inr (.inl rfl)))) h.cd, cell n0 h.cy,
    h.sh.keep fun g j v e hv => cell (own _ (.inr (.inr (.inr ⟨g, e, rfl⟩)))) hv⟩
  · rcases (hc b hb).2 with h1 | h1
    · exact (h.old b h1).2
    · exact .inr (by omega)
  · rcases (hc D hC).2 with h1 | h1
    · exact (h.marks D hD).2.1 h1
    · have := (Array.getElem?_eq_some_iff.1 (h.marks D hD).2.2).1
      omega
theorem St.cell_new (W : World) (v : Value) (t : TypeId) : (W.alloc (.cells #[v] t)).cell? ⟨W.heap.size, 0, none⟩ = some v := by
  have := World.alloc_heap_new W (.cells #[v] t)
  simp only [World.cell?, this]
  rfl
theorem St.boxes (W : World) (u v x : Value) (r s t : TypeId) : (((W.alloc (.cells #[u] r)).alloc (.cells #[v] s)).alloc (.cells #[x] t)).cell? ⟨W.heap.size, 0, none⟩ = some u ∧
    (((W.alloc (.cells #[u] r)).alloc (.cells #[v] s)).alloc (.cells #[x] t)).cell? ⟨W.heap.size + 1, 0, none⟩ = some v ∧ (((W.alloc (.cells #[u] r)).alloc (.cells #[v] s)).alloc (.cells #[x] t)).cell? ⟨W.heap.size + 2, 0, none⟩ = some x := by
  have h2 := St.cell_new (W.alloc (.cells #[u] r)) v s
  have h3 := St.cell_new ((W.alloc (.cells #[u] r)).alloc (.cells #[v] s)) x t
  rw [World.size_alloc] at h2 h3
  rw [World.size_alloc] at h3
  exact ⟨St.cell_alloc (St.cell_alloc (St.cell_new W u r) _) _, St.cell_alloc h2 _, h3⟩
theorem St.Row.sha {base : Nat} {v : Value} {p : List Int} {W : World} (h : St.Row base v p W) (hp : p ≠ []) : ∃ g cap, v = .slice (some ⟨g, 0, none⟩) p.length cap ∧ base ≤ g ∧ g < W.heap.size ∧ St.ShA (some ⟨g, 0, none⟩) p W := by
  rcases h.1.2 with ⟨e, _⟩ | ⟨g, cap, cur, e, hb, hg, _, _, _, ht⟩
  · exact absurd (h.2.1 e) hp
  · refine ⟨g, cap, e, hb, (Array.getElem?_eq_some_iff.1 hg).1, fun j hj => ⟨g, rfl, ?_⟩⟩
    have h1 : (cur.toList.take (p.length * 1))[j]? = some (.int .i64 (p.getD j 0)) := by
      rw [ht, List.getElem?_map, List.getElem?_eq_getElem hj, List.getD_eq_getElem?_getD, List.getElem?_eq_getElem hj]; rfl
    rw [List.getElem?_take, if_pos (by omega), Array.getElem?_toList] at h1
    simp only [World.cell?, hg]
    exact h1
def St.part (dk : Int) (k : Nat) (lo : Int) (p : List Int) (j : Nat) : List (List Int) := ((List.range j).map fun (i : Nat) => St.combos dk k (lo + (i : Int) + 1) (p ++ [lo + (i : Int)])).flatten
theorem St.part_succ (dk : Int) (k : Nat) (lo : Int) (p : List Int) (j : Nat) : St.part dk k lo p (j + 1) = St.part dk k lo p j ++ St.combos dk k (lo + (j : Int) + 1) (p ++ [lo + (j : Int)]) := by
  simp [St.part, List.range_succ]
theorem St.part_le (dk : Int) (k : Nat) (lo : Int) (p : List Int) (j m : Nat) : (St.part dk k lo p j).length ≤ (St.part dk k lo p (j + m)).length := by
  induction m with
  | zero => exact Nat.le_refl _
  | succ m ih => rw [← Nat.add_assoc, St.part_succ, List.length_append]; omega
theorem St.combos_part (dk : Int) (k : Nat) (lo : Int) (p : List Int) : St.combos dk (k + 1) lo p = St.part dk k lo p (dk - (k + 1 : Nat) - lo + 1).toNat := rfl

set_option maxRecDepth 100000 in
set_option maxHeartbeats 0 in
theorem St.loop_in (F : Fence) (hd : F.depth = none) (n : Nat) (h32 : F.fn 32) (h33 : F.fn 33) (h24 : F.fn 24) (hro : F.round = none) (hCl : St.Cl F) (k : Nat) (ih : ∀ n, St.SeqK F n k) (lo dk : Int) (p : List Int) (a : Option Addr) (c Bp Bw Bd l : Nat)
    (J : List (Value × List Int) → (Nat → Prop) → World → Prop) (B0 : Nat) (C0 : Nat → Prop) (hJ : ∀ C, OwnFrom B0 (fun pre X => J pre C X)) (hC0 : ∀ b, C0 b → b < B0 ∧ ¬ St.Own Bp Bw Bd a b) (hlt : ∀ b, St.Own Bp Bw Bd a b → b < B0)
    (hap : a = none ↔ p = []) (hpb : p.length + k + 1 ≤ 60) (hlo : 0 ≤ lo) (hdk0 : 0 ≤ dk) (hdk : dk ≤ 60)
    (hY : ∀ pre C x W1, J pre C W1 → (∀ k, C k → k < W1.heap.size) → B0 ≤ W1.heap.size → St.Row B0 x.1 x.2 W1 → pre.length < (St.combos dk (k + 1) lo p).length → YieldAt F (n - 1) Try.prog l #[x.1] W1 fun e W' =>
      e = .returned (.bool true) ∧ ∃ C', J (pre ++ [x]) C' W' ∧ (∀ k, C' k → k < W'.heap.size ∧ (C k ∨ W1.heap.size ≤ k)) ∧ TurnsC B0 C W1 W')
    (t0 t5 t7 t8 t9 t10 t11 t12 t13 t14 t15 t16 t17 t18 t19 t20 t21 t22 t23 t24 t25 t26 t27 t28 t29 t30 t31 t32 t33 t34 t35 t36 t37 t38 t39 t40 t41 t42 t43 t44 t45 t46 t47 t48 t49 : Value) (wr : World) (h0 : St.Inv J B0 l C0 Bp Bw Bd a p c ((p.length + k + 1 : Nat) : Int) dk [] [] C0 wr) (Q : Exit → Act → World → Prop)
    (hQ : ∀ a' w', (∃ xs C Ds, a'.defers = Ds.map St.mark ∧ Ds.Nodup ∧ St.Inv J B0 l C0 Bp Bw Bd a p c ((p.length + k + 1 : Nat) : Int) dk Ds xs C w' ∧ xs.map Prod.snd = St.combos dk (k + 1) lo p) → Q .normal a' w') :
    (St.sel [true, true, true, true, true, true] St.body).wpIn F n Try.prog (Exit.inBlock 0 Q)
      { tmps := #[t0, .pointer (some ⟨Bp, 0, none⟩), .pointer (some ⟨Bw, 0, none⟩), .pointer (some ⟨Bd, 0, none⟩), .pointer (some ⟨B0, 0, none⟩), t5, .int .i64 lo, t7, t8, t9, t10, t11, t12, t13, t14, t15, t16, t17, t18, t19, t20, t21, t22, t23, t24, t25, t26, t27, t28, t29, t30, t31, t32, t33, t34, t35, t36, t37, t38, t39, t40, t41, t42, t43, t44, t45, t46, t47, t48, t49], defers := [] } wr := by
  have hdd : ∀ k : Nat, (F.depth.isSome = true → 1 ≤ k) := fun k h => by rw [hd] at h; cases h
  obtain ⟨cc, hcc⟩ : ∃ cc, cc = St.sel [true, true, true, true, true, true] St.body := ⟨_, rfl⟩
  rw [← hcc]
  simp only [St.sel, St.body, Try.f32, Option.getD_some] at hcc
  rw [hcc]
  clear hcc cc
  dsimp only
  refine wpIn_loop (fun a' w' => ∃ (j : Nat) (xs : List (Value × List Int)) (C : Nat → Prop) (Ds : List Nat) (u7 u27 u28 u29 u30 u31 u32 u33 u34 u35 u36 u37 u38 u39 u40 u41 u42 u43 u44 u45 u46 u47 u48 u49 : Value), a' = { tmps := #[t0, .pointer (some ⟨Bp, 0, none⟩), .pointer (some ⟨Bw, 0, none⟩), .pointer (some ⟨Bd, 0, none⟩), .pointer (some ⟨B0, 0, none⟩), t5, .int .i64 (lo + (j : Int)), u7, t8, t9, t10, t11, t12, t13, t14, t15, t16, t17, t18, t19, t20, t21, t22, t23, t24, t25, t26, u27, u28, u29, u30, u31, u32, u33, u34, u35, u36, u37, u38, u39, u40, u41, u42, u43, u44, u45, u46, u47, u48, u49], defers := Ds.map St.mark } ∧ Ds.Nodup ∧
    St.Inv J B0 l C0 Bp Bw Bd a p c ((p.length + k + 1 : Nat) : Int) dk Ds xs C w' ∧ j ≤ (dk - (k + 1 : Nat) - lo + 1).toNat ∧ xs.map Prod.snd = St.part dk k lo p j)
    (fun a' _ => (dk + 1 - intOf (a'.tmps.getD 6 undef)).toNat) ?start ?round
  case start =>
    refine ⟨0, [], C0, [], t7, t27, t28, t29, t30, t31, t32, t33, t34, t35, t36, t37, t38, t39, t40, t41, t42, t43, t44, t45, t46, t47, t48, t49, ?_, List.nodup_nil, h0, Nat.zero_le _, rfl⟩
    simp
  case round =>
    rintro _ wr ⟨j, xs, C, Ds, u7, u27, u28, u29, u30, u31, u32, u33, u34, u35, u36, u37, u38, u39, u40, u41, u42, u43, u44, u45, u46, u47, u48, u49, rfl, hnd, hI, hj, hxs⟩
    dsimp only
    have rp := hI.cp
    have rw' := hI.cw
    have rd := hI.cd
    have ry := hI.cy
    by_cases hend : lo + (j : Int) ≤ dk - (k + 1)
    · gi_wp2
      have hl60 : p.length ≤ 60 := by omega
      refine wpIn_mono (St.region_in F hd n h33 h24 hro Bp Bw Bd a p.length c ((p.length + k + 1 : Nat) : Int) dk (lo + (j : Int)) (p ++ [lo + (j : Int)]) wr rp rw' rd (St.wordA' hap hl60 hCl hI.sh rw' rd) (St.wordB' hap hl60 hCl hI.sh rw' rd) _ _ _ _ _ _ _ _ _ _ _ _ _ _ _ _ _ _ _ _ _ _ _ _ _ _ _ _ _ _ _ _ _ _ _ _ _ _ _ _ _ _ _ _ _ _ (Ds.map St.mark)) ?_
      rintro _ _ _ ⟨rfl, u37, u38, u39, u40, u41, u42, u43, v3, W3, hrow, hbel, rfl, rfl⟩
      dsimp only
      obtain ⟨w, hw⟩ : ∃ w, w = ((W3.alloc (.cells #[v3] 40)).alloc (.cells #[.int .i64 dk] 3)).alloc (.cells #[.int .i64 ((p.length + k + 1 : Nat) : Int)] 3) := ⟨_, rfl⟩
      rw [← hw]
      gi_wp2
      obtain ⟨g, cap, rfl, hg0, hg1, hsh⟩ := hrow.sha (by simp)
      have sz : w.heap.size = W3.heap.size + 3 := by rw [hw]; simp
      have bw : Below W3.heap.size W3 w := by rw [hw]; exact (((Below.refl _ W3).alloc (Nat.le_refl _) _).alloc (by simp) _).alloc (by simp; omega) _
      have bwr : Below wr.heap.size wr w := hbel.trans (bw.mono hbel.size)
      obtain ⟨n1, n2, n3⟩ := St.boxes W3 (.slice (some ⟨g, 0, none⟩) (p ++ [lo + (j : Int)]).length cap) (.int .i64 dk) (.int .i64 ((p.length + k + 1 : Nat) : Int)) 40 3 3
      rw [← hw] at n1 n2 n3
      have hIw : St.Inv J B0 l C0 Bp Bw Bd a p c ((p.length + k + 1 : Nat) : Int) dk Ds xs C w := hI.own hJ (St.grown_of_below bwr) (fun r e => by cases e)
      refine wpIn_range_seen (α := Value × List Int) (β := List Int) (enc := Prod.fst) (Seen := fun B x W => St.Row B x.1 x.2 W) (val := Prod.snd) (out := St.combos dk k (lo + (j : Int) + 1) (p ++ [lo + (j : Int)])) (w0 := w) (D := St.Own W3.heap.size (W3.heap.size + 2) (W3.heap.size + 1) (some ⟨g, 0, none⟩))
        hro (fun h => absurd h (by simp [hd])) (gf := 32) rfl h32 (fun _ _ => rfl)
        (ih (n - 1) (lo + (j : Int) + 1) dk (p ++ [lo + (j : Int)]) (some ⟨g, 0, none⟩) cap W3.heap.size (W3.heap.size + 2) (W3.heap.size + 1) w (by simp) (by simp; omega) (by omega) hdk0 hdk (by omega) (by simp) (fun _ => by simp) n1 (by simpa [Nat.add_right_comm] using n3) n2 (hsh.below bw))
        (Below.refl _ w) ?hseen
        (fun ys C X => St.Inv J B0 l C0 Bp Bw Bd a p c ((p.length + k + 1 : Nat) : Int) dk Ds (xs ++ ys) C X) (fun C ys X Y row h hg hr => ?own) C ?hc (by rw [List.append_nil]; exact hIw) (fun x => { tmps := #[t0, .pointer (some ⟨Bp, 0, none⟩), .pointer (some ⟨Bw, 0, none⟩), .pointer (some ⟨Bd, 0, none⟩), .pointer (some ⟨B0, 0, none⟩), t5, .int .i64 (lo + (j : Int)), x.1, t8, t9, t10, t11, t12, t13, t14, t15, t16, t17, t18, t19, t20, t21, t22, t23, t24, t25, t26, .int .i64 (lo + (j : Int)), .int .i64 dk, .int .i64 ((p.length : Int) + (k : Int) + 1), .slice a p.length c, .int .i64 (p.length : Int), .int .i64 ((p.length : Int) + (k : Int) + 1 - (p.length : Int)), .int .i64 (dk - ((p.length : Int) + (k : Int) + 1 - (p.length : Int))), .bool true, u35, u36, u37, u38, u39, u40, u41, u42, u43, .func (.func 32) #[] #[.pointer (some ⟨W3.heap.size, 0, none⟩), .pointer (some ⟨W3.heap.size + 2, 0, none⟩), .pointer (some ⟨W3.heap.size + 1, 0, none⟩)], x.1, u46, u47, u48, u49], defers := [] }) ?assign ?body ?done
      case hc =>
        intro b hb
        have h1 := (hI.old b hb).1
        have h2 := hbel.size
        refine ⟨by omega, ?_⟩
        rintro (h | h | h | ⟨g', e, h⟩)
        · omega
        · omega
        · omega
        · cases e; omega
      case own =>
        refine h.own hJ hg fun r e => ⟨?_, fun hm => ?_, (hr r e).2⟩
        · have h1 := hIw.size
          have h2 := (hr r e).1
          omega
        · have h1 := (Array.getElem?_eq_some_iff.1 (hIw.marks r hm).2.2).1
          have h2 := (hr r e).1
          omega
      case hseen =>
        intro B x X b o o' hs _ ho hc
        exact ⟨ownsRow_putObj hs.1 o' ho hc, hs.2⟩
      case assign =>
        intro l' x X K hK
        simp only [List.zip_toArray, List.zip_cons_cons, List.zip_nil_right, List.foldl_toArray', List.foldl_cons, List.foldl_nil, List.setIfInBounds_toArray, List.set_cons_succ, List.set_cons_zero]
        gi_wp2
        exact hK
      case body =>
        intro l' ys C1 x X hIx hC1 hsz hseen hlen
        dsimp only
        have ry1 := hIx.cy
        have hs1 := hIx.size
        obtain ⟨fn, tm, asl', bo, hyr, hR⟩ := hY (xs ++ ys) C1 x X hIx.j (fun k hk => (hIx.old k hk).1) (Nat.le_of_lt hs1) (hseen.mono (by have := hI.size; have := bwr.size; omega)) (by
          have h1 : xs.length = (St.part dk k lo p j).length := by rw [← hxs, List.length_map]
          have h2 := St.part_le dk k lo p (j + 1) ((dk - (k + 1 : Nat) - lo + 1).toNat - (j + 1))
          rw [show j + 1 + ((dk - (k + 1 : Nat) - lo + 1).toNat - (j + 1)) = (dk - (k + 1 : Nat) - lo + 1).toNat by omega, ← St.combos_part, St.part_succ, List.length_append] at h2
          rw [List.length_append, h1]
          omega)
        replace hR := St.round_any hd (m' := n - 1 - 1 - 1) hR
        gi_wp2
        refine RoundIn.mono (F := F.inRound l') hR ?_
        clear hR
        rintro e X1 ⟨rfl, C2, hj2, hc2, ht2⟩
        gi_wp2
        refine ⟨C2, ?_, hc2, ht2.size, fun b o hb hnc ho => ht2.same b o hb hnc (ho.imp id fun h => ?_)⟩
        · dsimp only
          rw [← List.append_assoc]
          exact hIx.turn hC0 hlt ht2 hj2 hc2
        · have h1 := hIw.size
          omega
      case done =>
        rintro D ys C1 X hD hnD hys hI1 hDx
        dsimp only
        gi_wp2
        rw [show lo + (j : Int) + 1 = lo + ((j + 1 : Nat) : Int) by omega]
        refine ⟨⟨j + 1, xs ++ ys, C1, D :: Ds, _, _, _, _, _, _, _, _, _, _, _, _, _, _, _, _, _, _, _, _, _, _, _, _, rfl, ?_, ?_, by omega, ?_⟩, ?_⟩
        · refine List.nodup_cons.2 ⟨fun hm => ?_, hnd⟩
          have h1 := (Array.getElem?_eq_some_iff.1 (hIw.marks D hm).2.2).1
          omega
        · have h1 := hIw.size
          exact ⟨hI1.j, hI1.old, hI1.size, fun E hE => by
            rcases List.mem_cons.1 hE with rfl | hE
            · exact ⟨by omega, hnD, hDx⟩
            · exact hI1.marks E hE, hI1.cp, by simpa using hI1.cw, hI1.cd, hI1.cy, hI1.sh⟩
        · rw [List.map_append, hxs, hys, St.part_succ]
        · simp [intOf]
          omega
    · gi_wp2
      refine ⟨xs, C, Ds, rfl, hnd, by simpa using hI, ?_⟩
      rw [hxs, St.combos_part]
      congr 1
      omega
end Go.Proofs
namespace Go.Proofs
open Go.RowKit Go.Shelf
attribute [local go_sem] Oper.semAt_some
attribute [-go_sem] Builtin.append_

theorem St.seq0 (F : Fence) (hd : F.depth = none) (n : Nat) (h32 : F.fn 32) (h33 : F.fn 33) (hro : F.round = none) (hCl : St.Cl F) : St.SeqK F n 0 := by
  intro lo dk p a c Bp Bw Bd w hap hpb hlo hdk0 hdk hld hlo0 hlast cp cw cd hsh l J C W hb hJ hC hround h0
  have cp' : W.cell? ⟨Bp, 0, none⟩ = some (.slice a p.length c) := (hb.cell (p := ⟨Bp, 0, none⟩) (St.lt_of_cell cp)).trans cp
  have cw' : W.cell? ⟨Bw, 0, none⟩ = some (.int .i64 (p.length : Int)) := (hb.cell (p := ⟨Bw, 0, none⟩) (St.lt_of_cell cw)).trans (by simpa using cw)
  refine St.leaf_in F hd n h32 h33 hro l Bp Bw Bd a c p W (fun W' => ∃ xs C', xs.map Prod.snd = St.combos dk 0 lo p ∧ J xs C' W') (fun m W1 h1 => hCl a p c hap (by omega) m W1 ((hsh.below hb).below h1)) (fun v' W2 h2 hr => ?_) cp' cw'
  obtain ⟨fn, tm, asl', bo, hy, hR⟩ := hround [] C (v', p) W2 (hJ C [] W W2 none h0 (St.grown_of_below h2) (fun r e => by cases e)) (fun k hk => Nat.lt_of_lt_of_le (hC k hk).1 h2.size) h2.size hr (by simp [St.combos])
  refine ⟨fn, tm, asl', bo, hy, hR.mono ?_⟩
  rintro e W' ⟨rfl, C', hj, _, _⟩
  exact ⟨rfl, [(v', p)], C', rfl, hj⟩

set_option maxRecDepth 100000 in
set_option maxHeartbeats 0 in
theorem St.seqS (F : Fence) (hd : F.depth = none) (n : Nat) (h32 : F.fn 32) (h33 : F.fn 33) (h24 : F.fn 24) (hro : F.round = none) (hCl : St.Cl F) (k : Nat) (ih : ∀ n, St.SeqK F n k) : St.SeqK F n (k + 1) := by
  have hdd : ∀ k : Nat, (F.depth.isSome = true → 1 ≤ k) := fun k h => by rw [hd] at h; cases h
  intro lo dk p a c Bp Bw Bd w hap hpb hlo hdk0 hdk hld hlo0 hlast cp0 cw0 cd0 hsh0 l J C W hb hJ hC hround h0
  have cp : W.cell? ⟨Bp, 0, none⟩ = some (.slice a p.length c) := (hb.cell (p := ⟨Bp, 0, none⟩) (St.lt_of_cell cp0)).trans cp0
  have cw : W.cell? ⟨Bw, 0, none⟩ = some (.int .i64 ((p.length + k + 1 : Nat) : Int)) := (hb.cell (p := ⟨Bw, 0, none⟩) (St.lt_of_cell cw0)).trans cw0
  have cd : W.cell? ⟨Bd, 0, none⟩ = some (.int .i64 dk) := (hb.cell (p := ⟨Bd, 0, none⟩) (St.lt_of_cell cd0)).trans cd0
  have hsh : St.ShA a p W := hsh0.below hb
  have sz0 := hb.size
  obtain ⟨W1, hW1⟩ : ∃ W1, W.alloc (.cells #[.func (.yield l) #[] #[]] 60) = W1 := ⟨_, rfl⟩
  have b1 : Below W.heap.size W W1 := by rw [← hW1]; exact (Below.refl _ W).alloc (Nat.le_refl _) _
  have sz1 : W1.heap.size = W.heap.size + 1 := by rw [← hW1]; simp
  have cp1 := (b1.cell (p := ⟨Bp, 0, none⟩) (St.lt_of_cell cp)).trans cp
  have cw1 := (b1.cell (p := ⟨Bw, 0, none⟩) (St.lt_of_cell cw)).trans cw
  have cd1 := (b1.cell (p := ⟨Bd, 0, none⟩) (St.lt_of_cell cd)).trans cd
  have cy1 : W1.cell? ⟨W.heap.size, 0, none⟩ = some (.func (.yield l) #[] #[]) := by rw [← hW1]; exact St.cell_new _ _ _
  have hsh1 : St.ShA a p W1 := hsh.below b1
  have hlt : ∀ b, St.Own Bp Bw Bd a b → b < W.heap.size := by
    rintro b (rfl | rfl | rfl | ⟨g, e, rfl⟩)
    · exact St.lt_of_cell cp
    · exact St.lt_of_cell cw
    · exact St.lt_of_cell cd
    · have hp : p ≠ [] := fun h => by rw [hap.2 h] at e; cases e
      obtain ⟨g', e', hc⟩ := hsh 0 (List.length_pos_iff.2 hp)
      rw [e] at e'
      cases e'
      exact St.lt_of_cell hc
  have hC2 : ∀ b, C b → b < W.heap.size ∧ ¬ St.Own Bp Bw Bd a b := hC
  have hI : St.Inv J W.heap.size l C Bp Bw Bd a p c ((p.length + k + 1 : Nat) : Int) dk [] [] C W1 :=
    ⟨hJ C [] W W1 none h0 (St.grown_of_below b1) (fun r e => by cases e), fun b hb' => ⟨by have := (hC b hb').1; omega, .inl hb'⟩, by omega, fun D hD => (by cases hD), cp1, cw1, cd1, cy1, hsh1⟩
  have hne : ¬ (p.length : Int) = ((p.length + k + 1 : Nat) : Int) := by omega
  have fin : ∀ a' w', (∃ xs C' Ds, a'.defers = Ds.map St.mark ∧ Ds.Nodup ∧ St.Inv J W.heap.size l C Bp Bw Bd a p c ((p.length + k + 1 : Nat) : Int) dk Ds xs C' w' ∧ xs.map Prod.snd = St.combos dk (k + 1) lo p) →
      bodyPostM F n Try.prog Try.f32 (fun e W' => (∃ v, e = .returned v) ∧ ∃ xs C', xs.map Prod.snd = St.combos dk (k + 1) lo p ∧ J xs C' W') .normal a' w' := by
    rintro a' w' ⟨xs, C', Ds, hds, hnd, hi, hxs⟩
    show LeavesInM F n Try.prog Try.f32 a'.tmps _ a'.defers .returning w'
    rw [hds]
    refine St.leaves (B := W.heap.size) (fun W' => J xs C' W') (fun X D hX hD hB => ?_) (fun X hX => ?_) Ds w' hnd (fun D hD => ⟨Nat.le_of_lt (hi.marks D hD).1, (hi.marks D hD).2.2⟩) hi.j
    · obtain ⟨x, hx⟩ := hD
      exact (hJ C').putObj _ hX hB hx rfl
    · exact ⟨_, results_none rfl _ _ _, ⟨_, rfl⟩, xs, C', hxs, hX⟩
  refine callsIn_of_wp_marks Try.func32 rfl h32 ?_ hro
  simp only [Try.ntmps32, List.size_toArray, List.length_cons, List.length_nil, Nat.reduceAdd, Nat.reduceSub, Array.replicate_succ, Array.replicate_zero, List.push_toArray, List.append_toArray, List.nil_append, List.cons_append]
  by_cases hp : p = []
  · subst hp
    obtain rfl := hlo0 rfl
    gi_wp2
    exact St.loop_in F hd n h32 h33 h24 hro hCl k ih _ dk [] a c Bp Bw Bd l J W.heap.size C hJ hC2 hlt (by simpa using hap) (by simpa using hpb) (by simp) hdk0 hdk hround _ _ _ _ _ _ _ _ _ _ _ _ _ _ _ _ _ _ _ _ _ _ _ _ _ _ _ _ _ _ _ _ _ _ _ _ _ _ _ _ _ _ _ _ _ W1 hI _ fin
  · have hpl : (0 : Int) < (p.length : Int) := by have := List.length_pos_iff.2 hp; omega
    obtain ⟨g, rfl, _⟩ := hsh 0 (List.length_pos_iff.2 hp)
    have ce1 : W1.cell? ⟨g, p.length - 1, none⟩ = some (.int .i64 (lo - 1)) := by
      obtain ⟨g', e, h⟩ := hsh1 (p.length - 1) (by have := List.length_pos_iff.2 hp; omega)
      cases e
      rw [h, hlast hp]
    gi_wp2
    exact St.loop_in F hd n h32 h33 h24 hro hCl k ih _ dk p (some ⟨g, 0, none⟩) c Bp Bw Bd l J W.heap.size C hJ hC2 hlt hap (by omega) hlo hdk0 hdk hround _ _ _ _ _ _ _ _ _ _ _ _ _ _ _ _ _ _ _ _ _ _ _ _ _ _ _ _ _ _ _ _ _ _ _ _ _ _ _ _ _ _ _ _ _ W1 hI _ fin
theorem St.seq_all (F : Fence) (hd : F.depth = none) (h32 : F.fn 32) (h33 : F.fn 33) (h24 : F.fn 24) (hro : F.round = none) (hCl : St.Cl F) : ∀ k n, St.SeqK F n k
  | 0, n => St.seq0 F hd n h32 h33 hro hCl
  | k + 1, n => St.seqS F hd n h32 h33 h24 hro hCl k (St.seq_all F hd h32 h33 h24 hro hCl k)
end Go.Proofs
namespace Go.Proofs
open Go.RowKit Go.Shelf
attribute [local go_sem] Oper.semAt_some
attribute [-go_sem] Builtin.append_

set_option maxHeartbeats 2000000 in
theorem St.clone_in (F : Fence) (h33 : F.fn 33) (hro : F.round = none) : St.Cl F := by
  intro a p c hap hl m W hsh
  have q40 : ∀ (w : World) (a : Option Addr) (n c n' c' : Nat), (binOp .eql 40 (.slice a n c) (.slice none n' c')).run Try.prog w = .ok (.bool a.isNone) w := fun w a n c n' c' => Lib.run_eql_slice_nil w _ _ a n c n' c' Try.underlying40
  cases a with
  | none =>
    have hp := hap.1 rfl
    subst hp
    refine callsIn_of_wp Try.func33 rfl h33 ?_ hro
    simp only [Try.ntmps33, List.size_toArray, List.length_cons, List.length_nil, Nat.reduceAdd, Nat.reduceSub, Array.replicate_succ, Array.replicate_zero, List.push_toArray, List.append_toArray, List.nil_append, List.cons_append]
    gi_wp2
    go_ret
    refine ⟨_, rfl, ⟨⟨by simp, .inl ⟨rfl, rfl⟩⟩, by simp⟩, Below.refl _ _⟩
  | some ad =>
    have hp : p ≠ [] := fun e => by have := hap.2 e; cases this
    obtain ⟨g, e, _⟩ := hsh 0 (List.length_pos_iff.2 hp)
    injection e with e
    subst e
    obtain ⟨i0, hi, hz0, hz1, hz2⟩ := info_parts St.info3
    obtain ⟨v3, W3, hrun, r1, r2, r3⟩ := run_append_own (P := Try.prog) (W.alloc (.cells #[] 3)) W.heap.size 40 40 3 i0 (.int .i64 0) 1 8 Try.underlying40 hi hz0 hz1 hz2 rfl (by decide) (.slice (some ⟨W.heap.size, 0, none⟩) 0 0) 0 []
      (World.ownsRow_made W #[] 0 (Nat.le_refl _) (Nat.zero_le _) rfl) ⟨g, 0, none⟩ p.length c (p.map (Value.int .i64)) (by simp)
      (fun j u hj => by
        have hj' := (List.getElem?_eq_some_iff.1 hj).1
        rw [List.length_map] at hj'
        obtain ⟨g', e, h⟩ := hsh j hj'
        cases e
        rw [List.getElem?_map, List.getElem?_eq_getElem hj'] at hj
        rw [List.getD_eq_getElem?_getD, List.getElem?_eq_getElem hj'] at h
        injection hj with hj
        rw [← hj, Addr.add_lit, Nat.zero_add]
        exact St.cell_alloc h _)
      (fun u hu => by obtain ⟨x, _, rfl⟩ := List.mem_map.1 hu; rfl) (by simp only [maxLen]; omega) (by omega) (by simp)
    refine callsIn_of_wp Try.func33 rfl h33 ?_ hro
    simp only [Try.ntmps33, List.size_toArray, List.length_cons, List.length_nil, Nat.reduceAdd, Nat.reduceSub, Array.replicate_succ, Array.replicate_zero, List.push_toArray, List.append_toArray, List.nil_append, List.cons_append]
    gi_wp2
    go_ret
    refine ⟨v3, rfl, ⟨by simpa using r1, ?_⟩, ?_⟩
    · rw [r3]; simp [hp]
    · exact ((Below.refl _ W).alloc (Nat.le_refl _) _).grown r2 (by simp) (by intro k hk; simp [Value.ownBlock] at hk; omega)
end Go.Proofs
namespace Go.Proofs
open Go.RowKit Go.Shelf
attribute [local go_sem] Oper.semAt_some

def St.cnt (d : Int) : Nat → Int → Int → Int
  | 0, _, n => n
  | k + 1, i, n => if n * (d - i) / (i + 1) > 1099511627776 then n * (d - i) / (i + 1) else St.cnt d k (i + 1) (n * (d - i) / (i + 1))

theorem St.cnt_succ (d : Int) (k : Nat) (i n : Int) : St.cnt d (k + 1) i n = if n * (d - i) / (i + 1) > 1099511627776 then n * (d - i) / (i + 1) else St.cnt d k (i + 1) (n * (d - i) / (i + 1)) := rfl
set_option maxHeartbeats 2000000 in
theorem St.count_in (F : Fence) (h23 : F.fn 23) (hro : F.round = none) (m : Nat) (d : Int) (k : Nat) (hk : (k : Int) ≤ d) (hd : d ≤ 60) (W : World) :
    CallsIn F m Try.prog 23 #[.int .i64 d, .int .i64 (k : Int)] W fun e W2 => e = .returned (.int .i64 (St.cnt d k 0 1)) ∧ W2 = W := by
  refine callsIn_of_wp Try.func23 rfl h23 ?_ hro
  simp only [Try.ntmps23, List.size_toArray, List.length_cons, List.length_nil, Nat.reduceAdd, Nat.reduceSub, Array.replicate_succ, Array.replicate_zero, List.push_toArray, List.append_toArray, List.nil_append, List.cons_append]
  gi_wp2
  gi_loopw [5, 8] (fun nv iv wr => ∃ (i : Nat) (n : Int), iv = .int .i64 (i : Int) ∧ nv = .int .i64 n ∧ i ≤ k ∧ 0 ≤ n ∧ n ≤ 1099511627776 ∧ St.cnt d k 0 1 = St.cnt d (k - i) (i : Int) n ∧ wr = W) (fun _ iv _ => ((k : Int) - intOf iv).toNat)
  case atStart => exact ⟨0, 1, rfl, rfl, Nat.zero_le _, by omega, by omega, rfl, rfl⟩
  case round =>
    obtain ⟨i, n, rfl, rfl, hi, hn0, hn1, hc, rfl⟩ := hrel
    by_cases hend : i < k
    · have hi' : (i : Int) < (k : Int) := by omega
      have e1 : k - i = (k - (i + 1)) + 1 := by omega
      have hdi : 0 ≤ d - (i : Int) := by omega
      have hp0 : 0 ≤ n * (d - (i : Int)) := Int.mul_nonneg hn0 hdi
      have hp1 : n * (d - (i : Int)) ≤ 1099511627776 * 60 := Int.le_trans (Int.mul_le_mul_of_nonneg_right hn1 hdi) (by omega)
      have hq : Int.tdiv (n * (d - (i : Int))) ((i : Int) + 1) = n * (d - (i : Int)) / ((i : Int) + 1) := by rw [Int.tdiv_eq_ediv_of_nonneg hp0]
      have hq0 : 0 ≤ n * (d - (i : Int)) / ((i : Int) + 1) := Int.ediv_nonneg hp0 (by omega)
      have hq1 : n * (d - (i : Int)) / ((i : Int) + 1) ≤ n * (d - (i : Int)) := Int.ediv_le_self _ hp0
      rw [e1] at hc
      rw [St.cnt_succ] at hc
      obtain ⟨q, hqq⟩ : ∃ q, q = n * (d - (i : Int)) / ((i : Int) + 1) := ⟨_, rfl⟩
      obtain ⟨pr, hpr⟩ : ∃ pr, pr = n * (d - (i : Int)) := ⟨_, rfl⟩
      rw [← hqq] at hc hq hq0 hq1
      rw [← hpr] at hp0 hp1 hq hq1
      by_cases hbig : q > 1099511627776
      · rw [if_pos hbig] at hc
        gi_wp2
        go_ret
        refine ⟨congrArg Ending.returned (show Value.int .i64 (n * (d - (i : Int)) / ((i : Int) + 1)) = _ from ?_), rfl⟩
        rw [hc, hqq]
      · rw [if_neg hbig] at hc
        gi_wp2
        refine ⟨⟨i + 1, q, by simp, by rw [hqq], by omega, hq0, by omega, ?_, trivial⟩, by simp [intOf]; omega⟩
        rw [hc, hqq]
        simp
    · gi_wp2
      go_ret
      refine ⟨congrArg Ending.returned (show Value.int .i64 n = _ from ?_), rfl⟩
      rw [hc, show k - i = 0 by omega]
      rfl
end Go.Proofs
namespace Go.Proofs
open Go.RowKit Go.Shelf
attribute [local go_sem] Oper.semAt_some
attribute [-go_sem] Builtin.append_

theorem St.results11 (tmps : Array Value) (W : World) (b : Nat) (x : Int) (y : Value) (n : Int) (h4 : tmps.getD 4 undef = .pointer (some ⟨b, 0, none⟩)) (h5 : tmps.getD 5 undef = .int .i64 n)
    (h0 : W.cell? ⟨b, 0, none⟩ = some (.int .i64 x)) (h1 : W.cell? ⟨b, 1, none⟩ = some y) (hy : ∃ a n c, y = .slice a n c) : (results Try.f11 tmps).run Try.prog W = .ok (.tuple #[.agg #[.int .i64 x, y], .int .i64 n]) W := by
  obtain ⟨a, n', c, rfl⟩ := hy
  have e : Try.f11.results = #[.cell 4 25, .tmp 5] := rfl
  simp only [results, e, List.mapM_toArray, List.mapM_cons, List.mapM_nil, h4, h5]
  go_simp
theorem St.zero_cells (W : World) : (W.alloc (.cells #[.int .i64 0, .slice none 0 0] 25)).cell? ⟨W.heap.size, 0, none⟩ = some (.int .i64 0) ∧ (W.alloc (.cells #[.int .i64 0, .slice none 0 0] 25)).cell? ⟨W.heap.size, 1, none⟩ = some (.slice none 0 0) := by
  have := World.alloc_heap_new W (.cells #[.int .i64 0, .slice none 0 0] 25)
  simp only [World.cell?, this]
  exact ⟨rfl, rfl⟩
set_option maxHeartbeats 2000000 in
theorem St.complete_arg (F : Fence) (h11 : F.fn 11) (hro : F.round = none) (m : Nat) (d k : Int) (h : d < 2 ∨ 60 < d ∨ k < 2 ∨ d < k) (W : World) :
    CallsIn F m Try.prog 11 #[.int .i64 d, .int .i64 k] W fun e W2 => e = .returned (.tuple #[.agg #[.int .i64 0, .slice none 0 0], .int .i64 1]) ∧ Below W.heap.size W W2 := by
  have hb : Below W.heap.size W (W.alloc (.cells #[.int .i64 0, .slice none 0 0] 25)) := (Below.refl _ W).alloc (Nat.le_refl _) _
  have hz := St.zero_cells W
  refine callsIn_of_wp Try.func11 rfl h11 ?_ hro
  simp only [Try.ntmps11, List.size_toArray, List.length_cons, List.length_nil, Nat.reduceAdd, Nat.reduceSub, Array.replicate_succ, Array.replicate_zero, List.push_toArray, List.append_toArray, List.nil_append, List.cons_append]
  by_cases h1 : d < 2
  · gi_wp2
    exact bodyPost_ret (St.results11 _ _ W.heap.size 0 (.slice none 0 0) 1 rfl rfl hz.1 hz.2 ⟨_, _, _, rfl⟩) rfl ⟨rfl, hb⟩
  by_cases h2 : 60 < d
  · gi_wp2
    exact bodyPost_ret (St.results11 _ _ W.heap.size 0 (.slice none 0 0) 1 rfl rfl hz.1 hz.2 ⟨_, _, _, rfl⟩) rfl ⟨rfl, hb⟩
  by_cases h3 : k < 2
  · gi_wp2
    exact bodyPost_ret (St.results11 _ _ W.heap.size 0 (.slice none 0 0) 1 rfl rfl hz.1 hz.2 ⟨_, _, _, rfl⟩) rfl ⟨rfl, hb⟩
  have h4 : d < k := by omega
  gi_wp2
  exact bodyPost_ret (St.results11 _ _ W.heap.size 0 (.slice none 0 0) 1 rfl rfl hz.1 hz.2 ⟨_, _, _, rfl⟩) rfl ⟨rfl, hb⟩

set_option maxHeartbeats 2000000 in
theorem St.complete_limit (F : Fence) (h11 : F.fn 11) (h23 : F.fn 23) (hd : F.depth = none) (hro : F.round = none) (m : Nat) (d k : Nat) (h1 : 2 ≤ d) (h2 : d ≤ 60) (h3 : 2 ≤ k) (h4 : k ≤ d) (hc : 4096 < St.cnt (d : Int) (min k (d - k)) 0 1) (W : World) :
    CallsIn F m Try.prog 11 #[.int .i64 (d : Int), .int .i64 (k : Int)] W fun e W2 => e = .returned (.tuple #[.agg #[.int .i64 0, .slice none 0 0], .int .i64 7]) ∧ Below W.heap.size W W2 := by
  have hdd : ∀ k : Nat, (F.depth.isSome = true → 1 ≤ k) := fun k h => by rw [hd] at h; cases h
  have hb : Below W.heap.size W (W.alloc (.cells #[.int .i64 0, .slice none 0 0] 25)) := (Below.refl _ W).alloc (Nat.le_refl _) _
  have hz := St.zero_cells W
  have hmin : ((min k (d - k) : Nat) : Int) = min (k : Int) ((d : Int) - (k : Int)) := by omega
  have hcnt := St.count_in F h23 hro (m - 1) (d : Int) (min k (d - k)) (by omega) (by omega) (W.alloc (.cells #[.int .i64 0, .slice none 0 0] 25))
  rw [hmin] at hcnt
  refine callsIn_of_wp Try.func11 rfl h11 ?_ hro
  simp only [Try.ntmps11, List.size_toArray, List.length_cons, List.length_nil, Nat.reduceAdd, Nat.reduceSub, Array.replicate_succ, Array.replicate_zero, List.push_toArray, List.append_toArray, List.nil_append, List.cons_append]
  gi_wp2
  refine hcnt.mono ?_
  rintro e W2 ⟨rfl, rfl⟩
  gi_wp2
  exact bodyPost_ret (St.results11 _ _ W.heap.size 0 (.slice none 0 0) 7 rfl rfl hz.1 hz.2 ⟨_, _, _, rfl⟩) rfl ⟨rfl, hb⟩

end Go.Proofs
namespace Go.Proofs
open Go.RowKit Go.Shelf
attribute [local go_sem] Oper.semAt_some
attribute [-go_sem] Builtin.append_

theorem St.own_keep {W W' : World} {base : Nat} {e : TypeId} {size : Nat} {v : Value} {n : Nat} {xs : List Value} (h : W.ownsRow base e size v n xs) (hk : ∀ g cur, W.heap[g]? = some (.cells cur e) → v.ownBlock = some g → W'.heap[g]? = some (.cells cur e)) : W'.ownsRow base e size v n xs := by
  obtain ⟨h1, h2⟩ := h
  refine ⟨h1, ?_⟩
  rcases h2 with h2 | ⟨g, cap, cur, hv, hg, hh, r⟩
  · exact .inl h2
  · exact .inr ⟨g, cap, cur, hv, hg, hk g cur hh (by rw [hv]; rfl), r⟩
theorem St.own_cells {W : World} {base : Nat} {e : TypeId} {size : Nat} {v : Value} {n : Nat} {xs : List Value} (h : W.ownsRow base e size v n xs) {g : Nat} (hg : v.ownBlock = some g) : base ≤ g ∧ ∃ cur, W.heap[g]? = some (.cells cur e) := by
  rcases h.2 with ⟨e0, _⟩ | ⟨g', cap, cur, hv, hb, hh, _⟩
  · rw [e0] at hg; cases hg
  · rw [hv] at hg
    injection hg with hg
    subst hg
    exact ⟨hb, cur, hh⟩
structure St.CInv (W0 : World) (B4 B6 : Nat) (d : Int) (v : Value) (xs : List (Value × List Int)) (C : Nat → Prop) (W : World) : Prop where
  c4 : W.heap[B4]? = some (.cells #[.int .i64 0, .slice none 0 0] 25)
  c6 : W.heap[B6]? = some (.cells #[.int .i64 d, v] 25)
  own : W.ownsRow W0.heap.size 40 1 v xs.length (xs.map Prod.fst)
  rows : ∀ x ∈ xs, St.Row W0.heap.size x.1 x.2 W
  cs : ∀ b, C b ↔ b = B6 ∨ v.ownBlock = some b
  below : Below W0.heap.size W0 W
theorem St.CInv.keep {W0 : World} {B4 B6 : Nat} {d : Int} {v : Value} {xs : List (Value × List Int)} {C : Nat → Prop} {W W' : World} (h : St.CInv W0 B4 B6 d v xs C W) (hk : ∀ (g : Nat) (o : Obj), W.heap[g]? = some o → o.isCells = true → W'.heap[g]? = some o) (hb : Below W0.heap.size W0 W') : St.CInv W0 B4 B6 d v xs C W' :=
  ⟨hk _ _ h.c4 rfl, hk _ _ h.c6 rfl, St.own_keep h.own fun g cur hg _ => hk g _ hg rfl, fun x hx => ⟨St.own_keep (h.rows x hx).1 fun g cur hg _ => hk g _ hg rfl, (h.rows x hx).2⟩, h.cs, hb⟩
theorem St.below_grown {B : Nat} {W0 W W' : World} {row : Option Nat} (h : Below B W0 W) (hB : B ≤ W0.heap.size) (hg : W.grownBy W' row) (hr : ∀ r, row = some r → B ≤ r) : Below B W0 W' :=
  ⟨hg.os.trans h.os, hg.tape.trans h.tape, hg.output.trans h.output, Nat.le_trans h.size hg.size, fun k hk => (hg.block k (by have := h.size; omega) (fun e => by have := hr k e.symm; omega)).trans (h.block k hk)⟩
theorem St.CInv.grown {W0 : World} {B4 B6 : Nat} {d : Int} {v : Value} {xs : List (Value × List Int)} {C : Nat → Prop} {W W' : World} {row : Option Nat} (h : St.CInv W0 B4 B6 d v xs C W) (hg : W.grownBy W' row) (hr : ∀ r, row = some r → W0.heap.size ≤ r ∧ ∃ o : Obj, W.heap[r]? = some o ∧ o.isCells = false) : St.CInv W0 B4 B6 d v xs C W' :=
  h.keep (fun g o ho hc => (hg.block g (Array.getElem?_eq_some_iff.1 ho).1 (fun e => by
    obtain ⟨_, o', ho', hc'⟩ := hr g e.symm
    rw [ho] at ho'
    cases ho'
    rw [hc] at hc'
    cases hc')).trans ho) (St.below_grown h.below (Nat.le_refl _) hg fun r e => (hr r e).1)

theorem St.info40 : (Try.prog.info? 40).map (fun i => (i.zero, i.size, i.bytes)) = some (some (.slice none 0 0), 1, 24) := by kernel_rfl
theorem St.CInv.more {W0 : World} {B4 B6 : Nat} {d : Int} {v : Value} {xs : List (Value × List Int)} {C : Nat → Prop} {X : World} (h : St.CInv W0 B4 B6 d v xs C X) (h46 : B4 ≠ B6) (hB6 : W0.heap.size ≤ B6) (x : Value × List Int) (hx : St.Row W0.heap.size x.1 x.2 X) (hl : xs.length ≤ 4096) (hone : x.1.oneCell' = true) :
    ∃ v3 X3, (Builtin.append_ #[23, 23] 23 #[v, .slice (some ⟨X.heap.size, 0, none⟩) 1 1]).run Try.prog (X.alloc (.cells #[x.1] 40)) = .ok v3 X3 ∧ (∃ a n c, v3 = .slice a n c) ∧ X3.cell? ⟨B6, 1, none⟩ = some v ∧ X3.frozen? ⟨B6, 1, none⟩ = false ∧
      ∃ C', St.CInv W0 B4 B6 d v3 (xs ++ [x]) C' (X3.setCell ⟨B6, 1, none⟩ v3) ∧ (∀ k, C' k → k < (X3.setCell ⟨B6, 1, none⟩ v3).heap.size ∧ (C k ∨ X.heap.size ≤ k)) ∧ TurnsC 0 C X (X3.setCell ⟨B6, 1, none⟩ v3) := by
  obtain ⟨i0, hi, hz0, hz1, hz2⟩ := info_parts St.info40
  have hbase : W0.heap.size ≤ (X.alloc (.cells #[x.1] 40)).heap.size := by have := h.below.size; rw [World.size_alloc]; omega
  have ka : ∀ (g : Nat) (o : Obj), X.heap[g]? = some o → (X.alloc (.cells #[x.1] 40)).heap[g]? = some o := fun g o ho => (Below.heap_alloc X _ g (Array.getElem?_eq_some_iff.1 ho).1).trans ho
  obtain ⟨g, cap, X3, hrun, r1, r2, r3, r4⟩ := run_append_lies (P := Try.prog) (X.alloc (.cells #[x.1] 40)) 23 23 W0.heap.size 40 i0 (.slice none 0 0) 1 24 Try.underlying23 hi hz0 hz1 hz2 rfl (by decide) v xs.length (xs.map Prod.fst)
    (St.own_keep h.own fun g cur hg _ => ka g _ hg) ⟨X.heap.size, 0, none⟩ 1 1 [x.1] rfl
    (fun j u hj => by
      match j, hj with
      | 0, hj => injection hj with hj; subst hj; exact St.cell_new X x.1 40) (fun u hu => by simp at hu; subst hu; exact hone) (by decide) (by simp only [maxLen]; omega) (by omega) hbase _ rfl
  rw [World.size_alloc] at r3
  have kg : ∀ (b : Nat) (o : Obj), X.heap[b]? = some o → v.ownBlock ≠ some b → X3.heap[b]? = some o := fun b o ho hne => (r2.block b (by rw [World.size_alloc]; exact Nat.lt_succ_of_lt (Array.getElem?_eq_some_iff.1 ho).1) (fun e => hne e.symm)).trans (ka b o ho)
  have t40 : ∀ b, v.ownBlock = some b → ∃ cur, X.heap[b]? = some (.cells cur 40) := fun b hb => (St.own_cells h.own hb).2
  have n25 : ∀ {b : Nat} {cur : Array Value} {e : TypeId}, e ≠ 40 → X.heap[b]? = some (.cells cur e) → v.ownBlock ≠ some b := fun {b cur e} he hb h1 => by
    obtain ⟨cur', h2⟩ := t40 b h1
    rw [h2] at hb
    injection hb with hb
    injection hb with _ hb
    exact he hb.symm
  have c6 : X3.heap[B6]? = some (.cells #[.int .i64 d, v] 25) := kg _ _ h.c6 (n25 (by decide) h.c6)
  have hs6 := Lib.heap_setCell_same (i := 1) c6 (.slice (some ⟨g, 0, none⟩) (xs.length + 1) cap)
  have ks : ∀ (b : Nat) (o : Obj), X3.heap[b]? = some o → b ≠ B6 → (X3.setCell ⟨B6, 1, none⟩ (.slice (some ⟨g, 0, none⟩) (xs.length + 1) cap)).heap[b]? = some o := fun b o ho hne => (Below.heap_setCell X3 ⟨B6, 1, none⟩ _ b hne).trans ho
  have hg6 : g ≠ B6 := fun e => by
    obtain ⟨_, cur, hc⟩ := St.own_cells r1 (g := g) rfl
    rw [e, c6] at hc
    injection hc with hc
    injection hc with _ hc
    exact absurd hc (by decide)
  refine ⟨_, X3, hrun, ⟨_, _, _, rfl⟩, by simp [World.cell?, c6], by simp [World.frozen?, c6], fun b => b = B6 ∨ b = g, ⟨?_, hs6, ?_, ?_, fun b => ?_, ?_⟩, ?_, ?_⟩
  · exact ks _ _ (kg _ _ h.c4 (n25 (by decide) h.c4)) h46
  · have := ownsRow_setCell_other r1 (a := ⟨B6, 1, none⟩) (by simp [Value.ownBlock]; exact hg6) (.slice (some ⟨g, 0, none⟩) (xs.length + 1) cap)
    simpa using this
  · intro y hy
    have hr : St.Row W0.heap.size y.1 y.2 X := by
      rcases List.mem_append.1 hy with hy | hy
      · exact h.rows y hy
      · simp at hy; subst hy; exact hx
    refine ⟨St.own_keep hr.1 fun b cur hb _ => ks _ _ (kg _ _ hb (n25 (by decide) hb)) fun e => ?_, hr.2⟩
    rw [e, h.c6] at hb
    injection hb with hb
    injection hb with _ hb
    exact absurd hb (by decide)
  · simp [Value.ownBlock, eq_comm]
  · refine Below.setCell (St.below_grown (h.below.trans (((Below.refl _ X).alloc (Nat.le_refl _) _).mono h.below.size)) (Nat.le_refl _) r2 fun r e => (St.own_cells h.own e).1) hB6 _
  · intro b hb
    have hsz : (X3.setCell ⟨B6, 1, none⟩ (.slice (some ⟨g, 0, none⟩) (xs.length + 1) cap)).heap.size = X3.heap.size := by simp
    rw [hsz]
    rcases hb with rfl | rfl
    · exact ⟨(Array.getElem?_eq_some_iff.1 c6).1, .inl ((h.cs _).2 (.inl rfl))⟩
    · refine ⟨r4, ?_⟩
      rcases r3 with r3 | r3
      · exact .inl ((h.cs _).2 (.inr r3))
      · exact .inr (by omega)
  · refine ⟨by have := r2.size; rw [World.size_alloc] at this; simp; omega, fun b o hb hnc _ => ?_⟩
    have h1 := fun e => hnc ((h.cs b).2 (.inl e))
    have h2 := fun e => hnc ((h.cs b).2 (.inr e))
    exact ks _ _ (kg _ _ hb h2) h1
end Go.Proofs
namespace Go.Proofs
open Go.RowKit Go.Shelf
attribute [local go_sem] Oper.semAt_some
attribute [-go_sem] Builtin.append_

noncomputable def St.body11 : Code := Try.f11.body.getD .skip
theorem St.Row.one {base : Nat} {v : Value} {p : List Int} {W : World} (h : St.Row base v p W) : v.oneCell' = true := by
  rcases h.1.2 with ⟨e, _⟩ | ⟨g, cap, cur, e, _⟩ <;> subst e <;> rfl

set_option maxRecDepth 100000 in
set_option maxHeartbeats 0 in
theorem St.range11 (F : Fence) (hd : F.depth = none) (n : Nat) (h24 : F.fn 24) (h32 : F.fn 32) (h33 : F.fn 33) (hro : F.round = none) (hCl : St.Cl F) (d k : Nat) (hd2 : d ≤ 60) (hk1 : k ≤ d) (Bp Bw Bd : Nat) (w : World)
    (cp : w.cell? ⟨Bp, 0, none⟩ = some (.slice none 0 0)) (cw : w.cell? ⟨Bw, 0, none⟩ = some (.int .i64 (k : Int))) (cd : w.cell? ⟨Bd, 0, none⟩ = some (.int .i64 (d : Int)))
    (W0 : World) (B4 B6 : Nat) (hInv : St.CInv W0 B4 B6 d (.slice none 0 0) [] (fun b => b = B6) w) (h46 : B4 ≠ B6) (hB6 : W0.heap.size ≤ B6) (hown : ¬ St.Own Bp Bw Bd none B6) (hlen : (St.combos d k 0 []).length ≤ 4096)
    (t0 t1 t2 t3 t5 t7 t8 t9 t10 t11 t12 t13 t14 t15 t16 t17 t18 t19 t20 t21 t22 t23 t24 t25 t26 t27 t28 t29 t30 t31 t32 t33 t34 t35 t36 t38 t39 t40 t41 t42 t43 t44 t45 : Value) (Q : Exit → Act → World → Prop)
    (hQ : ∀ w' D v xs C, W0.heap.size ≤ D → ¬ C D → w'.heap[D]? = some (.deferred (some [])) → St.CInv W0 B4 B6 d v xs C w' → xs.map Prod.snd = St.combos d k 0 [] → Q .normal { tmps := #[t0, t1, t2, t3, .pointer (some ⟨B4, 0, none⟩), t5, .pointer (some ⟨B6, 0, none⟩), t7, t8, t9, t10, t11, t12, t13, t14, t15, t16, t17, t18, t19, t20, t21, t22, t23, t24, t25, t26, t27, t28, t29, t30, t31, t32, t33, t34, t35, t36, .func (.func 32) #[] #[.pointer (some ⟨Bp, 0, none⟩), .pointer (some ⟨Bw, 0, none⟩), .pointer (some ⟨Bd, 0, none⟩)], t38, t39, t40, t41, t42, t43, t44, t45], defers := [St.mark D] } w') :
    (St.sel [true, true, true, true, false, true, true] St.body11).wpIn F n Try.prog (Exit.inBlock 0 Q) { tmps := #[t0, t1, t2, t3, .pointer (some ⟨B4, 0, none⟩), t5, .pointer (some ⟨B6, 0, none⟩), t7, t8, t9, t10, t11, t12, t13, t14, t15, t16, t17, t18, t19, t20, t21, t22, t23, t24, t25, t26, t27, t28, t29, t30, t31, t32, t33, t34, t35, t36, .func (.func 32) #[] #[.pointer (some ⟨Bp, 0, none⟩), .pointer (some ⟨Bw, 0, none⟩), .pointer (some ⟨Bd, 0, none⟩)], t38, t39, t40, t41, t42, t43, t44, t45], defers := [] } w := by
  have hdd : ∀ k : Nat, (F.depth.isSome = true → 1 ≤ k) := fun k h => by rw [hd] at h; cases h
  obtain ⟨cc, hcc⟩ : ∃ cc, cc = St.sel [true, true, true, true, false, true, true] St.body11 := ⟨_, rfl⟩
  rw [← hcc]
  simp only [St.sel, St.body11, Try.f11, Option.getD_some] at hcc
  rw [hcc]
  clear hcc cc
  dsimp only at hQ ⊢
  have hsz := hInv.below.size
  refine wpIn_range_seen (α := Value × List Int) (β := List Int) (enc := Prod.fst) (Seen := fun B x W => St.Row B x.1 x.2 W) (val := Prod.snd) (out := St.combos d k 0 []) (w0 := w) (D := St.Own Bp Bw Bd none)
    hro (fun h => absurd h (by simp [hd])) (gf := 32) rfl h32 (fun _ _ => rfl)
    (St.seq_all F hd h32 h33 h24 hro hCl k (n - 1) 0 d [] none 0 Bp Bw Bd w (by simp) (by simp; omega) (by omega) (by omega) (by omega) (by omega) (by simp) (by simp) cp (by simpa using cw) cd (fun j hj => by simp at hj))
    (Below.refl _ w) ?hseen
    (fun ys C X => ∃ v, St.CInv W0 B4 B6 d v ys C X) (fun C ys X Y row h hg hr => ?own) (fun b => b = B6) ?hc ⟨_, hInv⟩ (fun x => { tmps := #[t0, t1, t2, t3, .pointer (some ⟨B4, 0, none⟩), t5, .pointer (some ⟨B6, 0, none⟩), x.1, t8, t9, t10, t11, t12, t13, t14, t15, t16, t17, t18, t19, t20, t21, t22, t23, t24, t25, t26, t27, t28, t29, t30, t31, t32, t33, t34, t35, t36, .func (.func 32) #[] #[.pointer (some ⟨Bp, 0, none⟩), .pointer (some ⟨Bw, 0, none⟩), .pointer (some ⟨Bd, 0, none⟩)], x.1, t39, t40, t41, t42, t43, t44, t45], defers := [] }) ?assign ?body ?done
  case hc =>
    rintro b rfl
    exact ⟨(Array.getElem?_eq_some_iff.1 hInv.c6).1, hown⟩
  case own =>
    obtain ⟨v, h⟩ := h
    exact ⟨v, h.grown hg fun r e => ⟨Nat.le_trans hsz (hr r e).1, (hr r e).2⟩⟩
  case hseen =>
    intro B x X b o o' hs _ ho hc
    exact ⟨ownsRow_putObj hs.1 o' ho hc, hs.2⟩
  case assign =>
    intro l' x X K hK
    simp only [List.zip_toArray, List.zip_cons_cons, List.zip_nil_right, List.foldl_toArray', List.foldl_cons, List.foldl_nil, List.setIfInBounds_toArray, List.set_cons_succ, List.set_cons_zero]
    gi_wp2
    exact hK
  case body =>
    rintro l' ys C1 x X ⟨v, hc⟩ hC1 hsz1 hseen hlen1
    dsimp only
    obtain ⟨xa, xn, xc, hxs⟩ : ∃ a n c, x.1 = .slice a n c := by
      rcases hseen.1.2 with ⟨e, _⟩ | ⟨g, cap, cur, e, _⟩ <;> exact ⟨_, _, _, e⟩
    obtain ⟨x1, xp⟩ := x
    dsimp only at hxs hseen ⊢
    subst hxs
    obtain ⟨v3, X3, hrun, ⟨va, vn, vc, rfl⟩, hc3, hf3, C2, hi2, hb2, ht2⟩ := hc.more h46 hB6 (.slice xa xn xc, xp) (hseen.mono (by omega)) (by omega) hseen.one
    dsimp only at hrun
    have c61 : X.cell? ⟨B6, 1, none⟩ = some v := by simp [World.cell?, hc.c6]
    have c61a : (X.alloc (.cells #[.slice xa xn xc] 40)).cell? ⟨B6, 1, none⟩ = some v := St.cell_alloc c61 _
    gi_wp2
    exact ⟨C2, ⟨_, hi2⟩, hb2, ht2.size, fun b o hb hnc _ => ht2.same b o hb hnc (.inr (Nat.zero_le _))⟩
  case done =>
    rintro D ys C1 X hD hnD hys ⟨v, hc⟩ hDx
    dsimp only
    exact hQ X D v ys C1 (by omega) hnD hDx hc hys
end Go.Proofs
