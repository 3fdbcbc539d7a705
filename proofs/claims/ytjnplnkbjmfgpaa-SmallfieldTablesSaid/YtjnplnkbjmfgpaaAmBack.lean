/- Chapter 05: slices.Backward over ints, and shape.element. Turned from the worked text on slices.All. -/
import Derived.RangeFuncBox
import Derived.RangeFuncLeaves
import Derived.Shelf.Abstract
import Derived.WalkKit
import Derived.OwnWalkIn
import Derived.TacticsInMore
import Derived.LoopNIn
import Derived.LoopIn
import Derived.Test.YtjnplnkbjmfgpaaProg
set_option linter.unusedVariables false
set_option linter.unusedSimpArgs false
set_option linter.unusedSectionVars false
namespace Go.Proofs
open Go.RowKit Go.Shelf
attribute [local go_sem] Oper.semAt_some

def Bk.upto {α : Type} (f : Nat → α) (k : Nat) : List α := (List.range k).map f
theorem Bk.upto_succ {α : Type} (f : Nat → α) (k : Nat) : Bk.upto f (k + 1) = Bk.upto f k ++ [f k] := by simp [Bk.upto, List.range_succ]
theorem Bk.upto_length {α : Type} (f : Nat → α) (k : Nat) : (Bk.upto f k).length = k := by simp [Bk.upto]

/-- what a round keeps: what lay below n₀, and the box of the slice value -/
def Bk.Kp (n₀ Bs : Nat) (A B : World) : Prop := Below n₀ A B ∧ B.heap[Bs]? = A.heap[Bs]?
theorem Bk.Kp.refl (n₀ Bs : Nat) (A : World) : Bk.Kp n₀ Bs A A := ⟨Below.refl _ _, rfl⟩
theorem Bk.Kp.trans {n₀ Bs : Nat} {A B C : World} (h : Bk.Kp n₀ Bs A B) (k : Bk.Kp n₀ Bs B C) : Bk.Kp n₀ Bs A C := ⟨h.1.trans k.1, k.2.trans h.2⟩

set_option maxRecDepth 100000 in
set_option maxHeartbeats 2000000 in
theorem Bk.back1_in (F : Fence) (n : Nat) (h39 : F.fn 39) (hro : F.round = none) (hn : 1 ≤ n) (l Bs n₀ b off len cap : Nat) (zs : List Int) (hreach : len * 8 ≤ 140737488351232) (hb : b < n₀) (J Jx : List (Nat × Int) → World → Prop)
    (hY : ∀ pre x W, J pre W → pre.length < len → YieldAt F (n - 1) Try.prog l #[.int .i64 (x.1 : Int), .int .i64 x.2] W fun e W' =>
      (e = .returned (.bool true) ∧ J (pre ++ [x]) W' ∧ Bk.Kp n₀ Bs W W') ∨ (e = .returned (.bool false) ∧ Jx (pre ++ [x]) W'))
    (W : World) (hBs : W.cell? ⟨Bs, 0, none⟩ = some (.slice (some ⟨b, off, none⟩) len cap)) (hc : ∀ j, j < len → W.cell? ⟨b, off + j, none⟩ = some (.int .i64 (zs[j]?.getD 0))) (h0 : J [] W) :
    CallsIn F n Try.prog 39 #[.func (.yield l) #[] #[], .pointer (some ⟨Bs, 0, none⟩)] W fun e W' => (∃ v, e = .returned v) ∧
      ((∃ ys, ys = Bk.upto (fun j => (len - 1 - j, zs[len - 1 - j]?.getD 0)) len ∧ J ys W') ∨ (∃ pre, (∃ k, k ≤ len ∧ pre = Bk.upto (fun j => (len - 1 - j, zs[len - 1 - j]?.getD 0)) k) ∧ Jx pre W')) := by
  refine callsIn_of_wp Try.func39 rfl h39 ?_ hro
  simp only [Try.ntmps39, List.size_toArray, List.length_cons, List.length_nil, Nat.reduceAdd, Nat.reduceSub, Array.replicate_succ, Array.replicate_zero, List.push_toArray, List.append_toArray, List.nil_append, List.cons_append]
  gi_wp2
  gi_loopw [3] (fun i wr => ∃ r : Nat, r ≤ len ∧ i = .int .i64 ((r : Int) - 1) ∧ J (Bk.upto (fun j => (len - 1 - j, zs[len - 1 - j]?.getD 0)) (len - r)) wr ∧ Bk.Kp n₀ Bs W wr)
    (fun i _ => (intOf i + 1).toNat)
  case atStart => exact ⟨len, Nat.le_refl _, by simp, by simpa [Bk.upto] using h0, Bk.Kp.refl _ _ _⟩
  case round =>
    obtain ⟨r, hr, rfl, hJs, hnx⟩ := hrel
    have hbx : wr.cell? ⟨Bs, 0, none⟩ = some (.slice (some ⟨b, off, none⟩) len cap) := by rw [← hBs]; simp only [World.cell?, hnx.2]
    cases r with
    | zero =>
      gi_wp2
      go_end0
      exact ⟨⟨_, rfl⟩, .inl ⟨_, rfl, by simpa using hJs⟩⟩
    | succ r =>
      have hri : ((r + 1 : Nat) : Int) - 1 = (r : Int) := by omega
      rw [hri]
      have hcx : wr.cell? ⟨b, off + r, none⟩ = some (.int .i64 (zs[r]?.getD 0)) := (hnx.1.cell (p := ⟨b, off + r, none⟩) hb).trans (hc r (by omega))
      obtain ⟨fn, tmps, assign, body, hy, hR⟩ := hY _ (r, zs[r]?.getD 0) wr hJs (by rw [Bk.upto_length]; omega)
      dsimp only at hy
      have hstep : Bk.upto (fun j => (len - 1 - j, zs[len - 1 - j]?.getD 0)) (len - (r + 1)) ++ [(r, zs[r]?.getD 0)] = Bk.upto (fun j => (len - 1 - j, zs[len - 1 - j]?.getD 0)) (len - r) := by
        have e1 : len - r = (len - (r + 1)) + 1 := by omega
        rw [e1, Bk.upto_succ]
        have e2 : len - 1 - (len - (r + 1)) = r := by omega
        simp only [e2]
      gi_wp2
      refine hR.mono ?_
      rintro e W3 (⟨rfl, hJ3, hk3⟩ | ⟨rfl, hJx3⟩)
      · gi_wp2
        go_roundw
        case rel => exact ⟨r, by omega, by simp, by rw [← hstep]; exact hJ3, hnx.trans hk3⟩
        case measure => simp [intOf]
      · gi_wp2
        refine bodyPost_ret (results_none rfl _ _ _) rfl ?_
        exact ⟨⟨_, rfl⟩, .inr ⟨_, ⟨len - r, by omega, hstep⟩, hJx3⟩⟩

set_option maxRecDepth 100000 in
set_option maxHeartbeats 1000000 in
theorem Bk.back1_nil_in (F : Fence) (n : Nat) (h39 : F.fn 39) (hro : F.round = none) (l Bs : Nat) (J : List (Nat × Int) → World → Prop) (W : World) (hBs : W.cell? ⟨Bs, 0, none⟩ = some (.slice none 0 0)) (h0 : J [] W) :
    CallsIn F n Try.prog 39 #[.func (.yield l) #[] #[], .pointer (some ⟨Bs, 0, none⟩)] W fun e W' => (∃ v, e = .returned v) ∧ J [] W' := by
  refine callsIn_of_wp Try.func39 rfl h39 ?_ hro
  simp only [Try.ntmps39, List.size_toArray, List.length_cons, List.length_nil, Nat.reduceAdd, Nat.reduceSub, Array.replicate_succ, Array.replicate_zero, List.push_toArray, List.append_toArray, List.nil_append, List.cons_append]
  gi_wp2
  gi_loopw [3] (fun i wr => i = .int .i64 (-1) ∧ J [] wr) (fun _ _ => 0)
  case atStart => exact ⟨rfl, h0⟩
  case round =>
    obtain ⟨rfl, hJs⟩ := hrel
    gi_wp2
    go_end0
    exact ⟨⟨_, rfl⟩, hJs⟩

set_option maxHeartbeats 1000000 in
theorem Bk.back_in (F : Fence) (n : Nat) (h38 : F.fn 38) (hro : F.round = none) (a : Option Addr) (len cap : Nat) (w : World) :
    CallsIn F n Try.prog 38 #[.slice a len cap] w fun e w' => e = .returned (.func (.func 39) #[] #[.pointer (some ⟨w.heap.size, 0, none⟩)]) ∧ w' = w.alloc (.cells #[.slice a len cap] 38) := by
  refine callsIn_of_wp Try.func38 rfl h38 ?_ hro
  simp only [Try.ntmps38, List.size_toArray, List.length_cons, List.length_nil, Nat.reduceAdd, Nat.reduceSub, Array.replicate_succ, Array.replicate_zero, List.push_toArray, List.append_toArray, List.nil_append, List.cons_append]
  gi_wp2
  go_ret
  exact ⟨rfl, rfl⟩

/-- THE SLICE VALUE sv HOLDS THE ints zs, in a block below n₀; or it is nil and there are none. -/
def Bk.Ints (n₀ : Nat) (W : World) (sv : Value) (zs : List Int) : Prop :=
  (sv = .slice none 0 0 ∧ zs = []) ∨ ∃ b off cap, sv = .slice (some ⟨b, off, none⟩) zs.length cap ∧ b < n₀ ∧ ∀ j, j < zs.length → W.cell? ⟨b, off + j, none⟩ = some (.int .i64 (zs[j]?.getD 0))
theorem Bk.Ints.below {n₀ : Nat} {A B : World} (h : Below n₀ A B) {sv : Value} {zs : List Int} : Bk.Ints n₀ A sv zs → Bk.Ints n₀ B sv zs
  | .inl e => .inl e
  | .inr ⟨b, off, cap, e, hb, hc⟩ => .inr ⟨b, off, cap, e, hb, fun j hj => (h.cell (p := ⟨b, off + j, none⟩) hb).trans (hc j hj)⟩

theorem Bk.back_stops (F : Fence) (n : Nat) (h39 : F.fn 39) (hro : F.round = none) (hn : 1 ≤ n) (Bs n₀ : Nat) (sv : Value) (zs : List Int) (hreach : zs.length * 8 ≤ 140737488351232) (w : World) (hBs : Bs < w.heap.size) (hn₀ : n₀ ≤ w.heap.size)
    (hc : w.cell? ⟨Bs, 0, none⟩ = some sv) (hI : Bk.Ints n₀ w sv zs) :
    SeqStopsK F n Try.prog 39 #[.pointer (some ⟨Bs, 0, none⟩)] (fun x : Nat × Int => #[Value.int .i64 (x.1 : Int), Value.int .i64 x.2]) (Bk.Kp n₀ Bs) (fun ys => ys = Bk.upto (fun j => (zs.length - 1 - j, zs[zs.length - 1 - j]?.getD 0)) zs.length)
      (fun pre => ∃ k, k ≤ zs.length ∧ pre = Bk.upto (fun j => (zs.length - 1 - j, zs[zs.length - 1 - j]?.getD 0)) k) zs.length w := fun l J Jx W hW _ _ hY h0 => by
  have hc' := (hW.cell (p := ⟨Bs, 0, none⟩) hBs).trans hc
  rcases hI.below (hW.mono hn₀) with ⟨rfl, rfl⟩ | ⟨b, off, cap, rfl, hb, hcs⟩
  · exact (Bk.back1_nil_in F n h39 hro l Bs J W hc' h0).mono fun e W' ⟨he, hj⟩ => ⟨he, .inl ⟨_, rfl, hj⟩⟩
  · exact Bk.back1_in F n h39 hro hn l Bs n₀ b off zs.length cap zs hreach hb J Jx hY W hc' hcs h0
end Go.Proofs
