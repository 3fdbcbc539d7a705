/- Chapter 05: the runs of New, as contracts. -/
import Derived.Test.YtjnplnkbjmfgpaaAm05
import Derived.Test.YtjnplnkbjmfgpaaAmV5
import Derived.Test.YtjnplnkbjmfgpaaAmMemo2
set_option linter.unusedVariables false
set_option linter.unusedSimpArgs false
set_option linter.unusedSectionVars false
namespace Go.Am.C05
open Go Go.Am Go.Am.V
set_option maxRecDepth 1000000
theorem mix : Proofs.Try.prog.follows .mixedOrders = true := by kernel_rfl
theorem env5 : Env Proofs.Try.prog tab Y5 Yf5 where
  mix := mix
  good := good
  small := by kernel_rfl
  loc := Y5_loc
  sim := Y5_sim
  fast := Yf5_sim
  apart := by
    intro f fn h args m n
    show cond (Nat.beq f 37) (elemY m n args) .no = .no
    cases hb : Nat.beq f 37
    · rfl
    · obtain rfl := Nat.eq_of_beq_eq_true hb
      have h0 : look tab 37 = none := by kernel_rfl
      rw [h0] at h; cases h
def m24_2 : Memo := { f := 24, args := [.int .i64 (Int.ofNat 2)], rs := [.p 0 0, .i (Int.ofNat 0)], bs := [⟨[.i (Int.ofNat 2), .i (Int.ofNat 2), .s 1 0 2 4611686018427387904, .s 2 0 2 4611686018427387904], 0, false, true⟩,
  ⟨[.s 3 0 2 4611686018427387904, .s 4 0 2 4611686018427387904], 1, true, true⟩,
  ⟨[.s 5 0 2 4611686018427387904, .s 6 0 2 4611686018427387904], 1, true, true⟩,
  ⟨[.i (Int.ofNat 0), .i (Int.ofNat 1)], 1, true, true⟩,
  ⟨[.i (Int.ofNat 1), .i (Int.ofNat 0)], 1, true, true⟩,
  ⟨[.i (Int.ofNat 0), .i (Int.ofNat 0)], 1, true, true⟩,
  ⟨[.i (Int.ofNat 0), .i (Int.ofNat 1)], 1, true, true⟩], pi := [10, 32, 34, 16, 28, 18, 30] }
def m24_3 : Memo := { f := 24, args := [.int .i64 (Int.ofNat 3)], rs := [.p 0 0, .i (Int.ofNat 0)], bs := [⟨[.i (Int.ofNat 3), .i (Int.ofNat 3), .s 1 0 3 4611686018427387904, .s 2 0 3 4611686018427387904], 0, false, true⟩,
  ⟨[.s 3 0 3 4611686018427387904, .s 4 0 3 4611686018427387904, .s 5 0 3 4611686018427387904], 1, true, true⟩,
  ⟨[.s 6 0 3 4611686018427387904, .s 7 0 3 4611686018427387904, .s 8 0 3 4611686018427387904], 1, true, true⟩,
  ⟨[.i (Int.ofNat 0), .i (Int.ofNat 1), .i (Int.ofNat 2)], 1, true, true⟩,
  ⟨[.i (Int.ofNat 1), .i (Int.ofNat 2), .i (Int.ofNat 0)], 1, true, true⟩,
  ⟨[.i (Int.ofNat 2), .i (Int.ofNat 0), .i (Int.ofNat 1)], 1, true, true⟩,
  ⟨[.i (Int.ofNat 0), .i (Int.ofNat 0), .i (Int.ofNat 0)], 1, true, true⟩,
  ⟨[.i (Int.ofNat 0), .i (Int.ofNat 1), .i (Int.ofNat 2)], 1, true, true⟩,
  ⟨[.i (Int.ofNat 0), .i (Int.ofNat 2), .i (Int.ofNat 1)], 1, true, true⟩], pi := [10, 56, 58, 20, 36, 52, 22, 38, 54] }
def m24_4 : Memo := { f := 24, args := [.int .i64 (Int.ofNat 4)], rs := [.p 0 0, .i (Int.ofNat 0)], bs := [⟨[.i (Int.ofNat 4), .i (Int.ofNat 2), .s 1 0 4 4611686018427387904, .s 2 0 4 4611686018427387904], 0, false, true⟩,
  ⟨[.s 3 0 4 4611686018427387904, .s 4 0 4 4611686018427387904, .s 5 0 4 4611686018427387904, .s 6 0 4 4611686018427387904], 1, true, true⟩,
  ⟨[.s 7 0 4 4611686018427387904, .s 8 0 4 4611686018427387904, .s 9 0 4 4611686018427387904, .s 10 0 4 4611686018427387904], 1, true, true⟩,
  ⟨[.i (Int.ofNat 0), .i (Int.ofNat 1), .i (Int.ofNat 2), .i (Int.ofNat 3)], 1, true, true⟩,
  ⟨[.i (Int.ofNat 1), .i (Int.ofNat 0), .i (Int.ofNat 3), .i (Int.ofNat 2)], 1, true, true⟩,
  ⟨[.i (Int.ofNat 2), .i (Int.ofNat 3), .i (Int.ofNat 0), .i (Int.ofNat 1)], 1, true, true⟩,
  ⟨[.i (Int.ofNat 3), .i (Int.ofNat 2), .i (Int.ofNat 1), .i (Int.ofNat 0)], 1, true, true⟩,
  ⟨[.i (Int.ofNat 0), .i (Int.ofNat 0), .i (Int.ofNat 0), .i (Int.ofNat 0)], 1, true, true⟩,
  ⟨[.i (Int.ofNat 0), .i (Int.ofNat 1), .i (Int.ofNat 2), .i (Int.ofNat 3)], 1, true, true⟩,
  ⟨[.i (Int.ofNat 0), .i (Int.ofNat 2), .i (Int.ofNat 3), .i (Int.ofNat 1)], 1, true, true⟩,
  ⟨[.i (Int.ofNat 0), .i (Int.ofNat 3), .i (Int.ofNat 1), .i (Int.ofNat 2)], 1, true, true⟩], pi := [10, 88, 90, 24, 44, 64, 84, 26, 46, 66, 86] }
def m24_5 : Memo := { f := 24, args := [.int .i64 (Int.ofNat 5)], rs := [.p 0 0, .i (Int.ofNat 0)], bs := [⟨[.i (Int.ofNat 5), .i (Int.ofNat 5), .s 1 0 5 4611686018427387904, .s 2 0 5 4611686018427387904], 0, false, true⟩,
  ⟨[.s 3 0 5 4611686018427387904, .s 4 0 5 4611686018427387904, .s 5 0 5 4611686018427387904, .s 6 0 5 4611686018427387904, .s 7 0 5 4611686018427387904], 1, true, true⟩,
  ⟨[.s 8 0 5 4611686018427387904, .s 9 0 5 4611686018427387904, .s 10 0 5 4611686018427387904, .s 11 0 5 4611686018427387904, .s 12 0 5 4611686018427387904], 1, true, true⟩,
  ⟨[.i (Int.ofNat 0), .i (Int.ofNat 1), .i (Int.ofNat 2), .i (Int.ofNat 3), .i (Int.ofNat 4)], 1, true, true⟩,
  ⟨[.i (Int.ofNat 1), .i (Int.ofNat 2), .i (Int.ofNat 3), .i (Int.ofNat 4), .i (Int.ofNat 0)], 1, true, true⟩,
  ⟨[.i (Int.ofNat 2), .i (Int.ofNat 3), .i (Int.ofNat 4), .i (Int.ofNat 0), .i (Int.ofNat 1)], 1, true, true⟩,
  ⟨[.i (Int.ofNat 3), .i (Int.ofNat 4), .i (Int.ofNat 0), .i (Int.ofNat 1), .i (Int.ofNat 2)], 1, true, true⟩,
  ⟨[.i (Int.ofNat 4), .i (Int.ofNat 0), .i (Int.ofNat 1), .i (Int.ofNat 2), .i (Int.ofNat 3)], 1, true, true⟩,
  ⟨[.i (Int.ofNat 0), .i (Int.ofNat 0), .i (Int.ofNat 0), .i (Int.ofNat 0), .i (Int.ofNat 0)], 1, true, true⟩,
  ⟨[.i (Int.ofNat 0), .i (Int.ofNat 1), .i (Int.ofNat 2), .i (Int.ofNat 3), .i (Int.ofNat 4)], 1, true, true⟩,
  ⟨[.i (Int.ofNat 0), .i (Int.ofNat 2), .i (Int.ofNat 4), .i (Int.ofNat 1), .i (Int.ofNat 3)], 1, true, true⟩,
  ⟨[.i (Int.ofNat 0), .i (Int.ofNat 3), .i (Int.ofNat 1), .i (Int.ofNat 4), .i (Int.ofNat 2)], 1, true, true⟩,
  ⟨[.i (Int.ofNat 0), .i (Int.ofNat 4), .i (Int.ofNat 3), .i (Int.ofNat 2), .i (Int.ofNat 1)], 1, true, true⟩], pi := [10, 128, 130, 28, 52, 76, 100, 124, 30, 54, 78, 102, 126] }
def m24_7 : Memo := { f := 24, args := [.int .i64 (Int.ofNat 7)], rs := [.p 0 0, .i (Int.ofNat 0)], bs := [⟨[.i (Int.ofNat 7), .i (Int.ofNat 7), .s 1 0 7 4611686018427387904, .s 2 0 7 4611686018427387904], 0, false, true⟩,
  ⟨[.s 3 0 7 4611686018427387904, .s 4 0 7 4611686018427387904, .s 5 0 7 4611686018427387904, .s 6 0 7 4611686018427387904, .s 7 0 7 4611686018427387904, .s 8 0 7 4611686018427387904, .s 9 0 7 4611686018427387904], 1, true, true⟩,
  ⟨[.s 10 0 7 4611686018427387904, .s 11 0 7 4611686018427387904, .s 12 0 7 4611686018427387904, .s 13 0 7 4611686018427387904, .s 14 0 7 4611686018427387904, .s 15 0 7 4611686018427387904, .s 16 0 7 4611686018427387904], 1, true, true⟩,
  ⟨[.i (Int.ofNat 0), .i (Int.ofNat 1), .i (Int.ofNat 2), .i (Int.ofNat 3), .i (Int.ofNat 4), .i (Int.ofNat 5), .i (Int.ofNat 6)], 1, true, true⟩,
  ⟨[.i (Int.ofNat 1), .i (Int.ofNat 2), .i (Int.ofNat 3), .i (Int.ofNat 4), .i (Int.ofNat 5), .i (Int.ofNat 6), .i (Int.ofNat 0)], 1, true, true⟩,
  ⟨[.i (Int.ofNat 2), .i (Int.ofNat 3), .i (Int.ofNat 4), .i (Int.ofNat 5), .i (Int.ofNat 6), .i (Int.ofNat 0), .i (Int.ofNat 1)], 1, true, true⟩,
  ⟨[.i (Int.ofNat 3), .i (Int.ofNat 4), .i (Int.ofNat 5), .i (Int.ofNat 6), .i (Int.ofNat 0), .i (Int.ofNat 1), .i (Int.ofNat 2)], 1, true, true⟩,
  ⟨[.i (Int.ofNat 4), .i (Int.ofNat 5), .i (Int.ofNat 6), .i (Int.ofNat 0), .i (Int.ofNat 1), .i (Int.ofNat 2), .i (Int.ofNat 3)], 1, true, true⟩,
  ⟨[.i (Int.ofNat 5), .i (Int.ofNat 6), .i (Int.ofNat 0), .i (Int.ofNat 1), .i (Int.ofNat 2), .i (Int.ofNat 3), .i (Int.ofNat 4)], 1, true, true⟩,
  ⟨[.i (Int.ofNat 6), .i (Int.ofNat 0), .i (Int.ofNat 1), .i (Int.ofNat 2), .i (Int.ofNat 3), .i (Int.ofNat 4), .i (Int.ofNat 5)], 1, true, true⟩,
  ⟨[.i (Int.ofNat 0), .i (Int.ofNat 0), .i (Int.ofNat 0), .i (Int.ofNat 0), .i (Int.ofNat 0), .i (Int.ofNat 0), .i (Int.ofNat 0)], 1, true, true⟩,
  ⟨[.i (Int.ofNat 0), .i (Int.ofNat 1), .i (Int.ofNat 2), .i (Int.ofNat 3), .i (Int.ofNat 4), .i (Int.ofNat 5), .i (Int.ofNat 6)], 1, true, true⟩,
  ⟨[.i (Int.ofNat 0), .i (Int.ofNat 2), .i (Int.ofNat 4), .i (Int.ofNat 6), .i (Int.ofNat 1), .i (Int.ofNat 3), .i (Int.ofNat 5)], 1, true, true⟩,
  ⟨[.i (Int.ofNat 0), .i (Int.ofNat 3), .i (Int.ofNat 6), .i (Int.ofNat 2), .i (Int.ofNat 5), .i (Int.ofNat 1), .i (Int.ofNat 4)], 1, true, true⟩,
  ⟨[.i (Int.ofNat 0), .i (Int.ofNat 4), .i (Int.ofNat 1), .i (Int.ofNat 5), .i (Int.ofNat 2), .i (Int.ofNat 6), .i (Int.ofNat 3)], 1, true, true⟩,
  ⟨[.i (Int.ofNat 0), .i (Int.ofNat 5), .i (Int.ofNat 3), .i (Int.ofNat 1), .i (Int.ofNat 6), .i (Int.ofNat 4), .i (Int.ofNat 2)], 1, true, true⟩,
  ⟨[.i (Int.ofNat 0), .i (Int.ofNat 6), .i (Int.ofNat 5), .i (Int.ofNat 4), .i (Int.ofNat 3), .i (Int.ofNat 2), .i (Int.ofNat 1)], 1, true, true⟩], pi := [10, 232, 234, 36, 68, 100, 132, 164, 196, 228, 38, 70, 102, 134, 166, 198, 230] }
def m24_8 : Memo := { f := 24, args := [.int .i64 (Int.ofNat 8)], rs := [.p 0 0, .i (Int.ofNat 0)], bs := [⟨[.i (Int.ofNat 8), .i (Int.ofNat 2), .s 1 0 8 4611686018427387904, .s 2 0 8 4611686018427387904], 0, false, true⟩,
  ⟨[.s 3 0 8 4611686018427387904, .s 4 0 8 4611686018427387904, .s 5 0 8 4611686018427387904, .s 6 0 8 4611686018427387904, .s 7 0 8 4611686018427387904, .s 8 0 8 4611686018427387904, .s 9 0 8 4611686018427387904, .s 10 0 8 4611686018427387904], 1, true, true⟩,
  ⟨[.s 11 0 8 4611686018427387904, .s 12 0 8 4611686018427387904, .s 13 0 8 4611686018427387904, .s 14 0 8 4611686018427387904, .s 15 0 8 4611686018427387904, .s 16 0 8 4611686018427387904, .s 17 0 8 4611686018427387904, .s 18 0 8 4611686018427387904], 1, true, true⟩,
  ⟨[.i (Int.ofNat 0), .i (Int.ofNat 1), .i (Int.ofNat 2), .i (Int.ofNat 3), .i (Int.ofNat 4), .i (Int.ofNat 5), .i (Int.ofNat 6), .i (Int.ofNat 7)], 1, true, true⟩,
  ⟨[.i (Int.ofNat 1), .i (Int.ofNat 0), .i (Int.ofNat 3), .i (Int.ofNat 2), .i (Int.ofNat 5), .i (Int.ofNat 4), .i (Int.ofNat 7), .i (Int.ofNat 6)], 1, true, true⟩,
  ⟨[.i (Int.ofNat 2), .i (Int.ofNat 3), .i (Int.ofNat 0), .i (Int.ofNat 1), .i (Int.ofNat 6), .i (Int.ofNat 7), .i (Int.ofNat 4), .i (Int.ofNat 5)], 1, true, true⟩,
  ⟨[.i (Int.ofNat 3), .i (Int.ofNat 2), .i (Int.ofNat 1), .i (Int.ofNat 0), .i (Int.ofNat 7), .i (Int.ofNat 6), .i (Int.ofNat 5), .i (Int.ofNat 4)], 1, true, true⟩,
  ⟨[.i (Int.ofNat 4), .i (Int.ofNat 5), .i (Int.ofNat 6), .i (Int.ofNat 7), .i (Int.ofNat 0), .i (Int.ofNat 1), .i (Int.ofNat 2), .i (Int.ofNat 3)], 1, true, true⟩,
  ⟨[.i (Int.ofNat 5), .i (Int.ofNat 4), .i (Int.ofNat 7), .i (Int.ofNat 6), .i (Int.ofNat 1), .i (Int.ofNat 0), .i (Int.ofNat 3), .i (Int.ofNat 2)], 1, true, true⟩,
  ⟨[.i (Int.ofNat 6), .i (Int.ofNat 7), .i (Int.ofNat 4), .i (Int.ofNat 5), .i (Int.ofNat 2), .i (Int.ofNat 3), .i (Int.ofNat 0), .i (Int.ofNat 1)], 1, true, true⟩,
  ⟨[.i (Int.ofNat 7), .i (Int.ofNat 6), .i (Int.ofNat 5), .i (Int.ofNat 4), .i (Int.ofNat 3), .i (Int.ofNat 2), .i (Int.ofNat 1), .i (Int.ofNat 0)], 1, true, true⟩,
  ⟨[.i (Int.ofNat 0), .i (Int.ofNat 0), .i (Int.ofNat 0), .i (Int.ofNat 0), .i (Int.ofNat 0), .i (Int.ofNat 0), .i (Int.ofNat 0), .i (Int.ofNat 0)], 1, true, true⟩,
  ⟨[.i (Int.ofNat 0), .i (Int.ofNat 1), .i (Int.ofNat 2), .i (Int.ofNat 3), .i (Int.ofNat 4), .i (Int.ofNat 5), .i (Int.ofNat 6), .i (Int.ofNat 7)], 1, true, true⟩,
  ⟨[.i (Int.ofNat 0), .i (Int.ofNat 2), .i (Int.ofNat 4), .i (Int.ofNat 6), .i (Int.ofNat 3), .i (Int.ofNat 1), .i (Int.ofNat 7), .i (Int.ofNat 5)], 1, true, true⟩,
  ⟨[.i (Int.ofNat 0), .i (Int.ofNat 3), .i (Int.ofNat 6), .i (Int.ofNat 5), .i (Int.ofNat 7), .i (Int.ofNat 4), .i (Int.ofNat 1), .i (Int.ofNat 2)], 1, true, true⟩,
  ⟨[.i (Int.ofNat 0), .i (Int.ofNat 4), .i (Int.ofNat 3), .i (Int.ofNat 7), .i (Int.ofNat 6), .i (Int.ofNat 2), .i (Int.ofNat 5), .i (Int.ofNat 1)], 1, true, true⟩,
  ⟨[.i (Int.ofNat 0), .i (Int.ofNat 5), .i (Int.ofNat 1), .i (Int.ofNat 4), .i (Int.ofNat 2), .i (Int.ofNat 7), .i (Int.ofNat 3), .i (Int.ofNat 6)], 1, true, true⟩,
  ⟨[.i (Int.ofNat 0), .i (Int.ofNat 6), .i (Int.ofNat 7), .i (Int.ofNat 1), .i (Int.ofNat 5), .i (Int.ofNat 3), .i (Int.ofNat 2), .i (Int.ofNat 4)], 1, true, true⟩,
  ⟨[.i (Int.ofNat 0), .i (Int.ofNat 7), .i (Int.ofNat 5), .i (Int.ofNat 2), .i (Int.ofNat 1), .i (Int.ofNat 6), .i (Int.ofNat 4), .i (Int.ofNat 3)], 1, true, true⟩], pi := [10, 296, 298, 40, 76, 112, 148, 184, 220, 256, 292, 42, 78, 114, 150, 186, 222, 258, 294] }
def m24_9 : Memo := { f := 24, args := [.int .i64 (Int.ofNat 9)], rs := [.p 0 0, .i (Int.ofNat 0)], bs := [⟨[.i (Int.ofNat 9), .i (Int.ofNat 3), .s 1 0 9 4611686018427387904, .s 2 0 9 4611686018427387904], 0, false, true⟩,
  ⟨[.s 3 0 9 4611686018427387904, .s 4 0 9 4611686018427387904, .s 5 0 9 4611686018427387904, .s 6 0 9 4611686018427387904, .s 7 0 9 4611686018427387904, .s 8 0 9 4611686018427387904, .s 9 0 9 4611686018427387904, .s 10 0 9 4611686018427387904, .s 11 0 9 4611686018427387904], 1, true, true⟩,
  ⟨[.s 12 0 9 4611686018427387904, .s 13 0 9 4611686018427387904, .s 14 0 9 4611686018427387904, .s 15 0 9 4611686018427387904, .s 16 0 9 4611686018427387904, .s 17 0 9 4611686018427387904, .s 18 0 9 4611686018427387904, .s 19 0 9 4611686018427387904, .s 20 0 9 4611686018427387904], 1, true, true⟩,
  ⟨[.i (Int.ofNat 0), .i (Int.ofNat 1), .i (Int.ofNat 2), .i (Int.ofNat 3), .i (Int.ofNat 4), .i (Int.ofNat 5), .i (Int.ofNat 6), .i (Int.ofNat 7), .i (Int.ofNat 8)], 1, true, true⟩,
  ⟨[.i (Int.ofNat 1), .i (Int.ofNat 2), .i (Int.ofNat 0), .i (Int.ofNat 4), .i (Int.ofNat 5), .i (Int.ofNat 3), .i (Int.ofNat 7), .i (Int.ofNat 8), .i (Int.ofNat 6)], 1, true, true⟩,
  ⟨[.i (Int.ofNat 2), .i (Int.ofNat 0), .i (Int.ofNat 1), .i (Int.ofNat 5), .i (Int.ofNat 3), .i (Int.ofNat 4), .i (Int.ofNat 8), .i (Int.ofNat 6), .i (Int.ofNat 7)], 1, true, true⟩,
  ⟨[.i (Int.ofNat 3), .i (Int.ofNat 4), .i (Int.ofNat 5), .i (Int.ofNat 6), .i (Int.ofNat 7), .i (Int.ofNat 8), .i (Int.ofNat 0), .i (Int.ofNat 1), .i (Int.ofNat 2)], 1, true, true⟩,
  ⟨[.i (Int.ofNat 4), .i (Int.ofNat 5), .i (Int.ofNat 3), .i (Int.ofNat 7), .i (Int.ofNat 8), .i (Int.ofNat 6), .i (Int.ofNat 1), .i (Int.ofNat 2), .i (Int.ofNat 0)], 1, true, true⟩,
  ⟨[.i (Int.ofNat 5), .i (Int.ofNat 3), .i (Int.ofNat 4), .i (Int.ofNat 8), .i (Int.ofNat 6), .i (Int.ofNat 7), .i (Int.ofNat 2), .i (Int.ofNat 0), .i (Int.ofNat 1)], 1, true, true⟩,
  ⟨[.i (Int.ofNat 6), .i (Int.ofNat 7), .i (Int.ofNat 8), .i (Int.ofNat 0), .i (Int.ofNat 1), .i (Int.ofNat 2), .i (Int.ofNat 3), .i (Int.ofNat 4), .i (Int.ofNat 5)], 1, true, true⟩,
  ⟨[.i (Int.ofNat 7), .i (Int.ofNat 8), .i (Int.ofNat 6), .i (Int.ofNat 1), .i (Int.ofNat 2), .i (Int.ofNat 0), .i (Int.ofNat 4), .i (Int.ofNat 5), .i (Int.ofNat 3)], 1, true, true⟩,
  ⟨[.i (Int.ofNat 8), .i (Int.ofNat 6), .i (Int.ofNat 7), .i (Int.ofNat 2), .i (Int.ofNat 0), .i (Int.ofNat 1), .i (Int.ofNat 5), .i (Int.ofNat 3), .i (Int.ofNat 4)], 1, true, true⟩,
  ⟨[.i (Int.ofNat 0), .i (Int.ofNat 0), .i (Int.ofNat 0), .i (Int.ofNat 0), .i (Int.ofNat 0), .i (Int.ofNat 0), .i (Int.ofNat 0), .i (Int.ofNat 0), .i (Int.ofNat 0)], 1, true, true⟩,
  ⟨[.i (Int.ofNat 0), .i (Int.ofNat 1), .i (Int.ofNat 2), .i (Int.ofNat 3), .i (Int.ofNat 4), .i (Int.ofNat 5), .i (Int.ofNat 6), .i (Int.ofNat 7), .i (Int.ofNat 8)], 1, true, true⟩,
  ⟨[.i (Int.ofNat 0), .i (Int.ofNat 2), .i (Int.ofNat 1), .i (Int.ofNat 6), .i (Int.ofNat 8), .i (Int.ofNat 7), .i (Int.ofNat 3), .i (Int.ofNat 5), .i (Int.ofNat 4)], 1, true, true⟩,
  ⟨[.i (Int.ofNat 0), .i (Int.ofNat 3), .i (Int.ofNat 6), .i (Int.ofNat 2), .i (Int.ofNat 5), .i (Int.ofNat 8), .i (Int.ofNat 1), .i (Int.ofNat 4), .i (Int.ofNat 7)], 1, true, true⟩,
  ⟨[.i (Int.ofNat 0), .i (Int.ofNat 4), .i (Int.ofNat 8), .i (Int.ofNat 5), .i (Int.ofNat 6), .i (Int.ofNat 1), .i (Int.ofNat 7), .i (Int.ofNat 2), .i (Int.ofNat 3)], 1, true, true⟩,
  ⟨[.i (Int.ofNat 0), .i (Int.ofNat 5), .i (Int.ofNat 7), .i (Int.ofNat 8), .i (Int.ofNat 1), .i (Int.ofNat 3), .i (Int.ofNat 4), .i (Int.ofNat 6), .i (Int.ofNat 2)], 1, true, true⟩,
  ⟨[.i (Int.ofNat 0), .i (Int.ofNat 6), .i (Int.ofNat 3), .i (Int.ofNat 1), .i (Int.ofNat 7), .i (Int.ofNat 4), .i (Int.ofNat 2), .i (Int.ofNat 8), .i (Int.ofNat 5)], 1, true, true⟩,
  ⟨[.i (Int.ofNat 0), .i (Int.ofNat 7), .i (Int.ofNat 5), .i (Int.ofNat 4), .i (Int.ofNat 2), .i (Int.ofNat 6), .i (Int.ofNat 8), .i (Int.ofNat 3), .i (Int.ofNat 1)], 1, true, true⟩,
  ⟨[.i (Int.ofNat 0), .i (Int.ofNat 8), .i (Int.ofNat 4), .i (Int.ofNat 7), .i (Int.ofNat 3), .i (Int.ofNat 2), .i (Int.ofNat 5), .i (Int.ofNat 1), .i (Int.ofNat 6)], 1, true, true⟩], pi := [10, 368, 370, 44, 84, 124, 164, 204, 244, 284, 324, 364, 46, 86, 126, 166, 206, 246, 286, 326, 366] }
theorem fit2 : fitsB m24_2 (fcall Proofs.Try.prog (Fast.treeOf tab) Yf5 5000 6 24 [.i (Int.ofNat 2)] [] 0) = true := by kernel_rfl
theorem sim2 : CallSim Proofs.Try.prog (memoA m24_2) := env5.memo (M := m24_2) (fargs := [.i (Int.ofNat 2)]) rfl rfl fit2
theorem fit3 : fitsB m24_3 (fcall Proofs.Try.prog (Fast.treeOf tab) Yf5 5000 6 24 [.i (Int.ofNat 3)] [] 0) = true := by kernel_rfl
theorem sim3 : CallSim Proofs.Try.prog (memoA m24_3) := env5.memo (M := m24_3) (fargs := [.i (Int.ofNat 3)]) rfl rfl fit3
theorem fit4 : fitsB m24_4 (fcall Proofs.Try.prog (Fast.treeOf tab) Yf5 5000 6 24 [.i (Int.ofNat 4)] [] 0) = true := by kernel_rfl
theorem sim4 : CallSim Proofs.Try.prog (memoA m24_4) := env5.memo (M := m24_4) (fargs := [.i (Int.ofNat 4)]) rfl rfl fit4
theorem fit5 : fitsB m24_5 (fcall Proofs.Try.prog (Fast.treeOf tab) Yf5 5000 6 24 [.i (Int.ofNat 5)] [] 0) = true := by kernel_rfl
theorem sim5 : CallSim Proofs.Try.prog (memoA m24_5) := env5.memo (M := m24_5) (fargs := [.i (Int.ofNat 5)]) rfl rfl fit5
theorem fit7 : fitsB m24_7 (fcall Proofs.Try.prog (Fast.treeOf tab) Yf5 5000 6 24 [.i (Int.ofNat 7)] [] 0) = true := by kernel_rfl
theorem sim7 : CallSim Proofs.Try.prog (memoA m24_7) := env5.memo (M := m24_7) (fargs := [.i (Int.ofNat 7)]) rfl rfl fit7
theorem fit8 : fitsB m24_8 (fcall Proofs.Try.prog (Fast.treeOf tab) Yf5 5000 6 24 [.i (Int.ofNat 8)] [] 0) = true := by kernel_rfl
theorem sim8 : CallSim Proofs.Try.prog (memoA m24_8) := env5.memo (M := m24_8) (fargs := [.i (Int.ofNat 8)]) rfl rfl fit8
theorem fit9 : fitsB m24_9 (fcall Proofs.Try.prog (Fast.treeOf tab) Yf5 5000 6 24 [.i (Int.ofNat 9)] [] 0) = true := by kernel_rfl
theorem sim9 : CallSim Proofs.Try.prog (memoA m24_9) := env5.memo (M := m24_9) (fargs := [.i (Int.ofNat 9)]) rfl rfl fit9
end Go.Am.C05
