/- Chapter 05: SmallfieldTables. -/
import Derived.Test.YtjnplnkbjmfgpaaAm05d
set_option linter.unusedVariables false
set_option linter.unusedSimpArgs false
set_option linter.unusedSectionVars false
namespace Go.Am.C05
open Go Go.Am Go.Am.V Go.Am.Fast Go.RowKit
set_option maxRecDepth 1000000
noncomputable def retTA (x : CR FM) : Bool := CR.rec (motive := fun _ => Bool) false (fun X _ _ _ _ _ => AX.rec (motive := fun _ => Bool) false (fun _ => false) isT X) x
theorem retTA_run {k : Nat} {c : AC} {e : List Value} {m : FM} {n : Nat} (h : retTA (exec Proofs.Try.prog (look tabD) YD k c e m n) = true) : ∃ e' m' n', RunD c e m n (.ret (.bool true)) e' m' n' := by
  cases hx : exec Proofs.Try.prog (look tabD) YD k c e m n with
  | no => rw [hx] at h; cases h
  | ok X e' m' n' r w =>
    rw [hx] at h
    cases X with
    | ret v =>
      rw [isT_eq (v := v) h] at hx
      exact ⟨_, _, _, k, r, w, hx⟩
    | norm => cases h
    | exit i => cases h
noncomputable abbrev tR : AC := rgt (rgt (rgt ac5.code))
noncomputable abbrev tE (r z : Nat) (a b : Int) : List Value := .bool true :: .int .i64 (Int.ofNat (fQ r)) :: .pointer (some ⟨0 + 0, 0, none⟩) :: [.bool false, .bool false, .int .u8 (Int.ofNat z), .int .i64 a, .int .i64 b]
noncomputable abbrev tM (r : Nat) : FM := layA (fun b => 0 + b) (fB r) 0 FM0
noncomputable abbrev tX (r z : Nat) (a b : Int) : Bool := retTA (exec Proofs.Try.prog (look tabD) YD 400 tR (tE r z a b) (tM r) (0 + (fB r).length))
theorem t_aneg0 (z x : Nat) (b : Int) : tX 0 z (Int.negSucc x) b = true := by kernel_rfl
theorem t_abig0 (z x : Nat) (b : Int) : tX 0 z (Int.ofNat (x + 2)) b = true := by kernel_rfl
theorem t_bneg0 (z x : Nat) : allLt 2 (fun a => tX 0 z (Int.ofNat a) (Int.negSucc x)) = true := by kernel_rfl
theorem t_bbig0 (z x : Nat) : allLt 2 (fun a => tX 0 z (Int.ofNat a) (Int.ofNat (x + 2))) = true := by kernel_rfl
theorem t_in0 (z : Nat) : (allLt 2 fun a => allLt 2 fun b => retT (fexecK Proofs.Try.prog (fcalD Proofs.Try.prog (lookT (treeOf tabD)) (memosF memsC Yf5) 5000 6) 5000 tR [.b true, .i (Int.ofNat (fQ 0)), .p 0 0, .b false, .b false, fe8 z, .i (Int.ofNat a), .i (Int.ofNat b)] (layF (fun b => 0 + b) (fB 0) []) (0 + plen (fB 0)))) = true := by kernel_rfl
theorem t_run0 (z : Nat) (a b : Int) : ∃ e' m' n', RunD tR (tE 0 z a b) (tM 0) (0 + (fB 0).length) (.ret (.bool true)) e' m' n' := by
  cases a with
  | negSucc x => exact retTA_run (t_aneg0 z x b)
  | ofNat a =>
    by_cases ha : a < 2
    · cases b with
      | negSucc x => exact retTA_run (allLt_get (t_bneg0 z x) a ha)
      | ofNat b =>
        by_cases hb : b < 2
        · exact rest_at (fm := []) (n := 0) rfl (absM_nil 0) rfl (allLt_get (allLt_get (t_in0 z) a ha) b hb)
        · have e : b = (b - 2) + 2 := by omega
          rw [e]
          exact retTA_run (allLt_get (t_bbig0 z (b - 2)) a ha)
    · have e : a = (a - 2) + 2 := by omega
      rw [e]
      exact retTA_run (t_abig0 z (a - 2) b)
theorem t_aneg1 (z x : Nat) (b : Int) : tX 1 z (Int.negSucc x) b = true := by kernel_rfl
theorem t_abig1 (z x : Nat) (b : Int) : tX 1 z (Int.ofNat (x + 3)) b = true := by kernel_rfl
theorem t_bneg1 (z x : Nat) : allLt 3 (fun a => tX 1 z (Int.ofNat a) (Int.negSucc x)) = true := by kernel_rfl
theorem t_bbig1 (z x : Nat) : allLt 3 (fun a => tX 1 z (Int.ofNat a) (Int.ofNat (x + 3))) = true := by kernel_rfl
theorem t_in1 (z : Nat) : (allLt 3 fun a => allLt 3 fun b => retT (fexecK Proofs.Try.prog (fcalD Proofs.Try.prog (lookT (treeOf tabD)) (memosF memsC Yf5) 5000 6) 5000 tR [.b true, .i (Int.ofNat (fQ 1)), .p 0 0, .b false, .b false, fe8 z, .i (Int.ofNat a), .i (Int.ofNat b)] (layF (fun b => 0 + b) (fB 1) []) (0 + plen (fB 1)))) = true := by kernel_rfl
theorem t_run1 (z : Nat) (a b : Int) : ∃ e' m' n', RunD tR (tE 1 z a b) (tM 1) (0 + (fB 1).length) (.ret (.bool true)) e' m' n' := by
  cases a with
  | negSucc x => exact retTA_run (t_aneg1 z x b)
  | ofNat a =>
    by_cases ha : a < 3
    · cases b with
      | negSucc x => exact retTA_run (allLt_get (t_bneg1 z x) a ha)
      | ofNat b =>
        by_cases hb : b < 3
        · exact rest_at (fm := []) (n := 0) rfl (absM_nil 0) rfl (allLt_get (allLt_get (t_in1 z) a ha) b hb)
        · have e : b = (b - 3) + 3 := by omega
          rw [e]
          exact retTA_run (allLt_get (t_bbig1 z (b - 3)) a ha)
    · have e : a = (a - 3) + 3 := by omega
      rw [e]
      exact retTA_run (t_abig1 z (a - 3) b)
theorem t_aneg2 (z x : Nat) (b : Int) : tX 2 z (Int.negSucc x) b = true := by kernel_rfl
theorem t_abig2 (z x : Nat) (b : Int) : tX 2 z (Int.ofNat (x + 4)) b = true := by kernel_rfl
theorem t_bneg2 (z x : Nat) : allLt 4 (fun a => tX 2 z (Int.ofNat a) (Int.negSucc x)) = true := by kernel_rfl
theorem t_bbig2 (z x : Nat) : allLt 4 (fun a => tX 2 z (Int.ofNat a) (Int.ofNat (x + 4))) = true := by kernel_rfl
theorem t_in2 (z : Nat) : (allLt 4 fun a => allLt 4 fun b => retT (fexecK Proofs.Try.prog (fcalD Proofs.Try.prog (lookT (treeOf tabD)) (memosF memsC Yf5) 5000 6) 5000 tR [.b true, .i (Int.ofNat (fQ 2)), .p 0 0, .b false, .b false, fe8 z, .i (Int.ofNat a), .i (Int.ofNat b)] (layF (fun b => 0 + b) (fB 2) []) (0 + plen (fB 2)))) = true := by kernel_rfl
theorem t_run2 (z : Nat) (a b : Int) : ∃ e' m' n', RunD tR (tE 2 z a b) (tM 2) (0 + (fB 2).length) (.ret (.bool true)) e' m' n' := by
  cases a with
  | negSucc x => exact retTA_run (t_aneg2 z x b)
  | ofNat a =>
    by_cases ha : a < 4
    · cases b with
      | negSucc x => exact retTA_run (allLt_get (t_bneg2 z x) a ha)
      | ofNat b =>
        by_cases hb : b < 4
        · exact rest_at (fm := []) (n := 0) rfl (absM_nil 0) rfl (allLt_get (allLt_get (t_in2 z) a ha) b hb)
        · have e : b = (b - 4) + 4 := by omega
          rw [e]
          exact retTA_run (allLt_get (t_bbig2 z (b - 4)) a ha)
    · have e : a = (a - 4) + 4 := by omega
      rw [e]
      exact retTA_run (t_abig2 z (a - 4) b)
theorem t_aneg3 (z x : Nat) (b : Int) : tX 3 z (Int.negSucc x) b = true := by kernel_rfl
theorem t_abig3 (z x : Nat) (b : Int) : tX 3 z (Int.ofNat (x + 5)) b = true := by kernel_rfl
theorem t_bneg3 (z x : Nat) : allLt 5 (fun a => tX 3 z (Int.ofNat a) (Int.negSucc x)) = true := by kernel_rfl
theorem t_bbig3 (z x : Nat) : allLt 5 (fun a => tX 3 z (Int.ofNat a) (Int.ofNat (x + 5))) = true := by kernel_rfl
theorem t_in3 (z : Nat) : (allLt 5 fun a => allLt 5 fun b => retT (fexecK Proofs.Try.prog (fcalD Proofs.Try.prog (lookT (treeOf tabD)) (memosF memsC Yf5) 5000 6) 5000 tR [.b true, .i (Int.ofNat (fQ 3)), .p 0 0, .b false, .b false, fe8 z, .i (Int.ofNat a), .i (Int.ofNat b)] (layF (fun b => 0 + b) (fB 3) []) (0 + plen (fB 3)))) = true := by kernel_rfl
theorem t_run3 (z : Nat) (a b : Int) : ∃ e' m' n', RunD tR (tE 3 z a b) (tM 3) (0 + (fB 3).length) (.ret (.bool true)) e' m' n' := by
  cases a with
  | negSucc x => exact retTA_run (t_aneg3 z x b)
  | ofNat a =>
    by_cases ha : a < 5
    · cases b with
      | negSucc x => exact retTA_run (allLt_get (t_bneg3 z x) a ha)
      | ofNat b =>
        by_cases hb : b < 5
        · exact rest_at (fm := []) (n := 0) rfl (absM_nil 0) rfl (allLt_get (allLt_get (t_in3 z) a ha) b hb)
        · have e : b = (b - 5) + 5 := by omega
          rw [e]
          exact retTA_run (allLt_get (t_bbig3 z (b - 5)) a ha)
    · have e : a = (a - 5) + 5 := by omega
      rw [e]
      exact retTA_run (t_abig3 z (a - 5) b)
theorem t_aneg4 (z x : Nat) (b : Int) : tX 4 z (Int.negSucc x) b = true := by kernel_rfl
theorem t_abig4 (z x : Nat) (b : Int) : tX 4 z (Int.ofNat (x + 7)) b = true := by kernel_rfl
theorem t_bneg4 (z x : Nat) : allLt 7 (fun a => tX 4 z (Int.ofNat a) (Int.negSucc x)) = true := by kernel_rfl
theorem t_bbig4 (z x : Nat) : allLt 7 (fun a => tX 4 z (Int.ofNat a) (Int.ofNat (x + 7))) = true := by kernel_rfl
theorem t_in4 (z : Nat) : (allLt 7 fun a => allLt 7 fun b => retT (fexecK Proofs.Try.prog (fcalD Proofs.Try.prog (lookT (treeOf tabD)) (memosF memsC Yf5) 5000 6) 5000 tR [.b true, .i (Int.ofNat (fQ 4)), .p 0 0, .b false, .b false, fe8 z, .i (Int.ofNat a), .i (Int.ofNat b)] (layF (fun b => 0 + b) (fB 4) []) (0 + plen (fB 4)))) = true := by kernel_rfl
theorem t_run4 (z : Nat) (a b : Int) : ∃ e' m' n', RunD tR (tE 4 z a b) (tM 4) (0 + (fB 4).length) (.ret (.bool true)) e' m' n' := by
  cases a with
  | negSucc x => exact retTA_run (t_aneg4 z x b)
  | ofNat a =>
    by_cases ha : a < 7
    · cases b with
      | negSucc x => exact retTA_run (allLt_get (t_bneg4 z x) a ha)
      | ofNat b =>
        by_cases hb : b < 7
        · exact rest_at (fm := []) (n := 0) rfl (absM_nil 0) rfl (allLt_get (allLt_get (t_in4 z) a ha) b hb)
        · have e : b = (b - 7) + 7 := by omega
          rw [e]
          exact retTA_run (allLt_get (t_bbig4 z (b - 7)) a ha)
    · have e : a = (a - 7) + 7 := by omega
      rw [e]
      exact retTA_run (t_abig4 z (a - 7) b)
theorem t_aneg5 (z x : Nat) (b : Int) : tX 5 z (Int.negSucc x) b = true := by kernel_rfl
theorem t_abig5 (z x : Nat) (b : Int) : tX 5 z (Int.ofNat (x + 8)) b = true := by kernel_rfl
theorem t_bneg5 (z x : Nat) : allLt 8 (fun a => tX 5 z (Int.ofNat a) (Int.negSucc x)) = true := by kernel_rfl
theorem t_bbig5 (z x : Nat) : allLt 8 (fun a => tX 5 z (Int.ofNat a) (Int.ofNat (x + 8))) = true := by kernel_rfl
theorem t_in5 (z : Nat) : (allLt 8 fun a => allLt 8 fun b => retT (fexecK Proofs.Try.prog (fcalD Proofs.Try.prog (lookT (treeOf tabD)) (memosF memsC Yf5) 5000 6) 5000 tR [.b true, .i (Int.ofNat (fQ 5)), .p 0 0, .b false, .b false, fe8 z, .i (Int.ofNat a), .i (Int.ofNat b)] (layF (fun b => 0 + b) (fB 5) []) (0 + plen (fB 5)))) = true := by kernel_rfl
theorem t_run5 (z : Nat) (a b : Int) : ∃ e' m' n', RunD tR (tE 5 z a b) (tM 5) (0 + (fB 5).length) (.ret (.bool true)) e' m' n' := by
  cases a with
  | negSucc x => exact retTA_run (t_aneg5 z x b)
  | ofNat a =>
    by_cases ha : a < 8
    · cases b with
      | negSucc x => exact retTA_run (allLt_get (t_bneg5 z x) a ha)
      | ofNat b =>
        by_cases hb : b < 8
        · exact rest_at (fm := []) (n := 0) rfl (absM_nil 0) rfl (allLt_get (allLt_get (t_in5 z) a ha) b hb)
        · have e : b = (b - 8) + 8 := by omega
          rw [e]
          exact retTA_run (allLt_get (t_bbig5 z (b - 8)) a ha)
    · have e : a = (a - 8) + 8 := by omega
      rw [e]
      exact retTA_run (t_abig5 z (a - 8) b)
theorem t_aneg6 (z x : Nat) (b : Int) : tX 6 z (Int.negSucc x) b = true := by kernel_rfl
theorem t_abig6 (z x : Nat) (b : Int) : tX 6 z (Int.ofNat (x + 9)) b = true := by kernel_rfl
theorem t_bneg6 (z x : Nat) : allLt 9 (fun a => tX 6 z (Int.ofNat a) (Int.negSucc x)) = true := by kernel_rfl
theorem t_bbig6 (z x : Nat) : allLt 9 (fun a => tX 6 z (Int.ofNat a) (Int.ofNat (x + 9))) = true := by kernel_rfl
theorem t_in6 (z : Nat) : (allLt 9 fun a => allLt 9 fun b => retT (fexecK Proofs.Try.prog (fcalD Proofs.Try.prog (lookT (treeOf tabD)) (memosF memsC Yf5) 5000 6) 5000 tR [.b true, .i (Int.ofNat (fQ 6)), .p 0 0, .b false, .b false, fe8 z, .i (Int.ofNat a), .i (Int.ofNat b)] (layF (fun b => 0 + b) (fB 6) []) (0 + plen (fB 6)))) = true := by kernel_rfl
theorem t_run6 (z : Nat) (a b : Int) : ∃ e' m' n', RunD tR (tE 6 z a b) (tM 6) (0 + (fB 6).length) (.ret (.bool true)) e' m' n' := by
  cases a with
  | negSucc x => exact retTA_run (t_aneg6 z x b)
  | ofNat a =>
    by_cases ha : a < 9
    · cases b with
      | negSucc x => exact retTA_run (allLt_get (t_bneg6 z x) a ha)
      | ofNat b =>
        by_cases hb : b < 9
        · exact rest_at (fm := []) (n := 0) rfl (absM_nil 0) rfl (allLt_get (allLt_get (t_in6 z) a ha) b hb)
        · have e : b = (b - 9) + 9 := by omega
          rw [e]
          exact retTA_run (allLt_get (t_bbig6 z (b - 9)) a ha)
    · have e : a = (a - 9) + 9 := by omega
      rw [e]
      exact retTA_run (t_abig6 z (a - 9) b)
theorem tables_calls (z : Nat) (hz : z < 256) (a b : Int) (w : World) : Calls Proofs.Try.prog 5 #[.int .u8 (Int.ofNat z), .int .i64 a, .int .i64 b] w fun e w' => e = .returned (.bool true) ∧ Below w.heap.size w w' := by
  have hA : RunD (lft ac5.code) [.int .u8 (Int.ofNat z), .int .i64 a, .int .i64 b] FM0 0 .norm [.bool false, .int .u8 (Int.ofNat z), .int .i64 a, .int .i64 b] FM0 0 := Runs.of (k := 60) (r := 0) (w := 0) (by kernel_rfl)
  have hB : RunD (lft (rgt ac5.code)) [.bool false, .int .u8 (Int.ofNat z), .int .i64 a, .int .i64 b] FM0 0 .norm [.bool false, .bool false, .int .u8 (Int.ofNat z), .int .i64 a, .int .i64 b] FM0 0 := Runs.of (k := 60) (r := 0) (w := 0) (by kernel_rfl)
  have hC := fieldC_run 2 z hz [.bool false, .bool false, .int .u8 (Int.ofNat z), .int .i64 a, .int .i64 b] FM0 0 rfl
  have hR : ∃ e' m' n', RunD tR (tE (z % 7) z a b) (tM (z % 7)) (0 + (fB (z % 7)).length) (.ret (.bool true)) e' m' n' := by
    have hr : z % 7 < 7 := Nat.mod_lt _ (by decide)
    revert hr
    generalize z % 7 = r
    intro hr
    match r, hr with
    | 0, _ => exact t_run0 z a b
    | 1, _ => exact t_run1 z a b
    | 2, _ => exact t_run2 z a b
    | 3, _ => exact t_run3 z a b
    | 4, _ => exact t_run4 z a b
    | 5, _ => exact t_run5 z a b
    | 6, _ => exact t_run6 z a b
  obtain ⟨e', m', n', hR⟩ := hR
  have hall : RunD ac5.code [.int .u8 (Int.ofNat z), .int .i64 a, .int .i64 b] FM0 0 (.ret (.bool true)) e' m' n' := Runs.seq hA (Runs.seq hB (Runs.seq hC hR))
  obtain ⟨k, m2, n2, r, wm, hc⟩ := Runs.call (f := 5) (fn := ac5) (by kernel_rfl) (by kernel_rfl) hall
  exact envD.topA (args := [.int .u8 (Int.ofNat z), .int .i64 a, .int .i64 b]) (free_args rfl) hc w
end Go.Am.C05
