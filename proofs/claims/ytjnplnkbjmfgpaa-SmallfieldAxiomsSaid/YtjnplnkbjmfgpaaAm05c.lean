/- Chapter 05: SmallfieldCyclic. -/
import Derived.Test.YtjnplnkbjmfgpaaAm05f
set_option linter.unusedVariables false
set_option linter.unusedSimpArgs false
set_option linter.unusedSectionVars false
namespace Go.Am.C05
open Go Go.Am Go.Am.V Go.Am.Fast Go.RowKit
set_option maxRecDepth 1000000
/-- the state in which the rest of a law starts -/
theorem rest_at {c : AC} {fe : List FV} {bs : List FBlk} {fm : FTr} {n N : Nat} {e : List Value} {m : FM} (he : fe.map toV = e) (hm : absM fm n = m) (hN : N = n + plen bs)
    (hrun : retT (fexecK Proofs.Try.prog (fcalD Proofs.Try.prog (lookT (treeOf tabD)) (memosF memsC Yf5) 5000 6) 5000 c fe (layF (fun b => n + b) bs fm) N) = true) :
    ∃ e' m' n', RunD c e (layA (fun b => n + b) bs n m) (n + bs.length) (.ret (.bool true)) e' m' n' := by
  obtain ⟨e', m', n', h⟩ := envD.rest hrun
  subst he; subst hm; subst hN
  rw [plen_length, lay_abs] at h
  exact ⟨e', m', n', h⟩
theorem cyc_rest (z : Nat) : allLt 7 (fun r => retT (fexecK Proofs.Try.prog (fcalD Proofs.Try.prog (lookT (treeOf tabD)) (memosF memsC Yf5) 5000 6) 5000 (rgt (rgt (rgt ac4.code)))
    [.b true, .i (Int.ofNat (fQ r)), .p 0 0, .b false, .b false, .o (.int .u8 (Int.ofNat z))] (layF (fun b => 0 + b) (fB r) []) (0 + plen (fB r)))) = true := by kernel_rfl
theorem cyc_calls (z : Nat) (hz : z < 256) (w : World) : Calls Proofs.Try.prog 4 #[.int .u8 (Int.ofNat z)] w fun e w' => e = .returned (.bool true) ∧ Below w.heap.size w w' := by
  have hA : RunD (lft ac4.code) [.int .u8 (Int.ofNat z)] FM0 0 .norm [.bool false, .int .u8 (Int.ofNat z)] FM0 0 := Runs.of (k := 60) (r := 0) (w := 0) (by kernel_rfl)
  have hB : RunD (lft (rgt ac4.code)) [.bool false, .int .u8 (Int.ofNat z)] FM0 0 .norm [.bool false, .bool false, .int .u8 (Int.ofNat z)] FM0 0 := Runs.of (k := 60) (r := 0) (w := 0) (by kernel_rfl)
  have hC := fieldC_run 2 z hz [.bool false, .bool false, .int .u8 (Int.ofNat z)] FM0 0 rfl
  obtain ⟨e', m', n', hR⟩ := rest_at (e := .bool true :: .int .i64 (Int.ofNat (fQ (z % 7))) :: .pointer (some ⟨0 + 0, 0, none⟩) :: [.bool false, .bool false, .int .u8 (Int.ofNat z)]) (fm := []) (n := 0) rfl (absM_nil 0) rfl (allLt_get (cyc_rest z) (z % 7) (Nat.mod_lt _ (by decide)))
  have hall : RunD ac4.code [.int .u8 (Int.ofNat z)] FM0 0 (.ret (.bool true)) e' m' n' := Runs.seq hA (Runs.seq hB (Runs.seq hC hR))
  obtain ⟨k, m2, n2, r, wm, hc⟩ := Runs.call (f := 4) (fn := ac4) (by kernel_rfl) (by kernel_rfl) hall
  exact envD.topA (args := [.int .u8 (Int.ofNat z)]) (free_args rfl) hc w
end Go.Am.C05
