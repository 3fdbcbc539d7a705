/- Chapter 05: field as a contract; the head that the laws share. -/
import Derived.Test.YtjnplnkbjmfgpaaAm05s
import Derived.Test.YtjnplnkbjmfgpaaAmRuns
set_option linter.unusedVariables false
set_option linter.unusedSimpArgs false
set_option linter.unusedSectionVars false
namespace Go.Am.C05
open Go Go.Am Go.Am.V Go.Am.Fast Go.RowKit
set_option maxRecDepth 1000000
noncomputable def iota (s n : Nat) : List Nat := Nat.rec (motive := fun _ => Nat → List Nat) (fun _ => []) (fun _ ih s => s :: ih (Nat.succ s)) n s
noncomputable def pick7 {α : Type} (a0 a1 a2 a3 a4 a5 a6 : α) (n : Nat) : α :=
  Nat.rec (motive := fun _ => α) a0 (fun n _ => Nat.rec (motive := fun _ => α) a1 (fun n _ => Nat.rec (motive := fun _ => α) a2 (fun n _ => Nat.rec (motive := fun _ => α) a3 (fun n _ => Nat.rec (motive := fun _ => α) a4 (fun n _ => Nat.rec (motive := fun _ => α) a5 (fun _ _ => a6) n) n) n) n) n) n
noncomputable def fB (r : Nat) : List FBlk := pick7 m24_2.bs m24_3.bs m24_4.bs m24_5.bs m24_7.bs m24_8.bs m24_9.bs r
noncomputable def fQ (r : Nat) : Nat := pick7 2 3 4 5 7 8 9 r
noncomputable def mF (n : Nat) : Memo := { f := 11, args := [.int .u8 (Int.ofNat n)], rs := [.p 0 0, .i (Int.ofNat (fQ (n % 7))), .b true], bs := fB (n % 7), pi := iota 1 (plen (fB (n % 7))) }
theorem fitF : allLt 256 (fun n => fitsB (mF n) (fcall Proofs.Try.prog (Fast.treeOf tabC) (memosF memsC Yf5) 5000 6 11 [.o (.int .u8 (Int.ofNat n))] [] 0)) = true := by kernel_rfl
theorem simF (n : Nat) (h : n < 256) : CallSim Proofs.Try.prog (memoA (mF n)) := envC.memo (M := mF n) (fargs := [.o (.int .u8 (Int.ofNat n))]) rfl rfl (allLt_get fitF n h)
def u8 : Int → Bool
  | .ofNat n => Nat.blt n 256
  | .negSucc _ => false
noncomputable def fieldA (f : Nat) (args : List Value) (m : FM) (n : Nat) : OR FM :=
  match args with
  | [.int .u8 z] => cond (u8 z) (memoA (mF z.toNat) f args m n) .no
  | _ => .no
theorem fieldA_memo {f : Nat} {args : List Value} {m m' : FM} {n n' r w : Nat} {v : Value} (h : fieldA f args m n = .ok v m' n' r w) : ∃ z, z < 256 ∧ memoA (mF z) f args m n = .ok v m' n' r w := by
  unfold fieldA at h
  split at h
  · rename_i z
    cases hc : u8 z
    · rw [hc] at h; cases h
    · rw [hc] at h
      cases z with
      | ofNat k => exact ⟨k, Nat.le_of_ble_eq_true hc, h⟩
      | negSucc k => cases hc
  · cases h
theorem fieldA_loc : CallLoc fieldA := fun f args m n v m' n' r wm h => by
  obtain ⟨z, _, h⟩ := fieldA_memo h
  exact memo_loc (mF z) f args m n v m' n' r wm h
theorem fieldA_sim : CallSim Proofs.Try.prog fieldA := fun f args m n v m' n' r wm h => by
  obtain ⟨z, hz, h⟩ := fieldA_memo h
  exact simF z hz f args m n v m' n' r wm h
theorem fieldA_apart {t : List (Nat × AFn)} (h : look t 11 = none) : V.Apart t fieldA := by
  intro f fn hf args m n
  unfold fieldA
  split
  · rename_i z
    cases u8 z
    · rfl
    · refine memoA_ne (fun e => ?_) _ m n
      rw [e] at hf
      rw [show look t (mF z.toNat).f = none from h] at hf; cases hf
  · rfl
noncomputable def tabD : List (Nat × AFn) := [(3, ac3), (4, ac4), (5, ac5), (6, ac6), (7, ac7), (8, ac8), (9, ac9), (12, ac12), (13, ac13), (14, ac14), (15, ac15), (16, ac16), (17, ac17), (18, ac18), (19, ac19), (20, ac20), (21, ac21), (22, ac22), (23, ac23), (25, ac25), (26, ac26), (27, ac27), (28, ac28), (29, ac29), (30, ac30), (31, ac31), (32, ac32), (33, ac33), (34, ac34), (35, ac35), (36, ac36), (38, ac38), (39, ac39)]
theorem tabD_good : Good Proofs.Try.prog tabD := (.cons Proofs.Try.func3 chk3 (.cons Proofs.Try.func4 chk4 (.cons Proofs.Try.func5 chk5 (.cons Proofs.Try.func6 chk6 (.cons Proofs.Try.func7 chk7 (.cons Proofs.Try.func8 chk8 (.cons Proofs.Try.func9 chk9 (.cons Proofs.Try.func12 chk12 (.cons Proofs.Try.func13 chk13 (.cons Proofs.Try.func14 chk14 (.cons Proofs.Try.func15 chk15 (.cons Proofs.Try.func16 chk16 (.cons Proofs.Try.func17 chk17 (.cons Proofs.Try.func18 chk18 (.cons Proofs.Try.func19 chk19 (.cons Proofs.Try.func20 chk20 (.cons Proofs.Try.func21 chk21 (.cons Proofs.Try.func22 chk22 (.cons Proofs.Try.func23 chk23 (.cons Proofs.Try.func25 chk25 (.cons Proofs.Try.func26 chk26 (.cons Proofs.Try.func27 chk27 (.cons Proofs.Try.func28 chk28 (.cons Proofs.Try.func29 chk29 (.cons Proofs.Try.func30 chk30 (.cons Proofs.Try.func31 chk31 (.cons Proofs.Try.func32 chk32 (.cons Proofs.Try.func33 chk33 (.cons Proofs.Try.func34 chk34 (.cons Proofs.Try.func35 chk35 (.cons Proofs.Try.func36 chk36 (.cons Proofs.Try.func38 chk38 (.cons Proofs.Try.func39 chk39 .nil)))))))))))))))))))))))))))))))))
noncomputable abbrev YD : Nat → List Value → FM → Nat → OR FM := altA (memosA memsC Y5) fieldA
theorem envD : Env Proofs.Try.prog tabD YD (memosF memsC Yf5) :=
  ⟨mix, tabD_good, by kernel_rfl, alt_loc envC.loc fieldA_loc, alt_sim envC.sim fieldA_sim, calSim_alt envC.fast, apart_alt (apart_memos (apart5 (by kernel_rfl)) (by
    intro M h
    rcases List.mem_cons.1 h with rfl | h
    · kernel_rfl
    · exact news_f (by kernel_rfl) M h)) (fieldA_apart (by kernel_rfl))⟩
/-- the call of field -/
theorem field_call (z : Nat) (h : z < 256) (k : Nat) (m : FM) (n : Nat) : callA (look tabD) YD (exec Proofs.Try.prog (look tabD) YD k) 11 [.int .u8 (Int.ofNat z)] m n =
    .ok (.tuple #[.pointer (some ⟨n + 0, 0, none⟩), .int .i64 (Int.ofNat (fQ (z % 7))), .bool true]) (layA (fun b => n + b) (fB (z % 7)) n m) (n + (fB (z % 7)).length) 0 (newW n (fB (z % 7)).length) := by
  have h11 : look tabD 11 = none := by kernel_rfl
  show Option.rec (motive := fun _ => OR FM) (YD 11 [.int .u8 (Int.ofNat z)] m n) (callF (exec Proofs.Try.prog (look tabD) YD k) [.int .u8 (Int.ofNat z)] m n) (look tabD 11) = _
  rw [h11]
  show altA (memosA memsC Y5) fieldA 11 [.int .u8 (Int.ofNat z)] m n = _
  have h0 : memosA memsC Y5 11 [.int .u8 (Int.ofNat z)] m n = .no := by kernel_rfl
  unfold altA
  rw [h0]
  have hz : Nat.blt z 256 = true := Nat.ble_eq_true_of_le h
  show cond (Nat.blt z 256) (memoA (mF z) 11 [.int .u8 (Int.ofNat z)] m n) .no = _
  rw [hz]
  have hv : veqL [Value.int .u8 (Int.ofNat z)] [Value.int .u8 (Int.ofNat z)] = true := by simp [veqL, veqF_int]
  have hh : (Nat.beq 11 (mF z).f && veqL [Value.int .u8 (Int.ofNat z)] (mF z).args) = true := hv
  rw [cond_true]
  unfold memoA
  rw [hh]; rfl
noncomputable abbrev RunD := Runs Proofs.Try.prog tabD YD
/-! ### the parts of a law's code -/
def lft : AC → AC | .seq a _ => a | c => c
def rgt : AC → AC | .seq _ b => b | c => c
/-- the region that calls field -/
def fieldC (i : Nat) : AC := .post (.reg [.nop i, .op (.call 11 [.v i]), .nop 0, .op (.extr 0 (.v 0)), .op (.extr 1 (.v 1)), .op (.extr 2 (.v 2)), .nop 2, .nop 1, .nop 0]) [0, 1, 2] 4
theorem fieldC_run (i z : Nat) (hz : z < 256) (T : List Value) (m : FM) (n : Nat) (hi : lget T i = .int .u8 (Int.ofNat z)) :
    RunD (fieldC i) T m n .norm (.bool true :: .int .i64 (Int.ofNat (fQ (z % 7))) :: .pointer (some ⟨n + 0, 0, none⟩) :: T) (layA (fun b => n + b) (fB (z % 7)) n m) (n + (fB (z % 7)).length) := by
  have hc := field_call z hz 50 m n
  have hev : ev T (.v i) = .int .u8 (Int.ofNat z) := hi
  refine Runs.of (k := 52) (r := 0) (w := newW n (fB (z % 7)).length) ?_
  simp only [fieldC, x_post, x_reg, o_nop, o_op, s_call, evs_cons, evs_nil, hev, hc, orRec_mk, s_extr, ev_v, lget_z, lget_s, extrV, cget_eq, valO_some, o_nil, crRec_mk, onPost_norm, fixE_mk, lmap_cons, lmap_nil, ldrop_z, ldrop_s, lor_zero', zero_lor']
  simp [valO_some, orRec_mk, o_nop, o_op, s_extr, ev_v, lget_z, lget_s, extrV, cget_eq, o_nil, crRec_mk, onPost_norm, fixE_mk, lmap_cons, lmap_nil, ldrop_z, ldrop_s, lor_zero', zero_lor']
end Go.Am.C05
