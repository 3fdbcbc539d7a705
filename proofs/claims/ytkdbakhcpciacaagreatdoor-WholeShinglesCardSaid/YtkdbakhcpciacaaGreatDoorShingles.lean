/- WholeShingles returns true: sectors written and read through a shingled drive. No condition on the arguments. -/
import Derived.Test.YtkdbakhcpciacaaGreatDoorRows
import Derived.Test.YtkdbakhcpciacaaGreatDoorTie
import Derived.Test.YtkdbakhcpciacaaGreatDoorCards
import Derived.WalkKit
import Derived.Test.YtkdbakhcpciacaaGreatDoorB14
import Derived.ProofKit
import Derived.OpenShut
import Derived.LaidMore
import Derived.Lay
import Derived.WideKeyArgs
import Derived.ChangeSame
import Derived.SevenTiedAt
import Derived.Stop.Joined
namespace Go.Proofs.YtkdbakhcpciacaaGreatDoor.wholeShingles
open Go.ChangeShapes Go.WideShapes Go.ChangeAt Go.RowKit Go.Am
set_option linter.unusedVariables false
set_option linter.unusedSimpArgs false
theorem own : ownKnob Tryz.prog.godebug = none := by kernel_rfl
theorem laidOut : laidOutB Tryz.prog = true := by kernel_rfl
set_option maxRecDepth 100000 in
theorem open_bytes {H : Type} {enc : TypeId × Value → H} {W : World} {base : Nat} {v : Value} {d : DataW H} {ps : List MemPlace} (hval : Value.okWide Tryz.prog W .any base 22 v) (h : DataW.Trod enc Tryz.prog W 0 (fun _ => true) true 22 v d ps) :
    ∃ bs : List Nat, Am.ValsW W v (Am.CS.n8s bs) ∧ ∀ x ∈ bs, x < 256 := by
  obtain ⟨a, len, cap, rfl⟩ := okWide_slice Am.CS.u22 hval
  obtain ⟨fuel, hf⟩ := h
  exact Am.CS.open_bytes (base := base) ⟨fuel, hf⟩
set_option maxRecDepth 100000 in
theorem lifted (os : Os) (started : os.Started) (H : Type) (enc : TypeId × Value → H) :
    ReturnsInHanded {} Tryz.checked os 3 .any (fun w args => (Rows.wholeShinglesSpec.pre enc Tryz.prog Tryz.f3 Rows.wholeShinglesRow.domain false w args ∧ laidMetH Tryz.prog Rows.wholeShinglesRow.laid w) ∧ sizedMet enc Tryz.prog Tryz.f3 (OpenSpec.ofChange Rows.wholeShinglesSpec) false w args)
      (Rows.wholeShinglesSpec.post enc Tryz.prog Tryz.f3 false true false false) := by
  refine Am.CS.returns_listed (C := Tryz.checked) (X := fun w _ => laidMetH Tryz.prog Rows.wholeShinglesRow.laid w) (fun _ _ _ hh h => h.of_heap hh) own started (by kernel_rfl) Tryz.func3
    (ChangeSpec.witness_shaped (enc := enc) (C := Tryz.checked) (os := os) (X := fun w _ => laidMetH Tryz.prog Rows.wholeShinglesRow.laid w) false (World.laidAll Tryz.prog os Rows.wholeShinglesRow.laid)
      #[.slice none 0 0, .int .u8 0, .int .u8 0] 8 (World.laidAll_os _ _ _)
      (World.shaped_of_ZipB (by kernel_rfl) (by kernel_rfl)) (by kernel_rfl) (by kernel_rfl) (by kernel_rfl)
      (by rw [MakeChecks.laidMetH_plain _ _ _ (by kernel_rfl)]; exact laidMet_laidAll _ (by kernel_rfl) (by kernel_rfl))) ?_
  intro W args base ds gs before hval0 hW hsz hL hsh
  rw [MakeChecks.laidMetH_plain _ _ _ (by kernel_rfl)] at hL
  have hgl : Am.Glob W.heap.size W := Am.CS.glob_of hL (by simp only [Rows.wholeShinglesRow, List.mem_cons, true_or, or_true])
  have hval : ∀ (j : Nat) t v, Tryz.f3.params[j]? = some t → args[j]? = some v → Value.okWide Tryz.prog W .any base t v := hval0
  have hW' := hW
  obtain ⟨p, q, hA0, hV, rfl, hfz, hnd⟩ := hW
  have hA : DataW.TrodAll enc Tryz.prog W 0 (fun _ => true) true Tryz.f3.params.toList args.toList ds p := hA0
  rw [Tryz.params3] at hA hval
  obtain ⟨v0, vs0, d0, ds0, p0, q0, hargs, rfl, rfl, h0, r0⟩ := trodAll_cons hA
  obtain ⟨v1, vs1, d1, ds1, p1, q1, rfl, rfl, rfl, h1, r1⟩ := trodAll_cons r0
  obtain ⟨v2, vs2, d2, ds2, p2, q2, rfl, rfl, rfl, h2, r2⟩ := trodAll_cons r1
  obtain ⟨rfl, rfl, rfl⟩ := trodAll_nil r2
  obtain rfl : args = #[v0, v1, v2] := by cases args; simp_all
  obtain ⟨rfl, rfl⟩ := trodVars_none hV
  obtain ⟨bs, hB, hb⟩ := open_bytes (hval 0 22 v0 rfl rfl) h0
  obtain ⟨z1, rfl, rfl, rfl, w1⟩ := open_int Tryz.underlying5 (hval 1 5 v1 rfl rfl) h1
  obtain ⟨z2, rfl, rfl, rfl, w2⟩ := open_int Tryz.underlying5 (hval 2 5 v2 rfl rfl) h2
  have hz1 : 0 ≤ z1 ∧ z1 < 256 := ⟨(bounds_u8 w1).1, by have := (bounds_u8 w1).2; omega⟩
  have hz2 : 0 ≤ z2 ∧ z2 < 256 := ⟨(bounds_u8 w2).1, by have := (bounds_u8 w2).2; omega⟩
  obtain ⟨n1, rfl⟩ : ∃ n1 : Nat, z1 = (n1 : Int) := ⟨z1.toNat, by omega⟩
  obtain ⟨n2, rfl⟩ : ∃ n2 : Nat, z2 = (n2 : Int) := ⟨z2.toNat, by omega⟩
  clear hA0 hval0
  simp only [List.append_nil, List.nil_append] at hW'
  have hlt0 : ∀ x ∈ p0, x.block < W.heap.size := fun x hx => hW'.lt x (by simp [hx])
  refine (Am.CS.wholeShingles_calls W hgl v0 bs hB hb (by omega) (by omega)).mono fun e W' ⟨he, hg⟩ => ?_
  subst he
  exact ⟨_, rfl, post_below (pa := p0) (pv := []) hW' (fun _ _ _ => (trodAll_cons_mk (shut_bool Tryz.underlying4 _) trodAll_mk0)) (fun sp hsp => by
      have := (trodAll_cons_mk (WideElems.Trod_stays laidOut (by kernel_rfl) (of_decide_eq_true (by kernel_rfl)) h0 (W' := W') (sp' := sp) (fun x hx => hg.same (hlt0 x hx)) (fun x hx => hsp x (by simp [hx]))) (trodAll_cons_mk (shut_int Tryz.underlying5 w1) (trodAll_cons_mk (shut_int Tryz.underlying5 w2) trodAll_mk0)))
      simp only [List.append_nil, List.nil_append] at this
      exact this) (fun _ _ => rfl) (by simp)
    hg (ok_one (by kernel_rfl) rfl (okWide_bool_mk Tryz.underlying4 _))⟩
theorem over : Rows.WholeShinglesSaid :=
  OpenClaim.holds_of_wide 3 Tryz.f3 rfl rfl rfl rfl rfl rfl rfl ⟨rfl, rfl, rfl, rfl, rfl⟩ rfl rfl rfl rfl rfl (by kernel_rfl) Tryz.func3 (by kernel_rfl)
    (of_decide_eq_true (by kernel_rfl)) (by unfold Func.isWrapper; first | (rw [if_pos (by decide +kernel)]; kernel_rfl) | (rw [if_neg (by decide +kernel)]; exact ⟨rfl, rfl⟩))
    (fun os started H enc _ => lifted os started H enc)
theorem proved : Rows.WholeShinglesCardSaid :=
  Claim7.holds_tied_plain_at .later [] [.data] true (true, "1c883a36ce1d1d517ac409032cf2294121cef6604cf9e4ba6c2bbaa5a0fcf542") false over (fun _ h => by cases h) (by kernel_rfl) (fun _ h => by cases h) wholeShingles_row_tie rfl ⟨rfl, rfl⟩ (by kernel_rfl) rfl
    (fun f fn hf hfn => by
      obtain rfl : f = 3 := Option.some.inj ((show Tryz.prog.funcNamed "tegula/tegulatop.WholeShingles" = some 3 by kernel_rfl).symm.trans hf) |>.symm
      obtain rfl : fn = Tryz.f3 := (Option.some.inj (Tryz.func3.symm.trans hfn)).symm
      exact ⟨by kernel_rfl, fun j t ht => by
        rw [Tryz.params3] at ht
        have hm : t ∈ [22, 5, 5] := by simpa using Array.mem_of_getElem? ht
        have hall : ([22, 5, 5].all fun u => !Tryz.prog.wantsStandIn u) = true := by kernel_rfl
        exact (show Tryz.prog.wantsStandIn t = false by simpa using List.all_eq_true.1 hall t hm)⟩)
    (by kernel_rfl)
#print axioms proved
end Go.Proofs.YtkdbakhcpciacaaGreatDoor.wholeShingles
