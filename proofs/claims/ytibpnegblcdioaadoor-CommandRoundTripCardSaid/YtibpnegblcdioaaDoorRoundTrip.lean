/- CommandRoundTrip returns true: Parse returns any valid command from its text. No condition on the arguments. -/
import Derived.Test.YtibpnegblcdioaaDoorRows
import Derived.Test.YtibpnegblcdioaaDoorTie
import Derived.Test.YtibpnegblcdioaaDoorCards
import Derived.WalkKit
import Derived.Test.YtibpnegblcdioaaDoorB16
import Derived.ProofKit
import Derived.OpenShut
import Derived.LaidMore
import Derived.Lay
import Derived.WideKeyArgs
import Derived.ChangeSame
import Derived.SevenTiedAt
import Derived.Stop.Joined
namespace Go.Proofs.YtibpnegblcdioaaDoor.commandRoundTrip
open Go.ChangeShapes Go.WideShapes Go.ChangeAt Go.RowKit Go.Am
set_option linter.unusedVariables false
set_option linter.unusedSimpArgs false
theorem own : ownKnob Tryd.prog.godebug = none := by kernel_rfl
theorem laidOut : laidOutB Tryd.prog = true := by kernel_rfl
theorem ce3 : Tryd.prog.cellsOf 3 = 1 := by kernel_rfl
theorem ce4 : Tryd.prog.cellsOf 4 = 1 := by kernel_rfl
theorem ce5 : Tryd.prog.cellsOf 5 = 1 := by kernel_rfl
set_option maxRecDepth 100000 in
theorem open_cmdB {H : Type} {enc : TypeId × Value → H} {W : World} {base : Nat} {v : Value} {d : DataW H} {ps : List MemPlace} (hval : Value.okWide Tryd.prog W .any base 24 v) (h : DataW.Trod enc Tryd.prog W 0 (fun _ => true) true 24 v d ps) :
    ∃ (c : Am.C39.Cmd) (sv : Value), v = Am.C39.cmdV c sv ∧ c.Fit ∧ DatW W sv c.data ∧ Am.C39.Bytes c := by
  obtain ⟨cs, rfl, hcs⟩ := okWide_struct Am.C39.u24 hval
  obtain ⟨fuel, hf⟩ := h
  obtain ⟨c, sv, hc, hF, hD, hB⟩ := Am.C39.cmd_of_trodB hf
  refine ⟨c, sv, ?_, hF, hD, hB⟩
  obtain ⟨l⟩ := cs
  replace hc : l = c.cells sv := hc
  subst hc
  rfl
set_option maxRecDepth 100000 in
theorem lifted (os : Os) (started : os.Started) (H : Type) (enc : TypeId × Value → H) :
    ReturnsInHanded {} Tryd.checked os 3 .any (fun w args => (Rows.commandRoundTripSpec.pre enc Tryd.prog Tryd.f3 Rows.commandRoundTripRow.domain false w args ∧ laidMetH Tryd.prog Rows.commandRoundTripRow.laid w) ∧ sizedMet enc Tryd.prog Tryd.f3 (OpenSpec.ofChange Rows.commandRoundTripSpec) false w args)
      (Rows.commandRoundTripSpec.post enc Tryd.prog Tryd.f3 false true false false) := by
  refine Am.C39.returns_listed (C := Tryd.checked) (X := fun w _ => laidMetH Tryd.prog Rows.commandRoundTripRow.laid w) (fun _ _ _ hh h => h.of_heap hh) own started (by kernel_rfl) Tryd.func3
    (ChangeSpec.witness_shaped (enc := enc) (C := Tryd.checked) (os := os) (X := fun w _ => laidMetH Tryd.prog Rows.commandRoundTripRow.laid w) false (World.laidAll Tryd.prog os Rows.commandRoundTripRow.laid)
      #[.agg #[.int .i64 0, .int .i64 0, .int .i64 0, .bool false, .string ⟨#[]⟩, .string ⟨#[]⟩, .int .i64 0, .int .i64 0, .slice none 0 0]] 8 (World.laidAll_os _ _ _)
      (World.shaped_of_ZipB (by kernel_rfl) (by kernel_rfl)) (by kernel_rfl) (by kernel_rfl) (by kernel_rfl)
      (by rw [MakeChecks.laidMetH_plain _ _ _ (by kernel_rfl)]; exact laidMet_laidAll _ (by kernel_rfl) (by kernel_rfl))) ?_
  intro W args base ds gs before hval0 hW hsz hL hsh
  rw [MakeChecks.laidMetH_plain _ _ _ (by kernel_rfl)] at hL
  have hgl : Am.Glob W.heap.size W := Am.C39.glob_of hsh hL (by simp only [Rows.commandRoundTripRow, List.mem_cons, true_or, or_true]) (by simp only [Rows.commandRoundTripRow, List.mem_cons, true_or, or_true]) (by simp only [Rows.commandRoundTripRow, List.mem_cons, true_or, or_true])
  have hval : ∀ (j : Nat) t v, Tryd.f3.params[j]? = some t → args[j]? = some v → Value.okWide Tryd.prog W .any base t v := hval0
  have hW' := hW
  obtain ⟨p, q, hA0, hV, rfl, hfz, hnd⟩ := hW
  have hA : DataW.TrodAll enc Tryd.prog W 0 (fun _ => true) true Tryd.f3.params.toList args.toList ds p := hA0
  rw [Tryd.params3] at hA hval
  obtain ⟨v0, vs0, d0, ds0, p0, q0, hargs, rfl, rfl, h0, r0⟩ := trodAll_cons hA
  obtain ⟨rfl, rfl, rfl⟩ := trodAll_nil r0
  obtain rfl : args = #[v0] := by cases args; simp_all
  obtain ⟨rfl, rfl⟩ := trodVars_none hV
  have h0k := h0
  obtain ⟨c0, sa0, rfl, hF0, hD0, hB0⟩ := open_cmdB (hval 0 24 v0 rfl rfl) h0
  clear hA0 hval0
  simp only [List.append_nil, List.nil_append] at hW'
  have hlt0 : ∀ x ∈ p0, x.block < W.heap.size := fun x hx => hW'.lt x (by simp [hx])
  refine (Am.C39.commandRoundTrip_calls c0 sa0 W hgl hF0 hB0 hD0).mono fun e W' ⟨he, hg⟩ => ?_
  subst he
  exact ⟨_, rfl, post_below (pa := p0) (pv := []) hW' (fun _ _ _ => (trodAll_cons_mk (shut_bool Tryd.underlying4 _) trodAll_mk0)) (fun sp hsp => by
      have := (trodAll_cons_mk (WideElems.Trod_stays laidOut (by kernel_rfl) (of_decide_eq_true (by kernel_rfl)) h0k (W' := W') (sp' := sp) (fun x hx => hg.same (hlt0 x hx)) (fun x hx => hsp x (by simp [hx]))) trodAll_mk0)
      simp only [List.append_nil, List.nil_append] at this
      exact this) (fun _ _ => rfl) (by simp)
    hg (ok_one (by kernel_rfl) rfl (okWide_bool_mk Tryd.underlying4 _))⟩
theorem over : Rows.CommandRoundTripSaid :=
  OpenClaim.holds_of_wide 3 Tryd.f3 rfl rfl rfl rfl rfl rfl rfl ⟨rfl, rfl, rfl, rfl, rfl⟩ rfl rfl rfl rfl rfl (by kernel_rfl) Tryd.func3 (by kernel_rfl)
    (of_decide_eq_true (by kernel_rfl)) (by unfold Func.isWrapper; first | (rw [if_pos (by decide +kernel)]; kernel_rfl) | (rw [if_neg (by decide +kernel)]; exact ⟨rfl, rfl⟩))
    (fun os started H enc _ => lifted os started H enc)
theorem proved : Rows.CommandRoundTripCardSaid :=
  Claim7.holds_tied_plain_at .later [] [.data, .data, .data, .data, .sentinel, .sentinel, .pinned] true (true, "592f4b88901306a18f0417f0f9122aa621889dcbc3024460a0e2f5f8f18a8bb8") true over (fun _ h => by cases h) (by kernel_rfl) (fun _ h => by cases h) commandRoundTrip_row_tie rfl ⟨rfl, rfl⟩ (by kernel_rfl) rfl
    (fun f fn hf hfn => by
      obtain rfl : f = 3 := Option.some.inj ((show Tryd.prog.funcNamed "tegula/tegulalaw39.CommandRoundTrip" = some 3 by kernel_rfl).symm.trans hf) |>.symm
      obtain rfl : fn = Tryd.f3 := (Option.some.inj (Tryd.func3.symm.trans hfn)).symm
      exact ⟨by kernel_rfl, fun j t ht => by
        rw [Tryd.params3] at ht
        have hm : t ∈ [24] := by simpa using Array.mem_of_getElem? ht
        have hall : ([24].all fun u => !Tryd.prog.wantsStandIn u) = true := by kernel_rfl
        exact (show Tryd.prog.wantsStandIn t = false by simpa using List.all_eq_true.1 hall t hm)⟩)
    (by kernel_rfl)
#print axioms proved
end Go.Proofs.YtibpnegblcdioaaDoor.commandRoundTrip
