/- The machine and its runs, part 13: Am06jf AmPost AmArr8. -/
import Derived.ProofKit
import Derived.OpenShut
import Derived.Test.YtilnoajeofjckaaB12
set_option linter.unusedVariables false
set_option linter.unusedSimpArgs false
set_option linter.unusedSectionVars false
namespace Go.Am.C06
open Go Go.Am Go.Am.V
set_option maxRecDepth 1000000
theorem cells3_eq (ρ : Nat → Nat) : ∀ ps : List P3, ((cells3 ps).map (rn ρ)).map toV = ptCells ps
  | [] => rfl
  | p :: l => by
    show toV (rn ρ (.i (Int.ofNat p.x))) :: toV (rn ρ (.i (Int.ofNat p.y))) :: toV (rn ρ (.i (Int.ofNat p.z))) :: ((cells3 l).map (rn ρ)).map toV = p.cells ++ ptCells l
    rw [cells3_eq ρ l]; rfl
theorem coM_spec {q : Nat} {ps : List P3} {pi : List Nat} (hp : 0 < ps.length) (m : FM) (n : Nat) : ∃ (m' : FM) (w : Nat) (v : Value), memoA (coM q ps pi) 26 [.int .i64 (q : Int)] m n = .ok v m' (n + 1) 0 w ∧ (∀ b, b < n → m' b = m b) ∧ (∀ j, j ≤ n → Nat.mod w (bit j) = 0) ∧ SlZ 3 m' n (n + 1) v ps.length (ptCells ps) := by
  have hself : veqL [.int .i64 (q : Int)] (coM q ps pi).args = true := by
    show (veqF (.int .i64 (q : Int)) (.int .i64 (Int.ofNat q)) && true) = true
    simp [veqF]
  refine ⟨layA (fun b => n + b) (coM q ps pi).bs n m, newW n (coM q ps pi).bs.length, .slice (some ⟨n, 0, none⟩) ps.length UNK, ?_, fun b hb => ?_, fun j hj => ?_, ?_⟩
  · unfold memoA
    rw [show (coM q ps pi).f = 26 from rfl, Nat.beq_refl, hself]
    rfl
  · rw [layA_get, if_neg (by omega)]
  · apply Nat.eq_of_testBit_eq
    intro i
    rw [mod_test, newW_test, Nat.zero_testBit]
    by_cases h1 : i < j
    · have : decide (n ≤ i) = false := decide_eq_false (by omega)
      simp [this]
    · simp [h1]
  · have h0 : (layA (fun b => n + b) (coM q ps pi).bs n m) (n + 0) = some (toB (rnB (fun b => n + b) ⟨cells3 ps, 3, true, true⟩)) := by
      rw [layA_get, if_pos (by show n ≤ n + 0 ∧ n + 0 < n + 1; omega), Nat.add_sub_cancel_left]; rfl
    rw [rnB_cells] at h0
    rw [cells3_eq] at h0
    exact .inr ⟨hp, by rw [ptCells_len], n, rfl, Nat.le_refl _, Nat.lt_succ_self _, h0⟩
theorem coR_of {E : Nat → Option AFn} {Y : Nat → List Value → FM → Nat → OR FM} {q : Nat} {ps ps' : List P3} {pi : List Nat} (hE : E 26 = none) (hp : 0 < ps.length) (he : ps' = ps) (h : ∀ m n v m' n' r w, memoA (coM q ps pi) 26 [.int .i64 (q : Int)] m n = .ok v m' n' r w → Y 26 [.int .i64 (q : Int)] m n = .ok v m' n' r w) (m : FM) (n : Nat) :
    Rt (callW PG E Y 26 [.int .i64 (q : Int)] m n) (Kpt m n fun v M' N' => SlZ 3 M' n N' v ps'.length (ptCells ps')) := by
  subst he
  obtain ⟨m', w, v, h1, h2, h3, h4⟩ := coM_spec (q := q) (pi := pi) hp m n
  rw [callW_Y hE, h _ _ _ _ _ _ _ h1]
  exact ⟨by omega, h2, h3, h4⟩
theorem en2D : En2 (look tabD) YD where
  ar := fun {q A T} h => by
    obtain ⟨hs, h7, h2⟩ := h
    cases hs
    · exact ⟨fun a b ha hb m n => arD rfl (by kernel_rfl) ha hb m n, fun a b ha hb m n => arD rfl (by kernel_rfl) ha hb m n⟩
    · exact ⟨fun a b ha hb m n => arD rfl (by kernel_rfl) ha hb m n, fun a b ha hb m n => arD rfl (by kernel_rfl) ha hb m n⟩
    · exact ⟨fun a b ha hb m n => arD rfl (by kernel_rfl) ha hb m n, fun a b ha hb m n => arD rfl (by kernel_rfl) ha hb m n⟩
    · exact ⟨fun a b ha hb m n => arD rfl (by kernel_rfl) ha hb m n, fun a b ha hb m n => arD rfl (by kernel_rfl) ha hb m n⟩
    · exact ⟨fun a b ha hb m n => arD rfl (by kernel_rfl) ha hb m n, fun a b ha hb m n => arD rfl (by kernel_rfl) ha hb m n⟩
    · omega
    · omega
  co := fun {q A T} h m n => by
    obtain ⟨hs, h7, h2⟩ := h
    cases hs
    · exact coR_of (ps := Co2) (pi := [13]) (by kernel_rfl) (by decide) pts2 (fun m n v m' n' r w h => by
        refine (alt_miss (arA_ne (by omega) (by omega) _ m n)).trans ?_
        refine (alt_miss rfl).trans ?_
        rw [memLD_eq]
        refine (alt_miss (memo_miss (M := mA) (by kernel_rfl) m n)).trans ?_
        refine (alt_miss (memo_miss (M := m2) (by kernel_rfl) m n)).trans ?_
        refine (alt_miss (memo_miss (M := m3) (by kernel_rfl) m n)).trans ?_
        refine (alt_miss (memo_miss (M := m4) (by kernel_rfl) m n)).trans ?_
        refine (alt_miss (memo_miss (M := m5) (by kernel_rfl) m n)).trans ?_
        refine (alt_miss (memo_miss (M := m7) (by kernel_rfl) m n)).trans ?_
        refine (alt_miss (memo_miss (M := m8) (by kernel_rfl) m n)).trans ?_
        refine (alt_miss (memo_miss (M := m9) (by kernel_rfl) m n)).trans ?_
        exact alt_hit h) m n
    · exact coR_of (ps := Co3) (pi := [25]) (by kernel_rfl) (by decide) pts3 (fun m n v m' n' r w h => by
        refine (alt_miss (arA_ne (by omega) (by omega) _ m n)).trans ?_
        refine (alt_miss rfl).trans ?_
        rw [memLD_eq]
        refine (alt_miss (memo_miss (M := mA) (by kernel_rfl) m n)).trans ?_
        refine (alt_miss (memo_miss (M := m2) (by kernel_rfl) m n)).trans ?_
        refine (alt_miss (memo_miss (M := m3) (by kernel_rfl) m n)).trans ?_
        refine (alt_miss (memo_miss (M := m4) (by kernel_rfl) m n)).trans ?_
        refine (alt_miss (memo_miss (M := m5) (by kernel_rfl) m n)).trans ?_
        refine (alt_miss (memo_miss (M := m7) (by kernel_rfl) m n)).trans ?_
        refine (alt_miss (memo_miss (M := m8) (by kernel_rfl) m n)).trans ?_
        refine (alt_miss (memo_miss (M := m9) (by kernel_rfl) m n)).trans ?_
        refine (alt_miss (memo_miss (M := c2) (by kernel_rfl) m n)).trans ?_
        exact alt_hit h) m n
    · exact coR_of (ps := Co4) (pi := [41]) (by kernel_rfl) (by decide) pts4 (fun m n v m' n' r w h => by
        refine (alt_miss (arA_ne (by omega) (by omega) _ m n)).trans ?_
        refine (alt_miss rfl).trans ?_
        rw [memLD_eq]
        refine (alt_miss (memo_miss (M := mA) (by kernel_rfl) m n)).trans ?_
        refine (alt_miss (memo_miss (M := m2) (by kernel_rfl) m n)).trans ?_
        refine (alt_miss (memo_miss (M := m3) (by kernel_rfl) m n)).trans ?_
        refine (alt_miss (memo_miss (M := m4) (by kernel_rfl) m n)).trans ?_
        refine (alt_miss (memo_miss (M := m5) (by kernel_rfl) m n)).trans ?_
        refine (alt_miss (memo_miss (M := m7) (by kernel_rfl) m n)).trans ?_
        refine (alt_miss (memo_miss (M := m8) (by kernel_rfl) m n)).trans ?_
        refine (alt_miss (memo_miss (M := m9) (by kernel_rfl) m n)).trans ?_
        refine (alt_miss (memo_miss (M := c2) (by kernel_rfl) m n)).trans ?_
        refine (alt_miss (memo_miss (M := c3) (by kernel_rfl) m n)).trans ?_
        exact alt_hit h) m n
    · exact coR_of (ps := Co5) (pi := [61]) (by kernel_rfl) (by decide) pts5 (fun m n v m' n' r w h => by
        refine (alt_miss (arA_ne (by omega) (by omega) _ m n)).trans ?_
        refine (alt_miss rfl).trans ?_
        rw [memLD_eq]
        refine (alt_miss (memo_miss (M := mA) (by kernel_rfl) m n)).trans ?_
        refine (alt_miss (memo_miss (M := m2) (by kernel_rfl) m n)).trans ?_
        refine (alt_miss (memo_miss (M := m3) (by kernel_rfl) m n)).trans ?_
        refine (alt_miss (memo_miss (M := m4) (by kernel_rfl) m n)).trans ?_
        refine (alt_miss (memo_miss (M := m5) (by kernel_rfl) m n)).trans ?_
        refine (alt_miss (memo_miss (M := m7) (by kernel_rfl) m n)).trans ?_
        refine (alt_miss (memo_miss (M := m8) (by kernel_rfl) m n)).trans ?_
        refine (alt_miss (memo_miss (M := m9) (by kernel_rfl) m n)).trans ?_
        refine (alt_miss (memo_miss (M := c2) (by kernel_rfl) m n)).trans ?_
        refine (alt_miss (memo_miss (M := c3) (by kernel_rfl) m n)).trans ?_
        refine (alt_miss (memo_miss (M := c4) (by kernel_rfl) m n)).trans ?_
        exact alt_hit h) m n
    · exact coR_of (ps := Co7) (pi := [113]) (by kernel_rfl) (by decide) pts7 (fun m n v m' n' r w h => by
        refine (alt_miss (arA_ne (by omega) (by omega) _ m n)).trans ?_
        refine (alt_miss rfl).trans ?_
        rw [memLD_eq]
        refine (alt_miss (memo_miss (M := mA) (by kernel_rfl) m n)).trans ?_
        refine (alt_miss (memo_miss (M := m2) (by kernel_rfl) m n)).trans ?_
        refine (alt_miss (memo_miss (M := m3) (by kernel_rfl) m n)).trans ?_
        refine (alt_miss (memo_miss (M := m4) (by kernel_rfl) m n)).trans ?_
        refine (alt_miss (memo_miss (M := m5) (by kernel_rfl) m n)).trans ?_
        refine (alt_miss (memo_miss (M := m7) (by kernel_rfl) m n)).trans ?_
        refine (alt_miss (memo_miss (M := m8) (by kernel_rfl) m n)).trans ?_
        refine (alt_miss (memo_miss (M := m9) (by kernel_rfl) m n)).trans ?_
        refine (alt_miss (memo_miss (M := c2) (by kernel_rfl) m n)).trans ?_
        refine (alt_miss (memo_miss (M := c3) (by kernel_rfl) m n)).trans ?_
        refine (alt_miss (memo_miss (M := c4) (by kernel_rfl) m n)).trans ?_
        refine (alt_miss (memo_miss (M := c5) (by kernel_rfl) m n)).trans ?_
        exact alt_hit h) m n
    · omega
    · omega
theorem callsD_of {f : Nat} {args : List Value} (hrun : ∀ m n, Pure (callW PG (look tabD) YD f args m n) m n (.bool true)) (hf : args.all addrFree = true) (w : World) :
    Calls Proofs.Try.prog f args.toArray w fun e w' => e = .returned (.bool true) ∧ RowKit.Below w.heap.size w w' := by
  obtain ⟨r, hr⟩ := hrun FM0 0
  obtain ⟨k, hk⟩ := callW_some hr
  exact envD.topA (free_args hf) hk w
theorem planeProjective_calls (q : Int) (w : World) : Calls Proofs.Try.prog 3 #[.int .i64 q] w fun e w' => e = .returned (.bool true) ∧ RowKit.Below w.heap.size w w' :=
  callsD_of (args := [.int .i64 q]) (fun m n => planeProjective_exec enD en2D q m n) rfl w
theorem planeAffine_calls (q : Int) (w : World) : Calls Proofs.Try.prog 4 #[.int .i64 q] w fun e w' => e = .returned (.bool true) ∧ RowKit.Below w.heap.size w w' :=
  callsD_of (args := [.int .i64 q]) (fun m n => planeAffine_exec enD en2D q m n) rfl w
end Go.Am.C06
namespace Go.Am
open Go Go.RowKit Go.ChangeShapes
theorem post_below {H : Type} {enc : TypeId × Value → H} {P : Program} {f : Func} {s : ChangeSpec} {apart fresh handsOn again : Bool} {W W' : World} {args : Array Value} {v : Value} {ds gs : List (DataW H)} {before pa pv : List MemPlace}
    (hW : DataW.Whole enc P f.params.toList s.vars apart W args.toList ds gs before)
    (hres : ∀ (b : Nat) (sp : Nat → Bool) (hd : Bool), DataW.TrodAll enc P W' b sp hd f.resultTypes.toList (v.resultList f.resultTypes.size) (s.fn H (ds ++ gs)).results [])
    (hargs : ∀ sp : Nat → Bool, (∀ p ∈ before, sp p.block = true) → DataW.TrodAll enc P W' 0 sp true f.params.toList args.toList (s.fn H (ds ++ gs)).args pa)
    (hvars : ∀ sp : Nat → Bool, (∀ p ∈ before, sp p.block = true) → DataW.TrodVars enc P W' sp s.vars (s.fn H (ds ++ gs)).vars pv)
    (hps : before = pa ++ pv) (hb : Below W.heap.size W W')
    (hok : ∀ (j : Nat) (t : TypeId) (r : Value), f.resultTypes[j]? = some t → (v.resultList f.resultTypes.size)[j]? = some r → Value.okWide P W' .any 0 t r) :
    s.post enc P f apart fresh handsOn again W args v W' := by
  have hlt := hW.lt
  obtain ⟨_, _, _, _, _, hz, hn⟩ := id hW
  refine ⟨ds, gs, before, [], pa, pv, hW, hres _ _ _, hargs _ fun p hp => by simpa using hlt p hp, hvars _ fun p hp => by simpa using hlt p hp, World.keptBut_mono (fun p hp => ⟨hp, ?_⟩) (hb.frame (· ∈ before)), fun _ => ⟨hok, _, _, ([] ++ pa) ++ pv, ⟨[] ++ pa, pv, trodAll_append (hargs _ fun _ _ => rfl) (hres _ _ _), hvars _ fun _ _ => rfl, rfl, fun b off hp => ?_, fun ha => ?_⟩, fun p hp _ => ?_⟩⟩
  · rw [hps, List.mem_append] at hp; exact .inr hp
  · have hm : MemPlace.cell b off ∈ before := by rw [hps]; simpa using hp
    rw [hb.frozen (p := ⟨b, off, none⟩) (hlt _ hm)]
    exact hz b off hm
  · have := hn ha
    rw [hps] at this
    simpa using this
  · rw [hps]; simpa using hp
end Go.Am
namespace Go.Am
open Go Go.ChangeShapes Go.WideShapes Go.RowKit
section
variable {H : Type} {enc : TypeId × Value → H} {P : Program} {W : World} {base : Nat} {sp : Nat → Bool} {held : Bool} {t e : TypeId} {k : IntKind}
theorem open_arr3 {r : Reach} {b0 : Nat} {v : Value} {d : DataW H} {ps : List MemPlace} (hu : P.underlying t = some (.array 3 e)) (he : P.underlying e = some (.int k)) (h1 : P.cellsOf e = 1) (hs : P.cellsOf t = 3) (hval : Value.okWide P W r b0 t v) (hd : DataW.Trod enc P W base sp held t v d ps) :
    ∃ a b c, v = .agg #[.int k a, .int k b, .int k c] ∧ d = .agg [.lit (.int k a), .lit (.int k b), .lit (.int k c)] ∧ ps = [] ∧ (Lit.int k a).wf = true ∧ (Lit.int k b).wf = true ∧ (Lit.int k c).wf = true := by
  simp only [Value.okWide, hu] at hval
  obtain ⟨cs, rfl, hcs, _⟩ := hval
  rw [hs] at hcs
  obtain ⟨l⟩ := cs
  match l, hcs with
  | [x, y, z], _ =>
    obtain ⟨fuel, hf⟩ := hd
    cases fuel with
    | zero => simp [DataW.trod] at hf
    | succ m =>
      unfold DataW.trod at hf
      simp only [hu, Value.cells, h1, hs, List.length_cons, List.length_nil, if_true] at hf
      simp only [List.range_succ, List.range_zero, List.nil_append, List.cons_append, List.mapM_cons, List.mapM_nil, bind, Option.bind_eq_some_iff, Option.map_eq_some_iff, pure, Option.some.injEq] at hf
      obtain ⟨_, ⟨p1, g1, _, ⟨p2, g2, _, ⟨p3, g3, _, rfl, rfl⟩, rfl⟩, rfl⟩, hx⟩ := hf
      obtain ⟨a, ea, rfl, wa⟩ := DataW.trod_int he g1
      obtain ⟨b, eb, rfl, wb⟩ := DataW.trod_int he g2
      obtain ⟨c, ec, rfl, wc⟩ := DataW.trod_int he g3
      simp at ea eb ec
      subst ea; subst eb; subst ec
      simp only [Prod.mk.injEq] at hx
      exact ⟨a, b, c, rfl, hx.1.symm, by simpa using hx.2.symm, wa, wb, wc⟩
theorem shut_arr3 {a b c : Int} (hu : P.underlying t = some (.array 3 e)) (he : P.underlying e = some (.int k)) (h1 : P.cellsOf e = 1) (hs : P.cellsOf t = 3) (wa : (Lit.int k a).wf = true) (wb : (Lit.int k b).wf = true) (wc : (Lit.int k c).wf = true) :
    DataW.Trod enc P W base sp held t (.agg #[.int k a, .int k b, .int k c]) (.agg [.lit (.int k a), .lit (.int k b), .lit (.int k c)]) [] :=
  ⟨2, by simp [DataW.trod, Value.cells, hu, he, h1, hs, wa, wb, wc, List.range_succ]⟩
end
end Go.Am
