/- The machine and its runs, part 11: An13r An13t AnPost. -/
import Derived.Test.YtleikndkannffaaDoorRows
import Derived.Lib.LaidU8
import Derived.Lib.SmallJoins
import Derived.Lib.AppendIntMem
import Derived.HandedShaped
import Derived.SizedLaws
import Derived.OpenShut
import Derived.ProofKit
import Derived.Test.YtleikndkannffaaDoorB10
set_option linter.unusedVariables false
set_option linter.unusedSimpArgs false
set_option linter.unusedSectionVars false
namespace Go.Am.C13
open Go Go.Am Go.Am.V Go.RowKit Go.ChangeShapes
set_option maxRecDepth 1000000
noncomputable def Yf13 : FCal := fun _ _ _ _ => .no
theorem mix13 : Proofs.Tryd.prog.follows .mixedOrders = true := by kernel_rfl
theorem env13 : Env Proofs.Tryd.prog tab Y13 Yf13 where
  mix := mix13
  good := good
  small := by kernel_rfl
  loc := y13_loc
  sim := y13_sim
  fast := fun f args m n => by trivial
  apart := pfns_apart (apart_alt (fun f fn h args m n => by
      have hf : f ≠ 30 := fun e => by subst e; rw [show look tab 30 = none by kernel_rfl] at h; cases h
      unfold splitA
      rw [show Nat.beq f 30 = false from Bool.eq_false_iff.2 fun e => hf (Nat.eq_of_beq_eq_true e)]; rfl) (fun f fn h args m n => by
      have hf : f ≠ 24 := fun e => by subst e; rw [show look tab 24 = none by kernel_rfl] at h; cases h
      unfold joinA
      rw [show Nat.beq f 24 = false from Bool.eq_false_iff.2 fun e => hf (Nat.eq_of_beq_eq_true e)]; rfl)) fun p hp => by
    simp only [List.mem_cons, List.not_mem_nil, or_false] at hp
    rcases hp with rfl | rfl | rfl <;> kernel_rfl
theorem teB : Te (look tab) where
  e9 := by kernel_rfl
  e10 := by kernel_rfl
  e12 := by kernel_rfl
  e14 := by kernel_rfl
  e15 := by kernel_rfl
  e21 := by kernel_rfl
  e22 := by kernel_rfl
  e26 := by kernel_rfl
  e28 := by kernel_rfl
theorem u3 : PG.underlying 3 = some (.int .i64) := by kernel_rfl
theorem u32 : PG.underlying 32 = some (.struct (PG.fieldsOf 32)) := by kernel_rfl
theorem l32 : (PG.fieldsOf 32).toList.map (fun f => (f.offset, f.type)) = [(0, 3), (1, 3), (2, 3)] := by kernel_rfl
theorem u22 : PG.underlying 22 = some (.slice 32) := by kernel_rfl
theorem c32 : PG.cellsOf 32 = 3 := by kernel_rfl
theorem c3 : PG.cellsOf 3 = 1 := by kernel_rfl
theorem wf_i64 {n : Int} (h : (Lit.int .i64 n).wf = true) : -9223372036854775808 ≤ n ∧ n ≤ 9223372036854775807 := by
  simp only [Lit.wf, Bool.and_eq_true, decide_eq_true_eq] at h
  have h1 : IntKind.i64.min = -9223372036854775808 := by kernel_rfl
  have h2 : IntKind.i64.max = 9223372036854775807 := by kernel_rfl
  rw [h1, h2] at h
  omega
theorem flt_of_trod {H : Type} {enc : TypeId × Value → H} {w : World} {held : Bool} {sp : Nat → Bool} {fuel : Nat} {cs : List Value} {x : DataW H × List MemPlace} (h : DataW.trod enc PG w 0 sp held fuel 32 cs = some x) :
    ∃ f : Flt, cs = f.cells ∧ f.at_ ≤ 9223372036854775807 := by
  obtain ⟨xs, n, _, _, hl, hn, hall⟩ := DataW.trod_struct u32 h
  rw [c32] at hl
  have fld : ∀ (i off ty : Nat), [(0, 3), (1, 3), (2, 3)][i]? = some (off, ty) → ∃ y, DataW.trod enc PG w 0 sp held n ty ((cs.drop off).take (PG.cellsOf ty)) = some y := fun i off ty hi => by
    rw [← l32, List.getElem?_map] at hi
    cases hf : (PG.fieldsOf 32).toList[i]? with
    | none => rw [hf] at hi; cases hi
    | some f =>
      rw [hf] at hi
      injection hi with hi; injection hi with e1 e2
      subst e1; subst e2
      have hf' : (PG.fieldsOf 32)[i]? = some f := by simpa using hf
      have hi9 : i < xs.length := by rw [hn]; exact (Array.getElem?_eq_some_iff.1 hf').1
      exact ⟨xs[i], by rw [hall i f hf', List.getElem?_eq_getElem hi9]⟩
  match cs, hl with
  | [a0, a1, a2], _ =>
    obtain ⟨_, h0⟩ := fld 0 0 3 rfl
    obtain ⟨_, h1⟩ := fld 1 1 3 rfl
    obtain ⟨_, h2⟩ := fld 2 2 3 rfl
    rw [c3] at h0 h1 h2
    obtain ⟨z0, k0, _, w0⟩ := DataW.trod_int u3 h0
    obtain ⟨z1, k1, _, w1⟩ := DataW.trod_int u3 h1
    obtain ⟨z2, k2, _, w2⟩ := DataW.trod_int u3 h2
    simp only [List.drop_succ_cons, List.drop_zero, List.take_succ_cons, List.take_zero, List.cons.injEq, and_true] at k0 k1 k2
    subst k0; subst k1; subst k2
    exact ⟨⟨z0, z1, z2⟩, rfl, (wf_i64 w0).2⟩
theorem flw_of_trod {H : Type} {enc : TypeId × Value → H} {w : World} {held : Bool} {sp : Nat → Bool} {fuel : Nat} {cs : List Value} {x : DataW H × List MemPlace} (h : DataW.trod enc PG w 0 sp held fuel 22 cs = some x) :
    ∃ v l, cs = [v] ∧ l.length ≤ maxLen ∧ FlW w v l ∧ ∀ f ∈ l, f.at_ ≤ 9223372036854775807 := by
  obtain ⟨v, len, rfl, hlen, hS⟩ := slice_of_trod u22 c32 (by omega) h
  rcases hS with ⟨rfl, rfl⟩ | ⟨a, c, rfl, rfl⟩ | ⟨blk, off, cap, cc, ty, fz, rfl, h0, h1, h2, h3, h4⟩
  · exact ⟨_, [], rfl, Nat.zero_le _, .inl ⟨rfl, rfl⟩, fun c h => by cases h⟩
  · exact ⟨_, [], rfl, Nat.zero_le _, .inr (.inl ⟨a, c, rfl, rfl⟩), fun c h => by cases h⟩
  · have h5 : ∀ i, i < len → ∃ c : Flt, (∀ j, j < 3 → cc[off + i * 3 + j]? = c.cells[j]?) ∧ c.at_ ≤ 9223372036854775807 := fun i hi => by
      obtain ⟨l, hl, hj, n, y, hy⟩ := h4 i hi
      obtain ⟨c, rfl, hF⟩ := flt_of_trod hy
      exact ⟨c, hj, hF⟩
    have h6 : ∃ f : Nat → Flt, ∀ i, i < len → (∀ j, j < 3 → cc[off + i * 3 + j]? = (f i).cells[j]?) ∧ (f i).at_ ≤ 9223372036854775807 :=
      ⟨fun i => if h : i < len then Classical.choose (h5 i h) else ⟨0, 0, 0⟩, fun i hi => by
        simp only [dif_pos hi]
        exact Classical.choose_spec (h5 i hi)⟩
    obtain ⟨f, hf⟩ := h6
    have hl : ((List.range len).map f).length = len := by simp
    have hat : ∀ i (h : i < ((List.range len).map f).length), ((List.range len).map f)[i] = f i := fun i h => by simp
    refine ⟨_, (List.range len).map f, rfl, by rw [hl]; exact hlen, .inr (.inr ⟨blk, off, cap, cc, ty, fz, by rw [hl], by rw [hl]; exact h0, by rw [hl]; exact h1, h2, by rw [hl]; exact h3, fun i hi => ?_⟩), fun c hc => ?_⟩
    · rw [hat i hi]; exact (hf i (by rw [hl] at hi; exact hi)).1
    · obtain ⟨i, hi, rfl⟩ := List.mem_iff_getElem.1 hc
      rw [hat i hi]; exact (hf i (by rw [hl] at hi; exact hi)).2
theorem fl_calls {f : Nat} (ps : List Value) (hp : ∀ x ∈ ps, flat x = true) (fs : List Flt) (hlaw : ∀ (m : FM) (n : Nat) (lv : Value), FlS m n lv fs → Pure (callW PG (look tab) Y13 f (lv :: ps) m n) m n (.bool true))
    (w : World) (hgl : Glob w.heap.size w) (sv : Value) (h : FlW w sv fs) :
    Calls Proofs.Tryd.prog f (sv :: ps).toArray w fun e w' => e = .returned (.bool true) ∧ Below w.heap.size w w' := by
  obtain ⟨o, v, k1, k2, k3⟩ := fl_ent h 0
  have at0 : ∀ (i : Nat) e, [o][i]? = some (some e) → i = 0 ∧ o = some e := fun i e he => by
    match i, he with
    | 0, he => injection he with he; exact ⟨rfl, he⟩
    | i + 1, he => simp at he
  have hren : ∀ e, o = some e → entRen [o] 0 = some e.p := fun e he => by subst he; rfl
  have hmem : ∀ e, o = some e → entMem [o] 0 = some (.cells e.cs e.p.sz false false) := fun e he => by subst he; rfl
  obtain ⟨hm, hf⟩ := ent_world (w := w) (L := [o]) hgl fun i e he => k2 _ e (at0 i e he).2
  obtain ⟨r, hrun⟩ := hlaw (entMem [o]) [o].length v (k3 _ _ (Nat.lt_succ_self 0) hmem)
  have hps : ∀ l : List Value, (∀ x ∈ l, flat x = true) → LRel (entRen [o]) l l := fun l => by
    induction l with
    | nil => exact fun _ => .nil _
    | cons x l ih => exact fun h => .cons (.flat (h x (by simp))) (ih fun y hy => h y (by simp [hy]))
  exact Go.Am.Env.topW env13 (args' := (sv :: ps).toArray) hrun (.cons (k1 _ hren) (hps ps hp)) hm hf
theorem faultValid_calls (w : World) (hgl : Glob w.heap.size w) (sv : Value) (fs : List Flt) (h : FlW w sv fs) (hs : fs.length ≤ 5864062014805) :
    Calls Proofs.Tryd.prog 3 #[sv] w fun e w' => e = .returned (.bool true) ∧ Below w.heap.size w w' :=
  fl_calls [] (fun x hx => by cases hx) fs (fun m n lv h => validLaw libY teB (by kernel_rfl) (by kernel_rfl) m n lv fs h hs) w hgl sv h
theorem faultAt_calls (w : World) (hgl : Glob w.heap.size w) (sv : Value) (fs : List Flt) (op : Int) (h : FlW w sv fs) (hs : fs.length ≤ 5864062014805) :
    Calls Proofs.Tryd.prog 6 #[sv, .int .i64 op] w fun e w' => e = .returned (.bool true) ∧ Below w.heap.size w w' :=
  fl_calls [.int .i64 op] (fun x hx => by obtain rfl := List.mem_singleton.1 hx; rfl) fs (fun m n lv h => atLaw libY teB (by kernel_rfl) (by kernel_rfl) (by kernel_rfl) m n lv fs op h hs) w hgl sv h
theorem faultWithin_calls (w : World) (hgl : Glob w.heap.size w) (sv : Value) (fs : List Flt) (a c : Int) (h : FlW w sv fs) (hs : fs.length ≤ 5864062014805) :
    Calls Proofs.Tryd.prog 7 #[sv, .int .i64 a, .int .i64 c] w fun e w' => e = .returned (.bool true) ∧ Below w.heap.size w w' :=
  fl_calls [.int .i64 a, .int .i64 c] (fun x hx => by simp only [List.mem_cons, List.not_mem_nil, or_false] at hx; rcases hx with rfl | rfl <;> rfl) fs (fun m n lv h => withinLaw libY teB (by kernel_rfl) (by kernel_rfl) (by kernel_rfl) m n lv fs a c h hs) w hgl sv h
theorem faultParts_calls (w : World) (hgl : Glob w.heap.size w) (sv : Value) (fs : List Flt) (at_ : Int) (h : FlW w sv fs) (hs : fs.length ≤ 5864062014805) (hi : ∀ f ∈ fs, f.at_ ≤ 9223372036854775807) (hat : -9223372036854775808 ≤ at_ ∧ at_ ≤ 9223372036854775807) :
    Calls Proofs.Tryd.prog 8 #[sv, .int .i64 at_] w fun e w' => e = .returned (.bool true) ∧ Below w.heap.size w w' :=
  fl_calls [.int .i64 at_] (fun x hx => by obtain rfl := List.mem_singleton.1 hx; rfl) fs (fun m n lv h => partsLaw libY teB (by kernel_rfl) (by kernel_rfl) (by kernel_rfl) (by kernel_rfl) m n lv fs at_ h hs hi hat) w hgl sv h
end Go.Am.C13
namespace Go.Am.C13
open Go Go.Am Go.Am.V Go.RowKit Go.ChangeShapes Go.WideShapes Go.ChangeAt
set_option maxRecDepth 1000000
theorem returns_listed {H : Type} {enc : TypeId × Value → H} {a : Assume} {C : Checked} {os : Os} {f : FuncId} {fn : Func} {s : ChangeSpec} {conds : List PathCond} {apart fresh handsOn again : Bool} {X : World → Array Value → Prop}
    (hX : ∀ (w w' : World) (args : Array Value), w.heap = w'.heap → X w args → X w' args)
    (own : ownKnob C.prog.godebug = none) (started : os.Started) (noInit : C.prog.inits.idxOf? f = none) (hfn : C.prog.funcs[f]? = some fn)
    (witness : ∃ (w : World) (tape : Tape) (i : Input), w.os = os ∧ (w.forCall tape i).Shaped C.prog ∧ i.vars = [] ∧ Input.okWide C.prog (w.forCall tape i) .any w.heap.size f i ∧
      ((s.pre enc C.prog fn conds apart (w.forCall tape i).memory i.args ∧ X (w.forCall tape i).memory i.args) ∧ sizedMet enc C.prog fn (OpenSpec.ofChange s) apart (w.forCall tape i).memory i.args) ∧ a.holds C.prog (lone (Frame.enter C.prog f i.args .normal) [] (w.forCall tape i)))
    (contract : ∀ (W : World) (args : Array Value) (base : Nat) (ds gs : List (DataW H)) (before : List MemPlace),
      (∀ (j : Nat) t v, fn.params[j]? = some t → args[j]? = some v → Value.okWide C.prog W .any base t v) →
      DataW.Whole enc C.prog fn.params.toList s.vars apart W args.toList ds gs before →
      (DataW.weightsEach C.prog (fn.params.toList ++ s.plain.varTypes C.prog) (ds ++ gs)).all (· ≤ reachBytes) = true → X W args → W.ShapedOpen C.prog →
      Calls C.prog f args W fun e W' => ∃ v, e = .returned v ∧ s.post enc C.prog fn apart fresh handsOn again W args v W') :
    ReturnsInHanded a C os f .any (fun w args => (s.pre enc C.prog fn conds apart w args ∧ X w args) ∧ sizedMet enc C.prog fn (OpenSpec.ofChange s) apart w args) (s.post enc C.prog fn apart fresh handsOn again) := by
  refine returnsInHanded_of_calls own started noInit witness ?_
  intro w tape i _ hsh _ hok hpre hholds
  obtain ⟨_, _, _, fn', hfn', _, _, _, _, hval⟩ := hok
  have e : fn' = fn := Option.some.inj (hfn'.symm.trans hfn)
  subst e
  obtain ⟨⟨⟨ds, gs, before, hw, hc⟩, hx⟩, hz⟩ := hpre
  have hw' := DataW.Whole.of_heap (w' := w.forCall tape i) (by rfl) hw
  refine (contract (w.forCall tape i) i.args w.heap.size ds gs before hval hw' (hz.weights hw) (hX _ _ _ (by rfl) hx) hsh).mono fun e W' ⟨v, he, hp⟩ => ?_
  subst he
  exact ChangeSpec.post_blind hp
theorem maxLen_cell {w : World} (h : w.ShapedOpen PG) : ∃ m, w.cell? ⟨0, 0, none⟩ = some (.int .i64 m) :=
  Go.Proofs.cell_of_shapedOpen_int (zero := #[.int .i64 0]) (t := 3) h (of_decide_eq_true (by kernel_rfl)) (by kernel_rfl) rfl (by kernel_rfl) (by kernel_rfl) u3
theorem cell_below {B : Nat} {w w' : World} (h : Below B w w') (hB : 0 < B) : w'.cell? ⟨0, 0, none⟩ = w.cell? ⟨0, 0, none⟩ := by
  unfold World.cell?
  rw [show w'.heap[(⟨0, 0, none⟩ : Addr).block]? = w.heap[(⟨0, 0, none⟩ : Addr).block]? from h.block 0 hB]
theorem pow_is {w : World} {l : List (String × DataW Unit)} (h : laidMet PG l w) (hm : ("internal/strconv.uint64pow10", Go.Proofs.YtleikndkannffaaDoor.Rows.laid_internal_strconv_uint64pow10) ∈ l) : Lib.TabIs PG w "internal/strconv.uint64pow10" .u64 Lib.pow10Tab := by
  obtain ⟨g, t, cs, fuel, p, h1, h2, h3, h4⟩ := Lib.laidMet.reads h hm
  obtain rfl : g = 3 := Option.some.inj (h1.symm.trans (by kernel_rfl))
  obtain rfl : t = 97 := Option.some.inj (h2.symm.trans (by kernel_rfl))
  rw [show (Go.Proofs.YtleikndkannffaaDoor.Rows.laid_internal_strconv_uint64pow10 : DataW Unit) = Lib.tabData .u64 Lib.pow10Tab by kernel_rfl] at h4
  unfold Lib.TabIs
  rw [h3, ← Lib.cells_of_tab (n := 20) (e := 78) (by kernel_rfl) (by kernel_rfl) (by kernel_rfl) (by kernel_rfl) h4]
theorem glob_of {w : World} {l : List (String × DataW Unit)} (hs : w.ShapedOpen PG) (h : laidMet PG l w) (hm : ("internal/strconv.uint64pow10", Go.Proofs.YtleikndkannffaaDoor.Rows.laid_internal_strconv_uint64pow10) ∈ l) : Glob w.heap.size w := fun w' hb => by
  obtain ⟨m, hc⟩ := maxLen_cell hs
  have hB : 0 < w.heap.size := by
    rcases Nat.eq_zero_or_pos w.heap.size with h0 | h0
    · unfold World.cell? at hc
      rw [Array.getElem?_eq_none (by rw [h0]; exact Nat.zero_le _)] at hc
      cases hc
    · exact h0
  exact ⟨⟨m, (cell_below hb hB).trans hc⟩, Lib.tabBelow_of_tabIs (pow_is h hm) w' hb⟩
theorem open_faults {H : Type} {enc : TypeId × Value → H} {W : World} {base : Nat} {v : Value} {d : DataW H} {ps : List MemPlace} (hval : Value.okWide PG W .any base 22 v) (h : DataW.Trod enc PG W 0 (fun _ => true) true 22 v d ps)
    (hw : ∀ elems spare, d = .slice elems spare → (elems.length + spare.length) * PG.bytesOf 32 ≤ reachBytes) :
    ∃ fs : List Flt, fs.length ≤ 5864062014805 ∧ FlW W v fs ∧ ∀ f ∈ fs, f.at_ ≤ 9223372036854775807 := by
  obtain ⟨a, len, cap, rfl⟩ := okWide_slice u22 hval
  obtain ⟨fuel, hf⟩ := h
  obtain ⟨v, l, e, hl, hC, hu⟩ := flw_of_trod hf
  obtain rfl : Value.slice a len cap = v := by injection e
  refine ⟨l, ?_, hC, hu⟩
  rcases DataW.trod_slice u22 hf with ⟨hcs, _⟩ | ⟨a', len', cap', elems, rest, n, _, hcs, hx, _, _, _, hel, _⟩
  · injection hcs with hcs; injection hcs with _ hlen _
    have : l.length = len := by
      rcases hC with ⟨hv, rfl⟩ | ⟨_, _, hv, rfl⟩ | ⟨_, _, _, _, _, _, hv, _⟩ <;> (injection hv with _ h1 _; first | exact h1.symm | (rw [h1]; rfl))
    omega
  · injection hcs with hcs; injection hcs with _ hlen _
    have h1 : l.length = len := by
      rcases hC with ⟨hv, rfl⟩ | ⟨_, _, hv, rfl⟩ | ⟨_, _, _, _, _, _, hv, _⟩ <;> (injection hv with _ h1 _; first | exact h1.symm | (rw [h1]; rfl))
    injection hx with hd _
    have h2 := hw _ _ hd
    rw [show PG.bytesOf 32 = 24 by kernel_rfl, List.length_map, List.length_map, hel] at h2
    simp only [reachBytes] at h2
    omega
end Go.Am.C13
namespace Go.Am
open Go Go.RowKit Go.ChangeShapes
theorem post_below {H : Type} {enc : TypeId × Value → H} {P : Program} {f : Func} {s : ChangeSpec} {apart fresh handsOn again : Bool} {W W' : World} {args : Array Value} {v : Value} {ds gs : List (DataW H)} {before pa pv : List MemPlace}
    (hW : DataW.Whole enc P f.params.toList s.vars apart W args.toList ds gs before)
    (hres : ∀ (b : Nat) (sp : Nat → Bool) (hd : Bool), DataW.TrodAll enc P W' b sp hd f.resultTypes.toList (v.resultList f.resultTypes.size) (s.fn H (ds ++ gs)).results [])
    (hargs : ∀ sp : Nat → Bool, (∀ p ∈ before, sp p.block = true) → DataW.TrodAll enc P W' 0 sp true f.params.toList args.toList (s.fn H (ds ++ gs)).args pa)
    (hvars : ∀ sp : Nat → Bool, (∀ p ∈ before, sp p.block = true) → DataW.TrodVars enc P W' sp s.vars (s.fn H (ds ++ gs)).vars pv)
    (hps : before = pa ++ pv) (hb : Below W.heap.size W W')
    (hok : ∀ (j : Nat) (t : TypeId) (r : Value), f.resultTypes[j]? = some t → (v.resultList f.resultTypes.size)[j]? = some r → Value.okWide P W' .any 0 t r) :
    s.post enc P f apart fresh handsOn again W args v W' := by
  have hlt := hW.lt
  obtain ⟨_, _, _, _, _, hz, hn⟩ := id hW
  refine ⟨ds, gs, before, [], pa, pv, hW, hres _ _ _, hargs _ fun p hp => by simpa using hlt p hp, hvars _ fun p hp => by simpa using hlt p hp, World.keptBut_mono (fun p hp => ⟨hp, ?_⟩) (hb.frame (· ∈ before)), fun _ => ⟨hok, _, _, ([] ++ pa) ++ pv, ⟨[] ++ pa, pv, trodAll_append (hargs _ fun _ _ => rfl) (hres _ _ _), hvars _ fun _ _ => rfl, rfl, fun b off hp => ?_, fun ha => ?_⟩, fun p hp _ => ?_⟩⟩
  · rw [hps, List.mem_append] at hp; exact .inr hp
  · have hm : MemPlace.cell b off ∈ before := by rw [hps]; simpa using hp
    rw [hb.frozen (p := ⟨b, off, none⟩) (hlt _ hm)]
    exact hz b off hm
  · have := hn ha
    rw [hps] at this
    simpa using this
  · rw [hps]; simpa using hp
end Go.Am
