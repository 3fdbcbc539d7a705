/- One operation that is no call of a function is sound. -/
import Derived.Test.YtaohgpgbphlblaaAmApp
set_option linter.unusedVariables false
set_option linter.unusedSimpArgs false
set_option linter.unusedSectionVars false
namespace Go.Am
open Go Go.RowKit
section
variable {μ : Type} [AMem μ] {P : Program} {ρ : Ren} {V : Nat → Option Blk} {w : World} {B : Nat}

omit [AMem μ] in
theorem valO_ok {m m' : μ} {n n' r wm : Nat} {x : Option Value} {v : Value} (h : valO m n x = .ok v m' n' r wm) : x = some v ∧ m' = m ∧ n' = n ∧ r = 0 ∧ wm = 0 := by
  unfold valO at h; split at h
  · injection h with e1 e2 e3 e4 e5; subst e1; subst e2; subst e3; subst e4; subst e5; exact ⟨rfl, rfl, rfl, rfl, rfl⟩
  · cases h
omit [AMem μ] in
theorem valR_ok {m m' : μ} {n n' r wm b : Nat} {x : Option Value} {v : Value} (h : valR m n b x = .ok v m' n' r wm) : x = some v ∧ m' = m ∧ n' = n ∧ r = bit b ∧ wm = 0 := by
  unfold valR at h; split at h
  · injection h with e1 e2 e3 e4 e5; subst e1; subst e2; subst e3; subst e4; subst e5; exact ⟨rfl, rfl, rfl, rfl, rfl⟩
  · cases h

/-- the goal of each operation -/
def Goal (P : Program) (ρ : Ren) (V : Nat → Option Blk) (w : World) (B n : Nat) (m' : μ) (n' wm : Nat) (v : Value) (s : Sem Next) : Prop :=
  ∃ nx w' ρ', s.run P w = .ok nx w' ∧ NRel ρ' v nx ∧ Post ρ V w B n m' n' wm ρ' w'

theorem Goal.pure {m : μ} {n : Nat} {v v' : Value} {s : Sem Value} (hm : MRel ρ V w B) (hr : s.run P w = .ok v' w) (hv : VRel ρ v v') : Goal P ρ V w B n m n 0 v (do Pure.pure (.value (← s))) :=
  ⟨.value v', w, ρ, by rw [Sem.run_bind, hr]; rfl, .inl ⟨v', rfl, hv⟩, Post.same hm n m⟩
theorem Goal.val {m' : μ} {n n' wm : Nat} {v v' : Value} {w' : World} {ρ' : Ren} {s : Sem Value} (hr : s.run P w = .ok v' w') (hv : VRel ρ' v v') (hp : Post ρ V w B n m' n' wm ρ' w') : Goal P ρ V w B n m' n' wm v (do Pure.pure (.value (← s))) :=
  ⟨.value v', w', ρ', by rw [Sem.run_bind, hr]; rfl, .inl ⟨v', rfl, hv⟩, hp⟩

theorem mkl_len {sz len : Nat} {z c : List Value} {ps : List (Nat × Nat × Value)} (hz : z.length = sz) (h : fillA ps (reps z len) = some c) : c.length = len * sz := by
  have key : ∀ (ps : List (Nat × Nat × Value)) (c d : List Value), fillA ps c = some d → d.length = c.length := by
    intro ps
    induction ps with
    | nil => intro c d h; have h : some c = some d := h; injection h with h; rw [h]
    | cons p ps ih =>
      intro c d h
      have h : cond (Nat.beq (llen p.2.2.cells.toList) p.2.1) (Option.rec (motive := fun _ => Option (List Value)) none (fillA ps) (setCells c p.1 p.2.2.cells.toList)) none = some d := h
      cases hb : Nat.beq (llen p.2.2.cells.toList) p.2.1
      · rw [hb, cond_false] at h; cases h
      · rw [hb, cond_true] at h
        cases hs : setCells c p.1 p.2.2.cells.toList with
        | none => rw [hs] at h; cases h
        | some c1 => rw [hs] at h; rw [ih c1 d h]; exact (setCells_get hs).2.1
  rw [key _ _ _ h, reps_eq, List.length_flatten]
  simp [hz]

theorem zeros_eq {z : Array Value} {sz n : Nat} (hz : z.size = sz) (h0 : sz ≠ 0) : ((Array.range (n * sz)).map (fun i => z[i % z.size]!)).toList = (List.replicate n z.toList).flatten := by
  apply List.ext_getElem?
  intro i
  have hsum : ∀ n : Nat, ((List.replicate n z.toList).flatten).length = n * sz := by intro n; rw [List.length_flatten]; simp [hz]
  have hget : ∀ (n i : Nat), i < n * sz → ((List.replicate n z.toList).flatten)[i]? = z[i % sz]? := by
    intro n
    induction n with
    | zero => intro i hi; simp at hi
    | succ n ih =>
      intro i hi
      rw [List.replicate_succ, List.flatten_cons]
      by_cases h : i < sz
      · rw [List.getElem?_append_left (by simpa [hz] using h), Nat.mod_eq_of_lt h]; simp
      · rw [List.getElem?_append_right (by simp [hz]; omega)]
        have e : z.toList.length = sz := by simpa using hz
        rw [e, ih (i - sz) (by rw [Nat.succ_mul] at hi; omega), ← Nat.mod_eq_sub_mod (by omega)]
  by_cases hi : i < n * sz
  · rw [hget n i hi]
    have hlt : i % sz < z.size := by rw [hz]; exact Nat.mod_lt _ (by omega)
    subst hz
    simp only [Array.getElem?_toList, Array.getElem?_map, Array.getElem?_range, hi, if_true, Option.map_some]
    rw [getElem!_pos z _ hlt, getElem?_pos z _ hlt]
  · rw [List.getElem?_eq_none (by simp; omega), List.getElem?_eq_none (by rw [hsum]; omega)]

omit [AMem μ] in
theorem run_places (fs : Array Field) (hall : fs.toList.all (fun f => (P.info? f.type).isSome) = true) : (fs.mapM (m := Sem) fun f => Prod.mk f.offset <$> sizeOf f.type).run P w = .ok (places P fs).toArray w := by
  have key : ∀ l : List Field, l.all (fun f => (P.info? f.type).isSome) = true → (l.mapM (m := Sem) fun f => Prod.mk f.offset <$> sizeOf f.type).run P w = .ok (l.map fun f => (f.offset, ((P.info? f.type).map (·.size)).getD 0)) w := by
    intro l
    induction l with
    | nil => intro _; rfl
    | cons f l ih =>
      intro hl
      simp only [List.all_cons, Bool.and_eq_true] at hl
      obtain ⟨i, hi⟩ := Option.isSome_iff_exists.1 hl.1
      simp only [List.mapM_cons, Sem.run_bind, Sem.run_map, run_sizeOf hi, Result.andThen_ok, ih hl.2, Sem.run_pure, List.map_cons, hi, Option.map_some, Option.getD_some]
  have h := key fs.toList hall
  rw [Array.mapM_eq_mapM_toList]
  simp only [Sem.run_map, h, Result.andThen_ok]
  rfl
omit [AMem μ] in
theorem build_struct {t : Nat} {ti : TypeInfo} {zv : Value} {fs : Array Field} {ps : Array (Nat × Operand)} {d' : Array Value} {a : Act} (hti : P.info? t = some ti) (hzv : ti.zero = some zv) (hfs : P.underlying t = some (.struct fs))
    (hall : fs.toList.all (fun f => (P.info? f.type).isSome) = true) (hd : Instr.fill (fun i => (places P fs)[i]?) zv.cells (ps.toList.map fun p => (p.1, a.eval p.2)) = some d') :
    (Instr.build t (ps.map fun (i, x) => (i, a.eval x))).run P w = .ok (.agg d') w := by
  have e1 : (fun i : Nat => (places P fs).toArray[i]?) = fun i => (places P fs)[i]? := by funext i; simp
  have e2 : (ps.map fun (i, x) => (i, a.eval x)).toList = ps.toList.map fun p => (p.1, a.eval p.2) := by simp
  have hp := run_places (P := P) (w := w) fs hall
  unfold Instr.build
  simp only [Sem.run_bind, run_zeroValue hti hzv, run_underlying hfs, Result.andThen_ok, bind_pure_comp, hp, e1, e2, hd, Sem.run_pure]
omit [AMem μ] in
theorem build_array {t k el : Nat} {ti ie : TypeInfo} {zv : Value} {ps : Array (Nat × Operand)} {d' : Array Value} {a : Act} (hti : P.info? t = some ti) (hzv : ti.zero = some zv) (hel : P.underlying t = some (.array k el)) (hie : P.info? el = some ie)
    (hd : Instr.fill (fun i => some (i * ie.size, ie.size)) zv.cells (ps.toList.map fun p => (p.1, a.eval p.2)) = some d') :
    (Instr.build t (ps.map fun (i, x) => (i, a.eval x))).run P w = .ok (.agg d') w := by
  have e2 : (ps.map fun (i, x) => (i, a.eval x)).toList = ps.toList.map fun p => (p.1, a.eval p.2) := by simp
  unfold Instr.build
  simp only [Sem.run_bind, run_zeroValue hti hzv, run_underlying hel, Result.andThen_ok, run_sizeOf hie, e2, hd, Sem.run_pure]

omit [AMem μ] in
theorem run_buildSlice {t el len sz : Nat} {ti : TypeInfo} {zv : Value} {ps : Array (Nat × Operand)} {d' : Array Value} {a : Act} (hel : P.underlying t = some (.slice el)) (hti : P.info? el = some ti) (hzv : ti.zero = some zv) (hts : ti.size = sz) (hle : len * sz ≤ 16777216)
    (hd : Instr.fill (fun i => some (i * sz, sz)) ((Array.range (len * sz)).map (fun i => zv.cells[i % zv.cells.size]!)) (ps.toList.map fun p => (p.1, a.eval p.2)) = some d') :
    (Instr.buildSlice t len (ps.map fun (i, x) => (i, a.eval x))).run P w = .ok (.slice (some ⟨w.heap.size, 0, none⟩) len len) (w.alloc (.cells d' el)) := by
  have e2 : (ps.map fun (i, x) => (i, a.eval x)).toList = ps.toList.map fun p => (p.1, a.eval p.2) := by simp
  subst hts
  have hno : ¬ (len * ti.size > 2 ^ 24) := by omega
  unfold Instr.buildSlice
  simp only [Sem.run_bind, run_underlying hel, Result.andThen_ok, run_sizeOf hti]
  rw [if_neg hno]
  by_cases hl0 : len * ti.size = 0
  · rw [hl0] at hd
    have r0 : Array.range 0 = #[] := rfl
    simp only [r0, List.map_toArray, List.map_nil] at hd
    simp only [hl0, if_true, Sem.run_pure, Sem.run_bind, Result.andThen_ok, r0, List.map_toArray, List.map_nil, e2, hd, newRow]
    rfl
  · simp only [if_neg hl0, Sem.run_bind, run_zeroValue hti hzv, Result.andThen_ok, Sem.run_pure, e2, hd, newRow]
    rfl

omit [AMem μ] in
theorem run_makeSlice' {t el sz l c : Nat} {ti : TypeInfo} {zv : Value} {k k' : IntKind} (hel : P.underlying t = some (.slice el)) (hti : P.info? el = some ti) (hzv : ti.zero = some zv) (hts : ti.size = sz) (hlc : l ≤ c) (hb : c * ti.bytes ≤ 281474976710656) (hc : c ≤ 1099511627776)
    (hz0 : sz ≠ 0) (hzs : zv.cells.size = sz) :
    (Instr.makeSlice t (.int k (Int.ofNat l)) (.int k' (Int.ofNat c))).run P w = .ok (.slice (some ⟨w.heap.size, 0, none⟩) l c) (w.alloc (.cells ((List.replicate c zv.cells.toList).flatten).toArray el)) := by
  have e1 : IntKind.i64.wrap (Int.ofNat l) = (l : Int) := wrap_id_i64 (by simp only [Int.ofNat_eq_natCast]; omega) (by simp only [Int.ofNat_eq_natCast]; omega)
  have e2 : IntKind.i64.wrap (Int.ofNat c) = (c : Int) := wrap_id_i64 (by simp only [Int.ofNat_eq_natCast]; omega) (by simp only [Int.ofNat_eq_natCast]; omega)
  have h1 : ((ti.bytes : Int) * (c : Int) ≤ 281474976710656) := by rw [← Int.natCast_mul, Nat.mul_comm]; omega
  have h2 : ¬ ((c : Int) < 0) := by omega
  have h3 : ¬ ((l : Int) < 0) := by omega
  have h4 : ¬ ((c : Int) < (l : Int)) := by omega
  have h5 : ¬ (281474976710656 < (ti.bytes : Int) * (c : Int)) := by omega
  unfold Instr.makeSlice
  simp only [Sem.run_bind, run_underlying hel, Result.andThen_ok, asInt, asIntOf, Sem.run_pure, typeInfo, run_program, hti, e1, e2]
  have hcond : (((decide ((c : Int) < 0) || decide ((ti.bytes : Int) * (c : Int) > 2 ^ 48)) || decide ((l : Int) < 0) || decide ((l : Int) > (c : Int))) = true) = False := by
    simp [h3]; omega
  simp only [hcond, if_false, Sem.run_bind, run_askRoom, Result.andThen_ok, Int.toNat_natCast]
  by_cases hc0 : c * ti.size = 0
  · have hcz : c = 0 := by rcases Nat.mul_eq_zero.1 hc0 with h | h; exact h; rw [hts] at h; exact absurd h hz0
    subst hcz
    have r0 : Array.range 0 = #[] := rfl
    simp [run_sizeOf hti, newRow, r0]
  · simp only [run_sizeOf hti, Result.andThen_ok, if_neg hc0, Sem.run_bind, run_zeroValue hti hzv, Sem.run_pure, newRow]
    have e3 : (Array.range (c * ti.size)).map (fun x => zv.cells[x % zv.cells.size]!) = ((List.replicate c zv.cells.toList).flatten).toArray := by
      apply Array.ext'
      rw [hts, zeros_eq hzs hz0]
    rw [e3]
    rfl

set_option maxHeartbeats 1000000 in
theorem step_sound {Γ : Ctx} {e : List Value} {a : Act} {m m' : μ} {n n' r wm : Nat} {v : Value} {rec : Nat → List Value → μ → Nat → OR μ} {o : Oper} {x : AOp}
    (hnc : (∀ f args, x ≠ .call f args) ∧ (∀ y args, x ≠ .callv y args)) (hchk : chkOp P Γ o.op x = true) (he : EnvRel ρ Γ e a.tmps) (h : stepA P rec e m n x = .ok v m' n' r wm)
    (hm : MRel ρ V w B) (hag : Agree V m n (Nat.lor r wm)) (hfree : Free ρ n) : Goal P ρ V w B n m' n' wm v (execOp a.eval o) := by
  obtain ⟨dst, op, ty, pos, after, guard⟩ := o
  simp only at hchk
  unfold chkOp at hchk
  split at hchk
  -- move, assign
  · rename_i x y
    replace h : OR.ok (ev e y) m n 0 0 = .ok v m' n' r wm := h
    injection h with e1 e2 e3 e4 e5; subst e1; subst e2; subst e3; subst e4; subst e5
    exact ⟨_, w, ρ, rfl, .inl ⟨_, rfl, opd_sound he hchk⟩, Post.same hm n m⟩
  · rename_i x y
    replace h : OR.ok (ev e y) m n 0 0 = .ok v m' n' r wm := h
    injection h with e1 e2 e3 e4 e5; subst e1; subst e2; subst e3; subst e4; subst e5
    exact ⟨_, w, ρ, rfl, .inl ⟨_, rfl, opd_sound he hchk⟩, Post.same hm n m⟩
  -- pick
  · rename_i c a1 b c' a' b'
    replace h : valO m n (pickV (ev e a') (ev e b') (ev e c')) = .ok v m' n' r wm := h
    have h0 := valO_ok h
    clear h
    obtain ⟨h, rfl, rfl, rfl, rfl⟩ := h0
    simp only [Bool.and_eq_true] at hchk
    have hc := opd_sound he hchk.1.1
    unfold pickV at h
    split at h
    · rename_i t ht
      injection h with h
      rw [ht] at hc
      have hc := hc.flat_eq rfl
      refine ⟨.value (if t then a.eval a1 else a.eval b), w, ρ, by simp [execOp, hc, asBool], .inl ⟨_, rfl, ?_⟩, Post.same hm _ _⟩
      rw [← h]
      cases t
      · exact opd_sound he hchk.2
      · exact opd_sound he hchk.1.2
    · cases h
  -- binOp
  · rename_i op t x y yt op' t' x' y'
    replace h : valO m n (binV P op' t' (ev e x') (ev e y')) = .ok v m' n' r wm := h
    have h0 := valO_ok h
    clear h
    obtain ⟨h, rfl, rfl, rfl, rfl⟩ := h0
    simp only [Bool.and_eq_true, beq_iff_eq] at hchk
    obtain ⟨⟨⟨e1, e2⟩, hx⟩, hy⟩ := hchk
    have e1 : op = op' := e1
    subst e1; subst e2
    obtain ⟨v', hr, hv⟩ := binV_sound (w := w) (opd_sound he hx) (opd_sound he hy) h x y
    exact Goal.pure hm hr hv
  -- unOp
  · rename_i op t x op' x'
    replace h : valO m n (unaV op' (ev e x')) = .ok v m' n' r wm := h
    have h0 := valO_ok h
    clear h
    obtain ⟨h, rfl, rfl, rfl, rfl⟩ := h0
    simp only [Bool.and_eq_true, beq_iff_eq] at hchk
    obtain ⟨e1, hx⟩ := hchk
    have e1 : op = op' := e1
    subst e1
    obtain ⟨v', hr, hv⟩ := unaV_sound (P := P) (w := w) (opd_sound he hx) h
    exact Goal.pure hm hr hv
  -- convert
  · rename_i s d x k x'
    replace h : valO m n (convV k (ev e x')) = .ok v m' n' r wm := h
    have h0 := valO_ok h
    clear h
    obtain ⟨h, rfl, rfl, rfl, rfl⟩ := h0
    simp only [Bool.and_eq_true] at hchk
    obtain ⟨⟨hs, hd⟩, hx⟩ := hchk
    split at hd
    · rename_i k' hd'
      have : k = k' := by simpa using hd
      subst this
      obtain ⟨v', hr, hv⟩ := convV_sound (w := w) hs hd' (opd_sound he hx) h
      exact Goal.pure hm hr hv
    · cases hd
  -- fieldAddr
  · rename_i t x f off x'
    replace h : valO m n (fldV off (ev e x')) = .ok v m' n' r wm := h
    have h0 := valO_ok h
    clear h
    obtain ⟨h, rfl, rfl, rfl, rfl⟩ := h0
    simp only [Bool.and_eq_true] at hchk
    obtain ⟨ht, hx⟩ := hchk
    split at ht
    · rename_i fs hfs
      split at ht
      · rename_i fd hfd
        simp only [Bool.and_eq_true, beq_iff_eq] at ht
        obtain ⟨ho, hi⟩ := ht
        split at hi
        · rename_i ti hti
          obtain ⟨v', hr, hv⟩ := fldV_sound (w := w) hfs hfd ho hti (by simpa using hi) (opd_sound he hx) h
          exact Goal.pure hm hr hv
        · cases hi
      · cases ht
    · cases ht
  -- indexAddr of a slice
  · rename_i t x i sz x' i'
    replace h : valO m n (obind (fun i => idxV sz i (ev e x')) (natOf (ev e i'))) = .ok v m' n' r wm := h
    have h0 := valO_ok h
    clear h
    obtain ⟨h, rfl, rfl, rfl, rfl⟩ := h0
    simp only [Bool.and_eq_true] at hchk
    obtain ⟨⟨ht, hx⟩, hi⟩ := hchk
    split at ht
    · rename_i el hel
      obtain ⟨ti, hti, hts⟩ := isSz_run ht
      cases hn : natOf (ev e i') with
      | none => rw [hn] at h; cases h
      | some k =>
        rw [hn] at h
        obtain ⟨ik, hik⟩ := natOf_some (opd_sound he hi) hn
        obtain ⟨v', hr, hv⟩ := idxV_sound (w := w) (k := ik) hel hti hts (opd_sound he hx) h
        refine Goal.pure (v' := v') hm ?_ hv
        rw [hik]; exact hr
    · cases ht
  -- indexAddr of an array
  · rename_i t x i k sz x' i'
    replace h : valO m n (obind (fun i => idaV k sz i (ev e x')) (natOf (ev e i'))) = .ok v m' n' r wm := h
    have h0 := valO_ok h
    clear h
    obtain ⟨h, rfl, rfl, rfl, rfl⟩ := h0
    simp only [Bool.and_eq_true] at hchk
    obtain ⟨⟨ht, hx⟩, hi⟩ := hchk
    split at ht
    · rename_i k' el hel
      simp only [Bool.and_eq_true, beq_iff_eq] at ht
      obtain ⟨rfl, ht⟩ := ht
      obtain ⟨ti, hti, hts⟩ := isSz_run ht
      cases hn : natOf (ev e i') with
      | none => rw [hn] at h; cases h
      | some j =>
        rw [hn] at h
        obtain ⟨ik, hik⟩ := natOf_some (opd_sound he hi) hn
        obtain ⟨v', hr, hv⟩ := idaV_sound (w := w) (k := ik) hel hti hts (opd_sound he hx) h
        refine Goal.pure (v' := v') hm ?_ hv
        rw [hik]; exact hr
    · cases ht
  -- build
  · rename_i t ps z ps'
    replace h : valO m n (aggO (fillA (parts3 e ps') z)) = .ok v m' n' r wm := h
    have h0 := valO_ok h
    clear h
    obtain ⟨h, rfl, rfl, rfl, rfl⟩ := h0
    obtain ⟨c, hc, rfl⟩ := aggO_some h
    simp only [Bool.and_eq_true] at hchk
    obtain ⟨hz, hp⟩ := hchk
    obtain ⟨ti, zv, hti, hzv, hzl, hfl, _⟩ := isZero_run hz
    split at hp
    · rename_i fs hfs
      simp only [Bool.and_eq_true] at hp
      obtain ⟨hall, hps⟩ := hp
      obtain ⟨h1, h2⟩ := partsOk_sound he hps
      obtain ⟨d', hd, hr⟩ := fill_sound _ _ z c zv.cells h1 h2 (by rw [hzl]; exact flats_rel ρ hfl) hc
      refine Goal.pure (v' := .agg d') hm (build_struct hti hzv hfs hall hd) (by have := hr.agg; simpa using this)
    · rename_i k el hel
      split at hp
      · rename_i ie hie
        obtain ⟨h1, h2⟩ := partsOk_sound he hp
        obtain ⟨d', hd, hr⟩ := fill_sound (place := fun i => some (i * ie.size, ie.size)) _ _ z c zv.cells h1 h2 (by rw [hzl]; exact flats_rel ρ hfl) hc
        refine Goal.pure (v' := .agg d') hm (build_array hti hzv hel hie hd) (by have := hr.agg; simpa using this)
      · cases hp
    · cases hp
  -- extract
  · rename_i x i i' x'
    replace h : valO m n (extrV i' (ev e x')) = .ok v m' n' r wm := h
    have h0 := valO_ok h
    clear h
    obtain ⟨h, rfl, rfl, rfl, rfl⟩ := h0
    simp only [Bool.and_eq_true, beq_iff_eq] at hchk
    obtain ⟨rfl, hx⟩ := hchk
    obtain ⟨v', hr, hv⟩ := extrV_sound (P := P) (w := w) (opd_sound he hx) h
    exact Goal.pure hm hr hv
  -- nilCheck
  · rename_i x x'
    replace h : valO m n (nilckV (ev e x')) = .ok v m' n' r wm := h
    have h0 := valO_ok h
    clear h
    obtain ⟨h, rfl, rfl, rfl, rfl⟩ := h0
    obtain ⟨ad, hx, hv⟩ := nilckV_sound (opd_sound he hchk) h
    exact ⟨.value (a.eval x), w, ρ, by simp [execOp, hx], .inl ⟨_, rfl, hv⟩, Post.same hm _ _⟩
  -- makeFunc
  · rename_i f a1 c f' a' c'
    replace h : OR.ok (.func (.func f') (evs e a').toArray (evs e c').toArray) m n 0 0 = .ok v m' n' r wm := h
    injection h with e1 e2 e3 e4 e5; subst e1; subst e2; subst e3; subst e4; subst e5
    simp only [Bool.and_eq_true, beq_iff_eq] at hchk
    obtain ⟨⟨rfl, ha⟩, hc⟩ := hchk
    have h1 := opds_sound he ha
    have h2 := opds_sound he hc
    refine ⟨_, w, ρ, rfl, .inl ⟨_, rfl, ?_⟩, Post.same hm n m⟩
    refine .func (by simpa using h1.1) (fun i x y hx hy => h1.2 i x y (by simpa using hx) (by simpa using hy)) (by simpa using h2.1) (fun i x y hx hy => h2.2 i x y (by simpa using hx) (by simpa using hy))
  -- len
  · rename_i args ts str x'
    replace h : valO m n (lenV str (ev e x')) = .ok v m' n' r wm := h
    have h0 := valO_ok h
    clear h
    obtain ⟨h, rfl, rfl, rfl, rfl⟩ := h0
    split at hchk
    · rename_i x t hargs hts
      simp only [Bool.and_eq_true] at hchk
      obtain ⟨hx, ht⟩ := hchk
      have hargs : args = #[x] := by apply Array.ext'; simpa using hargs
      subst hargs
      have hxr := opd_sound he hx
      have hok : ∃ v', (Builtin.len_ ts ty #[a.eval x]).run P w = .ok v' w ∧ VRel ρ v v' := by
        unfold lenV at h
        split at h
        · rename_i ad k c hxe
          rw [hxe] at hxr
          obtain ⟨a', c', hsh⟩ := slice_shape hxr
          split at ht
          · rename_i el hel
            have : str = false := by simpa using ht
            subst this
            injection h with h; subst h
            exact ⟨.int .i64 k, by simp [Builtin.len_, hts, hsh, run_underlying hel, goInt], .int ρ _ _⟩
          · subst ht; cases h
          · cases ht
        · rename_i s hxe
          rw [hxe] at hxr
          have e := hxr.flat_eq rfl
          split at ht
          · have : str = false := by simpa using ht
            subst this; cases h
          · rename_i hst
            subst ht
            injection h with h; subst h
            exact ⟨.int .i64 s.size, by simp [Builtin.len_, hts, e, run_underlying hst, goInt], .int ρ _ _⟩
          · cases ht
        · cases h
      obtain ⟨v', hr, hv⟩ := hok
      exact ⟨.value v', w, ρ, by simp [execOp, resolve, invoke, builtin, hr], .inl ⟨_, rfl, hv⟩, Post.same hm _ _⟩
    · cases hchk
  -- max
  · rename_i args ts x' y'
    replace h : valO m n (mxV (ev e x') (ev e y')) = .ok v m' n' r wm := h
    have h0 := valO_ok h
    clear h
    obtain ⟨h, rfl, rfl, rfl, rfl⟩ := h0
    split at hchk
    · rename_i x y hargs
      simp only [Bool.and_eq_true] at hchk
      have hargs : args = #[x, y] := by apply Array.ext'; simpa using hargs
      subst hargs
      obtain ⟨v', hr, hv⟩ := mxV_sound (P := P) (w := w) ts ty (opd_sound he hchk.1) (opd_sound he hchk.2) h
      refine ⟨.value v', w, ρ, ?_, .inl ⟨_, rfl, hv⟩, Post.same hm _ _⟩
      simp [execOp, resolve, invoke, builtin, hr]
    · cases hchk
  -- slice
  · rename_i t x lo hi sz x' lo' hi'
    replace h : slcM m n sz (slcV sz (oev e lo') (oev e hi') (ev e x')) (ev e x') = .ok v m' n' r wm := h
    simp only [Bool.and_eq_true] at hchk
    obtain ⟨⟨⟨ht, hx⟩, hlo⟩, hhi⟩ := hchk
    have opt : ∀ {u : Option Operand} {u' : Option Opd}, optOk Γ u u' = true → (oev e u' = none ∧ u.map a.eval = none) ∨ ∃ y y', oev e u' = some y ∧ u.map a.eval = some y' ∧ VRel ρ y y' := by
      intro u u' hu
      cases u with
      | none => cases u' with
        | none => exact .inl ⟨rfl, rfl⟩
        | some _ => cases hu
      | some u => cases u' with
        | none => cases hu
        | some u' => exact .inr ⟨_, _, rfl, rfl, opd_sound he hu⟩
    split at ht
    · rename_i el hel
      obtain ⟨ti, hti, hts⟩ := isSz_run ht
      have hxr := opd_sound he hx
      have fin : ∀ {r0 : Nat}, (∀ b o k p, ev e x' = .slice (some ⟨b, o, none⟩) k UNK → ρ b = some p → p.sz = sz) → slcV sz (oev e lo') (oev e hi') (ev e x') = some v → m' = m → n' = n → wm = 0 → Goal P ρ V w B n m' n' wm v (execOp a.eval ⟨dst, .slice t x lo hi none, ty, pos, after, guard⟩) := by
        intro r0 hs hv e1 e2 e3
        subst e1; subst e2; subst e3
        obtain ⟨v', hr, hv'⟩ := slcV_sound (w := w) hel hti hts (opt hlo) (opt hhi) hs hxr hv
        exact Goal.pure hm hr hv'
      unfold slcM at h
      split at h
      · rename_i b o ln c hxe
        cases hc : Nat.beq c UNK
        · rw [hc, cond_false] at h
          obtain ⟨h1, h2, h3, _, h5⟩ := valO_ok h
          refine fin (r0 := 0) (fun b o k p hk => ?_) h1 h2 h3 h5
          rw [hxe] at hk; injection hk with _ _ hk; subst hk; simp at hc
        · rw [hc, cond_true] at h
          cases hz : szOk sz (getb m n b)
          · rw [hz, cond_false] at h; cases h
          · rw [hz, cond_true] at h
            obtain ⟨h1, h2, h3, h4, h5⟩ := valR_ok h
            refine fin (r0 := 0) (fun b' o' k p hk hp => ?_) h1 h2 h3 h5
            rw [hxe] at hk; injection hk with hk _ _; injection hk with hk; injection hk with hk _; subst hk
            unfold szOk at hz
            split at hz
            · rename_i s _ _ hg
              have hz : s = sz := Nat.eq_of_beq_eq_true hz
              obtain ⟨_, hb⟩ := at_block hm hag (by rw [lor_test, h4, bit_test]; simp) hg hp
              rw [hb.1, hz]
            · cases hz
      · rename_i hno
        obtain ⟨h1, h2, h3, _, h5⟩ := valO_ok h
        exact fin (r0 := 0) (fun b o k p hk => absurd hk (hno b o k UNK)) h1 h2 h3 h5
    · cases ht
  -- alloc
  · rename_i t z
    replace h : newb m n (.cells z 0 false true) ptrP = .ok v m' n' r wm := h
    obtain ⟨ti, zv, hti, hzv, hzl, hfl, _⟩ := isZero_run hchk
    obtain ⟨rfl, ρ', hn, hpost⟩ := newb_sound (c' := zv.cells.toList) hm h hfree 0 t (by rw [hzl]; exact Nat.le_refl _) (by rw [hzl]; exact (flats_rel ρ hfl).getx) (fun h => by cases h)
    refine Goal.val (v' := .pointer (some ⟨w.heap.size, 0, none⟩)) (w' := w.alloc (.cells zv.cells t)) ?_ ?_ (by simpa using hpost)
    · simp only [Instr.alloc, Sem.run_bind, run_zeroValue hti hzv, Result.andThen_ok, newVar, newRow]; rfl
    · exact VRel.ptr (o := 0) hn
  -- box
  · rename_i t x x'
    replace h : newb m n (.cells (ev e x').cells.toList 0 false true) ptrP = .ok v m' n' r wm := h
    have hx := (opd_sound he hchk).cells
    obtain ⟨rfl, ρ', hn, hpost⟩ := newb_sound (c' := (a.eval x).cells.toList) hm h hfree 0 t (by rw [hx.1]; exact Nat.le_refl _) hx.getx (fun h => by cases h)
    refine Goal.val (v' := .pointer (some ⟨w.heap.size, 0, none⟩)) (w' := w.alloc (.cells (a.eval x).cells t)) ?_ ?_ (by simpa using hpost)
    · simp only [Instr.box, Sem.run_bind, newVar, newRow]; rfl
    · exact VRel.ptr (o := 0) hn
  -- buildSlice
  · rename_i t len ps sz len' z ps'
    replace h : mklC m n sz len' (fillA (parts2 sz e ps') (reps z len')) = .ok v m' n' r wm := h
    simp only [Bool.and_eq_true, beq_iff_eq, decide_eq_true_eq] at hchk
    obtain ⟨⟨⟨rfl, hle⟩, ht⟩, hps⟩ := hchk
    split at ht
    · rename_i el hel
      simp only [Bool.and_eq_true, beq_iff_eq, Bool.not_eq_true'] at ht
      obtain ⟨⟨⟨hsz, hz⟩, hzl⟩, hz0⟩ := ht
      have hz0 : sz ≠ 0 := by intro e; subst e; simp at hz0
      obtain ⟨ti, hti, hts⟩ := isSz_run hsz
      obtain ⟨ti', zv, hti', hzv, hzl', hfl, _⟩ := isZero_run hz
      have : ti = ti' := by rw [hti] at hti'; injection hti'
      subst this
      cases hc : fillA (parts2 sz e ps') (reps z len) with
      | none => rw [hc] at h; cases h
      | some c =>
        rw [hc] at h
        replace h : newb m n (.cells c sz false true) (slcP 0 len len) = .ok v m' n' r wm := h
        obtain ⟨h1, h2⟩ := parts2Ok_sound he sz hps
        have hzs : zv.cells.size = sz := by have := congrArg List.length hzl'; simp at this; omega
        have hcells : ((Array.range (len * sz)).map (fun i => zv.cells[i % zv.cells.size]!)).toList = reps z len := by
          rw [zeros_eq hzs hz0, hzl', reps_eq]
        obtain ⟨d', hd, hr⟩ := fill_sound (ρ := ρ) (place := fun i => some (i * sz, sz)) _ _ _ c ((Array.range (len * sz)).map (fun i => zv.cells[i % zv.cells.size]!)) h1 h2
          (by rw [hcells]; refine flats_rel ρ ?_; rw [reps_eq, List.all_flatten]; simp only [List.all_eq_true]; intro l hl; rw [List.eq_of_mem_replicate hl]; simpa [List.all_eq_true] using hfl) hc
        obtain ⟨rfl, ρ', hn, hpost⟩ := newb_sound (c' := d'.toList) hm h hfree 0 el (by rw [hr.1]; exact Nat.le_refl _) hr.getx (fun h => by cases h)
        have hlen : len ≤ 16777216 := by
          have := Nat.le_mul_of_pos_right len (Nat.pos_of_ne_zero hz0); omega
        refine Goal.val (v' := .slice (some ⟨w.heap.size, 0, none⟩) len len) (w' := w.alloc (.cells d' el)) ?_ ?_ (by simpa using hpost)
        · exact run_buildSlice hel hti hzv hts hle hd
        · exact VRel.slice (o := 0) hn (Nat.le_refl _) (fun h => by unfold UNK at h; omega) (fun _ => rfl) (by unfold VAG; omega)
    · cases ht
  -- makeSlice
  · rename_i t l c sz bytes z l' c'
    replace h : makeV sz bytes z m n (natOf (ev e l')) (natOf (ev e c')) = .ok v m' n' r wm := h
    simp only [Bool.and_eq_true] at hchk
    obtain ⟨⟨ht, hl⟩, hc⟩ := hchk
    split at ht
    · rename_i el hel
      simp only [Bool.and_eq_true, beq_iff_eq, Bool.not_eq_true'] at ht
      obtain ⟨⟨⟨⟨hsz, hby⟩, hz⟩, hzl⟩, hz0⟩ := ht
      have hz0 : sz ≠ 0 := by intro e; subst e; simp at hz0
      obtain ⟨ti, hti, hts⟩ := isSz_run hsz
      obtain ⟨ti2, hti2, htb⟩ := isBytes_run hby
      have : ti = ti2 := by rw [hti] at hti2; injection hti2
      subst this
      obtain ⟨ti', zv, hti', hzv, hzl', hfl, _⟩ := isZero_run hz
      have : ti = ti' := by rw [hti] at hti'; injection hti'
      subst this
      have hzs : zv.cells.size = sz := by have := congrArg List.length hzl'; simp at this; omega
      cases hnl : natOf (ev e l') with
      | none => rw [hnl] at h; cases h
      | some l1 =>
        cases hnc : natOf (ev e c') with
        | none => rw [hnl, hnc] at h; cases h
        | some c1 =>
          rw [hnl, hnc] at h
          obtain ⟨k, hk⟩ := natOf_some (opd_sound he hl) hnl
          obtain ⟨k', hk'⟩ := natOf_some (opd_sound he hc) hnc
          replace h : cond (Nat.ble l1 c1 && Nat.ble (Nat.mul c1 bytes) 281474976710656 && Nat.ble c1 1099511627776) (newb m n (.cells (reps z c1) sz false true) (slcP 0 l1 c1)) .no = .ok v m' n' r wm := h
          cases hb : (Nat.ble l1 c1 && Nat.ble (Nat.mul c1 bytes) 281474976710656 && Nat.ble c1 1099511627776)
          · rw [hb, cond_false] at h; cases h
          · rw [hb, cond_true] at h
            simp only [Bool.and_eq_true, Nat.ble_eq] at hb
            obtain ⟨⟨hb1, hb2⟩, hb3⟩ := hb
            have hb2 : c1 * bytes ≤ 281474976710656 := hb2
            have hfl2 : (reps z c1).all flat = true := by rw [reps_eq, List.all_flatten]; simp only [List.all_eq_true]; intro l hl; rw [List.eq_of_mem_replicate hl]; simpa [List.all_eq_true] using hfl
            obtain ⟨rfl, ρ', hn, hpost⟩ := newb_sound (c' := reps z c1) hm h hfree 0 el (Nat.le_refl _) (flats_rel ρ hfl2).getx (fun h => by cases h)
            refine Goal.val (v' := .slice (some ⟨w.heap.size, 0, none⟩) l1 c1) ?_ ?_ hpost
            · rw [hk, hk', run_makeSlice' hel hti hzv hts hb1 (by rw [htb]; exact hb2) hb3 hz0 hzs, hzl', reps_eq]
            · exact VRel.slice (o := 0) hn hb1 (fun h => by unfold UNK at h; omega) (fun _ => rfl) (by unfold VAG; omega)
    · cases ht
  -- load
  · rename_i t x x'
    replace h : ld1V m n (ev e x') = .ok v m' n' r wm := h
    simp only [Bool.and_eq_true, beq_iff_eq] at hchk
    obtain ⟨v', hr, hv, rfl, rfl, rfl⟩ := ld1V_sound hchk.1 hm (opd_sound he hchk.2) h hag
    exact Goal.pure hm hr hv
  · rename_i t x k x'
    replace h : ldnV k m n (ev e x') = .ok v m' n' r wm := h
    simp only [Bool.and_eq_true, beq_iff_eq] at hchk
    obtain ⟨v', hr, hv, rfl, rfl, rfl⟩ := ldnV_sound hchk.1.1 hchk.1.2 hm (opd_sound he hchk.2) h hag
    exact Goal.pure hm hr hv
  -- store
  · rename_i t x y k x' y'
    replace h : stV k (ev e y').cells.toList m n (ev e x') = .ok v m' n' r wm := h
    simp only [Bool.and_eq_true] at hchk
    obtain ⟨rfl, w', hr, hpost⟩ := stV_sound hchk.1.1 hm (opd_sound he hchk.1.2) (opd_sound he hchk.2) h hag
    exact ⟨.skip, w', ρ, by simp [execOp, hr], .inr ⟨rfl, rfl⟩, hpost⟩
  -- append
  · rename_i args ts sz bytes x' y'
    replace h : appO sz bytes m n (ev e x') (ev e y') (shown m n sz (ev e x')) (shown m n sz (ev e y')) = .ok v m' n' r wm := h
    split at hchk
    · rename_i x y t u hargs hts
      simp only [Bool.and_eq_true] at hchk
      obtain ⟨⟨hx, hy⟩, ht⟩ := hchk
      have hargs : args = #[x, y] := by apply Array.ext'; simpa using hargs
      have hts : ts = #[t, u] := by apply Array.ext'; simpa using hts
      subst hargs; subst hts
      split at ht
      · rename_i el el2 hel hel2
        simp only [Bool.and_eq_true] at ht
        obtain ⟨⟨⟨hsz, hby⟩, _⟩, hz⟩ := ht
        obtain ⟨ti, hti, hts⟩ := isSz_run hsz
        obtain ⟨ti2, hti2, htb⟩ := isBytes_run hby
        have : ti = ti2 := by rw [hti] at hti2; injection hti2
        subst this
        rw [hti] at hz
        simp only at hz
        split at hz
        · rename_i zv hzv
          have hzs : zv.cells.size = sz := by simpa using hz
          obtain ⟨v', w', ρ', hr, hv, hpost⟩ := appO_sound (P := P) (ty := ty) hm h hag hfree hel hel2 hti hzv hts hzs htb (opd_sound he hx) (opd_sound he hy)
          exact ⟨.value v', w', ρ', by simp [execOp, resolve, invoke, builtin, hr], .inl ⟨_, rfl, hv⟩, hpost⟩
        · cases hz
      · cases ht
    · cases hchk
  -- calls
  · rename_i f args ts g args'
    exact absurd rfl (hnc.1 g args')
  · rename_i f args ts x args'
    exact absurd rfl (hnc.2 x args')
  · cases hchk
end
end Go.Am
