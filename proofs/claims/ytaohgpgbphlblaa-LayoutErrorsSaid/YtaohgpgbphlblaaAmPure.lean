/- The operations that touch no memory are sound. -/
import Derived.Test.YtaohgpgbphlblaaAmChk
set_option linter.unusedVariables false
set_option linter.unusedSimpArgs false
set_option linter.unusedSectionVars false
namespace Go.Am
open Go Go.RowKit
section
variable {P : Program} {w : World} {ρ : Ren}

theorem eqGuard_flat {op : BinOp} {t : Nat} {x y : Operand} {a b : Value} (h1 : ∀ c d, ¬ (a = .agg c ∧ b = .agg d)) (h2 : a ≠ .nilIface) : (eqGuard op t x y a b).run P w = .ok () w := by
  unfold eqGuard
  cases op <;> simp <;> split <;> simp_all

theorem eqGuard_ops {op : BinOp} {t : Nat} {x y x' y' : Operand} {a b : Value} (h2 : a ≠ .nilIface) : eqGuard op t x y a b = eqGuard op t x' y' a b := by
  unfold eqGuard
  cases a <;> cases b <;> first | rfl | exact absurd rfl h2

theorem dec_le (a b : Int) : decide (a ≤ b) = !decide (b < a) := by
  rw [Bool.eq_iff_iff]; simp

theorem intBin_run {op : BinOp} {k : IntKind} {t : Nat} {a b : Int} {v : Value} (h : intBin op k a b = some v) : (binOp op t (.int k a) (.int k b)).run P w = .ok v w ∧ flat v = true := by
  cases op <;> simp only [intBin] at h
  case add => injection h with h; subst h; exact ⟨by simp [binOp, Op.intArith, wrapF_eq] <;> rfl, rfl⟩
  case sub => injection h with h; subst h; exact ⟨by simp [binOp, Op.intArith, wrapF_eq] <;> rfl, rfl⟩
  case mul => injection h with h; subst h; exact ⟨by simp [binOp, Op.intArith, wrapF_eq] <;> rfl, rfl⟩
  case quo =>
    rw [eqB_eq] at h
    by_cases hb : b = 0
    · simp [hb] at h
    · simp [hb] at h; subst h; exact ⟨by simp [binOp, Op.intDiv, hb, wrapF_eq], rfl⟩
  case rem =>
    rw [eqB_eq] at h
    by_cases hb : b = 0
    · simp [hb] at h
    · simp [hb] at h; subst h; exact ⟨by simp [binOp, Op.intDiv, hb], rfl⟩
  case and => cases h
  case or => cases h
  case xor => cases h
  case shl => cases h
  case shr => cases h
  case andNot => cases h
  case eql => injection h with h; subst h; exact ⟨by simp [binOp, Op.intCmp, eqB_eq]; by_cases e : a = b <;> simp [e], rfl⟩
  case neq => injection h with h; subst h; exact ⟨by simp [binOp, Op.intCmp, eqB_eq]; by_cases e : a = b <;> simp [e], rfl⟩
  case lss => injection h with h; subst h; exact ⟨by simp [binOp, Op.intCmp, ltB_eq], rfl⟩
  case leq => injection h with h; subst h; exact ⟨by simp [binOp, Op.intCmp, ltB_eq, dec_le], rfl⟩
  case gtr => injection h with h; subst h; exact ⟨by simp [binOp, Op.intCmp, ltB_eq], rfl⟩
  case geq => injection h with h; subst h; exact ⟨by simp [binOp, Op.intCmp, ltB_eq, dec_le], rfl⟩

theorem nilBin_cases {op : BinOp} {b : Bool} {v : Value} (h : nilBin op b = some v) : (op = .eql ∧ v = .bool b) ∨ (op = .neq ∧ v = .bool (!b)) := by
  cases op <;> simp [nilBin] at h
  · exact .inl ⟨rfl, h.symm⟩
  · exact .inr ⟨rfl, h.symm⟩

theorem run_eqSlice {t e : Nat} (ht : P.underlying t = some (.slice e)) (a : Option Addr) (n c : Nat) : (Op.equal t (.slice a n c) (.slice none 0 0)).run P w = .ok a.isNone w := by
  obtain ⟨d, hd⟩ : ∃ d, Op.maxDepth = d + 1 := ⟨9999, rfl⟩
  rw [Op.equal, hd]
  cases a <;> simp [Op.equalIn, run_underlying ht]
theorem run_eqPtr {t e : Nat} (ht : P.underlying t = some (.pointer e)) (a : Option Addr) : (Op.equal t (.pointer a) (.pointer none)).run P w = .ok a.isNone w := by
  obtain ⟨d, hd⟩ : ∃ d, Op.maxDepth = d + 1 := ⟨9999, rfl⟩
  rw [Op.equal, hd]
  cases a <;> simp [Op.equalIn, run_underlying ht]

theorem isSliceT_some {t : Nat} (h : isSliceT P t = true) : ∃ e, P.underlying t = some (.slice e) := by
  unfold isSliceT at h; split at h
  · exact ⟨_, ‹_›⟩
  · cases h
theorem isPtrT_some {t : Nat} (h : isPtrT P t = true) : ∃ e, P.underlying t = some (.pointer e) := by
  unfold isPtrT at h; split at h
  · exact ⟨_, ‹_›⟩
  · cases h

theorem binV_sound {op : BinOp} {t : Nat} {x y x' y' v : Value} (hx : VRel ρ x x') (hy : VRel ρ y y') (h : binV P op t x y = some v) (xo yo : Operand) :
    ∃ v', (do eqGuard op t xo yo x' y'; binOp op t x' y' : Sem Value).run P w = .ok v' w ∧ VRel ρ v v' := by
  unfold binV at h
  split at h
  · rename_i k a k' b
    have e1 := hx.flat_eq rfl; have e2 := hy.flat_eq rfl
    subst e1; subst e2
    by_cases hk : k = k'
    · subst hk
      simp at h
      obtain ⟨h1, h2⟩ := intBin_run (P := P) (w := w) (t := t) h
      refine ⟨v, ?_, .flat h2⟩
      rw [Sem.run_bind, eqGuard_flat (by intro c d h; exact absurd h.1 (by simp)) (by simp)]
      exact h1
    · simp [hk] at h
  · rename_i a n c
    have e2 := hy.flat_eq rfl; subst e2
    cases ht : isSliceT P t
    · simp [ht] at h
    · simp [ht] at h
      obtain ⟨el, ht⟩ := isSliceT_some ht
      have hx2 : ∃ a' n' c', x' = .slice a' n' c' ∧ a'.isNone = a.isNone := by
        cases hx with
        | flat h => exact ⟨_, _, _, rfl, rfl⟩
        | slice _ _ _ _ _ => exact ⟨_, _, _, rfl, rfl⟩
        | vag => exact ⟨_, _, _, rfl, rfl⟩
      obtain ⟨a', n', c', rfl, e⟩ := hx2
      rcases nilBin_cases h with ⟨rfl, rfl⟩ | ⟨rfl, rfl⟩
      · refine ⟨.bool a'.isNone, ?_, by rw [e]; exact .bool ρ _⟩
        rw [Sem.run_bind, eqGuard_flat (by intro c d h; exact absurd h.1 (by simp)) (by simp)]
        simp only [Result.andThen_ok, binOp, Sem.run_bind, run_eqSlice ht]; rfl
      · refine ⟨.bool (!a'.isNone), ?_, by rw [e]; exact .bool ρ _⟩
        rw [Sem.run_bind, eqGuard_flat (by intro c d h; exact absurd h.1 (by simp)) (by simp)]
        simp only [Result.andThen_ok, binOp, Sem.run_bind, run_eqSlice ht]; rfl
  · rename_i a
    have e2 := hy.flat_eq rfl; subst e2
    cases ht : isPtrT P t
    · simp [ht] at h
    · simp [ht] at h
      obtain ⟨el, ht⟩ := isPtrT_some ht
      have hx2 : ∃ a', x' = .pointer a' ∧ a'.isNone = a.isNone := by
        cases hx with
        | flat h => exact ⟨_, rfl, rfl⟩
        | ptr _ => exact ⟨_, rfl, rfl⟩
      obtain ⟨a', rfl, e⟩ := hx2
      rcases nilBin_cases h with ⟨rfl, rfl⟩ | ⟨rfl, rfl⟩
      · refine ⟨.bool a'.isNone, ?_, by rw [e]; exact .bool ρ _⟩
        rw [Sem.run_bind, eqGuard_flat (by intro c d h; exact absurd h.1 (by simp)) (by simp)]
        simp only [Result.andThen_ok, binOp, Sem.run_bind, run_eqPtr ht]; rfl
      · refine ⟨.bool (!a'.isNone), ?_, by rw [e]; exact .bool ρ _⟩
        rw [Sem.run_bind, eqGuard_flat (by intro c d h; exact absurd h.1 (by simp)) (by simp)]
        simp only [Result.andThen_ok, binOp, Sem.run_bind, run_eqPtr ht]; rfl
  · cases hc : (addrFree x && addrFree y && notIface x)
    · simp [hc] at h
    · simp only [hc, cond_true] at h
      simp only [Bool.and_eq_true] at hc
      have e1 := hx.free_eq hc.1.1; have e2 := hy.free_eq hc.1.2
      subst e1; subst e2
      unfold flatO at h
      split at h
      · rename_i v' hv
        cases hf : flat v'
        · simp [hf] at h
        · simp [hf] at h; subst h
          refine ⟨v', ?_, .flat hf⟩
          have hn : x' ≠ .nilIface := by intro e; subst e; simp [notIface] at hc
          rw [eqGuard_ops (x' := .tmp 0) (y' := .tmp 0) hn]
          exact pureRun_run hv
      · cases h

theorem unaV_sound {op : UnOp} {x x' v : Value} (hx : VRel ρ x x') (h : unaV op x = some v) : ∃ v', (Op.unary op x').run P w = .ok v' w ∧ VRel ρ v v' := by
  unfold unaV at h
  split at h
  · injection h with h; subst h; have e := hx.flat_eq rfl; subst e; exact ⟨_, by simp [Op.unary] <;> rfl, .bool ρ _⟩
  · injection h with h; subst h; have e := hx.flat_eq rfl; subst e; rename_i k n; exact ⟨.int k (k.wrap (-n)), by simp [Op.unary, Op.intArith], by rw [wrapF_eq, show Int.sub 0 n = -n from Int.zero_sub n]; exact .int ρ _ _⟩
  · cases h

theorem convV_sound {k : IntKind} {s d : Nat} {x x' v : Value} (hs : (P.underlying s).isSome = true) (hd : P.underlying d = some (.int k)) (hx : VRel ρ x x') (h : convV k x = some v) :
    ∃ v', (convert s d x').run P w = .ok v' w ∧ VRel ρ v v' := by
  unfold convV at h
  split at h
  · injection h with h; subst h; have e := hx.flat_eq rfl; subst e
    obtain ⟨u, hu⟩ := Option.isSome_iff_exists.1 hs
    exact ⟨_, by simp [convert, run_underlying hu, run_underlying hd, Conv.intToInt] <;> rfl, by rw [wrapF_eq]; exact .int ρ _ _⟩
  · cases h

theorem addr_add (b o n : Nat) : (⟨b, o, none⟩ : Addr).add n = ⟨b, o + n, none⟩ := by unfold Addr.add; split <;> simp_all

theorem fldV_sound {off s f : Nat} {fs : Array Field} {fd : Field} {i : TypeInfo} {x x' v : Value} (hs : P.underlying s = some (.struct fs)) (hf : fs[f]? = some fd) (ho : fd.offset = off)
    (hi : P.info? fd.type = some i) (hz : i.size ≠ 0) (hx : VRel ρ x x') (h : fldV off x = some v) : ∃ v', (Instr.fieldAt s x' f).run P w = .ok v' w ∧ VRel ρ v v' := by
  unfold fldV at h
  split at h
  · rename_i b o
    injection h with h; subst h
    cases hx with
    | flat h => simp [flat] at h
    | ptr hp =>
      rename_i p
      refine ⟨.pointer (some ⟨p.blk, p.base + (o + off), none⟩), ?_, .ptr hp⟩
      simp [Instr.fieldAt, run_underlying hs, hf, Instr.sureAddr, fieldPlace, run_sizeOf hi, hz, addr_add, ho, Nat.add_assoc]
  · cases h

theorem natOf_some {x x' : Value} {i : Nat} (hx : VRel ρ x x') (h : natOf x = some i) : ∃ k, x' = .int k (Int.ofNat i) := by
  unfold natOf at h
  split at h
  · injection h with h; subst h; exact ⟨_, hx.flat_eq rfl⟩
  · cases h

theorem idxV_sound {t e sz i : Nat} {ti : TypeInfo} {k : IntKind} {x x' v : Value} (ht : P.underlying t = some (.slice e)) (hi : P.info? e = some ti) (hz : ti.size = sz) (hx : VRel ρ x x')
    (h : idxV sz i x = some v) : ∃ v', (Instr.indexAt t x' (.int k (Int.ofNat i))).run P w = .ok v' w ∧ VRel ρ v v' := by
  unfold idxV at h
  split at h
  · rename_i b o len c
    cases hl : Nat.blt i len
    · simp [hl] at h
    · simp only [hl, cond_true] at h
      injection h with h; subst h
      have hl : i < len := by simpa [Nat.blt_eq] using hl
      cases hx with
      | flat h => simp [flat] at h
      | vag => omega
      | slice hp h1 h2 h3 h4 =>
        rename_i c' p
        refine ⟨.pointer (some ⟨p.blk, p.base + (o + i * sz), none⟩), ?_, .ptr hp⟩
        simp [Instr.indexAt, asIntOf, run_underlying ht, run_sizeOf hi, hz, addr_add, hl, Nat.add_assoc]
  · cases h

theorem idaV_sound {t e n sz i : Nat} {ti : TypeInfo} {k : IntKind} {x x' v : Value} (ht : P.underlying t = some (.array n e)) (hi : P.info? e = some ti) (hz : ti.size = sz) (hx : VRel ρ x x')
    (h : idaV n sz i x = some v) : ∃ v', (Instr.indexAt t x' (.int k (Int.ofNat i))).run P w = .ok v' w ∧ VRel ρ v v' := by
  unfold idaV at h
  split at h
  · rename_i b o
    cases hl : Nat.blt i n
    · simp [hl] at h
    · simp only [hl, cond_true] at h
      injection h with h; subst h
      have hl : i < n := by simpa [Nat.blt_eq] using hl
      cases hx with
      | flat h => simp [flat] at h
      | ptr hp =>
        rename_i p
        refine ⟨.pointer (some ⟨p.blk, p.base + (o + i * sz), none⟩), ?_, .ptr hp⟩
        simp [Instr.indexAt, asIntOf, run_underlying ht, run_sizeOf hi, hz, addr_add, hl, Nat.add_assoc, Instr.sureAddr]
  · cases h

theorem extrV_sound {i : Nat} {x x' v : Value} (hx : VRel ρ x x') (h : extrV i x = some v) : ∃ v', (Instr.extract x' i).run P w = .ok v' w ∧ VRel ρ v v' := by
  unfold extrV at h
  split at h
  · rename_i vs
    rw [cget_eq] at h
    cases hx with
    | flat h => simp [flat] at h
    | tuple h1 h2 =>
      rename_i vs'
      obtain ⟨y, hy, hr⟩ := (LRel.of_array h1 h2).get h
      exact ⟨y, by simp [Instr.extract, (by simpa using hy : vs'[i]? = some y)], hr⟩
  · cases h

theorem nilckV_sound {x x' v : Value} (hx : VRel ρ x x') (h : nilckV x = some v) : ∃ a, x' = .pointer (some a) ∧ VRel ρ v x' := by
  unfold nilckV at h
  split at h
  · injection h with h; subst h
    cases hx with
    | flat h => simp [flat] at h
    | ptr hp => exact ⟨_, rfl, .ptr hp⟩
  · cases h

theorem mxV_sound {x y x' y' v : Value} (ts : Array TypeId) (ty : Nat) (hx : VRel ρ x x') (hy : VRel ρ y y') (h : mxV x y = some v) : ∃ v', (Builtin.max_ ts ty #[x', y']).run P w = .ok v' w ∧ VRel ρ v v' := by
  unfold mxV at h
  split at h
  · injection h with h; subst h
    have e1 := hx.flat_eq rfl; have e2 := hy.flat_eq rfl; subst e1; subst e2
    rename_i k a k' b
    refine ⟨.int k (if b > a then b else a), by simp [Builtin.max_, Builtin.max2, List.foldlM], ?_⟩
    rw [ltB_eq]
    by_cases hab : a < b <;> simp [hab] <;> exact .int ρ _ _
  · cases h
end
end Go.Am
