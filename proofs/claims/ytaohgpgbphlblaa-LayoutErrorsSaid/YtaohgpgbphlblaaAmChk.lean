/- The check of an abstract operation against the model's own, and the soundness of the operations that touch no memory. -/
import Derived.Test.YtaohgpgbphlblaaAmOps
set_option linter.unusedVariables false
set_option linter.unusedSimpArgs false
set_option linter.unusedSectionVars false
namespace Go.Am
open Go Go.RowKit

/-! ### the check -/
/-- the names that each place of the environment has -/
abbrev Ctx := List (List Nat)
def named (Γ : Ctx) (i t : Nat) : Bool := match Γ[i]? with | some l => l.any (Nat.beq t) | none => false
def opdOk (Γ : Ctx) : Operand → Opd → Bool
  | .tmp t, .v i => named Γ i t
  | .const v, .c x => veq v x && addrFree x
  | .func f, .c x => veq (.func (.func f) #[] #[]) x && addrFree x
  | _, _ => false
def opdsOk (Γ : Ctx) : List Operand → List Opd → Bool
  | [], [] => true
  | a :: as, b :: bs => opdOk Γ a b && opdsOk Γ as bs
  | _, _ => false
def optOk (Γ : Ctx) : Option Operand → Option Opd → Bool
  | none, none => true
  | some a, some b => opdOk Γ a b
  | _, _ => false
section
variable (P : Program)
def isSz (t n : Nat) : Bool := match P.info? t with | some i => i.size == n | none => false
def isBytes (t n : Nat) : Bool := match P.info? t with | some i => i.bytes == n | none => false
def isZero (t : Nat) (z : List Value) : Bool := match P.info? t with
  | some i => (match i.zero with | some v => veqL v.cells.toList z && z.all flat && z.all one | none => false)
  | none => false
def isAggB (t : Nat) : Option Bool := match P.underlying t with
  | some (.struct _) => some true
  | some (.array _ _) => some true
  | some _ => some false
  | none => none
def partsOk (Γ : Ctx) (place : Nat → Option (Nat × Nat)) : List (Nat × Operand) → List (Nat × Nat × Opd) → Bool
  | [], [] => true
  | (i, x) :: as, (off, sz, y) :: bs => (match place i with | some (o, s) => o == off && s == sz | none => false) && opdOk Γ x y && partsOk Γ place as bs
  | _, _ => false
def parts2Ok (Γ : Ctx) : List (Nat × Operand) → List (Nat × Opd) → Bool
  | [], [] => true
  | (i, x) :: as, (j, y) :: bs => i == j && opdOk Γ x y && parts2Ok Γ as bs
  | _, _ => false
/-- the places of a struct's fields, where each field's type is known -/
def places (fs : Array Field) : List (Nat × Nat) := fs.toList.map fun f => (f.offset, ((P.info? f.type).map (·.size)).getD 0)

def chkOp (Γ : Ctx) : Op → AOp → Bool
  | .move x, .mov y | .assign x, .mov y => opdOk Γ x y
  | .pick c a b, .pick c' a' b' => opdOk Γ c c' && opdOk Γ a a' && opdOk Γ b b'
  | .binOp op t x y _, .bin op' t' x' y' => op == op' && t == t' && opdOk Γ x x' && opdOk Γ y y'
  | .unOp op _ x, .una op' x' => op == op' && opdOk Γ x x'
  | .convert s d x, .conv k x' => (P.underlying s).isSome && (match P.underlying d with | some (.int k') => k == k' | _ => false) && opdOk Γ x x'
  | .fieldAddr t x f, .fld off x' => (match P.underlying t with | some (.struct fs) => (match fs[f]? with | some fd => fd.offset == off && (match P.info? fd.type with | some i => i.size != 0 | none => false) | none => false) | _ => false) && opdOk Γ x x'
  | .indexAddr t x i, .idx sz x' i' => (match P.underlying t with | some (.slice e) => isSz P e sz | _ => false) && opdOk Γ x x' && opdOk Γ i i'
  | .indexAddr t x i, .ida n sz x' i' => (match P.underlying t with | some (.array k e) => k == n && isSz P e sz | _ => false) && opdOk Γ x x' && opdOk Γ i i'
  | .build t ps, .build z ps' => isZero P t z && (match P.underlying t with
      | some (.struct fs) => fs.toList.all (fun f => (P.info? f.type).isSome) && partsOk Γ (fun i => (places P fs)[i]?) ps.toList ps'
      | some (.array _ e) => (match P.info? e with | some i => partsOk Γ (fun k => some (k * i.size, i.size)) ps.toList ps' | none => false)
      | _ => false)
  | .extract x i, .extr i' x' => i == i' && opdOk Γ x x'
  | .nilCheck x, .nilck x' => opdOk Γ x x'
  | .makeFunc (.func f) a c, .func f' a' c' => f == f' && opdsOk Γ a.toList a' && opdsOk Γ c.toList c'
  | .call ⟨.builtin .len, args, ts⟩, .len s x' => (match args.toList, ts[0]? with
      | [x], some t => opdOk Γ x x' && (match P.underlying t with | some (.slice _) => !s | some .string => s | _ => false)
      | _, _ => false)
  | .call ⟨.builtin .max, args, _⟩, .mx x' y' => (match args.toList with | [x, y] => opdOk Γ x x' && opdOk Γ y y' | _ => false)
  | .slice t x lo hi none, .slc sz x' lo' hi' => (match P.underlying t with | some (.slice e) => isSz P e sz | _ => false) && opdOk Γ x x' && optOk Γ lo lo' && optOk Γ hi hi'
  | .alloc t, .new z => isZero P t z
  | .box _ x, .box x' => opdOk Γ x x'
  | .buildSlice t len ps, .mkl sz len' z ps' => len == len' && len * sz ≤ 16777216 && (match P.underlying t with | some (.slice e) => isSz P e sz && isZero P e z && (z.length == sz) && !(sz == 0) | _ => false) && parts2Ok Γ ps.toList ps'
  | .makeSlice t l c, .make sz bytes z l' c' => (match P.underlying t with | some (.slice e) => isSz P e sz && isBytes P e bytes && isZero P e z && (z.length == sz) && !(sz == 0) | _ => false) && opdOk Γ l l' && opdOk Γ c c'
  | .load t x, .ld1 x' => isAggB P t == some false && opdOk Γ x x'
  | .load t x, .ldn n x' => isAggB P t == some true && isSz P t n && opdOk Γ x x'
  | .store t x y, .st n x' y' => isSz P t n && opdOk Γ x x' && opdOk Γ y y'
  | .call ⟨.builtin .append, args, ts⟩, .app sz bytes x' y' => (match args.toList, ts.toList with
      | [x, y], [t, u] => opdOk Γ x x' && opdOk Γ y y' && (match P.underlying t, P.underlying u with
          | some (.slice e), some (.slice _) => isSz P e sz && isBytes P e bytes && (match P.info? e with | some i => i.zero.isSome | none => false) && (match P.info? e with | some i => (match i.zero with | some z => z.cells.size == sz | none => false) | none => false)
          | _, _ => false)
      | _, _ => false)
  | .call ⟨.value f, args, _⟩, .call g args' => (match f with | .func f => f == g | _ => false) && opdsOk Γ args.toList args'
  | .call ⟨.value f, args, _⟩, .callv x args' => opdOk Γ f x && opdsOk Γ args.toList args'
  | _, _ => false
end

/-! ### the environment -/
def EnvRel (ρ : Ren) (Γ : Ctx) (e : List Value) (tmps : Array Value) : Prop :=
  ∀ i t, named Γ i t = true → ∃ x y, e[i]? = some x ∧ tmps[t]? = some y ∧ VRel ρ x y
theorem EnvRel.mono {ρ ρ' : Ren} (hl : ρ.le ρ') {Γ : Ctx} {e : List Value} {tmps : Array Value} (h : EnvRel ρ Γ e tmps) : EnvRel ρ' Γ e tmps :=
  fun i t hn => let ⟨x, y, a, b, c⟩ := h i t hn; ⟨x, y, a, b, c.mono hl⟩

theorem opd_sound {ρ : Ren} {Γ : Ctx} {e : List Value} {a : Act} (he : EnvRel ρ Γ e a.tmps) {x : Operand} {y : Opd} (h : opdOk Γ x y = true) : VRel ρ (ev e y) (a.eval x) := by
  unfold opdOk at h
  split at h
  · rename_i t i
    obtain ⟨u, v, h1, h2, h3⟩ := he i t h
    show VRel ρ (lget e i) (a.tmps.getD t undef)
    rw [lget_eq, h1, Array.getD_eq_getD_getElem?, h2]; exact h3
  · simp at h
    show VRel ρ _ _
    rw [veq_eq h.1]; exact addrFree_rel ρ h.2
  · simp at h
    show VRel ρ _ (.func _ _ _)
    rw [veq_eq h.1]; exact addrFree_rel ρ h.2
  · cases h
theorem opds_sound {ρ : Ren} {Γ : Ctx} {e : List Value} {a : Act} (he : EnvRel ρ Γ e a.tmps) : ∀ {xs : List Operand} {ys : List Opd}, opdsOk Γ xs ys = true → LRel ρ (evs e ys) (xs.map a.eval)
  | [], [], _ => .nil ρ
  | [], _ :: _, h => by cases h
  | _ :: _, [], h => by cases h
  | x :: xs, y :: ys, h => by
    simp [opdsOk] at h
    exact .cons (opd_sound he h.1) (opds_sound he h.2)

theorem isSz_run {P : Program} {t n : Nat} (h : isSz P t n = true) : ∃ i, P.info? t = some i ∧ i.size = n := by
  unfold isSz at h; split at h
  · exact ⟨_, ‹_›, by simpa using h⟩
  · cases h
theorem isBytes_run {P : Program} {t n : Nat} (h : isBytes P t n = true) : ∃ i, P.info? t = some i ∧ i.bytes = n := by
  unfold isBytes at h; split at h
  · exact ⟨_, ‹_›, by simpa using h⟩
  · cases h
theorem veqL_eq : ∀ {x y : List Value}, veqL x y = true → x = y
  | [], [], _ => rfl
  | [], _ :: _, h => by simp [veqL] at h
  | _ :: _, [], h => by simp [veqL] at h
  | x :: l, y :: l', h => by simp [veqL] at h; rw [(veqF_eq h.1).1, veqL_eq h.2]
theorem isZero_run {P : Program} {t : Nat} {z : List Value} (h : isZero P t z = true) : ∃ i v, P.info? t = some i ∧ i.zero = some v ∧ v.cells.toList = z ∧ z.all flat = true ∧ z.all one = true := by
  unfold isZero at h; split at h
  · split at h
    · simp only [Bool.and_eq_true] at h
      exact ⟨_, _, ‹_›, ‹_›, veqL_eq h.1.1, h.1.2, h.2⟩
    · cases h
  · cases h

/-! ### what an operation gives -/
def NRel (ρ : Ren) (v : Value) (nx : Next) : Prop := (∃ v', nx = .value v' ∧ VRel ρ v v') ∨ (nx = .skip ∧ v = undef)

theorem Post.same {μ : Type} [AMem μ] {ρ : Ren} {V : Nat → Option Blk} {w : World} {B : Nat} (hm : MRel ρ V w B) (n : Nat) (m : μ) : Post ρ V w B n m n 0 ρ w :=
  ⟨ρ.le_refl, fun _ _ h => .inl h, by rw [upd_zero]; exact hm, Below.refl _ _, Nat.le_refl _, fun _ _ _ => rfl, fun _ _ h => .inl h, fun b h => by simp at h⟩

section
variable {P : Program} {w : World}
theorem run_sizeOf {t : Nat} {i : TypeInfo} (h : P.info? t = some i) : (sizeOf t).run P w = .ok i.size w := by simp [sizeOf, typeInfo, h]
theorem run_zeroValue {t : Nat} {i : TypeInfo} {v : Value} (h : P.info? t = some i) (hz : i.zero = some v) : (zeroValue t).run P w = .ok v w := by simp [zeroValue, typeInfo, h, hz]
theorem run_isAgg {t : Nat} {b : Bool} (h : isAggB P t = some b) : (isAgg t).run P w = .ok b w := by
  unfold isAggB at h
  split at h
  · injection h with h; subst h; rename_i hu; simp [isAgg, run_underlying hu]
  · injection h with h; subst h; rename_i hu; simp [isAgg, run_underlying hu]
  · injection h with h; subst h; rename_i d h1 h2 hu
    cases d with
    | struct fs => exact (h1 fs rfl).elim
    | array n e => exact (h2 n e rfl).elim
    | _ => simp [isAgg, run_underlying hu]
  · cases h

theorem pureRun_run {α : Type} {x : Sem α} {v : α} (h : pureRun P x = some v) : x.run P w = .ok v w := by
  induction x with
  | pure a => injection h with h; subst h; rfl
  | program k ih => exact ih P h
  | _ => cases h
end
end Go.Am
