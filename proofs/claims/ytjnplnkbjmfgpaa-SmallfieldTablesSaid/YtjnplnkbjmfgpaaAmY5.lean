/- Chapter 05: shape.element, by contract, for the abstract machine. -/
import Derived.Test.YtjnplnkbjmfgpaaAmElem
import Derived.Test.YtjnplnkbjmfgpaaAmTree
set_option linter.unusedVariables false
set_option linter.unusedSimpArgs false
set_option linter.unusedSectionVars false
namespace Go.Am
open Go Go.RowKit
section
variable {μ : Type} [AMem μ] {ρ : Ren} {V : Nat → Option Blk} {w w' : World} {B : Nat}

theorem Post.of_below {n : Nat} {m : μ} (hm : MRel ρ V w B) (hb : Below w.heap.size w w') : Post ρ V w B n m n 0 ρ w' :=
  ⟨Ren.le_refl ρ, fun _ _ h => .inl h, by
    rw [upd_zero]
    exact ⟨fun b p O hp hO => (hm.blk b p O hp hO).mono (Ren.le_refl ρ) (hb.block _ (hm.fresh b p hp)), hm.excl, fun b p hp => Nat.lt_of_lt_of_le (hm.fresh b p hp) hb.size, Nat.le_trans hm.le hb.size⟩,
    hb.mono hm.le, Nat.le_refl _, fun k hk _ => hb.block k hk, fun _ _ h => .inl h, fun b h => by simp at h⟩

/-- what a slice shows, cell by cell -/
theorem shown_at {m : μ} {n sz F r : Nat} {x x' : Value} {l : List Value} (hm : MRel ρ V w B) (hx : VRel ρ x x') (h : shown m n sz x = some (l, r)) (hag : Agree V m n F) (hF : Sub r F) :
    (x' = .slice none 0 0 ∧ l = []) ∨ ∃ b o len c, x' = .slice (some ⟨b, o, none⟩) len c ∧ b < w.heap.size ∧ l.length = len * sz ∧ ∀ (j : Nat) v, l[j]? = some v → ∃ y, w.cell? ⟨b, o + j, none⟩ = some y ∧ VRel ρ v y := by
  unfold shown at h
  split at h
  · injection h with h; injection h with e1 e2; subst e1; subst e2
    exact .inl ⟨hx.flat_eq rfl, rfl⟩
  · rename_i b o ln c
    have hsh : ∃ p o' c', x' = .slice (some ⟨p.blk, o', none⟩) ln c' ∧ ρ b = some p ∧ (ln ≠ 0 → o' = p.base + o) := by
      cases hx with
      | flat hf => simp [flat] at hf
      | slice hp _ _ _ _ => exact ⟨_, _, _, rfl, hp, fun _ => rfl⟩
      | vag hp => exact ⟨_, _, _, rfl, hp, fun h => absurd rfl h⟩
    obtain ⟨p, o', c', rfl, hp, ho⟩ := hsh
    cases h0 : Nat.beq ln 0
    · rw [h0, cond_false] at h
      have hne : ln ≠ 0 := by intro e; subst e; simp at h0
      have ho := ho hne; subst ho
      unfold shownB at h
      split at h
      · rename_i c1 s _ _ hg
        cases hs : Nat.beq s sz
        · rw [hs, cond_false] at h; cases h
        · rw [hs, cond_true] at h
          cases hc : cellsAt c1 o (Nat.mul ln sz) with
          | none => rw [hc] at h; cases h
          | some l1 =>
            rw [hc] at h
            have h : some (l1, bit b) = some (l, r) := h
            injection h with h; injection h with e1 e2; subst e1; subst e2
            obtain ⟨_, hb⟩ := at_block hm hag (hF b (by rw [bit_test]; simp)) hg hp
            obtain ⟨_, h2, h3⟩ := cellsAt_some hc
            refine .inr ⟨_, _, _, _, rfl, hm.fresh b p hp, h2, fun j v hv => ?_⟩
            have hj : j < Nat.mul ln sz := by
              have := (List.getElem?_eq_some_iff.1 hv).1
              omega
            rw [h3 j hj] at hv
            obtain ⟨y, hy, hr⟩ := brel_cell hb hv
            exact ⟨y, by rw [← hy, Nat.add_assoc], hr⟩
      · cases h
    · rw [h0, cond_true] at h
      injection h with h; injection h with e1 e2; subst e1; subst e2
      have h0 : ln = 0 := Nat.eq_of_beq_eq_true h0
      subst h0
      exact .inr ⟨_, _, _, _, rfl, hm.fresh b p hp, by simp, fun j v hv => by simp at hv⟩
  · cases h
end


/-- the integers of a list of values -/
def consI : Value → Option (List Int) → Option (List Int)
  | .int .i64 n, some l => some (n :: l)
  | _, _ => none
noncomputable def intsV (l : List Value) : Option (List Int) := List.rec (motive := fun _ => Option (List Int)) (some []) (fun v _ ih => consI v ih) l
theorem intsV_some : ∀ {l : List Value} {zs : List Int}, intsV l = some zs → l = zs.map (Value.int .i64)
  | [], zs, h => by injection h with h; subst h; rfl
  | v :: l, zs, h => by
    replace h : consI v (intsV l) = some zs := h
    cases hi : intsV l with
    | none => rw [hi] at h; unfold consI at h; split at h <;> simp_all
    | some ys =>
      rw [hi] at h
      unfold consI at h
      split at h
      · rename_i n l' hl'
        injection h with h; injection hl' with hl'
        subst h; subst hl'
        rw [intsV_some hi]; rfl
      · cases h
def primeOf : List Value → Option Int
  | [.int .i64 _, .int .i64 p, .slice _ _ _] => some p
  | _ => none
def stepE (p x a : Int) : Int := wrapF .i64 (Int.add (wrapF .i64 (Int.mul a p)) x)
noncomputable def foldE (p : Int) (l : List Int) : Int := List.rec (motive := fun _ => Int) 0 (fun x _ a => stepE p x a) l
section
variable {μ : Type} [AMem μ] {ρ : Ren} {V : Nat → Option Blk} {w w' : World} {B : Nat}
noncomputable def elemI (m : μ) (n : Nat) (p : Int) (r : Nat) : Option (List Int) → OR μ
  | some zs => cond (Nat.blt (List.rec (motive := fun _ => Nat) 0 (fun _ _ n => Nat.succ n) zs) 1000) (.ok (.int .i64 (foldE p zs)) m n r 0) .no
  | none => .no
noncomputable def elemR (m : μ) (n : Nat) (p : Int) : Option (List Value × Nat) → OR μ
  | some (c, r) => elemI m n p r (intsV c)
  | none => .no
noncomputable def elemP (m : μ) (n : Nat) (sv : Value) : Option Int → OR μ
  | some p => elemR m n p (shown m n 1 sv)
  | none => .no
noncomputable def elemY (m : μ) (n : Nat) : List Value → OR μ
  | [.agg cs, sv] => elemP m n sv (primeOf cs.toList)
  | _ => .no
noncomputable def Y5 (f : Nat) (args : List Value) (m : μ) (n : Nat) : OR μ := cond (Nat.beq f 37) (elemY m n args) .no

theorem Y5_ok {f : Nat} {args : List Value} {m m' : μ} {n n' r wm : Nat} {v : Value} (h : Y5 f args m n = .ok v m' n' r wm) :
    f = 37 ∧ ∃ cs sv p zs c, args = [.agg cs, sv] ∧ primeOf cs.toList = some p ∧ shown m n 1 sv = some (c, r) ∧ c = zs.map (Value.int .i64) ∧ zs.length < 1000 ∧ v = .int .i64 (foldE p zs) ∧ m' = m ∧ n' = n ∧ wm = 0 := by
  unfold Y5 at h
  cases hf : Nat.beq f 37
  · rw [hf] at h; cases h
  rw [hf, cond_true] at h
  refine ⟨Nat.eq_of_beq_eq_true hf, ?_⟩
  unfold elemY at h
  split at h
  · rename_i cs sv
    unfold elemP at h
    split at h
    · rename_i p hp
      unfold elemR at h
      split at h
      · rename_i c r' hs
        unfold elemI at h
        split at h
        · rename_i zs hz
          have hlen : ∀ zs : List Int, List.rec (motive := fun _ => Nat) 0 (fun _ _ n => Nat.succ n) zs = zs.length := by
            intro zs; induction zs with
            | nil => rfl
            | cons a l ih => simp only [List.length_cons]; rw [ih]
          rw [hlen] at h
          cases hb : Nat.blt zs.length 1000
          · rw [hb] at h; cases h
          · rw [hb, cond_true] at h
            injection h with e1 e2 e3 e4 e5
            subst e1; subst e2; subst e3; subst e4; subst e5
            exact ⟨cs, sv, p, zs, c, rfl, hp, hs, intsV_some hz, by simpa using hb, rfl, rfl, rfl, rfl⟩
        · cases h
      · cases h
    · cases h
  · cases h

theorem Y5_loc : CallLoc (μ := μ) Y5 := fun f args m n v m' n' r wm h => by
  obtain ⟨_, cs, sv, p, zs, c, _, _, _, _, _, _, rfl, rfl, rfl⟩ := Y5_ok h
  exact Loc.refl _ _

theorem foldE_acc (p : Int) (zs : List Int) : Proofs.Bk.acc p (Proofs.Bk.upto (fun j => (zs.length - 1 - j, zs[zs.length - 1 - j]?.getD 0)) zs.length) = foldE p zs := by
  have e : Proofs.Bk.upto (fun j => (zs.length - 1 - j, zs[zs.length - 1 - j]?.getD 0)) zs.length = (zs.zipIdx.map fun x => (x.2, x.1)).reverse := by
    apply List.ext_getElem
    · simp [Proofs.Bk.upto]
    · intro i h1 h2
      simp [Proofs.Bk.upto] at h1
      simp [Proofs.Bk.upto, List.getElem_reverse]
      rw [List.getElem?_eq_getElem (by omega)]; rfl
  have key : ∀ (zs : List Int) (k : Nat), ((zs.zipIdx k).map fun x => (x.2, x.1)).foldr (fun (x : Nat × Int) a => wrap64 (wrap64 (a * p) + x.2)) 0 = foldE p zs := by
    intro zs
    induction zs with
    | nil => intro k; rfl
    | cons x zs ih =>
      intro k
      simp only [List.zipIdx_cons, List.map_cons, List.foldr_cons, ih]
      show _ = stepE p x (foldE p zs)
      simp only [stepE, wrapF_eq, IntKind.wrap_i64, wrap64]
      rfl
  rw [e, Proofs.Bk.acc, List.foldl_reverse]
  exact key zs 0

theorem Y5_sim : CallSim (μ := μ) Proofs.Try.prog Y5 := by
  intro f args m n v m' n' r wm h ρ V w B F args' hargs hF hag hm hfree
  obtain ⟨rfl, cs, sv, p, zs, c, rfl, hp, hs, rfl, hlen, rfl, rfl, rfl, rfl⟩ := Y5_ok h
  obtain ⟨a1, hg1, hr1⟩ := hargs.get (i := 0) rfl
  obtain ⟨a2, hg2, hr2⟩ := hargs.get (i := 1) rfl
  have hl := hargs.1
  obtain ⟨l'⟩ := args'
  simp only [List.length_cons, List.length_nil] at hl
  replace hg1 : l'[0]? = some a1 := hg1
  replace hg2 : l'[1]? = some a2 := hg2
  obtain ⟨x1, x2, rfl⟩ : ∃ x1 x2, l' = [x1, x2] := by
    match l', hl with
    | [x1, x2], _ => exact ⟨_, _, rfl⟩
  injection hg1 with e1; injection hg2 with e2
  subst e1; subst e2
  obtain ⟨q, pp, pa, pl, pc, hcs⟩ : ∃ q pp pa pl pc, cs.toList = [.int .i64 q, .int .i64 pp, .slice pa pl pc] ∧ pp = p := by
    unfold primeOf at hp
    split at hp
    · rename_i q p' pa pl pc he
      injection hp with hp
      exact ⟨q, p', pa, pl, pc, he, hp⟩
    · cases hp
  obtain ⟨hcs, rfl⟩ := hcs
  have hx1 : ∃ pa' pl' pc', x1 = .agg #[.int .i64 q, .int .i64 pp, .slice pa' pl' pc'] := by
    have hls := hr1.cells
    cases hr1 with
    | flat hf => simp [flat] at hf
    | agg h1 h2 =>
      rename_i cs'
      obtain ⟨l''⟩ := cs'
      replace hls : LRel ρ cs.toList l'' := hls
      rw [hcs] at hls
      have hl3 := hls.1
      simp only [List.length_cons, List.length_nil] at hl3
      match l'', hl3, hls with
      | [y1, y2, y3], _, hls =>
        have k1 := (hls.2 0 _ _ rfl rfl).flat_eq rfl
        have k2 := (hls.2 1 _ _ rfl rfl).flat_eq rfl
        have k3 := hls.2 2 _ _ rfl rfl
        subst k1; subst k2
        cases k3 with
        | flat _ => exact ⟨_, _, _, rfl⟩
        | slice _ _ _ _ _ => exact ⟨_, _, _, rfl⟩
        | vag _ => exact ⟨_, _, _, rfl⟩
  obtain ⟨pa', pl', pc', rfl⟩ := hx1
  have hx2 : ∃ sa sl sc, x2 = .slice sa sl sc ∧ Proofs.Bk.Ints w.heap.size w (.slice sa sl sc) zs := by
    rcases shown_at hm hr2 hs hag (Sub.trans (Sub.left _ _) hF) with ⟨rfl, hnil⟩ | ⟨b, o, len, c', rfl, hb, hlen', hc⟩
    · exact ⟨_, _, _, rfl, .inl ⟨rfl, by simpa using hnil⟩⟩
    · simp only [List.length_map, Nat.mul_one] at hlen'
      subst hlen'
      refine ⟨_, _, _, rfl, .inr ⟨b, o, c', rfl, hb, fun j hj => ?_⟩⟩
      obtain ⟨y, hy, hr⟩ := hc j (.int .i64 (zs[j]?.getD 0)) (by simp [List.getElem?_eq_getElem hj])
      rw [hy, hr.flat_eq rfl]
  obtain ⟨sa, sl, sc, rfl, hI⟩ := hx2
  refine ⟨⟨_, _, Proofs.Try.func37, by decide +kernel, rfl⟩, ?_⟩
  refine (callsIn_wide (n := 3)).1 ((Proofs.Bk.elem_in Fence.wide 3 trivial trivial trivial rfl (Nat.le_refl _) q pp pa' pl' pc' sa sl sc zs (by omega) w hI).mono ?_)
  rintro e W' ⟨rfl, hb⟩
  exact ⟨ρ, _, rfl, by rw [foldE_acc]; exact .int ρ _ _, Post.of_below hm hb⟩
end
end Go.Am
