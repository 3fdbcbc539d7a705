/- The machine and its runs, part 2: AmRun AmDraw AmDraw2 AmDraw3 AmDraw4 AmDraw5 AmTree Am21. -/
import Derived.Orders
import Derived.RowKit3
import Derived.Test.YtaohgpgbphlblaaProg
import Derived.Test.YtaohgpgbphlblaaB1
set_option linter.unusedVariables false
set_option linter.unusedSimpArgs false
set_option linter.unusedSectionVars false
namespace Go.Am
open Go Go.RowKit
section
variable {μ : Type} [AMem μ] {P : Program}

def DrawSim (μ : Type) [AMem μ] (P : Program) : Prop :=
  ∀ (rec : Nat → List Value → μ → Nat → OR μ) (nt : Nat) (ops : Array Oper) (bs : List Nat) (l : List AI) (Γ Γe : Ctx) (e : List Value) (m : μ) (n : Nat) (X : AX) (e' : List Value) (m' : μ) (n' r wm : Nat), CallSim P rec → CallLoc rec → orderOk ops bs = true →
    chkOps P nt ops ops.toList Γ l = some Γe → opsD P rec l bs 0 [] e m n 0 0 = .ok X e' m' n' r wm →
    X = .norm ∧ ∀ (ρ : Ren) (V : Nat → Option Blk) (w : World) (B F : Nat) (a : Act), a.defers = [] → a.tmps.size = nt → EnvRel ρ Γ e a.tmps → Sub (Nat.lor r wm) F → Agree V m n F → MRel ρ V w B → Free ρ n →
      wpAny P .any ops (RegPost B ρ V w n m' n' wm nt Γe e') ops.size (Array.replicate ops.size false) a w

/-- how a code ends -/
def Ends (P : Program) (res : Array ResultVar) (ctx : List (Nat × Ctx)) (Γo : Option Ctx) (ρ : Ren) (e : List Value) (a : Act) (w : World) : AX → Exit → Prop
  | .norm, ex => ex = .normal ∧ ∃ Γ, Γo = some Γ ∧ EnvRel ρ Γ e a.tmps
  | .exit id, ex => ex = .exit id ∧ ∃ Γ, lookC ctx id = some Γ ∧ EnvRel ρ Γ e a.tmps
  | .ret v, ex => ex = .ret ∧ ∃ v', (∀ fn : Func, fn.results = res → (results fn a.tmps).run P w = .ok v' w) ∧ VRel ρ v v'
def Leaves (P : Program) (res : Array ResultVar) (ctx : List (Nat × Ctx)) (Γo : Option Ctx) (nt B : Nat) (ρ : Ren) (V : Nat → Option Blk) (w : World) (n : Nat) (m' : μ) (n' W : Nat) (X : AX) (e : List Value) : Exit → Act → World → Prop := fun ex a' w' =>
  ∃ ρ', a'.defers = [] ∧ a'.tmps.size = nt ∧ Post ρ V w B n m' n' W ρ' w' ∧ Ends P res ctx Γo ρ' e a' w' X ex

def CodeSim (μ : Type) [AMem μ] (P : Program) (E : Nat → Option AFn) (Y : Nat → List Value → μ → Nat → OR μ) (k : Nat) : Prop :=
  ∀ (nt : Nat) (res : Array ResultVar) (x : AC) (c : Code) (ctx : List (Nat × Ctx)) (Γ : Ctx) (Γo : Option Ctx) (e : List Value) (m : μ) (n : Nat) (X : AX) (e' : List Value) (m' : μ) (n' r wm : Nat), chk P nt res ctx Γ c x = some Γo → exec P E Y k x e m n = .ok X e' m' n' r wm →
    ∀ (ρ : Ren) (V : Nat → Option Blk) (w : World) (B F : Nat) (a : Act), a.defers = [] → a.tmps.size = nt → EnvRel ρ Γ e a.tmps → Sub (Nat.lor r wm) F → Agree V m n F → MRel ρ V w B → Free ρ n →
      c.wp P (Leaves P res ctx Γo nt B ρ V w n m' n' wm X e') a w

/-! ### results -/
theorem res_sound {ρ : Ren} {V : Nat → Option Blk} {w : World} {B F : Nat} {Γ : Ctx} {e : List Value} {tmps : Array Value} {m : μ} {n : Nat} (he : EnvRel ρ Γ e tmps) (hm : MRel ρ V w B) (hag : Agree V m n F) :
    ∀ (rs : List ResultVar) (l : List ROp) (vs : List Value) (r : Nat), resOk P Γ rs l = true → resA e m n l = some (vs, r) → Sub r F →
      ∃ vs', LRel ρ vs vs' ∧ (rs.mapM (m := Sem) fun | .tmp t => pure (tmps.getD t undef) | .cell a t => do loadVar t (← asAddr (tmps.getD a undef))).run P w = .ok vs' w
  | [], [], vs, r, _, h, _ => by injection h with h; injection h with h1 h2; subst h1; exact ⟨[], .nil ρ, rfl⟩
  | x :: rs, [], vs, r, h, _, _ => by cases x <;> simp [resOk] at h
  | [], y :: l, vs, r, h, _, _ => by simp [resOk] at h
  | x :: rs, y :: l, vs, r, hok, h, hF => by
    have h : Option.rec (motive := fun _ => Option (List Value × Nat)) none (fun p => resO e m n p.1 p.2 y) (resA e m n l) = some (vs, r) := h
    cases hr : resA e m n l with
    | none => rw [hr] at h; cases h
    | some p =>
      obtain ⟨vs1, r1⟩ := p
      rw [hr] at h
      replace h : resO e m n vs1 r1 y = some (vs, r) := h
      have key : ∀ (hrest : resOk P Γ rs l = true) (hsub : Sub r1 F) (v v' : Value), vs = v :: vs1 → VRel ρ v v' → ((fun | .tmp t => pure (tmps.getD t undef) | .cell a t => do loadVar t (← asAddr (tmps.getD a undef)) : ResultVar → Sem Value) x).run P w = .ok v' w →
          ∃ vs', LRel ρ vs vs' ∧ ((x :: rs).mapM (m := Sem) fun | .tmp t => pure (tmps.getD t undef) | .cell a t => do loadVar t (← asAddr (tmps.getD a undef))).run P w = .ok vs' w := by
        intro hrest hsub v v' hvs hv hrun
        obtain ⟨vs', h1, h2⟩ := res_sound he hm hag rs l vs1 r1 hrest hr hsub
        refine ⟨v' :: vs', by rw [hvs]; exact .cons hv h1, ?_⟩
        rw [List.mapM_cons]
        simp only [Sem.run_bind] at hrun ⊢
        rw [hrun]
        simp only [Result.andThen_ok, h2]; rfl
      have cellf : ∀ (a i : Nat) (t : Nat) (b o : Nat) (f : List Value → Option Value) (v : Value), named Γ i a = true → lget e i = .pointer (some ⟨b, o, none⟩) → resC vs1 r1 b f (getb m n b) = some (vs, r) →
          (∀ c p v sz opn wr, getb m n b = some (.cells c sz opn wr) → ρ b = some p → F.testBit b = true → f c = some v → ∃ v', (loadVar t ⟨p.blk, p.base + o, none⟩).run P w = .ok v' w ∧ VRel ρ v v') →
          Sub r1 F ∧ ∃ v v', vs = v :: vs1 ∧ VRel ρ v v' ∧ (do loadVar t (← asAddr (tmps.getD a undef)) : Sem Value).run P w = .ok v' w := by
        intro a i t b o f v hn hl hc hld
        cases hg : getb m n b with
        | none => rw [hg] at hc; cases hc
        | some O =>
          cases O with | cells c sz opn wr =>
          rw [hg] at hc
          replace hc : Option.rec (motive := fun _ => Option (List Value × Nat)) none (fun v => some (v :: vs1, Nat.lor r1 (bit b))) (f c) = some (vs, r) := hc
          cases hf : f c with
          | none => rw [hf] at hc; cases hc
          | some v =>
            rw [hf] at hc
            replace hc : some (v :: vs1, Nat.lor r1 (bit b)) = some (vs, r) := hc
            injection hc with hc; injection hc with h1 h2; subst h1; subst h2
            obtain ⟨x1, y1, g1, g2, g3⟩ := he i a hn
            rw [lget_eq, g1] at hl
            replace hl : x1 = .pointer (some ⟨b, o, none⟩) := hl
            subst hl
            cases g3 with
            | flat hf => simp [flat] at hf
            | ptr hp =>
              rename_i p
              obtain ⟨v', hr', hv⟩ := hld c p v sz opn wr hg hp (hF b (by rw [lor_test, bit_test]; simp)) hf
              refine ⟨Sub.trans (Sub.left _ _) hF, v, v', rfl, hv, ?_⟩
              rw [Array.getD_eq_getD_getElem?, g2]
              simp [asAddr, hr']
      cases y with
      | v i =>
        cases x with
        | cell a t => simp [resOk] at hok
        | tmp t =>
          simp only [resOk, Bool.and_eq_true] at hok
          injection h with h; injection h with h1 h2
          obtain ⟨x1, y1, g1, g2, g3⟩ := he i t hok.1
          refine key hok.2 (by rw [h2]; exact hF) x1 y1 ?_ g3 ?_
          · rw [← h1, lget_eq, g1]; rfl
          · show Result.ok _ w = _
            rw [Array.getD_eq_getD_getElem?, g2]; rfl
      | cell i =>
        cases x with
        | tmp t => simp [resOk] at hok
        | cell a t =>
          simp only [resOk, Bool.and_eq_true, beq_iff_eq] at hok
          replace h : resP m n vs1 r1 (fun o c => cget c o) (lget e i) = some (vs, r) := h
          unfold resP at h
          split at h
          · rename_i b o hl
            obtain ⟨hs, v, v', h1, h2, h3⟩ := cellf a i t b o _ undef hok.1.1 hl h (fun c p v sz opn wr hg hp hFb hf => by
              replace hf : cget c o = some v := hf
              rw [cget_eq] at hf
              obtain ⟨_, hb⟩ := at_block hm hag hFb hg hp
              obtain ⟨y', hy, hr⟩ := brel_cell hb hf
              exact ⟨y', by simp [loadVar, run_isAgg hok.1.2, hy], hr⟩)
            exact key hok.2 hs v v' h1 h2 h3
          · cases h
      | cells i k =>
        cases x with
        | tmp t => simp [resOk] at hok
        | cell a t =>
          simp only [resOk, Bool.and_eq_true, beq_iff_eq] at hok
          replace h : resP m n vs1 r1 (fun o c => aggO (cellsAt c o k)) (lget e i) = some (vs, r) := h
          unfold resP at h
          split at h
          · rename_i b o hl
            obtain ⟨ti, hti, hts⟩ := isSz_run hok.1.2
            obtain ⟨hs, v, v', h1, h2, h3⟩ := cellf a i t b o _ undef hok.1.1.1 hl h (fun c p v sz opn wr hg hp hFb hf => by
              replace hf : aggO (cellsAt c o k) = some v := hf
              obtain ⟨cl, hcl, rfl⟩ := aggO_some hf
              obtain ⟨_, hb⟩ := at_block hm hag hFb hg hp
              obtain ⟨l', hr, hlen, hcell⟩ := brel_cells hb hcl
              have := run_loadCells_list (P := P) w ⟨p.blk, p.base + o, none⟩ l' (fun j v hv => (hcell j v hv).2)
              rw [hlen] at this
              exact ⟨.agg l'.toArray, by simp [loadVar, run_isAgg hok.1.1.2, run_sizeOf hti, hts, this], hr.agg⟩)
            exact key hok.2 hs v v' h1 h2 h3
          · cases h

theorem results_sound {ρ : Ren} {V : Nat → Option Blk} {w : World} {B F : Nat} {Γ : Ctx} {e : List Value} {tmps : Array Value} {m : μ} {n r : Nat} {res : Array ResultVar} {l : List ROp} {vs : List Value} (he : EnvRel ρ Γ e tmps) (hm : MRel ρ V w B) (hag : Agree V m n F)
    (hok : resOk P Γ res.toList l = true) (h : resA e m n l = some (vs, r)) (hF : Sub r F) : ∃ v', (∀ fn : Func, fn.results = res → (results fn tmps).run P w = .ok v' w) ∧ VRel ρ (retV vs) v' := by
  obtain ⟨vs', hr, hrun⟩ := res_sound he hm hag res.toList l vs r hok h hF
  have hex : ∃ v', VRel ρ (retV vs) v' ∧ v' = (if h : vs'.toArray.size = 1 then vs'.toArray[0] else .tuple vs'.toArray) := by
    refine LRel.cases (P := fun vs vs' => ∃ v', VRel ρ (retV vs) v' ∧ v' = (if h : vs'.toArray.size = 1 then vs'.toArray[0] else .tuple vs'.toArray)) hr ⟨_, .tuple rfl (fun i x y h => by simp at h), rfl⟩ ?_
    intro x y l l' hxy hl
    refine LRel.cases (P := fun l l' => ∃ v', VRel ρ (retV (x :: l)) v' ∧ v' = (if h : (y :: l').toArray.size = 1 then (y :: l').toArray[0] else .tuple (y :: l').toArray)) hl ⟨y, hxy, by simp⟩ ?_
    intro x2 y2 l2 l2' h2 hl2
    exact ⟨_, (LRel.cons hxy (.cons h2 hl2)).tuple, by simp⟩
  obtain ⟨v', hv, he'⟩ := hex
  refine ⟨v', fun fn hfn => ?_, hv⟩
  unfold results
  rw [hfn, Array.mapM_eq_mapM_toList]
  simp only [Sem.run_bind, Sem.run_map, Sem.run_pure]
  erw [hrun]
  simp only [Result.andThen_ok]
  rw [he']

theorem Leaves.map {res : Array ResultVar} {ctx : List (Nat × Ctx)} {Γo Γo' : Option Ctx} {nt B : Nat} {ρ ρ1 : Ren} {V : Nat → Option Blk} {w w1 : World} {n n1 : Nat} {m1 m' : μ} {n' W1 W : Nat} {X : AX} {e : List Value} {ex : Exit} {a' : Act} {w' : World}
    (hp : Post ρ V w B n m1 n1 W1 ρ1 w1) (l : Loc m1 n1 m' n' W) (h : Leaves P res ctx Γo nt B ρ1 (upd V W1 m1) w1 n1 m' n' W X e ex a' w') (hE : ∀ ρ', Ends P res ctx Γo ρ' e a' w' X ex → Ends P res ctx Γo' ρ' e a' w' X ex) :
    Leaves P res ctx Γo' nt B ρ V w n m' n' (Nat.lor W1 W) X e ex a' w' := by
  obtain ⟨ρ', h1, h2, h3, h4⟩ := h
  exact ⟨ρ', h1, h2, hp.trans h3 l, hE ρ' h4⟩

theorem bit_pow (n : Nat) : bit n = 2 ^ n := by unfold bit; show 1 <<< n = _; rw [Nat.one_shiftLeft]
theorem mod_test (x n b : Nat) : (Nat.mod x (bit n)).testBit b = (decide (b < n) && x.testBit b) := by
  rw [bit_pow]; exact Nat.testBit_mod_two_pow x n b
theorem mod_bit {x n : Nat} (h : Nat.mod x (bit n) = 0) : ∀ b, b < n → x.testBit b = false := by
  intro b hb
  have h1 := mod_test x n b
  rw [h] at h1
  simpa [hb] using h1.symm

/-- the calls of the abstract machine, once its codes are simulated -/
theorem call_sim {E : Nat → Option AFn} {Y : Nat → List Value → μ → Nat → OR μ} (hY : CallLoc Y) (hYs : CallSim P Y) {k : Nat} (hE : ∀ f af, E f = some af → ∃ fn, P.funcs[f]? = some fn ∧ chkFn P fn af = true) (hk : CodeSim μ P E Y k) : CallSim P (callA (μ := μ) E Y (exec P E Y k)) := by
  intro f args m n v m' n' r wm h ρ V w B F args' hargs hF hag hm hfree
  unfold callA at h
  cases hEf : E f with
  | none => rw [hEf] at h; exact hYs _ _ _ _ _ _ _ _ _ h ρ V w B F args' hargs hF hag hm hfree
  | some af =>
    rw [hEf] at h
    replace h : callF (exec P E Y k) args m n af = .ok v m' n' r wm := h
    unfold callF at h
    cases hl : Nat.beq (llen args) af.na
    · rw [hl, cond_false] at h; cases h
    · rw [hl, cond_true] at h
      have hla : args.length = af.na := by have := Nat.eq_of_beq_eq_true hl; rwa [llen_eq] at this
      obtain ⟨fn, hfn, hck⟩ := hE f af hEf
      unfold chkFn at hck
      split at hck
      · rename_i c hbody
        simp only [Bool.and_eq_true, bne_iff_ne, ne_eq, decide_eq_true_eq] at hck
        obtain ⟨⟨hname, hna⟩, hck⟩ := hck
        refine ⟨⟨fn, c, hfn, hname, hbody⟩, ?_⟩
        cases hr : exec P E Y k af.code args m n with
        | no => rw [hr] at h; cases h
        | ok X e1 m1 n1 r1 w1 =>
          rw [hr] at h
          replace h : leaveX af m n e1 m1 n1 r1 w1 X = .ok v m' n' r wm := h
          have l1 := exec_loc (P := P) (E := E) (Y := Y) hY k _ _ _ _ _ _ _ _ _ _ hr
          -- the frame at the start
          have hsz : args'.size = af.na := by have := hargs.1; simp at this; omega
          have henv : EnvRel ρ (argC af.na) args (args' ++ Array.replicate (fn.ntmps - args'.size) undef) := by
            intro i t hn
            obtain ⟨l, h1, h2⟩ := named_iff.1 hn
            simp only [argC, List.getElem?_map, Option.map_eq_some_iff] at h1
            obtain ⟨j, hj, rfl⟩ := h1
            have hjr := List.getElem?_eq_some_iff.1 hj
            obtain ⟨hlt, hje⟩ := hjr
            simp at hlt hje
            subst hje
            have : t = i := by simpa using h2
            subst this
            have hx : args[t]? = some (args[t]'(by omega)) := List.getElem?_eq_getElem _
            obtain ⟨y, hy, hv⟩ := hargs.get hx
            refine ⟨_, y, hx, ?_, hv⟩
            rw [Array.getElem?_append_left (by omega)]
            simpa using hy
          have hts : (args' ++ Array.replicate (fn.ntmps - args'.size) undef).size = fn.ntmps := by simp; omega
          -- the masks that the run itself asks
          have masks : ∀ {r0 : Nat} {v0 : Value}, leaveA m n v0 m1 n1 r0 w1 = .ok v m' n' r wm → ∃ F', Sub (Nat.lor r0 w1) F' ∧ Agree V m n F' := by
            intro r0 v0 h
            unfold leaveA at h
            cases hb : (addrFree v0 && Nat.beq (Nat.mod w1 (bit n)) 0)
            · rw [hb, cond_false] at h; injection h with e1 e2 e3 e4 e5; subst e4; subst e5; exact ⟨F, hF, hag⟩
            · rw [hb, cond_true, forceN_eq] at h; injection h with e1 e2 e3 e4 e5
              rw [Bool.and_eq_true] at hb
              refine ⟨Nat.lor F (Nat.lor r0 w1), Sub.right _ _, fun b hb1 hb2 => hag b hb1 ?_⟩
              rw [lor_test, lor_test] at hb2
              cases hFb : F.testBit b
              · have hw := mod_bit (Nat.eq_of_beq_eq_true hb.2) b hb1
                rw [hFb, hw] at hb2
                simp at hb2
                have := hF b (by rw [lor_test, ← e4, mod_test, hb2]; simp [hb1])
                rw [hFb] at this; exact this
              · rfl
          have leave : ∀ {r0 : Nat} {v0 : Value} {ρ' : Ren} {w' : World} {v' : Value}, leaveA m n v0 m1 n1 r0 w1 = .ok v m' n' r wm → VRel ρ' v0 v' → Post ρ V w B n m1 n1 w1 ρ' w' → ∃ ρ'', VRel ρ'' v v' ∧ Post ρ V w B n m' n' wm ρ'' w' := by
            intro r0 v0 ρ' w' v' h hv hp
            unfold leaveA at h
            cases hb : (addrFree v0 && Nat.beq (Nat.mod w1 (bit n)) 0)
            · rw [hb, cond_false] at h; injection h with e1 e2 e3 e4 e5; subst e1; subst e2; subst e3; subst e5; exact ⟨ρ', hv, hp⟩
            · rw [hb, cond_true, forceN_eq] at h; injection h with e1 e2 e3 e4 e5; subst e1; subst e2; subst e3; subst e5
              rw [Bool.and_eq_true] at hb
              have e := hv.free_eq hb.1
              subst e
              have hw := mod_bit (Nat.eq_of_beq_eq_true hb.2)
              have same : ∀ k, k < w.heap.size → w'.heap[k]? = w.heap[k]? := fun k hk => hp.frame k hk fun b p hb1 hb2 => by
                have hbn : b < n := by
                  rcases Nat.lt_or_ge b n with h1 | h1
                  · exact h1
                  · rw [hfree b h1] at hb1; cases hb1
                rw [hw b hbn] at hb2; cases hb2
              refine ⟨ρ, addrFree_rel ρ hb.1, ρ.le_refl, fun _ _ h => .inl h, ?_, hp.below, Nat.le_refl _, fun k hk _ => same k hk, fun _ _ h => .inl h, fun b h => by simp at h⟩
              rw [upd_zero]
              exact ⟨fun b p O h1 h2 => (hm.blk b p O h1 h2).mono ρ.le_refl (same _ (hm.fresh b p h1)), hm.excl, fun b p h1 => Nat.lt_of_lt_of_le (hm.fresh b p h1) hp.below.size, Nat.le_trans hm.le hp.below.size⟩
          -- the body
          cases hch : chk P fn.ntmps fn.results [] (argC af.na) c af.code with
          | none => rw [hch] at hck; cases hck
          | some Γo =>
            rw [hch] at hck
            have body : ∀ F', Sub (Nat.lor r1 w1) F' → Agree V m n F' → c.wp P (Leaves P fn.results [] Γo fn.ntmps B ρ V w n m1 n1 w1 X e1) { tmps := args' ++ Array.replicate (fn.ntmps - args'.size) undef, defers := [] } w := fun F' hF' hag' =>
              hk fn.ntmps fn.results af.code c [] (argC af.na) Γo args m n X e1 m1 n1 r1 w1 hch hr ρ V w B F' _ rfl hts henv hF' hag' hm hfree
            unfold leaveX at h
            split at h
            · -- the code ends by itself
              unfold leaveO at h
              split at h
              · rename_i vs r' hres
                obtain ⟨F', hF', hag'⟩ := masks h
                refine calls_of_wp hfn hbody (wp_mono (body F' (Sub.trans (Sub.lor (Sub.trans (Sub.left r1 r') (Sub.left _ w1)) (Sub.right _ w1)) hF') hag') fun ex a' w' hq => ?_)
                obtain ⟨ρ', hd, hs, hp, rfl, Γ', rfl, henv'⟩ := hq
                have hck : resOk P Γ' fn.results.toList af.endrs = true := hck
                obtain ⟨v', hrun, hv⟩ := results_sound (P := P) henv' hp.mrel (hag'.step l1) hck hres (Sub.trans (Sub.trans (Sub.right r1 r') (Sub.left _ w1)) hF')
                obtain ⟨ρ'', hv'', hp''⟩ := leave h hv hp
                exact ⟨hd, v', hrun fn rfl, ρ'', v', rfl, hv'', hp''⟩
              · cases h
            · -- a return
              rename_i v0
              obtain ⟨F', hF', hag'⟩ := masks h
              refine calls_of_wp hfn hbody (wp_mono (body F' hF' hag') fun ex a' w' hq => ?_)
              obtain ⟨ρ', hd, hs, hp, rfl, v', hrun, hv⟩ := hq
              obtain ⟨ρ'', hv'', hp''⟩ := leave h hv hp
              exact ⟨hd, v', hrun fn rfl, ρ'', v', rfl, hv'', hp''⟩
            · cases h
      · cases hck

omit [AMem μ] in
theorem onNorm_ok {f : List Value → μ → Nat → CR μ} {X1 X : AX} {e1 e' : List Value} {m1 m' : μ} {n1 n' r1 w1 r wm : Nat} (h : onNorm f X1 e1 m1 n1 r1 w1 = .ok X e' m' n' r wm) :
    (X1 = .norm ∧ ∃ r2 w2, f e1 m1 n1 = .ok X e' m' n' r2 w2 ∧ r = Nat.lor r1 r2 ∧ wm = Nat.lor w1 w2) ∨ (X1 ≠ .norm ∧ X = X1 ∧ e' = e1 ∧ m' = m1 ∧ n' = n1 ∧ r = r1 ∧ wm = w1) := by
  unfold onNorm at h
  split at h
  · obtain ⟨r2, w2, h2, e1, e2⟩ := addRW_ok h
    exact .inl ⟨rfl, r2, w2, h2, e1, e2⟩
  · rename_i hn
    injection h with e1 e2 e3 e4 e5 e6
    exact .inr ⟨hn, e1.symm, e2.symm, e3.symm, e4.symm, e5.symm, e6.symm⟩

/-- 'a' and then 'b' -/
theorem seq_wp {nt : Nat} {res : Array ResultVar} {ctx : List (Nat × Ctx)} {Γ1 : Option Ctx} {Γo : Option Ctx} {a : Code} {rest : Code → Prop} {E : Nat → Option AFn}
    {e1 e' : List Value} {m m1 m' : μ} {n n1 n' r1 w1 r2 w2 : Nat} {X1 X : AX} {ρ : Ren} {V : Nat → Option Blk} {w : World} {B F : Nat} {act : Act} {K : Act → World → Prop} {Q : Exit → Act → World → Prop}
    (h : a.wp P (Leaves P res ctx Γ1 nt B ρ V w n m1 n1 w1 X1 e1) act w) (hn : X1 = .norm) (hK : ∀ a' w' ρ', a'.defers = [] → a'.tmps.size = nt → Post ρ V w B n m1 n1 w1 ρ' w' → (∃ Γ, Γ1 = some Γ ∧ EnvRel ρ' Γ e1 a'.tmps) → K a' w') : a.wp P (Exit.then K Q) act w := by
  refine wp_mono h fun ex a' w' hq => ?_
  obtain ⟨ρ', hd, hs, hp, hE⟩ := hq
  subst hn
  obtain ⟨rfl, hΓ⟩ := hE
  exact hK a' w' ρ' hd hs hp hΓ

theorem Ends.exits {res : Array ResultVar} {ctx : List (Nat × Ctx)} {Γ1 Γo : Option Ctx} {ρ : Ren} {e : List Value} {a : Act} {w : World} {X : AX} {ex : Exit} (hn : X ≠ .norm) (h : Ends P res ctx Γ1 ρ e a w X ex) : Ends P res ctx Γo ρ e a w X ex ∧ ex ≠ .normal := by
  cases X with
  | norm => exact absurd rfl hn
  | exit id => exact ⟨h, by rw [h.1]; simp⟩
  | ret v => exact ⟨h, by rw [h.1]; simp⟩

/-- a loop, from the head of a round -/
def Round (P : Program) (c : Code) (Q : Exit → Act → World → Prop) (a : Act) (w : World) : Prop :=
  ∀ (b : Frame) (k : List Item) (cs : List Frame), ∃ e a' w', Q e a' w' ∧ Arrives P (lone (b.at a (.code c :: .inLoop c :: k)) cs w) b k cs e a' w'
omit [AMem μ] in
theorem Round.mono {c : Code} {Q Q' : Exit → Act → World → Prop} {a : Act} {w : World} (h : Round P c Q a w) (hq : ∀ e a w, Q e a w → Q' e a w) : Round P c Q' a w :=
  fun b k cs => let ⟨e, a', w', q, r⟩ := h b k cs; ⟨e, a', w', hq _ _ _ q, r⟩
omit [AMem μ] in
theorem wp_of_round {c : Code} {Q : Exit → Act → World → Prop} {a : Act} {w : World} (h : Round P c Q a w) : (Code.loop c).wp P Q a w := by
  intro b k cs
  obtain ⟨e, a', w', hq, harr⟩ := h b k cs
  exact ⟨e, a', w', hq, .of_steps (.one step_loop) harr⟩
omit [AMem μ] in
theorem round_of {c : Code} {Q : Exit → Act → World → Prop} {a : Act} {w : World} (h : c.wp P (Exit.then (Round P c Q) Q) a w) : Round P c Q a w := by
  intro b k cs
  obtain ⟨e, a₁, w₁, hq, harr⟩ := h b (.inLoop c :: k) cs
  cases e with
  | normal =>
    obtain ⟨e₂, a₂, w₂, hq₂, harr₂⟩ := hq b k cs
    exact ⟨e₂, a₂, w₂, hq₂, .of_steps (Steps.trans harr (.one step_inLoop)) harr₂⟩
  | exit id => exact ⟨_, a₁, w₁, hq, .pass (x := .inLoop c) rfl (fun _ _ => .inl (by simp)) harr⟩
  | goto l => exact ⟨_, a₁, w₁, hq, .pass (x := .inLoop c) rfl (fun _ _ => .inl (by simp)) harr⟩
  | ret => exact ⟨_, a₁, w₁, hq, .pass (x := .inLoop c) rfl (fun _ _ => .inl (by simp)) harr⟩
  | panic ch => exact ⟨_, a₁, w₁, hq, .pass (x := .inLoop c) rfl (fun _ _ => .inl (by simp)) harr⟩
  | outgrown => exact ⟨_, a₁, w₁, hq, .pass (x := .inLoop c) rfl (fun _ _ => .inl (by simp)) harr⟩
def LoopSim (μ : Type) [AMem μ] (P : Program) (E : Nat → Option AFn) (Y : Nat → List Value → μ → Nat → OR μ) (k : Nat) : Prop :=
  ∀ (nt : Nat) (res : Array ResultVar) (x : AC) (c : Code) (ctx : List (Nat × Ctx)) (Γh : Ctx) (Γb : Option Ctx) (Γo : Option Ctx) (e : List Value) (m : μ) (n : Nat) (X : AX) (e' : List Value) (m' : μ) (n' r wm : Nat), chk P nt res ctx Γh c x = some Γb → (∀ Γ2, Γb = some Γ2 → leC Γh Γ2 = true) → exec P E Y k (.loop Γh x) e m n = .ok X e' m' n' r wm →
    ∀ (ρ : Ren) (V : Nat → Option Blk) (w : World) (B F : Nat) (a : Act), a.defers = [] → a.tmps.size = nt → EnvRel ρ Γh e a.tmps → Sub (Nat.lor r wm) F → Agree V m n F → MRel ρ V w B → Free ρ n →
      X ≠ .norm ∧ Round P c (Leaves P res ctx Γo nt B ρ V w n m' n' wm X e') a w

theorem loop_sim {E : Nat → Option AFn} {Y : Nat → List Value → μ → Nat → OR μ} (hY : CallLoc Y) {k : Nat} (ih : CodeSim μ P E Y k) (ihl : LoopSim μ P E Y k) : LoopSim μ P E Y (k + 1) := by
  intro nt res x c ctx Γh Γb Γo e m n X e' m' n' r wm hchk hle h ρ V w B F a hd hs he hF hag hm hfree
  replace h : crRec (exec P E Y k x e m n) (onNorm (exec P E Y k (.loop Γh x))) = .ok X e' m' n' r wm := h
  obtain ⟨X1, e1, m1, n1, r1, w1, h1, h2⟩ := crRec_ok h
  rcases onNorm_ok h2 with ⟨rfl, r2, w2, h3, rfl, rfl⟩ | ⟨hne, rfl, rfl, rfl, rfl, rfl, rfl⟩
  · have l1 := exec_loc (P := P) (E := E) (Y := Y) hY k _ _ _ _ _ _ _ _ _ _ h1
    have l2 := exec_loc (P := P) (E := E) (Y := Y) hY k _ _ _ _ _ _ _ _ _ _ h3
    have hwp := ih nt res x c ctx Γh Γb e m n .norm e1 m1 n1 r1 w1 hchk h1 ρ V w B F a hd hs he (Sub.trans (Sub.lor (Sub.trans (Sub.left r1 r2) (Sub.left _ _)) (Sub.trans (Sub.left w1 w2) (Sub.right _ _))) hF) hag hm hfree
    have next : ∀ a' w' ρ', a'.defers = [] → a'.tmps.size = nt → Post ρ V w B n m1 n1 w1 ρ' w' → (∃ Γ2, Γb = some Γ2 ∧ EnvRel ρ' Γ2 e1 a'.tmps) → X ≠ .norm ∧ Round P c (Leaves P res ctx Γo nt B ρ V w n m' n' (Nat.lor w1 w2) X e') a' w' := by
      intro a' w' ρ' g1 g2 g3 ⟨Γ2, hΓ, g4⟩
      obtain ⟨q1, q2⟩ := ihl nt res x c ctx Γh Γb Γo e1 m1 n1 X e' m' n' r2 w2 hchk hle h3 ρ' (upd V w1 m1) w' B F a' g1 g2 (g4.le (hle Γ2 hΓ)) (Sub.trans (Sub.lor (Sub.trans (Sub.right r1 r2) (Sub.left _ _)) (Sub.trans (Sub.right w1 w2) (Sub.right _ _))) hF) (hag.step l1) g3.mrel (hfree.next g3)
      exact ⟨q1, q2.mono fun ex a'' w'' hq => Leaves.map g3 l2 hq fun _ h => h⟩
    have hX : X ≠ .norm := by
      intro hX
      subst hX
      obtain ⟨ex, a', w', ⟨ρ', g1, g2, g3, _, g4⟩, _⟩ := hwp default [] []
      exact (next a' w' ρ' g1 g2 g3 g4).1 rfl
    refine ⟨hX, round_of (wp_mono hwp fun ex a' w' hq => ?_)⟩
    obtain ⟨ρ', g1, g2, g3, rfl, g4⟩ := hq
    exact (next a' w' ρ' g1 g2 g3 g4).2
  · have hwp := ih nt res x c ctx Γh Γb e m n X e' m' n' r wm hchk h1 ρ V w B F a hd hs he hF hag hm hfree
    refine ⟨hne, round_of (wp_mono hwp fun ex a' w' hq => ?_)⟩
    obtain ⟨ρ', g1, g2, g3, g4⟩ := hq
    obtain ⟨g5, g6⟩ := g4.exits (Γo := Γo) hne
    have hl : Leaves P res ctx Γo nt B ρ V w n m' n' wm X e' ex a' w' := ⟨ρ', g1, g2, g3, g5⟩
    cases ex <;> first | exact hl | exact absurd rfl g6

set_option maxHeartbeats 1000000 in
theorem code_sim (hmix : P.follows .mixedOrders = true) (hdraw : DrawSim μ P) {E : Nat → Option AFn} {Y : Nat → List Value → μ → Nat → OR μ} (hY : CallLoc Y) (hYs : CallSim P Y) (hE : ∀ f af, E f = some af → ∃ fn, P.funcs[f]? = some fn ∧ chkFn P fn af = true) : ∀ k, CodeSim μ P E Y k ∧ LoopSim μ P E Y k
  | 0 => by
    refine ⟨?_, fun nt res x c ctx Γh Γb Γo e m n X e' m' n' r wm hchk hle h => by cases h⟩
    intro nt res x c ctx Γ Γo e m n X e' m' n' r wm hchk h
    cases h
  | k + 1 => by
    obtain ⟨ih, ihl⟩ := code_sim hmix hdraw hY hYs hE k
    have hloop := loop_sim hY ih ihl
    refine ⟨?_, hloop⟩
    have hcall := call_sim hY hYs hE ih
    have hloc : CallLoc (callA (μ := μ) E Y (exec P E Y k)) := fun f args m n v m' n' r wm h => call_loc hY (exec_loc (P := P) (E := E) (Y := Y) hY k) h
    intro nt res x c ctx Γ Γo e m n X e' m' n' r wm hchk h ρ V w B F a hd hs he hF hag hm hfree
    replace h : execF P E Y (exec P E Y k) x e m n = .ok X e' m' n' r wm := h
    have same : ∀ {Γ0 : Ctx}, EnvRel ρ Γ0 e a.tmps → Leaves P res ctx (some Γ0) nt B ρ V w n m n 0 .norm e .normal a w := fun h0 => ⟨ρ, hd, hs, Post.same hm n m, rfl, _, rfl, h0⟩
    cases x with
    | pre sel d x =>
      have hchk : chk P nt res ctx (fixC sel d Γ) c x = some Γo := by cases c <;> simpa [chk] using hchk
      exact ih nt res x c ctx _ Γo _ m n X e' m' n' r wm hchk h ρ V w B F a hd hs (he.fix sel d) hF hag hm hfree
    | post x sel d =>
      have hchk : postC sel d (chk P nt res ctx Γ c x) = some Γo := by cases c <;> simpa [chk] using hchk
      obtain ⟨X1, e1, m1, n1, r1, w1, h1, h2⟩ := crRec_ok h
      have sub : ∀ Γ1, chk P nt res ctx Γ c x = some Γ1 → r = r1 → wm = w1 → c.wp P (Leaves P res ctx Γ1 nt B ρ V w n m1 n1 w1 X1 e1) a w := by
        intro Γ1 hc e1 e2
        subst e1; subst e2
        exact ih nt res x c ctx Γ Γ1 e m n X1 _ m1 n1 _ _ hc h1 ρ V w B F a hd hs he hF hag hm hfree
      unfold onPost at h2
      cases hc : chk P nt res ctx Γ c x with
      | none => rw [hc] at hchk; cases hchk
      | some Γ1 =>
        rw [hc] at hchk
        split at h2
        · injection h2 with q1 q2 q3 q4 q5 q6
          subst q1; subst q2; subst q3; subst q4
          refine wp_mono (sub Γ1 hc q5.symm q6.symm) fun ex a' w' hq => ?_
          obtain ⟨ρ', g1, g2, g3, rfl, Γ2, rfl, g4⟩ := hq
          injection hchk with hchk; subst hchk
          rw [← q6]
          exact ⟨ρ', g1, g2, g3, rfl, _, rfl, g4.fix sel d⟩
        · rename_i hne
          injection h2 with q1 q2 q3 q4 q5 q6
          subst q1; subst q2; subst q3; subst q4
          refine wp_mono (sub Γ1 hc q5.symm q6.symm) fun ex a' w' hq => ?_
          obtain ⟨ρ', g1, g2, g3, g4⟩ := hq
          rw [← q6]
          exact ⟨ρ', g1, g2, g3, (g4.exits hne).1⟩
    | skip =>
      cases c <;> simp [chk] at hchk
      subst hchk
      injection h with q1 q2 q3 q4 q5 q6
      subst q1; subst q2; subst q3; subst q4; subst q6
      exact wp_skip (same he)
    | reg l =>
      have hc : ∃ id ops, c = .region id ops false := by
        cases c with
        | region id ops draw => cases draw with
          | false => exact ⟨id, ops, rfl⟩
          | true => simp [chk] at hchk
        | _ => simp [chk] at hchk
      obtain ⟨id, ops, rfl⟩ := hc
      simp only [chk, Option.map_eq_some_iff] at hchk
      obtain ⟨Γe, hch, rfl⟩ := hchk
      obtain ⟨rfl, W, hW, hl, hwp⟩ := ops_sim hcall hloc l ops.toList 0 Γ e m n 0 0 X e' m' n' r wm (by simp) hch h
      rw [zero_lor'] at hW
      subst hW
      refine wp_region ?_
      have := hwp ρ V w B F a hd hs he hF hag hm hfree
      rw [show List.range ops.size = List.range' 0 ops.toList.length by rw [List.range_eq_range']; simp]
      refine wpOps_mono (fun ex a' w' hq => ?_) _ _ _ this
      obtain ⟨ρ', g1, g2, g3, g4, g5⟩ := hq
      exact ⟨ρ', g2, g3, g5, g1, Γe, rfl, g4⟩
    | regD l bs =>
      have hc : ∃ id ops, c = .region id ops true := by
        cases c with
        | region id ops draw => cases draw with
          | true => exact ⟨id, ops, rfl⟩
          | false => simp [chk] at hchk
        | _ => simp [chk] at hchk
      obtain ⟨id, ops, rfl⟩ := hc
      simp only [chk] at hchk
      cases ho : orderOk ops bs
      · rw [ho] at hchk; cases hchk
      rw [ho] at hchk
      simp only [cond_true, Option.map_eq_some_iff] at hchk
      obtain ⟨Γe, hch, rfl⟩ := hchk
      obtain ⟨rfl, hwp⟩ := hdraw _ nt ops bs l Γ Γe e m n X e' m' n' r wm hcall hloc ho hch h
      refine wp_mono (wp_region_any hmix (hwp ρ V w.drew B F a hd hs he hF hag hm.drew hfree)) fun ex a' w' hq => ?_
      obtain ⟨ρ', g1, g2, g3, g4, g5⟩ := hq
      exact ⟨ρ', g2, g3, g5.of_drew, g1, Γe, rfl, g4⟩
    | seq x y =>
      cases c <;> simp [chk] at hchk
      rename_i c1 c2
      obtain ⟨X1, e1, m1, n1, r1, w1, h1, h2⟩ := crRec_ok h
      cases hc : chk P nt res ctx Γ c1 x with
      | none => rw [hc] at hchk; cases hchk
      | some Γ1 =>
        rw [hc] at hchk
        cases Γ1 with
        | none => cases hchk
        | some Γ1 =>
          replace hchk : chk P nt res ctx Γ1 c2 y = some Γo := hchk
          refine wp_seq ?_
          rcases onNorm_ok h2 with ⟨rfl, r2, w2, h3, rfl, rfl⟩ | ⟨hne, rfl, rfl, rfl, rfl, rfl, rfl⟩
          · have l1 := exec_loc (P := P) (E := E) (Y := Y) hY k _ _ _ _ _ _ _ _ _ _ h1
            have l2 := exec_loc (P := P) (E := E) (Y := Y) hY k _ _ _ _ _ _ _ _ _ _ h3
            have hwp := ih nt res x c1 ctx Γ (some Γ1) e m n .norm e1 m1 n1 r1 w1 hc h1 ρ V w B F a hd hs he (Sub.trans (Sub.lor (Sub.trans (Sub.left r1 r2) (Sub.left _ _)) (Sub.trans (Sub.left w1 w2) (Sub.right _ _))) hF) hag hm hfree
            refine wp_mono hwp fun ex a' w' hq => ?_
            obtain ⟨ρ', g1, g2, g3, rfl, Γ2, hΓ, g4⟩ := hq
            injection hΓ with hΓ; subst hΓ
            have hwp2 := ih nt res y c2 ctx Γ1 Γo e1 m1 n1 X e' m' n' r2 w2 hchk h3 ρ' (upd V w1 m1) w' B F a' g1 g2 g4 (Sub.trans (Sub.lor (Sub.trans (Sub.right r1 r2) (Sub.left _ _)) (Sub.trans (Sub.right w1 w2) (Sub.right _ _))) hF) (hag.step l1) g3.mrel (hfree.next g3)
            exact wp_mono hwp2 fun ex a'' w'' hq => Leaves.map g3 l2 hq fun _ h => h
          · have hwp := ih nt res x c1 ctx Γ (some Γ1) e m n X e' m' n' r wm hc h1 ρ V w B F a hd hs he hF hag hm hfree
            refine wp_mono hwp fun ex a' w' hq => ?_
            obtain ⟨ρ', g1, g2, g3, g4⟩ := hq
            obtain ⟨g5, g6⟩ := g4.exits (Γo := Γo) hne
            have hl : Leaves P res ctx Γo nt B ρ V w n m' n' wm X e' ex a' w' := ⟨ρ', g1, g2, g3, g5⟩
            cases ex <;> first | exact hl | exact absurd rfl g6
    | cond c0 x y =>
      cases c <;> simp [chk] at hchk
      rename_i o c1 c2
      cases ho : opdOk Γ o c0
      · rw [ho] at hchk; cases hchk
      rw [ho, cond_true] at hchk
      replace h : onCond (exec P E Y k x e m n) (exec P E Y k y e m n) (ev e c0) = .ok X e' m' n' r wm := h
      have hval := opd_sound he ho
      cases hc1 : chk P nt res ctx Γ c1 x with
      | none => rw [hc1] at hchk; cases hchk
      | some Γa =>
        cases hc2 : chk P nt res ctx Γ c2 y with
        | none => rw [hc1, hc2] at hchk; cases hchk
        | some Γb =>
          rw [hc1, hc2] at hchk
          injection hchk with hchk; subst hchk
          unfold onCond at h
          split at h
          · rename_i t ht
            rw [ht] at hval
            have hval := hval.flat_eq rfl
            cases t
            · refine wp_cond_false hval (wp_mono (ih nt res y c2 ctx Γ Γb e m n X e' m' n' r wm hc2 h ρ V w B F a hd hs he hF hag hm hfree) fun ex a' w' hq => ?_)
              obtain ⟨ρ', g1, g2, g3, g4⟩ := hq
              refine ⟨ρ', g1, g2, g3, ?_⟩
              cases X with
              | norm =>
                obtain ⟨rfl, Γ2, rfl, g5⟩ := g4
                refine ⟨rfl, ?_⟩
                cases Γa with
                | none => exact ⟨_, rfl, g5⟩
                | some Γa => exact ⟨_, rfl, fun i t hn => g5 i t (named_meet hn).2⟩
              | exit id => exact g4
              | ret v => exact g4
            · refine wp_cond_true hval (wp_mono (ih nt res x c1 ctx Γ Γa e m n X e' m' n' r wm hc1 h ρ V w B F a hd hs he hF hag hm hfree) fun ex a' w' hq => ?_)
              obtain ⟨ρ', g1, g2, g3, g4⟩ := hq
              refine ⟨ρ', g1, g2, g3, ?_⟩
              cases X with
              | norm =>
                obtain ⟨rfl, Γ2, rfl, g5⟩ := g4
                refine ⟨rfl, ?_⟩
                cases Γb with
                | none => exact ⟨_, rfl, g5⟩
                | some Γb => exact ⟨_, rfl, fun i t hn => g5 i t (named_meet hn).1⟩
              | exit id => exact g4
              | ret v => exact g4
          · cases h
    | block id Γt x =>
      cases c <;> simp [chk] at hchk
      rename_i id' c1
      cases hid : Nat.beq id' id
      · rw [hid] at hchk; cases hchk
      rw [hid, cond_true] at hchk
      have hid : id' = id := Nat.eq_of_beq_eq_true hid
      subst hid
      obtain ⟨X1, e1, m1, n1, r1, w1, h1, h2⟩ := crRec_ok h
      cases hc : chk P nt res ((id', Γt) :: ctx) Γ c1 x with
      | none => rw [hc] at hchk; cases hchk
      | some Γb =>
        rw [hc] at hchk
        have hle : Γo = some Γt ∧ ∀ Γ2, Γb = some Γ2 → leC Γt Γ2 = true := by
          cases Γb with
          | none => injection hchk with hchk; exact ⟨hchk.symm, fun _ h => by cases h⟩
          | some Γ2 =>
            replace hchk : cond (leC Γt Γ2) (some (some Γt)) none = some Γo := hchk
            cases hl : leC Γt Γ2
            · rw [hl] at hchk; cases hchk
            · rw [hl, cond_true] at hchk; injection hchk with hchk
              exact ⟨hchk.symm, fun _ h => by injection h with h; subst h; exact hl⟩
        obtain ⟨rfl, hle⟩ := hle
        have hmask : r = r1 ∧ wm = w1 ∧ m' = m1 ∧ n' = n1 ∧ e' = e1 ∧ ((X1 = .norm ∧ X = .norm) ∨ (X1 = .exit id' ∧ X = .norm) ∨ (∃ i, i ≠ id' ∧ X1 = .exit i ∧ X = .exit i) ∨ (∃ v, X1 = .ret v ∧ X = .ret v)) := by
          unfold onBlock at h2
          split at h2
          · rename_i i
            cases hi : Nat.beq i id'
            · rw [hi, cond_false] at h2; injection h2 with q1 q2 q3 q4 q5 q6
              exact ⟨q5.symm, q6.symm, q3.symm, q4.symm, q2.symm, .inr (.inr (.inl ⟨i, by intro e; subst e; simp at hi, rfl, q1.symm⟩))⟩
            · rw [hi, cond_true] at h2; injection h2 with q1 q2 q3 q4 q5 q6
              exact ⟨q5.symm, q6.symm, q3.symm, q4.symm, q2.symm, .inr (.inl ⟨by rw [Nat.eq_of_beq_eq_true hi], q1.symm⟩)⟩
          · rename_i hne
            injection h2 with q1 q2 q3 q4 q5 q6
            refine ⟨q5.symm, q6.symm, q3.symm, q4.symm, q2.symm, ?_⟩
            cases X1 with
            | norm => exact .inl ⟨rfl, q1.symm⟩
            | exit i => exact absurd rfl (hne i)
            | ret v => exact .inr (.inr (.inr ⟨v, rfl, q1.symm⟩))
        obtain ⟨rfl, rfl, rfl, rfl, rfl, hX⟩ := hmask
        refine wp_block (wp_mono (ih nt res x c1 ((id', Γt) :: ctx) Γ Γb e m n X1 e' m' n' r wm hc h1 ρ V w B F a hd hs he hF hag hm hfree) fun ex a' w' hq => ?_)
        obtain ⟨ρ', g1, g2, g3, g4⟩ := hq
        rcases hX with ⟨rfl, rfl⟩ | ⟨rfl, rfl⟩ | ⟨i, hi, rfl, rfl⟩ | ⟨v, rfl, rfl⟩
        · obtain ⟨rfl, Γ2, hΓ2, g5⟩ := g4
          exact ⟨ρ', g1, g2, g3, rfl, Γt, rfl, g5.le (hle Γ2 hΓ2)⟩
        · obtain ⟨rfl, Γ2, hΓ2, g5⟩ := g4
          have : some Γt = some Γ2 := by rw [← hΓ2]; simp [lookC]
          injection this with this; subst this
          show (if id' = id' then Leaves P res ctx (some Γt) nt B ρ V w n m' n' wm .norm e' .normal a' w' else _)
          rw [if_pos rfl]
          exact ⟨ρ', g1, g2, g3, rfl, Γt, rfl, g5⟩
        · obtain ⟨rfl, Γ2, hΓ2, g5⟩ := g4
          have hΓ2 : lookC ctx i = some Γ2 := by
            have hb : Nat.beq id' i = false := by
              cases hb : Nat.beq id' i
              · rfl
              · exact absurd (Nat.eq_of_beq_eq_true hb).symm hi
            simpa [lookC, hb] using hΓ2
          show (if i = id' then _ else Leaves P res ctx (some Γt) nt B ρ V w n m' n' wm (.exit i) e' (.exit i) a' w')
          rw [if_neg hi]
          exact ⟨ρ', g1, g2, g3, rfl, Γ2, hΓ2, g5⟩
        · obtain ⟨rfl, g5⟩ := g4
          exact ⟨ρ', g1, g2, g3, rfl, g5⟩
    | loop Γh x =>
      cases c <;> simp [chk] at hchk
      rename_i c1
      cases hle0 : leC Γh Γ
      · rw [hle0] at hchk; cases hchk
      rw [hle0, cond_true] at hchk
      cases hc : chk P nt res ctx Γh c1 x with
      | none => rw [hc] at hchk; cases hchk
      | some Γb =>
        rw [hc] at hchk
        have hle : ∀ Γ2, Γb = some Γ2 → leC Γh Γ2 = true := by
          intro Γ2 e2
          subst e2
          replace hchk : cond (leC Γh Γ2) (some none) none = some Γo := hchk
          cases hl : leC Γh Γ2
          · rw [hl] at hchk; cases hchk
          · rfl
        exact wp_of_round (hloop nt res x c1 ctx Γh Γb Γo e m n X e' m' n' r wm hc hle h ρ V w B F a hd hs (he.le hle0) hF hag hm hfree).2
    | exit id =>
      cases c <;> simp [chk] at hchk
      rename_i id'
      cases hid : Nat.beq id' id
      · rw [hid] at hchk; cases hchk
      rw [hid, cond_true] at hchk
      have hid : id' = id := Nat.eq_of_beq_eq_true hid
      subst hid
      injection h with q1 q2 q3 q4 q5 q6
      subst q1; subst q2; subst q3; subst q4; subst q6
      split at hchk
      · rename_i Γt hl
        cases hle : leC Γt Γ
        · rw [hle] at hchk; cases hchk
        · exact wp_exit ⟨ρ, hd, hs, Post.same hm n m, rfl, Γt, hl, he.le hle⟩
      · cases hchk
    | ret rs =>
      cases c <;> simp [chk] at hchk
      cases hres : resOk P Γ res.toList rs
      · rw [hres] at hchk; cases hchk
      replace h : onRet e m n (resA e m n rs) = .ok X e' m' n' r wm := h
      unfold onRet at h
      split at h
      · rename_i vs r' hra
        injection h with q1 q2 q3 q4 q5 q6
        subst q1; subst q2; subst q3; subst q4; subst q5; subst q6
        obtain ⟨v', hrun, hv⟩ := results_sound (P := P) he hm hag hres hra (Sub.trans (Sub.left _ _) hF)
        exact wp_ret ⟨ρ, hd, hs, Post.same hm n m, rfl, v', hrun, hv⟩
      · cases h
end
end Go.Am
namespace Go.Am
open Go Go.RowKit
section
variable {μ : Type} [AMem μ] {P : Program}

structure St (μ : Type) where
  Γ : Ctx
  e : List Value
  m : μ
  n : Nat

/-- what a temporary holds -/
def TRel (ρ : Ren) (Γ : Ctx) (e : List Value) (t : Nat) (oy : Option Value) : Prop := ∀ i, named Γ i t = true → ∃ x y, e[i]? = some x ∧ oy = some y ∧ VRel ρ x y
theorem TRel.mono {ρ ρ' : Ren} (hl : ρ.le ρ') {Γ : Ctx} {e : List Value} {t : Nat} {oy : Option Value} (h : TRel ρ Γ e t oy) : TRel ρ' Γ e t oy := fun i hn =>
  let ⟨x, y, a, b, c⟩ := h i hn; ⟨x, y, a, b, c.mono hl⟩

structure SStep (P : Program) (ops : Array Oper) (nt : Nat) (o : Oper) (s s' : St μ) (r wm : Nat) : Prop where
  loc : Loc s.m s.n s'.m s'.n wm
  keep : ∀ ρ t oy, o.dst ≠ some t → TRel ρ s.Γ s.e t oy → TRel ρ s'.Γ s'.e t oy
  sim : ∀ (ρ : Ren) (V : Nat → Option Blk) (w : World) (B F : Nat) (a : Act), a.tmps.size = nt → (∀ t ∈ looks ops o, TRel ρ s.Γ s.e t a.tmps[t]?) → Sub (Nat.lor r wm) F → Agree V s.m s.n F → MRel ρ V w B → Free ρ s.n →
    ∀ (K : Act → World → Prop) (Q : Exit → Act → World → Prop), (∀ v' ρ' w', (∀ d, o.dst = some d → d < nt ∧ TRel ρ' s'.Γ s'.e d (some v')) → Post ρ V w B s.n s'.m s'.n wm ρ' w' → K (a.put o.dst v') w') →
      if Region.wanted o (yielded ops a.tmps) then o.wp P a w K Q else K (a.put o.dst undef) w

/-- the names of the temporaries that are looked at -/
def onlyC (l : List Nat) (Γ : Ctx) : Ctx := Γ.map fun ts => ts.filter fun t => l.any (Nat.beq t)
theorem named_only {l : List Nat} {Γ : Ctx} {i t : Nat} : named (onlyC l Γ) i t = true ↔ named Γ i t = true ∧ t ∈ l := by
  rw [named_iff, named_iff]
  constructor
  · rintro ⟨x, h1, h2⟩
    simp only [onlyC, List.getElem?_map, Option.map_eq_some_iff] at h1
    obtain ⟨y, h1, rfl⟩ := h1
    rw [List.mem_filter, any_beq] at h2
    exact ⟨⟨y, h1, h2.1⟩, h2.2⟩
  · rintro ⟨⟨y, h1, h2⟩, h3⟩
    refine ⟨y.filter fun t => l.any (Nat.beq t), by simp [onlyC, h1], ?_⟩
    rw [List.mem_filter, any_beq]
    exact ⟨h2, h3⟩
theorem env_only {ρ : Ren} {l : List Nat} {Γ : Ctx} {e : List Value} {tmps : Array Value} (h : ∀ t ∈ l, TRel ρ Γ e t tmps[t]?) : EnvRel ρ (onlyC l Γ) e tmps := by
  intro i t hn
  obtain ⟨h1, h2⟩ := named_only.1 hn
  exact h t h2 i h1

/-! ### the check asks for the operands alone -/
section
variable {Γ Γ' : Ctx}
theorem opdOk_only {x : Operand} {y : Opd} (hs : ∀ t, x = .tmp t → ∀ i, named Γ i t = true → named Γ' i t = true) (h : opdOk Γ x y = true) : opdOk Γ' x y = true := by
  unfold opdOk at h ⊢
  split at h
  · exact hs _ rfl _ h
  · exact h
  · exact h
  · cases h
theorem opdsOk_only : ∀ {xs : List Operand} {ys : List Opd}, (∀ t, .tmp t ∈ xs → ∀ i, named Γ i t = true → named Γ' i t = true) → opdsOk Γ xs ys = true → opdsOk Γ' xs ys = true
  | [], [], _, _ => rfl
  | [], _ :: _, _, h => by cases h
  | _ :: _, [], _, h => by cases h
  | x :: xs, y :: ys, hs, h => by
    simp only [opdsOk, Bool.and_eq_true] at h ⊢
    exact ⟨opdOk_only (fun t e => hs t (e ▸ List.mem_cons_self ..)) h.1, opdsOk_only (fun t e => hs t (List.mem_cons_of_mem _ e)) h.2⟩
theorem optOk_only {x : Option Operand} {y : Option Opd} (hs : ∀ t, x = some (.tmp t) → ∀ i, named Γ i t = true → named Γ' i t = true) (h : optOk Γ x y = true) : optOk Γ' x y = true := by
  unfold optOk at h ⊢
  split at h
  · rfl
  · exact opdOk_only (fun t e => hs t (by rw [e])) h
  · cases h
theorem partsOk_only {place : Nat → Option (Nat × Nat)} : ∀ {xs : List (Nat × Operand)} {ys : List (Nat × Nat × Opd)}, (∀ t, .tmp t ∈ xs.map (·.2) → ∀ i, named Γ i t = true → named Γ' i t = true) → partsOk Γ place xs ys = true → partsOk Γ' place xs ys = true
  | [], [], _, _ => rfl
  | [], _ :: _, _, h => by cases h
  | _ :: _, [], _, h => by cases h
  | x :: xs, y :: ys, hs, h => by
    simp only [partsOk, Bool.and_eq_true] at h ⊢
    exact ⟨⟨h.1.1, opdOk_only (fun t e => hs t (by rw [List.map_cons, e]; exact List.mem_cons_self ..)) h.1.2⟩, partsOk_only (fun t e => hs t (by rw [List.map_cons]; exact List.mem_cons_of_mem _ e)) h.2⟩
theorem parts2Ok_only : ∀ {xs : List (Nat × Operand)} {ys : List (Nat × Opd)}, (∀ t, .tmp t ∈ xs.map (·.2) → ∀ i, named Γ i t = true → named Γ' i t = true) → parts2Ok Γ xs ys = true → parts2Ok Γ' xs ys = true
  | [], [], _, _ => rfl
  | [], _ :: _, _, h => by cases h
  | _ :: _, [], _, h => by cases h
  | x :: xs, y :: ys, hs, h => by
    simp only [parts2Ok, Bool.and_eq_true] at h ⊢
    exact ⟨⟨h.1.1, opdOk_only (fun t e => hs t (by rw [List.map_cons, e]; exact List.mem_cons_self ..)) h.1.2⟩, parts2Ok_only (fun t e => hs t (by rw [List.map_cons]; exact List.mem_cons_of_mem _ e)) h.2⟩

theorem chkOp_only {op : Op} {x : AOp} (hs : ∀ t, .tmp t ∈ op.operands.toList → ∀ i, named Γ i t = true → named Γ' i t = true) (h : chkOp P Γ op x = true) : chkOp P Γ' op x = true := by
  have one : ∀ {y : Operand} {z : Opd}, y ∈ op.operands.toList → opdOk Γ y z = true → opdOk Γ' y z = true := fun hy hz => opdOk_only (fun t e => hs t (e ▸ hy)) hz
  have many : ∀ {ys : List Operand} {zs : List Opd}, (∀ y ∈ ys, y ∈ op.operands.toList) → opdsOk Γ ys zs = true → opdsOk Γ' ys zs = true := fun hy hz => opdsOk_only (fun t e => hs t (hy _ e)) hz
  have opt : ∀ {y : Option Operand} {z : Option Opd}, (∀ y', y = some y' → y' ∈ op.operands.toList) → optOk Γ y z = true → optOk Γ' y z = true := fun hy hz => optOk_only (fun t e => hs t (hy _ e)) hz
  unfold chkOp at h ⊢
  split at h <;> simp only [Op.operands, Call.operands, Bool.and_eq_true] at *
  all_goals revert h
  all_goals repeat' (first | exact id | exact one (by simp) | exact many (fun y hy => by simp at hy; simp [hy]) | exact opt (fun y hy => by simp [hy]) | exact parts2Ok_only hs | refine And.imp ?_ ?_)
  · intro h
    split at h
    · rename_i hu
      simp only [hu, Bool.and_eq_true] at h ⊢
      exact ⟨h.1, partsOk_only hs h.2⟩
    · rename_i hu
      split at h
      · rename_i hi
        exact partsOk_only hs h
      · cases h
    · cases h
  · intro h
    split at h
    · rename_i hx ht
      simp only [hx, ht, Bool.and_eq_true] at h ⊢
      exact ⟨one (by simp [hx]) h.1, h.2⟩
    · cases h
  · intro h
    split at h
    · rename_i hx
      simp only [hx, Bool.and_eq_true] at h ⊢
      exact ⟨one (by simp [hx]) h.1, one (by simp [hx]) h.2⟩
    · cases h
  · intro h
    split at h
    · rename_i hx ht
      simp only [hx, ht, Bool.and_eq_true] at h ⊢
      exact ⟨⟨one (by simp [hx]) h.1.1, one (by simp [hx]) h.1.2⟩, h.2⟩
    · cases h
end

/-! ### the operations of a region, each by itself -/
theorem mem_looks {ops : Array Oper} {o : Oper} {t : Nat} (h : Operand.tmp t ∈ o.op.operands.toList) : t ∈ looks ops o :=
  List.mem_append_left _ (List.mem_filterMap.2 ⟨_, h, rfl⟩)
theorem guard_looks {ops : Array Oper} {o : Oper} {j g : Nat} {w : Bool} (h : o.guard = some (j, w)) (hj : (ops[j]?).bind (·.dst) = some g) : g ∈ looks ops o := by
  refine List.mem_append_right _ ?_
  rw [h]; simp [hj]
theorem TRel.push {ρ : Ren} {Γ : Ctx} {e : List Value} {d t : Nat} {v : Value} {oy : Option Value} (hne : t ≠ d) (h : TRel ρ Γ e t oy) : TRel ρ ([d] :: remN d Γ) (v :: e) t oy := by
  intro i hn
  cases i with
  | zero =>
    obtain ⟨l, h1, h2⟩ := named_iff.1 hn
    have h1 : some [d] = some l := h1
    injection h1 with h1; subst h1
    exact absurd (by simpa using h2) hne
  | succ i =>
    obtain ⟨h1, h2⟩ := named_rem (i := i) hn
    obtain ⟨x, y, a, b, c⟩ := h i h1
    exact ⟨x, y, by simpa using a, b, c⟩
theorem TRel.top {ρ : Ren} {Γ : Ctx} {e : List Value} {d : Nat} {v v' : Value} (hv : VRel ρ v v') : TRel ρ ([d] :: remN d Γ) (v :: e) d (some v') := by
  intro i hn
  cases i with
  | zero => exact ⟨v, v', rfl, rfl, hv⟩
  | succ i => exact absurd rfl (named_rem (i := i) hn).2
theorem TRel.aliasKeep {ρ : Ren} {Γ : Ctx} {e : List Value} {d t i : Nat} {oy : Option Value} (hne : t ≠ d) (h : TRel ρ Γ e t oy) : TRel ρ (addN d (remN d Γ) i) e t oy := by
  intro j hn
  rcases named_add hn with hn | ⟨_, h2⟩
  · exact h j (named_rem hn).1
  · exact absurd h2 hne
theorem TRel.aliasTop {ρ : Ren} {Γ : Ctx} {e : List Value} {d i : Nat} {x v' : Value} (hx : e[i]? = some x) (hv : VRel ρ x v') : TRel ρ (addN d (remN d Γ) i) e d (some v') := by
  intro j hn
  rcases named_add hn with hn | ⟨rfl, _⟩
  · exact absurd rfl (named_rem hn).2
  · exact ⟨x, v', hx, rfl, hv⟩

theorem sstep_loud {rec : Nat → List Value → μ → Nat → OR μ} {nt : Nat} {ops : Array Oper} (hcall : CallSim P rec) (hloc : CallLoc rec) {o : Oper} {x : AOp} {Γ Γ1 : Ctx} {e e1 : List Value} {m m1 : μ} {n n1 r1 w1 : Nat} {v : Value}
    (hx : chkOp P Γ o.op x = true) (h : stepA P rec e m n x = .ok v m1 n1 r1 w1) (hw : ∀ (ρ : Ren) (tmps : Array Value), (∀ t ∈ looks ops o, TRel ρ Γ e t tmps[t]?) → Region.wanted o (yielded ops tmps) = true)
    (hkeep : ∀ ρ t oy, o.dst ≠ some t → TRel ρ Γ e t oy → TRel ρ Γ1 e1 t oy) (hput : ∀ ρ v' d, VRel ρ v v' → o.dst = some d → d < nt ∧ TRel ρ Γ1 e1 d (some v')) :
    SStep P ops nt o ⟨Γ, e, m, n⟩ ⟨Γ1, e1, m1, n1⟩ r1 w1 := by
  refine ⟨step_loc (P := P) hloc h, hkeep, fun ρ V w B F a hs ht hF hag hm hfree K Q hK => ?_⟩
  rw [if_pos (hw ρ a.tmps ht)]
  refine oper_sound (Γ := onlyC (looks ops o) Γ) hcall (chkOp_only (fun t hm i hn => named_only.2 ⟨hn, mem_looks hm⟩) hx) (env_only ht) h hF hm hag hfree fun v' ρ' w' hv hp => ?_
  exact hK v' ρ' w' (fun d hd => hput ρ' v' d hv hd) hp

theorem sstep_quiet {nt : Nat} {ops : Array Oper} {o : Oper} {Γ Γ1 : Ctx} {e e1 : List Value} (m : μ) (n : Nat)
    (hkeep : ∀ ρ t oy, o.dst ≠ some t → TRel ρ Γ e t oy → TRel ρ Γ1 e1 t oy)
    (hsim : ∀ (ρ : Ren) (w : World) (a : Act), a.tmps.size = nt → (∀ t ∈ looks ops o, TRel ρ Γ e t a.tmps[t]?) → ∀ (K : Act → World → Prop) (Q : Exit → Act → World → Prop), (∀ v', (∀ d, o.dst = some d → d < nt ∧ TRel ρ Γ1 e1 d (some v')) → K (a.put o.dst v') w) →
      if Region.wanted o (yielded ops a.tmps) then o.wp P a w K Q else K (a.put o.dst undef) w) :
    SStep P ops nt o ⟨Γ, e, m, n⟩ ⟨Γ1, e1, m, n⟩ 0 0 :=
  ⟨Loc.refl _ _, hkeep, fun ρ V w B F a hs ht _ _ hm _ K Q hK => hsim ρ w a hs ht K Q fun v' hv => hK v' ρ w hv (Post.same hm n m)⟩
end
end Go.Am
namespace Go.Am
open Go Go.RowKit
section
variable {μ : Type} [AMem μ] {P : Program}

def Apart (bef r w : Nat) (x : Nat × Nat × Nat) : Prop := bef.testBit x.1 = true ∨ ∀ b, (w.testBit b = true → x.2.1.testBit b = false ∧ x.2.2.testBit b = false) ∧ (x.2.2.testBit b = true → r.testBit b = false)
theorem land_zero {a b : Nat} (h : Nat.beq (Nat.land a b) 0 = true) (k : Nat) (hk : a.testBit k = true) : b.testBit k = false := by
  have h := Nat.eq_of_beq_eq_true h
  have h2 : (a &&& b).testBit k = false := by
    have : a &&& b = 0 := h
    rw [this]; exact Nat.zero_testBit k
  rw [Nat.testBit_and, hk] at h2
  simpa using h2
theorem apart_spec {bef r w : Nat} : ∀ {done : List (Nat × Nat × Nat)}, apart bef r w done = true → ∀ x ∈ done, Apart bef r w x
  | [], _, x, hx => by cases hx
  | (i, r', w') :: l, h, x, hx => by
    simp only [apart, Bool.and_eq_true, Bool.or_eq_true] at h
    rcases List.mem_cons.1 hx with rfl | hx
    · rcases h.1 with h1 | ⟨h1, h2⟩
      · exact .inl h1
      · refine .inr fun b => ⟨fun hb => ?_, fun hb => land_zero h2 b hb⟩
        have := land_zero h1 b hb
        rw [lor_test, Bool.or_eq_false_iff] at this
        exact this
    · exact apart_spec h.2 x hx
theorem Apart.none {bef : Nat} (x : Nat × Nat × Nat) : Apart bef 0 0 x := .inr fun b => ⟨fun h => by simp at h, fun _ => by simp⟩
theorem Apart.none' {bef r w i : Nat} : Apart bef r w (i, 0, 0) := .inr fun b => ⟨fun _ => by simp, fun h => by simp at h⟩

def Traced (P : Program) (ops : Array Oper) (nt k len : Nat) (s s' : St μ) (done : List (Nat × Nat × Nat)) (bs : List Nat) (r0 w0 r wm : Nat) : Prop :=
  Sub r0 r ∧ Sub w0 wm ∧ ∃ (G : Nat → St μ) (R W : Nat → Nat), G k = s ∧ G (k + len) = s' ∧ (∀ b, wm.testBit b = true → w0.testBit b = true ∨ ∃ j, k ≤ j ∧ j < k + len ∧ (W j).testBit b = true) ∧
    ∀ j o, k ≤ j → j < k + len → ops[j]? = some o → SStep P ops nt o (G j) (G (j + 1)) (R j) (W j) ∧ Sub (R j) r ∧ Sub (W j) wm ∧ (∀ x ∈ done, Apart (bs.getD (j - k) 0) (R j) (W j) x) ∧ ∀ i, k ≤ i → i < j → Apart (bs.getD (j - k) 0) (R j) (W j) (i, R i, W i)

theorem Traced.nil {ops : Array Oper} {nt k : Nat} (s : St μ) (done : List (Nat × Nat × Nat)) (bs : List Nat) (r w : Nat) : Traced P ops nt k 0 s s done bs r w r w :=
  ⟨Sub.refl _, Sub.refl _, fun _ => s, fun _ => 0, fun _ => 0, rfl, rfl, fun b h => .inl h, fun j o h1 h2 => by omega⟩

def ins {α : Type} (k : Nat) (a : α) (f : Nat → α) : Nat → α := fun j => if j = k then a else f j
theorem ins_eq {α : Type} (k : Nat) (a : α) (f : Nat → α) : ins k a f k = a := if_pos rfl
theorem ins_ne {α : Type} {k j : Nat} (a : α) (f : Nat → α) (h : j ≠ k) : ins k a f j = f j := if_neg h

theorem Traced.cons {ops : Array Oper} {nt k len : Nat} {s0 s s' : St μ} {done done' : List (Nat × Nat × Nat)} {bs : List Nat} {r0 w0 r1 w1 r wm : Nat} {o : Oper} (ho : ops[k]? = some o) (hs : SStep P ops nt o s0 s r1 w1)
    (hap : ∀ x ∈ done, Apart (bs.headD 0) r1 w1 x) (hd : ∀ x ∈ done, x ∈ done') (hk : (r1 = 0 ∧ w1 = 0) ∨ (k, r1, w1) ∈ done')
    (h : Traced P ops nt (k + 1) len s s' done' bs.tail (Nat.lor r0 r1) (Nat.lor w0 w1) r wm) : Traced P ops nt k (len + 1) s0 s' done bs r0 w0 r wm := by
  obtain ⟨h1, h2, G, R, W, h3, h4, h5, h6⟩ := h
  have hget : ∀ j, k + 1 ≤ j → bs.tail.getD (j - (k + 1)) 0 = bs.getD (j - k) 0 := by
    intro j hj
    have : j - k = (j - (k + 1)) + 1 := by omega
    rw [this]
    cases bs <;> simp
  refine ⟨Sub.trans (Sub.left _ _) h1, Sub.trans (Sub.left _ _) h2, ins k s0 G, ins k r1 R, ins k w1 W, ins_eq .., ?_, fun b hb => ?_, fun j o' hj hlt ho' => ?_⟩
  · rw [ins_ne _ _ (by omega), ← h4]; congr 1; omega
  · rcases h5 b hb with h7 | ⟨j, h7, h8, h9⟩
    · rw [lor_test, Bool.or_eq_true] at h7
      rcases h7 with h7 | h7
      · exact .inl h7
      · exact .inr ⟨k, Nat.le_refl _, by omega, by rw [ins_eq]; exact h7⟩
    · exact .inr ⟨j, by omega, by omega, by rw [ins_ne _ _ (by omega)]; exact h9⟩
  · by_cases e : j = k
    · subst e
      rw [ho] at ho'; injection ho' with ho'; subst ho'
      rw [ins_eq, ins_eq, ins_eq, ins_ne _ _ (by omega), h3]
      refine ⟨hs, Sub.trans (Sub.right _ _) h1, Sub.trans (Sub.right _ _) h2, ?_, fun i hi hi2 => by omega⟩
      rw [Nat.sub_self]
      intro x hx
      have := hap x hx
      cases bs <;> exact this
    · obtain ⟨a1, a2, a3, a4, a5⟩ := h6 j o' (by omega) (by omega) ho'
      rw [hget j (by omega)] at a4 a5
      rw [ins_ne _ _ e, ins_ne _ _ e, ins_ne _ _ e, ins_ne _ _ (by omega)]
      refine ⟨a1, a2, a3, fun x hx => a4 x (hd x hx), fun i hi hi2 => ?_⟩
      by_cases e2 : i = k
      · subst e2
        rw [ins_eq, ins_eq]
        rcases hk with ⟨rfl, rfl⟩ | hk
        · exact Apart.none'
        · exact a4 _ hk
      · rw [ins_ne _ _ e2, ins_ne _ _ e2]
        exact a5 i (by omega) hi2

theorem traces {rec : Nat → List Value → μ → Nat → OR μ} {nt : Nat} {ops : Array Oper} (hcall : CallSim P rec) (hloc : CallLoc rec) {Γe : Ctx} :
    ∀ (l : List AI) (os : List Oper) (k : Nat) (done : List (Nat × Nat × Nat)) (bs : List Nat) (Γ : Ctx) (e : List Value) (m : μ) (n r0 w0 : Nat) (X : AX) (e' : List Value) (m' : μ) (n' r wm : Nat), ops.toList.drop k = os → chkOps P nt ops os Γ l = some Γe →
      opsD P rec l bs k done e m n r0 w0 = .ok X e' m' n' r wm → X = .norm ∧ Traced P ops nt k os.length ⟨Γ, e, m, n⟩ ⟨Γe, e', m', n'⟩ done bs r0 w0 r wm
  | [], os, k, done, bs, Γ, e, m, n, r0, w0, X, e', m', n', r, wm, hos, hchk, h => by
    obtain ⟨rfl, rfl, rfl, rfl, rfl, rfl⟩ := doneA_ok h
    cases os with
    | cons o os => cases hchk
    | nil =>
      injection hchk with hchk; subst hchk
      exact ⟨rfl, Traced.nil _ _ _ _ _⟩
  | i :: l, os, k, done, bs, Γ, e, m, n, r0, w0, X, e', m', n', r, wm, hos, hchk, h => by
    cases os with
    | nil => cases hchk
    | cons o os =>
      simp only [chkOps] at hchk
      cases hai : chkAI P nt ops Γ o i with
      | none => rw [hai] at hchk; cases hchk
      | some Γ1 =>
        rw [hai] at hchk
        simp only at hchk
        have hok : ops[k]? = some o := by
          have := congrArg (fun l : List Oper => l[0]?) hos
          simpa using this
        have hos' : ops.toList.drop (k + 1) = os := by
          have := congrArg List.tail hos
          simpa using this
        have ih := traces (nt := nt) (ops := ops) (Γe := Γe) hcall hloc l os (k + 1)
        have quiet : ∀ {e2 : List Value}, opsD P rec l bs.tail (Nat.succ k) done e2 m n r0 w0 = .ok X e' m' n' r wm → SStep P ops nt o (⟨Γ, e, m, n⟩ : St μ) ⟨Γ1, e2, m, n⟩ 0 0 →
            X = .norm ∧ Traced P ops nt k (o :: os).length ⟨Γ, e, m, n⟩ ⟨Γe, e', m', n'⟩ done bs r0 w0 r wm := by
          intro e2 h hs
          obtain ⟨hX, ht⟩ := ih _ _ _ _ _ _ _ _ _ _ _ _ _ _ hos' hchk h
          exact ⟨hX, Traced.cons hok hs (fun x _ => Apart.none x) (fun x hx => hx) (.inl ⟨rfl, rfl⟩) (by rw [lor_zero', lor_zero']; exact ht)⟩
        have loud : ∀ {x : AOp} {e2 : Value → List Value}, (okD (bs.headD 0) k done (stepD P rec e m n x) fun v m n r' w' done => opsD P rec l bs.tail (Nat.succ k) done (e2 v) m n (Nat.lor r0 r') (Nat.lor w0 w')) = .ok X e' m' n' r wm →
            (∀ v m1 n1 r1 w1, stepA P rec e m n x = .ok v m1 n1 r1 w1 → SStep P ops nt o (⟨Γ, e, m, n⟩ : St μ) ⟨Γ1, e2 v, m1, n1⟩ r1 w1) →
            X = .norm ∧ Traced P ops nt k (o :: os).length ⟨Γ, e, m, n⟩ ⟨Γe, e', m', n'⟩ done bs r0 w0 r wm := by
          intro x e2 h hs
          obtain ⟨v, m1, n1, r1, w1, h1, h2⟩ := okD_ok h
          have hst := hs _ _ _ _ _ (stepD_ok h1).2
          rcases h2 with ⟨h0, h2⟩ | ⟨ha, h2⟩
          · obtain ⟨hX, ht⟩ := ih _ _ _ _ _ _ _ _ _ _ _ _ _ _ hos' hchk h2
            have hz : r1 = 0 ∧ w1 = 0 := by
              constructor <;> refine Nat.eq_of_testBit_eq fun b => ?_
              · cases hb : r1.testBit b
                · simp
                · have := Sub.left r1 w1 b hb; rw [h0] at this; simp at this
              · cases hb : w1.testBit b
                · simp
                · have := Sub.right r1 w1 b hb; rw [h0] at this; simp at this
            refine ⟨hX, Traced.cons hok hst (fun x _ => ?_) (fun x hx => hx) (.inl hz) ht⟩
            obtain ⟨rfl, rfl⟩ := hz
            exact Apart.none x
          · obtain ⟨hX, ht⟩ := ih _ _ _ _ _ _ _ _ _ _ _ _ _ _ hos' hchk h2
            exact ⟨hX, Traced.cons hok hst (apart_spec ha) (fun x hx => List.mem_cons_of_mem _ hx) (.inr (List.mem_cons_self ..)) ht⟩
        have noguard : o.guard = none → ∀ tmps, Region.wanted o (yielded ops tmps) = true := by
          intro hg tmps; unfold Region.wanted; rw [hg]
        rcases chkAI_none hai with ⟨j, d, t, rfl, hg, hd, hop, hn, hlt, rfl⟩ | ⟨x, d, rfl, hg, hd, hx, hlt, rfl⟩ | ⟨x, gi, gw, j, ww, d, g, rfl, hg, hd, hj, hx, hlt, hw, hn, rfl⟩ | ⟨x, rfl, hg, hd, hx, rfl⟩ | ⟨x, gi, gw, j, ww, g, rfl, hg, hd, hj, hx, hw, hn, rfl⟩
        · refine quiet (e2 := e) h (sstep_quiet m n (fun ρ s oy hne hs => hs.aliasKeep (fun e => hne (e ▸ hd))) fun ρ w a hs ht K Q hK => ?_)
          rw [if_pos (noguard hg _)]
          have hr : (execOp a.eval o).run P w = .ok (.value (a.eval (.tmp t))) w := by
            unfold execOp
            rcases hop with hop | hop <;> rw [hop] <;> rfl
          unfold Oper.wp
          rw [hr, Oper.upon_value]
          have hl : t ∈ looks ops o := mem_looks (by rcases hop with hop | hop <;> rw [hop] <;> exact List.mem_cons_self ..)
          obtain ⟨y, y', e1, e2, hv⟩ := ht t hl _ hn
          have he : a.eval (.tmp t) = y' := by show a.tmps.getD t undef = y'; rw [Array.getD_eq_getD_getElem?, e2]; rfl
          rw [he]
          refine hK y' fun d' hd' => ?_
          rw [hd] at hd'; injection hd' with hd'; subst hd'
          exact ⟨hlt, TRel.aliasTop e1 hv⟩
        · refine loud (e2 := fun v => v :: e) h fun v m1 n1 r1 w1 h1 => ?_
          refine sstep_loud hcall hloc hx h1 (fun ρ tmps _ => noguard hg tmps) (fun ρ s oy hne hs => hs.push (fun e => hne (e ▸ hd))) fun ρ v' d' hv hd' => ?_
          rw [hd] at hd'; injection hd' with hd'; subst hd'
          exact ⟨hlt, TRel.top hv⟩
        · replace h : cond (wantB gw (lget e gi)) (okD (bs.headD 0) k done (stepD P rec e m n x) fun v m n r' w' done => opsD P rec l bs.tail (Nat.succ k) done (v :: e) m n (Nat.lor r0 r') (Nat.lor w0 w')) (opsD P rec l bs.tail (Nat.succ k) done (undef :: e) m n r0 w0) = .ok X e' m' n' r wm := h
          have hwant : ∀ (ρ : Ren) (tmps : Array Value), (∀ t ∈ looks ops o, TRel ρ Γ e t tmps[t]?) → Region.wanted o (yielded ops tmps) = wantB gw (lget e gi) := fun ρ tmps ht =>
            wanted_iff (env_only ht) hg hj (named_only.2 ⟨hn, guard_looks hg hj⟩) hw
          cases hwt : wantB gw (lget e gi)
          · rw [hwt, cond_false] at h
            refine quiet (e2 := undef :: e) h (sstep_quiet m n (fun ρ s oy hne hs => hs.push (fun e => hne (e ▸ hd))) fun ρ w a hs ht K Q hK => ?_)
            rw [if_neg (by rw [hwant ρ a.tmps ht, hwt]; simp)]
            refine hK undef fun d' hd' => ?_
            rw [hd] at hd'; injection hd' with hd'; subst hd'
            exact ⟨hlt, TRel.top (.undef ρ)⟩
          · rw [hwt, cond_true] at h
            refine loud (e2 := fun v => v :: e) h fun v m1 n1 r1 w1 h1 => ?_
            refine sstep_loud hcall hloc hx h1 (fun ρ tmps ht => by rw [hwant ρ tmps ht, hwt]) (fun ρ s oy hne hs => hs.push (fun e => hne (e ▸ hd))) fun ρ v' d' hv hd' => ?_
            rw [hd] at hd'; injection hd' with hd'; subst hd'
            exact ⟨hlt, TRel.top hv⟩
        · refine loud (e2 := fun _ => e) h fun v m1 n1 r1 w1 h1 => ?_
          exact sstep_loud hcall hloc hx h1 (fun ρ tmps _ => noguard hg tmps) (fun ρ s oy hne hs => hs) fun ρ v' d' hv hd' => by rw [hd] at hd'; cases hd'
        · replace h : cond (wantB gw (lget e gi)) (okD (bs.headD 0) k done (stepD P rec e m n x) fun v m n r' w' done => opsD P rec l bs.tail (Nat.succ k) done e m n (Nat.lor r0 r') (Nat.lor w0 w')) (opsD P rec l bs.tail (Nat.succ k) done e m n r0 w0) = .ok X e' m' n' r wm := h
          have hwant : ∀ (ρ : Ren) (tmps : Array Value), (∀ t ∈ looks ops o, TRel ρ Γ1 e t tmps[t]?) → Region.wanted o (yielded ops tmps) = wantB gw (lget e gi) := fun ρ tmps ht =>
            wanted_iff (env_only ht) hg hj (named_only.2 ⟨hn, guard_looks hg hj⟩) hw
          cases hwt : wantB gw (lget e gi)
          · rw [hwt, cond_false] at h
            refine quiet (e2 := e) h (sstep_quiet m n (fun ρ s oy hne hs => hs) fun ρ w a hs ht K Q hK => ?_)
            rw [if_neg (by rw [hwant ρ a.tmps ht, hwt]; simp)]
            exact hK undef fun d' hd' => by rw [hd] at hd'; cases hd'
          · rw [hwt, cond_true] at h
            refine loud (e2 := fun _ => e) h fun v m1 n1 r1 w1 h1 => ?_
            exact sstep_loud hcall hloc hx h1 (fun ρ tmps ht => by rw [hwant ρ tmps ht, hwt]) (fun ρ s oy hne hs => hs) fun ρ v' d' hv hd' => by rw [hd] at hd'; cases hd'
end
end Go.Am
namespace Go.Am
open Go Go.RowKit

/-! ### the edges -/
theorem eqNats_eq : ∀ {a b : List Nat}, eqNats a b = true → a = b
  | [], [], _ => rfl
  | [], _ :: _, h => by cases h
  | _ :: _, [], h => by cases h
  | a :: asl, b :: bs, h => by
    simp only [eqNats, Bool.and_eq_true] at h
    rw [Nat.eq_of_beq_eq_true h.1, eqNats_eq h.2]
theorem befOf_spec {acc : List Nat} {i : Nat} : ∀ {es : List Edge}, (befOf acc es).testBit i = true → ∃ e ∈ es, Region.binds .any e = true ∧ (i = e.on ∨ (acc.getD e.on 0).testBit i = true)
  | [], h => by simp [befOf] at h
  | e :: es, h => by
    simp only [befOf] at h
    cases hb : Region.binds .any e
    · rw [hb, cond_false] at h
      obtain ⟨e', h1, h2⟩ := befOf_spec h
      exact ⟨e', List.mem_cons_of_mem _ h1, h2⟩
    · rw [hb, cond_true, lor_test, lor_test, bit_test, Bool.or_eq_true, Bool.or_eq_true] at h
      rcases h with (h | h) | h
      · exact ⟨e, List.mem_cons_self .., hb, .inl (of_decide_eq_true h).symm⟩
      · exact ⟨e, List.mem_cons_self .., hb, .inr h⟩
      · obtain ⟨e', h1, h2⟩ := befOf_spec h
        exact ⟨e', List.mem_cons_of_mem _ h1, h2⟩
theorem befs_cons (acc : List Nat) (o : Oper) (os : List Oper) : befs acc (o :: os) = befs (acc ++ [befOf acc o.after.toList]) os := by
  simp only [befs, forceN_eq]
theorem befs_old : ∀ (os : List Oper) (acc : List Nat) (j : Nat), j < acc.length → (befs acc os).getD j 0 = acc.getD j 0
  | [], acc, j, _ => rfl
  | o :: os, acc, j, h => by
    rw [befs_cons, befs_old os _ j (by simp; omega)]
    simp only [List.getD_eq_getElem?_getD]
    rw [List.getElem?_append_left h]
theorem befs_spec : ∀ (os : List Oper) (acc : List Nat) (j i : Nat) (o : Oper), acc.length ≤ j → os[j - acc.length]? = some o → (∀ e ∈ o.after.toList, Region.binds .any e = true → e.on < j) → ((befs acc os).getD j 0).testBit i = true →
    ∃ e ∈ o.after.toList, Region.binds .any e = true ∧ (i = e.on ∨ ((befs acc os).getD e.on 0).testBit i = true)
  | [], acc, j, i, o, h, ho, _, _ => by simp at ho
  | o' :: os, acc, j, i, o, h, ho, hb, hi => by
    rw [befs_cons] at hi ⊢
    by_cases e : j = acc.length
    · subst e
      rw [Nat.sub_self] at ho
      have ho : o' = o := by simpa using ho
      subst ho
      rw [befs_old os _ _ (by simp)] at hi
      have hi : (befOf acc o'.after.toList).testBit i = true := by simpa using hi
      obtain ⟨e, h1, h2, h3⟩ := befOf_spec hi
      refine ⟨e, h1, h2, ?_⟩
      rcases h3 with h3 | h3
      · exact .inl h3
      · refine .inr ?_
        have hlt := hb e h1 h2
        rw [befs_old os _ _ (by simp; omega)]
        simp only [List.getD_eq_getElem?_getD] at h3 ⊢
        rw [List.getElem?_append_left hlt]
        exact h3
    · refine befs_spec os _ j i o (by simp; omega) ?_ hb hi
      have : j - acc.length = (j - (acc.length + 1)) + 1 := by omega
      rw [this] at ho
      simpa using ho

theorem pairsOk_spec {ops : Array Oper} {y : Oper} {b : Nat} : ∀ {xs : List Oper} {i : Nat}, pairsOk ops y b xs i = true → ∀ (j : Nat) x, xs[j]? = some x → b.testBit (i + j) = true ∨ tmpApart ops x y = true
  | [], i, _, j, x, hx => by simp at hx
  | x' :: xs, i, h, j, x, hx => by
    simp only [pairsOk, Bool.and_eq_true, Bool.or_eq_true] at h
    cases j with
    | zero =>
      have hx : x' = x := by simpa using hx
      subst hx; exact h.1
    | succ j =>
      have := pairsOk_spec h.2 j x (by simpa using hx)
      rwa [show i + 1 + j = i + (j + 1) by omega] at this
theorem ordersOk_spec {ops : Array Oper} : ∀ {os : List Oper} {done : List Oper} {bs : List Nat} {k : Nat}, done.length = k → ordersOk ops done os bs k = true → ∀ (j : Nat) y, os[j]? = some y →
    (∀ e ∈ y.after.toList, Region.binds .any e = true → e.on < k + j) ∧ ∀ (i : Nat) x, i < k + j → (done ++ os)[i]? = some x → (bs.getD j 0).testBit i = true ∨ tmpApart ops x y = true
  | [], done, bs, k, _, _, j, y, hy => by simp at hy
  | o :: os, done, [], k, _, h, j, y, hy => by simp [ordersOk] at h
  | o :: os, done, b :: bs, k, hk, h, j, y, hy => by
    simp only [ordersOk, Bool.and_eq_true, List.all_eq_true] at h
    cases j with
    | zero =>
      have hy : o = y := by simpa using hy
      subst hy
      refine ⟨fun e he hb => ?_, fun i x hi hx => ?_⟩
      · have := h.1.1.1 e he
        rw [hb] at this
        simpa using this
      · have hx : done[i]? = some x := by rwa [List.getElem?_append_left (by omega)] at hx
        have := pairsOk_spec h.1.2 i x hx
        rw [Nat.zero_add] at this
        simpa using this
    | succ j =>
      have := ordersOk_spec (done := done ++ [o]) (k := k + 1) (by simp [hk]) h.2 j y (by simpa using hy)
      rw [show k + 1 + j = k + (j + 1) by omega] at this
      refine ⟨this.1, fun i x hi hx => ?_⟩
      have := this.2 i x hi (by simpa using hx)
      simpa using this

/-- what 'orderOk' says -/
structure Ordered (ops : Array Oper) (bs : List Nat) : Prop where
  back : ∀ (j : Nat) o, ops[j]? = some o → ∀ e ∈ o.after.toList, Region.binds .any e = true → e.on < j
  tmp : ∀ (i j : Nat) x y, i < j → ops[i]? = some x → ops[j]? = some y → (bs.getD j 0).testBit i = true ∨ tmpApart ops x y = true
  bef : ∀ (j i : Nat) o, ops[j]? = some o → (bs.getD j 0).testBit i = true → ∃ e ∈ o.after.toList, Region.binds .any e = true ∧ (i = e.on ∨ (bs.getD e.on 0).testBit i = true)
theorem ordered_of {ops : Array Oper} {bs : List Nat} (h : orderOk ops bs = true) : Ordered ops bs := by
  unfold orderOk at h
  rw [Bool.and_eq_true] at h
  have e := eqNats_eq h.1
  have hs := ordersOk_spec (done := []) (k := 0) rfl h.2
  have hback : ∀ (j : Nat) o, ops[j]? = some o → ∀ e ∈ o.after.toList, Region.binds .any e = true → e.on < j := by
    intro j o ho e he hb
    have := (hs j o (by simpa using ho)).1 e he hb
    omega
  refine ⟨hback, fun i j x y hij hx hy => ?_, fun j i o ho hi => ?_⟩
  · exact (hs j y (by simpa using hy)).2 i x (by omega) (by simpa using hx)
  · subst e
    exact befs_spec ops.toList [] j i o (Nat.zero_le _) (by simpa using ho) (hback j o ho) hi
/-- what is closed under the edges is closed under all that stands before -/
theorem Ordered.closed {ops : Array Oper} {bs : List Nat} (h : Ordered ops bs) {S : Nat → Prop} (hS : ∀ (j : Nat) o, ops[j]? = some o → S j → ∀ e ∈ o.after.toList, Region.binds .any e = true → S e.on) :
    ∀ (j : Nat) o, ops[j]? = some o → (∀ e ∈ o.after.toList, Region.binds .any e = true → S e.on) → ∀ i, (bs.getD j 0).testBit i = true → S i := by
  intro j
  induction j using Nat.strongRecOn with
  | ind j ih =>
    intro o ho he i hi
    obtain ⟨e, h1, h2, h3⟩ := h.bef j i o ho hi
    have hlt := h.back j o ho e h1 h2
    rcases h3 with rfl | h3
    · exact he e h1 h2
    · have hj : j < ops.size := (Array.getElem?_eq_some_iff.1 ho).1
      have ho' : ops[e.on]? = some ops[e.on] := Array.getElem?_eq_getElem (by omega)
      exact ih e.on hlt _ ho' (hS e.on _ ho' (he e h1 h2)) i h3
theorem apart_tmp {ops : Array Oper} {x y : Oper} (h : tmpApart ops x y = true) : (∀ d, x.dst = some d → d ∉ looks ops y ∧ y.dst ≠ some d) ∧ ∀ d, y.dst = some d → d ∉ looks ops x := by
  unfold tmpApart at h
  rw [Bool.and_eq_true] at h
  refine ⟨fun d hd => ?_, fun d hd => ?_⟩
  · have h1 := h.1
    rw [hd] at h1
    simp only [Bool.and_eq_true] at h1
    refine ⟨fun hm => ?_, fun hy => ?_⟩
    · have := any_beq.2 hm
      rw [this] at h1; simp at h1
    · have h2 := h1.2
      rw [hy] at h2; simp at h2
  · have h1 := h.2
    rw [hd] at h1
    simp only at h1
    intro hm
    rw [any_beq.2 hm] at h1; simp at h1

/-! ### two renamings -/
def meet (ρ σ : Ren) : Ren := fun b => match σ b with | none => none | some _ => ρ b
theorem meet_some {ρ σ : Ren} {b : Nat} {p : Place} (h : meet ρ σ b = some p) : ρ b = some p ∧ ∃ q, σ b = some q := by
  unfold meet at h
  split at h
  · cases h
  · exact ⟨h, _, ‹_›⟩
theorem meet_of {ρ σ : Ren} {b : Nat} {p q : Place} (h : ρ b = some p) (k : σ b = some q) : meet ρ σ b = some p := by
  unfold meet; rw [k]; exact h
theorem VRel.meet {ρ σ : Ren} {x y : Value} (h : VRel ρ x y) : ∀ {z : Value}, VRel σ x z → VRel (meet ρ σ) x y := by
  induction h with
  | flat h => exact fun _ => .flat h
  | ptr h =>
    intro z k
    cases k with
    | flat k => simp [Am.flat] at k
    | ptr k => exact .ptr (meet_of h k)
  | slice h hn hu hk hv =>
    intro z k
    cases k with
    | flat k => simp [Am.flat] at k
    | slice k _ _ _ _ => exact .slice (meet_of h k) hn hu hk hv
    | vag => exact absurd rfl hv
  | vag =>
    intro z k
    cases k with
    | flat k => simp [Am.flat] at k
    | slice k _ _ _ hv => exact absurd rfl hv
    | vag => exact .vag
  | func h1 _ h3 _ i1 i2 =>
    intro z k
    cases k with
    | flat k => simp [Am.flat] at k
    | func k1 k2 k3 k4 =>
      refine .func h1 (fun i x y hx hy => ?_) h3 (fun i x y hx hy => ?_)
      · have hi := (Array.getElem?_eq_some_iff.1 hx).1
        exact i1 i x y hx hy (k2 i x _ hx (Array.getElem?_eq_getElem (k1 ▸ hi)))
      · have hi := (Array.getElem?_eq_some_iff.1 hx).1
        exact i2 i x y hx hy (k4 i x _ hx (Array.getElem?_eq_getElem (k3 ▸ hi)))
  | agg h1 _ ih =>
    intro z k
    cases k with
    | flat k => simp [Am.flat] at k
    | agg k1 k2 =>
      refine .agg h1 fun i x y hx hy => ?_
      have hi := (Array.getElem?_eq_some_iff.1 hx).1
      exact ih i x y hx hy (k2 i x _ hx (Array.getElem?_eq_getElem (k1 ▸ hi)))
  | tuple h1 _ ih =>
    intro z k
    cases k with
    | flat k => simp [Am.flat] at k
    | tuple k1 k2 =>
      refine .tuple h1 fun i x y hx hy => ?_
      have hi := (Array.getElem?_eq_some_iff.1 hx).1
      exact ih i x y hx hy (k2 i x _ hx (Array.getElem?_eq_getElem (k1 ▸ hi)))
theorem BRel.meet {ρ σ : Ren} {w w2 : World} {B : Nat} {p q : Place} {O : Blk} (h : BRel ρ w B p O) (k : BRel σ w2 B q O) : BRel (meet ρ σ) w B p O := by
  cases O with | cells c sz opn wr =>
  obtain ⟨h1, cc, e, fz, h2, h3, h4⟩ := h
  obtain ⟨_, cc2, _, _, _, k3, _⟩ := k
  exact ⟨h1, cc, e, fz, h2, fun i x hx => let ⟨y, a, b⟩ := h3 i x hx; let ⟨_, _, d⟩ := k3 i x hx; ⟨y, a, b.meet d⟩, h4⟩
theorem TRel.meet {ρ σ : Ren} {Γ : Ctx} {e : List Value} {t : Nat} {oy oz : Option Value} (h : TRel ρ Γ e t oy) (k : TRel σ Γ e t oz) : TRel (meet ρ σ) Γ e t oy := by
  intro i hn
  obtain ⟨x, y, a, b, c⟩ := h i hn
  obtain ⟨x', z, a', b', c'⟩ := k i hn
  rw [a] at a'; injection a' with a'; subst a'
  exact ⟨x, y, a, b, c.meet c'⟩
end Go.Am
namespace Go.Am
open Go Go.RowKit
section
variable {μ : Type} [AMem μ] {P : Program}

def VT (V : Nat → Option Blk) (G : Nat → St μ) (W : Nat → Nat) : Nat → Nat → Option Blk
  | 0 => V
  | k + 1 => upd (VT V G W k) (W k) (G (k + 1)).m
def WT (W : Nat → Nat) : Nat → Nat
  | 0 => 0
  | k + 1 => Nat.lor (WT W k) (W k)

structure Setting (P : Program) (ops : Array Oper) (nt : Nat) (bs : List Nat) (G : Nat → St μ) (R W : Nat → Nat) (F : Nat) : Prop where
  ord : Ordered ops bs
  st : ∀ (j : Nat) o, ops[j]? = some o → SStep P ops nt o (G j) (G (j + 1)) (R j) (W j)
  sub : ∀ j, j < ops.size → Sub (Nat.lor (R j) (W j)) F
  ap : ∀ i j, i < j → j < ops.size → Apart (bs.getD j 0) (R j) (W j) (i, R i, W i)

omit [AMem μ] in
theorem put_ne {a : Act} {dst : Option Tmp} {v : Value} {t : Nat} (h : dst ≠ some t) : (a.put dst v).tmps[t]? = a.tmps[t]? := by
  cases dst with
  | none => rfl
  | some d =>
    have hne : d ≠ t := fun e => h (by rw [e])
    simp [Act.put, Array.getElem?_setIfInBounds_ne hne]
omit [AMem μ] in
theorem put_eq {a : Act} {v : Value} {t : Nat} (h : t < a.tmps.size) : (a.put (some t) v).tmps[t]? = some v := by
  simp [Act.put, h]

omit [AMem μ] in
theorem wp_some {o : Oper} {a : Act} {w : World} {K : Act → World → Prop} (h : o.wp P a w K fun _ _ _ => False) : ∃ a' w', K a' w' := by
  unfold Oper.wp Oper.upon at h
  split at h
  · exact ⟨_, _, h⟩
  · exact ⟨_, _, h⟩
  · exact ⟨_, _, h⟩
  · obtain ⟨e, w', fr, hr, _⟩ := h []
    cases e with
    | returned v => exact ⟨_, _, hr⟩
    | panicked c => exact hr.elim
    | outgrown => obtain ⟨_, _, hr⟩ := hr; exact hr.elim
  · obtain ⟨v, w', hr, _⟩ := h default []
    exact ⟨_, _, hr⟩
  · exact h.elim
  · exact h.elim

section
variable {ops : Array Oper} {nt : Nat} {bs : List Nat} {G : Nat → St μ} {R W : Nat → Nat} {F : Nat} {ρ0 : Ren} {V : Nat → Option Blk} {w0 : World} {B : Nat}

theorem Setting.step (hs : Setting P ops nt bs G R W F) {j : Nat} (h : j < ops.size) : SStep P ops nt ops[j] (G j) (G (j + 1)) (R j) (W j) := hs.st j _ (Array.getElem?_eq_getElem h)
theorem Setting.num (hs : Setting P ops nt bs G R W F) {i j : Nat} (hij : i ≤ j) (hj : j ≤ ops.size) : (G i).n ≤ (G j).n := by
  induction j with
  | zero => have : i = 0 := by omega
            subst this; exact Nat.le_refl _
  | succ j ih =>
    by_cases e : i = j + 1
    · subst e; exact Nat.le_refl _
    · exact Nat.le_trans (ih (by omega) (by omega)) (hs.step (j := j) (by omega)).loc.num
theorem Setting.loc (hs : Setting P ops nt bs G R W F) : ∀ {k : Nat}, k ≤ ops.size → Loc (G 0).m (G 0).n (G k).m (G k).n (WT W k)
  | 0, _ => Loc.refl _ _
  | k + 1, h => (hs.loc (k := k) (by omega)).trans (hs.step (j := k) (by omega)).loc
theorem Setting.vt (hs : Setting P ops nt bs G R W F) (V : Nat → Option Blk) : ∀ {k : Nat}, k ≤ ops.size → VT V G W k = upd V (WT W k) (G k).m
  | 0, _ => (upd_zero V _).symm
  | k + 1, h => by
    have ih := hs.vt V (k := k) (by omega)
    show upd (VT V G W k) (W k) (G (k + 1)).m = _
    rw [ih]
    exact upd_upd (n1 := (G k).n) (hs.step (j := k) (by omega)).loc
theorem Setting.agree (hs : Setting P ops nt bs G R W F) (h : Agree V (G 0).m (G 0).n F) : ∀ {k : Nat}, k ≤ ops.size → Agree (VT V G W k) (G k).m (G k).n F
  | 0, _ => h
  | k + 1, hk => (hs.agree h (k := k) (by omega)).step (hs.step (j := k) (by omega)).loc

/-- the run in the text's order -/
def Text (nt : Nat) (G : Nat → St μ) (W : Nat → Nat) (ρ0 : Ren) (V : Nat → Option Blk) (w0 : World) (B k : Nat) : Prop :=
  ∃ (ρk : Ren) (wk : World) (ak : Act), ak.tmps.size = nt ∧ (∀ t, TRel ρk (G k).Γ (G k).e t ak.tmps[t]?) ∧ Post ρ0 V w0 B (G 0).n (G k).m (G k).n (WT W k) ρk wk ∧ Free ρk (G k).n
theorem Setting.text (hs : Setting P ops nt bs G R W F) {a : Act} (hsz : a.tmps.size = nt) (he : EnvRel ρ0 (G 0).Γ (G 0).e a.tmps) (hag : Agree V (G 0).m (G 0).n F) (hm : MRel ρ0 V w0 B) (hf : Free ρ0 (G 0).n) :
    ∀ {k : Nat}, k ≤ ops.size → Text nt G W ρ0 V w0 B k
  | 0, _ => ⟨ρ0, w0, a, hsz, fun t i hn => he i t hn, Post.same hm _ _, hf⟩
  | k + 1, hk => by
    obtain ⟨ρk, wk, ak, h1, h2, h3, h4⟩ := hs.text hsz he hag hm hf (k := k) (by omega)
    have hst := hs.step (j := k) (by omega)
    have hvt := hs.vt V (k := k) (by omega)
    have hmk := h3.mrel
    rw [← hvt] at hmk
    have key := hst.sim ρk (VT V G W k) wk B F ak h1 (fun t _ => h2 t) (hs.sub k (by omega)) (hs.agree hag (by omega)) hmk h4
      (fun a' w' => ∃ v' ρ', (∀ d, ops[k].dst = some d → d < nt ∧ TRel ρ' (G (k + 1)).Γ (G (k + 1)).e d (some v')) ∧ Post ρk (VT V G W k) wk B (G k).n (G (k + 1)).m (G (k + 1)).n (W k) ρ' w' ∧ a' = ak.put ops[k].dst v') (fun _ _ _ => False)
      (fun v' ρ' w' hd hp => ⟨v', ρ', hd, hp, rfl⟩)
    have ex : ∃ a' w' v' ρ', (∀ d, ops[k].dst = some d → d < nt ∧ TRel ρ' (G (k + 1)).Γ (G (k + 1)).e d (some v')) ∧ Post ρk (VT V G W k) wk B (G k).n (G (k + 1)).m (G (k + 1)).n (W k) ρ' w' ∧ a' = ak.put ops[k].dst v' := by
      split at key
      · exact wp_some key
      · exact ⟨_, _, key⟩
    obtain ⟨a', w', v', ρ', hd, hp, rfl⟩ := ex
    refine ⟨ρ', w', ak.put ops[k].dst v', by rw [put_size]; exact h1, fun t => ?_, ?_, h4.next hp⟩
    · by_cases e : ops[k].dst = some t
      · obtain ⟨hlt, ht⟩ := hd t e
        rw [e, put_eq (by rw [h1]; exact hlt)]; exact ht
      · rw [put_ne e]
        exact hst.keep _ _ _ e ((h2 t).mono hp.le)
    · rw [hvt] at hp
      exact h3.trans hp hst.loc

/-- what holds when the operations of 'S' are done -/
structure Inv (ops : Array Oper) (nt : Nat) (G : Nat → St μ) (W : Nat → Nat) (ρ0 : Ren) (V : Nat → Option Blk) (w0 : World) (B : Nat) (S : Nat → Prop) (ρ : Ren) (VS : Nat → Option Blk) (w : World) (a : Act) : Prop where
  defers : a.defers = []
  size : a.tmps.size = nt
  tmp : ∀ k t, k ≤ ops.size → (∀ (j : Nat) o, ops[j]? = some o → o.dst = some t → (S j ↔ j < k)) → TRel ρ (G k).Γ (G k).e t a.tmps[t]?
  view : ∀ k b, k ≤ ops.size → (∀ j, j < ops.size → (W j).testBit b = true → (S j ↔ j < k)) → VS b = VT V G W k b
  mrel : MRel ρ VS w B
  le : ρ0.le ρ
  dom : ∀ b p, ρ b = some p → ρ0 b = some p ∨ ∃ j, j < ops.size ∧ S j ∧ (G j).n ≤ b ∧ b < (G (j + 1)).n
  below : Below B w0 w
  frame : ∀ k, k < w0.heap.size → (∀ b p, ρ0 b = some p → (∃ j, j < ops.size ∧ S j ∧ (W j).testBit b = true) → p.blk ≠ k) → w.heap[k]? = w0.heap[k]?
  newp : ∀ b p, ρ b = some p → ρ0 b = some p ∨ w0.heap.size ≤ p.blk ∨ ∃ b0 p0, ρ0 b0 = some p0 ∧ (∃ j, j < ops.size ∧ S j ∧ (W j).testBit b0 = true) ∧ p0.blk = p.blk
  wdom : ∀ j b, j < ops.size → S j → (W j).testBit b = true → ∃ p, ρ b = some p

theorem keeps (hs : Setting P ops nt bs G R W F) {ρ : Ren} {t i : Nat} {oy : Option Value} (h : TRel ρ (G (i + 1)).Γ (G (i + 1)).e t oy) : ∀ k, i < k → k ≤ ops.size → (∀ (j : Nat) o, i < j → j < k → ops[j]? = some o → o.dst ≠ some t) → TRel ρ (G k).Γ (G k).e t oy := by
  intro k
  induction k with
  | zero => intro h1; omega
  | succ k ih =>
    intro h1 h2 h3
    by_cases e : i = k
    · subst e; exact h
    · have hk : k < ops.size := by omega
      exact (hs.step (j := k) hk).keep _ _ _ (h3 k _ (by omega) (by omega) (Array.getElem?_eq_getElem hk)) (ih (by omega) (by omega) fun j o h4 h5 => h3 j o h4 (by omega))
theorem views {i b : Nat} (V : Nat → Option Blk) (G : Nat → St μ) (W : Nat → Nat) : ∀ k, i < k → (∀ j, i < j → j < k → (W j).testBit b = false) → VT V G W k b = VT V G W (i + 1) b := by
  intro k
  induction k with
  | zero => intro h1; omega
  | succ k ih =>
    intro h1 h3
    by_cases e : i = k
    · subst e; rfl
    · rw [← ih (by omega) fun j h4 h5 => h3 j h4 (by omega)]
      show upd (VT V G W k) (W k) _ b = _
      unfold upd
      rw [h3 k (by omega) (by omega)]; simp

set_option maxHeartbeats 1000000 in
theorem Inv.step (hs : Setting P ops nt bs G R W F) (hag : Agree V (G 0).m (G 0).n F) (hf0 : Free ρ0 (G 0).n) (htext : ∀ k, k ≤ ops.size → Text nt G W ρ0 V w0 B k) {S : Nat → Prop} (hcl : ∀ j, j < ops.size → S j → ∀ i, (bs.getD j 0).testBit i = true → S i)
    {i : Nat} {o : Oper} (ho : ops[i]? = some o) (hni : ¬ S i) (hready : ∀ j, (bs.getD i 0).testBit j = true → S j) {ρ : Ren} {VS : Nat → Option Blk} {w : World} {a : Act} (h : Inv ops nt G W ρ0 V w0 B S ρ VS w a)
    {K : Act → World → Prop} {Q : Exit → Act → World → Prop} (hK : ∀ v' ρ' V' w', Inv ops nt G W ρ0 V w0 B (fun j => S j ∨ j = i) ρ' V' w' (a.put o.dst v') → K (a.put o.dst v') w') :
    if Region.wanted o (yielded ops a.tmps) then o.wp P a w K Q else K (a.put o.dst undef) w := by
  have hi : i < ops.size := (Array.getElem?_eq_some_iff.1 ho).1
  have hst := hs.st i o ho
  have hnum : (G i).n ≤ (G (i + 1)).n := hst.loc.num
  -- the temporaries that it looks at
  have condT : ∀ t ∈ looks ops o, ∀ (j : Nat) oj, ops[j]? = some oj → oj.dst = some t → (S j ↔ j < i) := by
    intro t ht j oj hj hd
    have hj' : j < ops.size := (Array.getElem?_eq_some_iff.1 hj).1
    rcases Nat.lt_trichotomy j i with hlt | rfl | hgt
    · refine ⟨fun _ => hlt, fun _ => ?_⟩
      rcases hs.ord.tmp j i oj o hlt hj ho with h1 | h1
      · exact hready j h1
      · exact absurd ht ((apart_tmp h1).1 t hd).1
    · exact ⟨fun h => absurd h hni, fun h => absurd h (Nat.lt_irrefl _)⟩
    · refine ⟨fun hSj => ?_, fun h => by omega⟩
      rcases hs.ord.tmp i j o oj hgt ho hj with h1 | h1
      · exact absurd (hcl j hj' hSj i h1) hni
      · exact absurd ht ((apart_tmp h1).2 t hd)
  have condW : ∀ b, (Nat.lor (R i) (W i)).testBit b = true → ∀ j, j < ops.size → (W j).testBit b = true → (S j ↔ j < i) := by
    intro b hb j hj hw
    rw [lor_test, Bool.or_eq_true] at hb
    rcases Nat.lt_trichotomy j i with hlt | rfl | hgt
    · refine ⟨fun _ => hlt, fun _ => ?_⟩
      rcases hs.ap j i hlt hi with h1 | h1
      · exact hready j h1
      · have h2 := h1 b
        rcases hb with hb | hb
        · rw [h2.2 hw] at hb; cases hb
        · have := (h2.1 hb).2
          rw [hw] at this; cases this
    · exact ⟨fun h => absurd h hni, fun h => absurd h (Nat.lt_irrefl _)⟩
    · refine ⟨fun hSj => ?_, fun h => by omega⟩
      rcases hs.ap i j hgt hj with h1 | h1
      · exact absurd (hcl j hj hSj i h1) hni
      · have h2 := (h1 b).1 hw
        rcases hb with hb | hb
        · rw [h2.1] at hb; cases hb
        · rw [h2.2] at hb; cases hb
  obtain ⟨ρk, wk, ak, _, htk, hpk, hfk⟩ := htext i (by omega)
  have hvk : VT V G W i = upd V (WT W i) (G i).m := hs.vt V (by omega)
  have hmk := hpk.mrel
  rw [← hvk] at hmk
  have hview : ∀ b, (Nat.lor (R i) (W i)).testBit b = true → VS b = VT V G W i b := fun b hb => h.view i b (by omega) (condW b hb)
  -- the part of the state that it sees
  generalize hV' : (fun b => if (Nat.lor (R i) (W i)).testBit b = true then VS b else none : Nat → Option Blk) = V'
  have hV1 : ∀ b, (Nat.lor (R i) (W i)).testBit b = true → V' b = VS b := by intro b hb; rw [← hV']; simp only; rw [if_pos hb]
  have hV2 : ∀ b O, V' b = some O → (Nat.lor (R i) (W i)).testBit b = true ∧ VS b = some O := by
    intro b O hb
    rw [← hV'] at hb
    simp only at hb
    split at hb
    · exact ⟨‹_›, hb⟩
    · cases hb
  have hm' : MRel (meet ρ ρk) V' w B := by
    refine ⟨fun b p O h1 h2 => ?_, fun b1 b2 p1 p2 O1 O2 h1 h2 h3 h4 => h.mrel.excl b1 b2 p1 p2 O1 O2 (meet_some h1).1 (meet_some h2).1 (hV2 _ _ h3).2 (hV2 _ _ h4).2, fun b p h1 => h.mrel.fresh b p (meet_some h1).1, h.mrel.le⟩
    obtain ⟨h3, q, h4⟩ := meet_some h1
    obtain ⟨h5, h6⟩ := hV2 b O h2
    exact (h.mrel.blk b p O h3 h6).meet (hmk.blk b q O h4 (by rw [← hview b h5]; exact h6))
  have hag' : Agree V' (G i).m (G i).n (Nat.lor (R i) (W i)) := by
    intro b hb hb2
    rw [hV1 b hb2, hview b hb2]
    exact hs.agree hag (by omega) b hb (hs.sub i hi b hb2)
  have hf' : Free (meet ρ ρk) (G i).n := by
    intro b hb
    unfold meet; rw [hfk b hb]
  refine hst.sim (meet ρ ρk) V' w B (Nat.lor (R i) (W i)) a h.size (fun t ht => ?_) (Sub.refl _) hag' hm' hf' K Q fun v' ρ2 w' hd hp => ?_
  · exact (h.tmp i t (by omega) (condT t ht)).meet (htk t)
  -- what it leaves
  have hlow : ∀ b p, meet ρ ρk b = some p → b < (G i).n := by
    intro b p hb
    rcases Nat.lt_or_ge b (G i).n with h1 | h1
    · exact h1
    · rw [hf' b h1] at hb; cases hb
  have hnone : ∀ b, (G i).n ≤ b → b < (G (i + 1)).n → ρ b = none := by
    intro b h1 h2
    cases hb : ρ b with
    | none => rfl
    | some p =>
      rcases h.dom b p hb with h3 | ⟨j, h3, h4, h5, h6⟩
      · rw [hf0 b (Nat.le_trans (hs.num (Nat.zero_le i) (by omega)) h1)] at h3; cases h3
      · rcases Nat.lt_trichotomy j i with hlt | rfl | hgt
        · have := hs.num (i := j + 1) (j := i) (by omega) (by omega); omega
        · exact absurd h4 hni
        · have := hs.num (i := i + 1) (j := j) (by omega) (by omega); omega
  generalize hρN : (fun b => if (G i).n ≤ b ∧ b < (G (i + 1)).n then ρ2 b else ρ b : Ren) = ρN
  have hN1 : ∀ b, (G i).n ≤ b → b < (G (i + 1)).n → ρN b = ρ2 b := by intro b h1 h2; rw [← hρN]; simp only; rw [if_pos ⟨h1, h2⟩]
  have hN2 : ∀ b, ¬ ((G i).n ≤ b ∧ b < (G (i + 1)).n) → ρN b = ρ b := by intro b h1; rw [← hρN]; simp only; rw [if_neg h1]
  have hle1 : ρ.le ρN := by
    intro b p hb
    by_cases hr : (G i).n ≤ b ∧ b < (G (i + 1)).n
    · rw [hnone b hr.1 hr.2] at hb; cases hb
    · rw [hN2 b hr]; exact hb
  have hle2 : ρ2.le ρN := by
    intro b p hb
    rcases hp.dom b p hb with h1 | h1
    · exact hle1 b p (meet_some h1).1
    · rw [hN1 b h1.1 h1.2]; exact hb
  have hw2 : ∀ b, (W i).testBit b = true → ∀ p, ρN b = some p → ρ2 b = some p := by
    intro b hb p hbp
    by_cases hr : (G i).n ≤ b ∧ b < (G (i + 1)).n
    · rwa [hN1 b hr.1 hr.2] at hbp
    · obtain ⟨⟨q, h1⟩, _⟩ := hp.wold b hb
      have := hle2 b q h1
      rw [this] at hbp
      rw [h1, hbp]
  have hold : ∀ b, (W i).testBit b = false → ∀ p, ρN b = some p → ρ b = some p := by
    intro b hb p hbp
    by_cases hr : (G i).n ≤ b ∧ b < (G (i + 1)).n
    · rw [hst.loc.made b hr.1 hr.2] at hb; cases hb
    · rwa [hN2 b hr] at hbp
  have hu1 : ∀ b, (W i).testBit b = true → upd VS (W i) (G (i + 1)).m b = upd V' (W i) (G (i + 1)).m b := by intro b hb; unfold upd; rw [hb]; simp
  have hu2 : ∀ b, (W i).testBit b = false → upd VS (W i) (G (i + 1)).m b = VS b := by intro b hb; unfold upd; rw [hb]; simp
  -- what was written before was the machine's own
  have hwr : ∀ b p, meet ρ ρk b = some p → (W i).testBit b = true → ρ b = some p ∧ ∃ O, VS b = some O ∧ O.wr = true := by
    intro b p h1 h2
    obtain ⟨_, h3⟩ := hp.wold b h2
    obtain ⟨O, h4, h5⟩ := h3 (hlow b p h1)
    exact ⟨(meet_some h1).1, O, (hV2 b O h4).2, h5⟩
  -- an old place that is not written is asl it was
  have hsame : ∀ b p O, (W i).testBit b = false → ρ b = some p → VS b = some O → w'.heap[p.blk]? = w.heap[p.blk]? := by
    intro b p O h1 h2 h3
    refine hp.frame p.blk (h.mrel.fresh b p h2) fun b2 p2 h4 h5 => ?_
    obtain ⟨h6, O2, h7, h8⟩ := hwr b2 p2 h4 h5
    exact h.mrel.excl b2 b p2 p O2 O h6 h2 h7 h3 (by intro e; subst e; rw [h1] at h5; cases h5) h8
  -- a written place is none of the old that are not written
  have hapart : ∀ b1 p1, (W i).testBit b1 = true → ρ2 b1 = some p1 → ∀ b2 p2 O2, (W i).testBit b2 = false → ρ b2 = some p2 → VS b2 = some O2 → p1.blk ≠ p2.blk := by
    intro b1 p1 h1 h2 b2 p2 O2 h3 h4 h5
    have old : ∀ b3 p3, meet ρ ρk b3 = some p3 → (W i).testBit b3 = true → p3.blk ≠ p2.blk := by
      intro b3 p3 h6 h7
      obtain ⟨h8, O3, h9, h10⟩ := hwr b3 p3 h6 h7
      exact h.mrel.excl b3 b2 p3 p2 O3 O2 h8 h4 h9 h5 (by intro e; subst e; rw [h3] at h7; cases h7) h10
    rcases hp.newp b1 p1 h2 with h6 | h6 | ⟨b0, p0, h6, h7, h8⟩
    · exact old b1 p1 h6 h1
    · have := h.mrel.fresh b2 p2 h4; omega
    · rw [← h8]; exact old b0 p0 h6 h7
  refine hK v' ρN (upd VS (W i) (G (i + 1)).m) w' ⟨by rw [put_defers]; exact h.defers, by rw [put_size]; exact h.size, ?_, ?_, ⟨?_, ?_, ?_, ?_⟩, Ren.le_trans h.le hle1, ?_, h.below.trans hp.below, ?_, ?_, ?_⟩
  · -- temporaries
    intro k t hk hc
    by_cases e : o.dst = some t
    · obtain ⟨hlt, ht⟩ := hd t e
      have hik : i < k := (hc i o ho e).1 (.inr rfl)
      rw [e, put_eq (by rw [h.size]; exact hlt)]
      refine keeps hs (ht.mono hle2) k hik hk fun j oj h1 h2 h3 h4 => ?_
      have hSj : S j := by
        rcases (hc j oj h3 h4).2 h2 with h5 | h5
        · exact h5
        · omega
      rcases hs.ord.tmp i j o oj h1 ho h3 with h5 | h5
      · exact hni (hcl j (by omega) hSj i h5)
      · exact ((apart_tmp h5).1 t e).2 h4
    · rw [put_ne e]
      refine (h.tmp k t hk fun j oj h1 h2 => ?_).mono hle1
      have hji : j ≠ i := by intro e2; subst e2; rw [ho] at h1; injection h1 with h1; subst h1; exact e h2
      rw [← hc j oj h1 h2]
      exact ⟨.inl, fun h3 => h3.resolve_right hji⟩
  · -- blocks
    intro k b hk hc
    cases hb : (W i).testBit b
    · rw [hu2 b hb]
      refine h.view k b hk fun j h1 h2 => ?_
      have hji : j ≠ i := by intro e2; subst e2; rw [hb] at h2; cases h2
      rw [← hc j h1 h2]
      exact ⟨.inl, fun h3 => h3.resolve_right hji⟩
    · have hik : i < k := (hc i hi hb).1 (.inr rfl)
      rw [views (i := i) V G W k hik fun j h1 h2 => ?_]
      · show upd VS (W i) _ b = upd (VT V G W i) (W i) _ b
        unfold upd; rw [hb]; simp
      · cases hj : (W j).testBit b
        · rfl
        · have hSj : S j := by
            rcases (hc j (by omega) hj).2 h2 with h5 | h5
            · exact h5
            · omega
          rcases hs.ap i j h1 (by omega) with h5 | h5
          · exact absurd (hcl j (by omega) hSj i h5) hni
          · have := ((h5 b).1 hj).2
            rw [hb] at this; cases this
  · -- a block and its place
    intro b p O h1 h2
    cases hb : (W i).testBit b
    · rw [hu2 b hb] at h2
      have h3 := hold b hb p h1
      exact (h.mrel.blk b p O h3 h2).mono hle1 (hsame b p O hb h3 h2)
    · rw [hu1 b hb] at h2
      exact (hp.mrel.blk b p O (hw2 b hb p h1) h2).mono hle2 rfl
  · -- places are apart
    intro b1 b2 p1 p2 O1 O2 h1 h2 h3 h4 hne hw
    cases hb1 : (W i).testBit b1
    · rw [hu2 b1 hb1] at h3
      have h5 := hold b1 hb1 p1 h1
      cases hb2 : (W i).testBit b2
      · rw [hu2 b2 hb2] at h4
        exact h.mrel.excl b1 b2 p1 p2 O1 O2 h5 (hold b2 hb2 p2 h2) h3 h4 hne hw
      · exact fun e => hapart b2 p2 hb2 (hw2 b2 hb2 p2 h2) b1 p1 O1 hb1 h5 h3 e.symm
    · rw [hu1 b1 hb1] at h3
      have h5 := hw2 b1 hb1 p1 h1
      cases hb2 : (W i).testBit b2
      · rw [hu2 b2 hb2] at h4
        exact hapart b1 p1 hb1 h5 b2 p2 O2 hb2 (hold b2 hb2 p2 h2) h4
      · rw [hu1 b2 hb2] at h4
        exact hp.mrel.excl b1 b2 p1 p2 O1 O2 h5 (hw2 b2 hb2 p2 h2) h3 h4 hne hw
  · intro b p h1
    by_cases hr : (G i).n ≤ b ∧ b < (G (i + 1)).n
    · rw [hN1 b hr.1 hr.2] at h1; exact hp.mrel.fresh b p h1
    · rw [hN2 b hr] at h1; exact Nat.lt_of_lt_of_le (h.mrel.fresh b p h1) hp.below.size
  · exact hp.mrel.le
  · intro b p h1
    by_cases hr : (G i).n ≤ b ∧ b < (G (i + 1)).n
    · exact .inr ⟨i, hi, .inr rfl, hr⟩
    · rw [hN2 b hr] at h1
      rcases h.dom b p h1 with h2 | ⟨j, h2, h3, h4⟩
      · exact .inl h2
      · exact .inr ⟨j, h2, .inl h3, h4⟩
  · -- old memory
    intro k hk hc
    rw [hp.frame k (Nat.lt_of_lt_of_le hk h.below.size) fun b p h1 h2 => ?_, h.frame k hk fun b p h1 ⟨j, h2, h3, h4⟩ => hc b p h1 ⟨j, h2, .inl h3, h4⟩]
    rcases h.newp b p (meet_some h1).1 with h3 | h3 | ⟨b0, p0, h3, ⟨j, h4, h5, h6⟩, h7⟩
    · exact hc b p h3 ⟨i, hi, .inr rfl, h2⟩
    · omega
    · rw [← h7]; exact hc b0 p0 h3 ⟨j, h4, .inl h5, h6⟩
  · -- new places
    intro b p h1
    have old : ∀ b p, ρ b = some p → ρ0 b = some p ∨ w0.heap.size ≤ p.blk ∨ ∃ b0 p0, ρ0 b0 = some p0 ∧ (∃ j, j < ops.size ∧ (S j ∨ j = i) ∧ (W j).testBit b0 = true) ∧ p0.blk = p.blk := by
      intro b p h1
      rcases h.newp b p h1 with h3 | h3 | ⟨b0, p0, h3, ⟨j, h4, h5, h6⟩, h7⟩
      · exact .inl h3
      · exact .inr (.inl h3)
      · exact .inr (.inr ⟨b0, p0, h3, ⟨j, h4, .inl h5, h6⟩, h7⟩)
    by_cases hr : (G i).n ≤ b ∧ b < (G (i + 1)).n
    · rw [hN1 b hr.1 hr.2] at h1
      rcases hp.newp b p h1 with h2 | h2 | ⟨b0, p0, h2, h3, h4⟩
      · exact old b p (meet_some h2).1
      · exact .inr (.inl (Nat.le_trans h.below.size h2))
      · rcases old b0 p0 (meet_some h2).1 with h5 | h5 | ⟨b1, p1, h5, h6, h7⟩
        · exact .inr (.inr ⟨b0, p0, h5, ⟨i, hi, .inr rfl, h3⟩, h4⟩)
        · exact .inr (.inl (by omega))
        · exact .inr (.inr ⟨b1, p1, h5, h6, h7.trans h4⟩)
    · rw [hN2 b hr] at h1
      exact old b p h1
  · intro j b hj hSj hb
    rcases hSj with hSj | rfl
    · obtain ⟨p, h1⟩ := h.wdom j b hj hSj hb
      exact ⟨p, hle1 b p h1⟩
    · obtain ⟨⟨p, h1⟩, _⟩ := hp.wold b hb
      exact ⟨p, hle2 b p h1⟩
end
end
end Go.Am
namespace Go.Am
open Go Go.RowKit
section
variable {μ : Type} [AMem μ] {P : Program}

theorem ready_iff {ops : Array Oper} {listed : Array Bool} {i : Nat} : i ∈ Region.ready .any ops listed ↔ ∃ o, ops[i]? = some o ∧ listed.getD i true = false ∧ ∀ e ∈ o.after.toList, Region.binds .any e = true → listed.getD e.on false = true := by
  unfold Region.ready
  rw [List.mem_filter, List.mem_range]
  constructor
  · rintro ⟨hi, h⟩
    rw [Array.getElem?_eq_getElem hi] at h ⊢
    simp only [Option.map_some, Option.getD_some, Bool.and_eq_true, Bool.not_eq_true'] at h
    refine ⟨_, rfl, h.1, fun e he hb => ?_⟩
    have := (Array.all_eq_true_iff_forall_mem.1 h.2) e (by simpa using he)
    rw [hb] at this; simpa using this
  · rintro ⟨o, ho, h1, h2⟩
    have hi : i < ops.size := (Array.getElem?_eq_some_iff.1 ho).1
    refine ⟨hi, ?_⟩
    rw [ho]
    simp only [Option.map_some, Option.getD_some, Bool.and_eq_true, Bool.not_eq_true']
    refine ⟨h1, Array.all_eq_true_iff_forall_mem.2 fun e he => ?_⟩
    cases hb : Region.binds .any e
    · rfl
    · simp [h2 e (by simpa using he) hb]

def Listed (listed : Array Bool) (j : Nat) : Prop := listed[j]? = some true
theorem listed_set {listed : Array Bool} {i : Nat} (hi : i < listed.size) : Listed (listed.setIfInBounds i true) = fun j => Listed listed j ∨ j = i := by
  funext j
  unfold Listed
  rw [Array.getElem?_setIfInBounds]
  by_cases e : i = j
  · subst e; simp [hi]
  · have : ¬ j = i := fun h => e h.symm
    simp [e, this]

section
variable {ops : Array Oper} {nt : Nat} {bs : List Nat} {G : Nat → St μ} {R W : Nat → Nat} {F : Nat} {ρ0 : Ren} {V : Nat → Option Blk} {w0 : World} {B : Nat}

theorem count_set {l : List Bool} {i : Nat} (h : l[i]? = some false) : (l.set i true).count false + 1 = l.count false := by
  induction l generalizing i with
  | nil => simp at h
  | cons x l ih =>
    cases i with
    | zero =>
      have h : x = false := by simpa using h
      subst h; simp
    | succ i =>
      have := ih (i := i) (by simpa using h)
      cases x <;> simp [List.count_cons] <;> omega
theorem count_zero {l : List Bool} (h : l.count false = 0) {i : Nat} (hi : i < l.length) : l[i]? = some true := by
  rw [List.getElem?_eq_getElem hi]
  cases hx : l[i]
  · have : false ∈ l := hx ▸ List.getElem_mem hi
    rw [List.count_eq_zero] at h
    exact absurd this h
  · rfl

theorem all_listed (hs : Setting P ops nt bs G R W F) {listed : Array Bool} (hsz : listed.size = ops.size) (h : Region.ready .any ops listed = []) : ∀ j, j < ops.size → Listed listed j := by
  intro j
  induction j using Nat.strongRecOn with
  | ind j ih =>
    intro hj
    unfold Listed
    rw [Array.getElem?_eq_getElem (by omega)]
    cases hb : listed[j]'(by omega)
    · exfalso
      have : j ∈ Region.ready .any ops listed := by
        rw [ready_iff]
        refine ⟨ops[j], Array.getElem?_eq_getElem hj, ?_, fun e he hbi => ?_⟩
        · rw [Array.getD_eq_getD_getElem?, Array.getElem?_eq_getElem (by omega), hb]; rfl
        · have hlt := hs.ord.back j _ (Array.getElem?_eq_getElem hj) e he hbi
          have := ih e.on hlt (by omega)
          unfold Listed at this
          rw [Array.getD_eq_getD_getElem?, this]; rfl
      rw [h] at this; cases this
    · rfl

theorem any_sim (hs : Setting P ops nt bs G R W F) (hag : Agree V (G 0).m (G 0).n F) (hf0 : Free ρ0 (G 0).n) (htext : ∀ k, k ≤ ops.size → Text nt G W ρ0 V w0 B k) {Q : Exit → Act → World → Prop}
    (hQ : ∀ S ρ VS w a, (∀ j, j < ops.size → S j) → Inv ops nt G W ρ0 V w0 B S ρ VS w a → Q .normal a w) :
    ∀ (fuel : Nat) (listed : Array Bool) (ρ : Ren) (VS : Nat → Option Blk) (w : World) (a : Act), listed.size = ops.size → listed.toList.count false = fuel → (∀ (j : Nat) o, ops[j]? = some o → Listed listed j → ∀ e ∈ o.after.toList, Region.binds .any e = true → Listed listed e.on) →
      Inv ops nt G W ρ0 V w0 B (Listed listed) ρ VS w a → wpAny P .any ops Q fuel listed a w := by
  intro fuel
  induction fuel with
  | zero =>
    intro listed ρ VS w a hsz hc hcl h
    have hall : ∀ j, j < ops.size → Listed listed j := by
      intro j hj
      have := count_zero hc (i := j) (by simpa [hsz] using hj)
      unfold Listed; simpa using this
    refine ⟨?_, hQ _ _ _ _ _ hall h⟩
    rw [List.eq_nil_iff_forall_not_mem]
    intro i hi
    obtain ⟨o, ho, h1, _⟩ := ready_iff.1 hi
    have := hall i (Array.getElem?_eq_some_iff.1 ho).1
    unfold Listed at this
    rw [Array.getD_eq_getD_getElem?, this] at h1; cases h1
  | succ fuel ih =>
    intro listed ρ VS w a hsz hc hcl h
    refine ⟨fun hr => hQ _ _ _ _ _ (all_listed hs hsz hr) h, fun i hi => ?_⟩
    obtain ⟨o, ho, h1, h2⟩ := ready_iff.1 hi
    have hio : i < ops.size := (Array.getElem?_eq_some_iff.1 ho).1
    have hil : i < listed.size := by omega
    have hli : listed[i]? = some false := by
      rw [Array.getD_eq_getD_getElem?, Array.getElem?_eq_getElem hil] at h1
      rw [Array.getElem?_eq_getElem hil]
      simpa using h1
    have hedge : ∀ e ∈ o.after.toList, Region.binds .any e = true → Listed listed e.on := by
      intro e he hb
      have := h2 e he hb
      unfold Listed
      rw [Array.getD_eq_getD_getElem?] at this
      cases hx : listed[e.on]? with
      | none => rw [hx] at this; cases this
      | some b => rw [hx] at this; simpa using this
    have hcl2 : ∀ j, j < ops.size → Listed listed j → ∀ i, (bs.getD j 0).testBit i = true → Listed listed i := by
      intro j hj hl
      have hoj : ops[j]? = some ops[j] := Array.getElem?_eq_getElem hj
      exact hs.ord.closed hcl j _ hoj (hcl j _ hoj hl)
    have hready : ∀ j, (bs.getD i 0).testBit j = true → Listed listed j := hs.ord.closed hcl i o ho hedge
    have hstep := Inv.step (Q := Q) (K := wpAny P .any ops Q fuel (listed.setIfInBounds i true)) hs hag hf0 htext hcl2 ho (by unfold Listed; rw [hli]; simp) hready h fun v' ρ' V' w' hinv => by
      refine ih _ ρ' V' w' _ (by simpa using hsz) ?_ ?_ (by rw [listed_set hil]; exact hinv)
      · have := count_set (l := listed.toList) (i := i) (by simpa using hli)
        rw [Array.toList_setIfInBounds]
        omega
      · rw [listed_set hil]
        intro j oj hj hl e he hb
        rcases hl with hl | rfl
        · exact .inl (hcl j oj hj hl e he hb)
        · rw [ho] at hj; injection hj with hj; subst hj
          exact .inl (hedge e he hb)
    unfold wpOp
    rw [ho]
    simp only
    split
    · rename_i hw; rw [if_pos hw] at hstep; exact .inl hstep
    · rename_i hw; rw [if_neg hw] at hstep; exact hstep
end

theorem draw_sim : DrawSim μ P := by
  intro rec nt ops bs l Γ Γe e m n X e' m' n' r wm hcall hloc ho hchk h
  obtain ⟨hX, _, _, G, R, W, hG0, hGL, hWM, hst⟩ := traces hcall hloc l ops.toList 0 [] bs Γ e m n 0 0 X e' m' n' r wm (by simp) hchk h
  refine ⟨hX, fun ρ V w B F a hd hsz he hF hag hm hfree => ?_⟩
  have hlen : 0 + ops.toList.length = ops.size := by simp
  rw [hlen] at hGL hWM
  have hs : Setting P ops nt bs G R W F := by
    refine ⟨ordered_of ho, fun j o hj => ?_, fun j hj => ?_, fun i j hij hj => ?_⟩
    · have hj' : j < ops.size := (Array.getElem?_eq_some_iff.1 hj).1
      exact (hst j o (Nat.zero_le _) (by simpa using hj') hj).1
    · have h1 := hst j _ (Nat.zero_le _) (by simpa using hj) (Array.getElem?_eq_getElem hj)
      exact Sub.trans (Sub.lor (Sub.trans h1.2.1 (Sub.left _ _)) (Sub.trans h1.2.2.1 (Sub.right _ _))) hF
    · have h1 := hst j _ (Nat.zero_le _) (by simpa using hj) (Array.getElem?_eq_getElem hj)
      exact h1.2.2.2.2 i (Nat.zero_le _) hij
  have hW : ∀ b, wm.testBit b = (WT W ops.size).testBit b := by
    have wt : ∀ k b, (WT W k).testBit b = true ↔ ∃ j, j < k ∧ (W j).testBit b = true := by
      intro k b
      induction k with
      | zero => simp [WT]
      | succ k ih =>
        show (Nat.lor (WT W k) (W k)).testBit b = true ↔ _
        rw [lor_test, Bool.or_eq_true, ih]
        constructor
        · rintro (⟨j, h1, h2⟩ | h1)
          · exact ⟨j, by omega, h2⟩
          · exact ⟨k, by omega, h1⟩
        · rintro ⟨j, h1, h2⟩
          by_cases ej : j = k
          · subst ej; exact .inr h2
          · exact .inl ⟨j, by omega, h2⟩
    intro b
    cases h1 : wm.testBit b
    · cases h2 : (WT W ops.size).testBit b
      · rfl
      · obtain ⟨j, h3, h4⟩ := (wt _ b).1 h2
        have h5 := (hst j _ (Nat.zero_le _) (by simpa using h3) (Array.getElem?_eq_getElem h3)).2.2.1 b h4
        rw [h1] at h5; cases h5
    · rcases hWM b h1 with h2 | ⟨j, _, h2, h3⟩
      · simp at h2
      · exact ((wt _ b).2 ⟨j, h2, h3⟩).symm
  have hWe : wm = WT W ops.size := Nat.eq_of_testBit_eq hW
  have hag' : Agree V (G 0).m (G 0).n F := by rw [hG0]; exact hag
  have hf' : Free ρ (G 0).n := by rw [hG0]; exact hfree
  have he' : EnvRel ρ (G 0).Γ (G 0).e a.tmps := by rw [hG0]; exact he
  have htext : ∀ k, k ≤ ops.size → Text nt G W ρ V w B k := fun k hk => hs.text hsz he' hag' hm hf' hk
  refine any_sim hs hag' hf' htext (Q := RegPost B ρ V w n m' n' wm nt Γe e') (fun S ρ2 VS w2 a2 hall hinv => ?_) ops.size (Array.replicate ops.size false) ρ V w a (by simp) (by simp) (fun j o _ hl => ?_) ?_
  · have hvt := hs.vt V (Nat.le_refl ops.size)
    have hview : VS = upd V wm m' := by
      funext b
      rw [hinv.view ops.size b (Nat.le_refl _) fun j hj _ => ⟨fun _ => hj, fun _ => hall j hj⟩, hvt, hGL, hWe]
    have hwm : ∀ b, wm.testBit b = true → ∃ j, j < ops.size ∧ S j ∧ (W j).testBit b = true := by
      intro b hb
      rcases hWM b hb with h2 | ⟨j, _, h2, h3⟩
      · simp at h2
      · exact ⟨j, h2, hall j h2, h3⟩
    have hwm2 : ∀ b, (∃ j, j < ops.size ∧ S j ∧ (W j).testBit b = true) → wm.testBit b = true := by
      rintro b ⟨j, h3, _, h4⟩
      exact (hst j _ (Nat.zero_le _) (by simpa using h3) (Array.getElem?_eq_getElem h3)).2.2.1 b h4
    refine ⟨ρ2, rfl, hinv.defers, hinv.size, fun i t hn => ?_, hinv.le, fun b p hb => ?_, by rw [← hview]; exact hinv.mrel, hinv.below, ?_, fun k hk hc => ?_, fun b p hb => ?_, fun b hb => ?_⟩
    · have := hinv.tmp ops.size t (Nat.le_refl _) fun j o hj _ => ⟨fun _ => (Array.getElem?_eq_some_iff.1 hj).1, fun _ => hall j (Array.getElem?_eq_some_iff.1 hj).1⟩
      rw [hGL] at this
      exact this i hn
    · rcases hinv.dom b p hb with h1 | ⟨j, h1, _, h3, h4⟩
      · exact .inl h1
      · refine .inr ⟨?_, ?_⟩
        · have := hs.num (Nat.zero_le j) (by omega)
          rw [hG0] at this
          exact Nat.le_trans this h3
        · have := hs.num (i := j + 1) (j := ops.size) (by omega) (Nat.le_refl _)
          rw [hGL] at this
          exact Nat.lt_of_lt_of_le h4 this
    · have := hs.num (Nat.zero_le ops.size) (Nat.le_refl _)
      rw [hG0, hGL] at this
      exact this
    · exact hinv.frame k hk fun b p h1 h2 => hc b p h1 (hwm2 b h2)
    · rcases hinv.newp b p hb with h1 | h1 | ⟨b0, p0, h1, h2, h3⟩
      · exact .inl h1
      · exact .inr (.inl h1)
      · exact .inr (.inr ⟨b0, p0, h1, hwm2 b0 h2, h3⟩)
    · obtain ⟨j, h1, h2, h3⟩ := hwm b hb
      refine ⟨hinv.wdom j b h1 h2 h3, fun hn => ?_⟩
      obtain ⟨ρk, wk, ak, _, _, hp, _⟩ := htext ops.size (Nat.le_refl _)
      exact (hp.wold b (by rw [← hWe]; exact hb)).2 (by rw [hG0]; exact hn)
  · unfold Listed at hl
    rw [Array.getElem?_replicate] at hl
    split at hl <;> simp at hl
  · have hno : ∀ j, ¬ Listed (Array.replicate ops.size false) j := by
      intro j hl
      unfold Listed at hl
      rw [Array.getElem?_replicate] at hl
      split at hl <;> simp at hl
    refine ⟨hd, hsz, fun k t hk hc => ?_, fun k b hk hc => ?_, hm, ρ.le_refl, fun b p h1 => .inl h1, Below.refl _ _, fun _ _ _ => rfl, fun b p h1 => .inl h1, fun j b _ h1 => absurd h1 (hno j)⟩
    · cases k with
      | zero => exact fun i hn => he' i t hn
      | succ k =>
        have h0 : TRel ρ (G 0).Γ (G 0).e t a.tmps[t]? := fun i hn => he' i t hn
        have h1 : TRel ρ (G 1).Γ (G 1).e t a.tmps[t]? := by
          have h2 : (0 : Nat) < ops.size := by omega
          refine (hs.step h2).keep _ _ _ (fun e => ?_) h0
          exact hno 0 ((hc 0 _ (Array.getElem?_eq_getElem h2) e).2 (by omega))
        exact keeps hs (i := 0) h1 (k + 1) (by omega) hk fun j o h2 h3 h4 h5 => hno j ((hc j o h4 h5).2 h3)
    · have : ∀ k, k ≤ ops.size → (∀ j, j < k → (W j).testBit b = false) → VT V G W k b = V b := by
        intro k
        induction k with
        | zero => intro _ _; rfl
        | succ k ih =>
          intro h1 h2
          rw [← ih (by omega) fun j h3 => h2 j (by omega)]
          show upd (VT V G W k) (W k) _ b = _
          unfold upd; rw [h2 k (by omega)]; simp
      refine (this k hk fun j hj => ?_).symm
      cases hb : (W j).testBit b
      · rfl
      · exact absurd ((hc j (by omega) hb).2 hj) (hno j)
end
end Go.Am
namespace Go.Am
open Go Go.RowKit
inductive Tr (α : Type) where
  | nil
  | leaf (a : α)
  | node (l r : Tr α)
noncomputable def Tr.lo {α : Type} (t : Tr α) : Tr α := Tr.rec (motive := fun _ => Tr α) .nil (fun _ => .nil) (fun l _ _ _ => l) t
noncomputable def Tr.hi {α : Type} (t : Tr α) : Tr α := Tr.rec (motive := fun _ => Tr α) .nil (fun _ => .nil) (fun _ r _ _ => r) t
noncomputable def Tr.val {α : Type} (t : Tr α) : Option α := Tr.rec (motive := fun _ => Option α) none (fun a => some a) (fun _ _ _ _ => none) t
noncomputable def Tr.get {α : Type} (d : Nat) : Tr α → Nat → Option α :=
  Nat.rec (motive := fun _ => Tr α → Nat → Option α) (fun t _ => t.val)
    (fun _ ih t i => Bool.rec (motive := fun _ => Option α) (ih t.hi (Nat.div i 2)) (ih t.lo (Nat.div i 2)) (Nat.beq (Nat.mod i 2) 0)) d
noncomputable def Tr.set {α : Type} (d : Nat) : Tr α → Nat → α → Tr α :=
  Nat.rec (motive := fun _ => Tr α → Nat → α → Tr α) (fun _ _ a => .leaf a)
    (fun _ ih t i a => Bool.rec (motive := fun _ => Tr α) (.node t.lo (ih t.hi (Nat.div i 2) a)) (.node (ih t.lo (Nat.div i 2) a) t.hi) (Nat.beq (Nat.mod i 2) 0)) d
theorem Tr.get_succ {α : Type} (d : Nat) (t : Tr α) (i : Nat) : Tr.get (d + 1) t i = if i % 2 = 0 then Tr.get d t.lo (i / 2) else Tr.get d t.hi (i / 2) := by
  show Bool.rec (motive := fun _ => Option α) (Tr.get d t.hi (i / 2)) (Tr.get d t.lo (i / 2)) (Nat.beq (i % 2) 0) = _
  cases h : Nat.beq (i % 2) 0
  · rw [if_neg (by intro e; rw [e] at h; simp at h)]
  · rw [if_pos (Nat.eq_of_beq_eq_true h)]
theorem Tr.set_succ {α : Type} (d : Nat) (t : Tr α) (i : Nat) (a : α) : Tr.set (d + 1) t i a = if i % 2 = 0 then .node (Tr.set d t.lo (i / 2) a) t.hi else .node t.lo (Tr.set d t.hi (i / 2) a) := by
  show Bool.rec (motive := fun _ => Tr α) (.node t.lo (Tr.set d t.hi (i / 2) a)) (.node (Tr.set d t.lo (i / 2) a) t.hi) (Nat.beq (i % 2) 0) = _
  cases h : Nat.beq (i % 2) 0
  · rw [if_neg (by intro e; rw [e] at h; simp at h)]
  · rw [if_pos (Nat.eq_of_beq_eq_true h)]
theorem Tr.get_set {α : Type} : ∀ (d : Nat) (t : Tr α) (i j : Nat) (a : α), i < 2 ^ d → j < 2 ^ d → Tr.get d (Tr.set d t i a) j = if j = i then some a else Tr.get d t j
  | 0, t, i, j, a, hi, hj => by
    have : j = i := by simp at hi hj; omega
    rw [if_pos this]; rfl
  | d + 1, t, i, j, a, hi, hj => by
    have h2 : 2 ^ (d + 1) = 2 * 2 ^ d := by rw [Nat.pow_succ]; omega
    rw [Tr.get_succ, Tr.set_succ, Tr.get_succ]
    have ih := fun t => Tr.get_set d t (i / 2) (j / 2) a (by omega) (by omega)
    by_cases ei : i % 2 = 0 <;> by_cases ej : j % 2 = 0
    · rw [if_pos ei, if_pos ej, if_pos ej]
      show Tr.get d (Tr.set d t.lo (i / 2) a) (j / 2) = _
      rw [ih]
      by_cases e : j = i
      · rw [if_pos e, if_pos (by omega)]
      · rw [if_neg e, if_neg (by omega)]
    · rw [if_pos ei, if_neg ej, if_neg ej, if_neg (by omega)]; rfl
    · rw [if_neg ei, if_pos ej, if_pos ej, if_neg (by omega)]; rfl
    · rw [if_neg ei, if_neg ej, if_neg ej]
      show Tr.get d (Tr.set d t.hi (i / 2) a) (j / 2) = _
      rw [ih]
      by_cases e : j = i
      · rw [if_pos e, if_pos (by omega)]
      · rw [if_neg e, if_neg (by omega)]

def TrM := Tr (Option Blk)
def flatO2 : Option (Option Blk) → Option Blk
  | some x => x
  | none => none
noncomputable instance : AMem TrM where
  get t b := cond (Nat.blt b 1024) (flatO2 (Tr.get 10 t b)) none
  put t b x := Tr.set 10 t b x
  lim _ b := Nat.blt b 1024
  get_put m i j x h := by
    have hi : i < 2 ^ 10 := by simpa using h
    cases hj : Nat.blt j 1024
    · simp only [cond_false]
      rw [if_neg]
      intro e; subst e; rw [h] at hj; cases hj
    · have hj' : j < 2 ^ 10 := by simpa using hj
      simp only [cond_true]
      have := Tr.get_set 10 m i j x hi hj'
      rw [this]
      by_cases e : j = i
      · rw [if_pos e, if_pos e]; rfl
      · rw [if_neg e, if_neg e]
  get_lim m i x h := by
    cases hj : Nat.blt i 1024
    · rw [hj] at h; cases h
    · rfl
  lim_put _ _ _ _ := rfl
def m0 : TrM := Tr.nil

/-- a table of functions -/
noncomputable def look (l : List (Nat × AFn)) (f : Nat) : Option AFn := List.rec (motive := fun _ => Option AFn) none (fun p _ r => Bool.rec (motive := fun _ => Option AFn) r (some p.2) (Nat.beq p.1 f)) l
inductive Good (P : Program) : List (Nat × AFn) → Prop where
  | nil : Good P []
  | cons {f : Nat} {fn : Func} {af : AFn} {l : List (Nat × AFn)} (h : P.funcs[f]? = some fn) (hc : chkFn P fn af = true) (hl : Good P l) : Good P ((f, af) :: l)
theorem Good.look {P : Program} {l : List (Nat × AFn)} (h : Good P l) : ∀ f af, Am.look l f = some af → ∃ fn, P.funcs[f]? = some fn ∧ chkFn P fn af = true := by
  induction h with
  | nil => intro f af h; cases h
  | @cons g fn ag l h hc hl ih =>
    intro f af he
    replace he : Bool.rec (motive := fun _ => Option AFn) (Am.look l f) (some ag) (Nat.beq g f) = some af := he
    cases hb : Nat.beq g f
    · rw [hb] at he; exact ih f af he
    · rw [hb] at he
      have he : ag = af := by injection he
      subst he
      have := Nat.eq_of_beq_eq_true hb
      subst this
      exact ⟨fn, h, hc⟩

/-- a call from an empty memory -/
noncomputable def call0 (P : Program) (tab : List (Nat × AFn)) (Y : Nat → List Value → TrM → Nat → OR TrM) (k f : Nat) (args : List Value) : OR TrM := callA (look tab) Y (exec P (look tab) Y k) f args m0 0
/-- no function besides the table's -/
def noY : Nat → List Value → TrM → Nat → OR TrM := fun _ _ _ _ => .no
theorem noY_loc : CallLoc noY := fun _ _ _ _ _ _ _ _ _ h => nomatch h
theorem noY_sim {P : Program} : CallSim P noY := fun _ _ _ _ _ _ _ _ _ h => nomatch h
def gaveTrue : OR TrM → Bool
  | .ok (.bool b) _ _ _ _ => b
  | _ => false
def gaveBool : OR TrM → Option Bool
  | .ok (.bool b) _ _ _ _ => some b
  | _ => none
theorem gaveTrue_ok {x : OR TrM} (h : gaveTrue x = true) : ∃ m n r w, x = .ok (.bool true) m n r w := by
  unfold gaveTrue at h
  split at h
  · subst h; exact ⟨_, _, _, _, rfl⟩
  · cases h

theorem mrel_none (w : World) : MRel (fun _ => none) (fun _ => none) w w.heap.size := ⟨fun b p O h => (nomatch h), fun b1 b2 p1 p2 O1 O2 h => (nomatch h), fun b p h => (nomatch h), Nat.le_refl _⟩

theorem top {P : Program} (hmix : P.follows .mixedOrders = true) {tab : List (Nat × AFn)} (hg : Good P tab) {Y : Nat → List Value → TrM → Nat → OR TrM} (hY : CallLoc Y) (hYs : CallSim P Y) {k f : Nat} {args : List Value} (ha : args.all flat = true) (h : gaveTrue (call0 P tab Y k f args) = true) (w : World) :
    Calls P f args.toArray w fun e w' => e = .returned (.bool true) ∧ Below w.heap.size w w' := by
  obtain ⟨m, n, r, wm, h⟩ := gaveTrue_ok h
  have hsim := call_sim (μ := TrM) hY hYs hg.look (code_sim hmix draw_sim hY hYs hg.look k).1
  obtain ⟨_, hc⟩ := hsim f args m0 0 (.bool true) m n r wm h (fun _ => none) (fun _ => none) w w.heap.size (Nat.lor r wm) args.toArray (flats_rel _ ha) (Sub.refl _) (fun b hb => by omega) (mrel_none w) (fun _ _ => rfl)
  refine hc.mono fun e w' hh => ?_
  obtain ⟨ρ', v', rfl, hv, hp⟩ := hh
  rw [hv.flat_eq rfl]
  exact ⟨rfl, hp.below⟩
end Go.Am
set_option maxRecDepth 1000000
namespace Go.Am.C21
open Go Go.Am
/-- gosem.cut.init -/
def ac2 : AFn := ⟨0, [],
 (.post (.reg [.op (.call 1 [])]) [] 1)⟩

/-- tegula/tegulalaw21.LayoutHome -/
def ac3 : AFn := ⟨3, [],
 (.seq (.reg [.op (.mov (.c (.bool false)))])
 (.seq (.seq (.post (.reg [.op (.call 13 []),
  .op (.una .not (.v 0))]) [0] 2)
 (.cond (.v 0) (.seq (.reg [.op (.mov (.c (.bool false)))])
 (.ret [.v 0]))
 .skip))
 (.seq (.post (.reg [.nop 2,
  .op (.call 14 [(.v 2)]),
  .op (.new [(.int .i64 0), (.slice none 0 0), (.int .i64 0), (.int .i64 0)]),
  .eff (.st 4 (.v 0) (.v 1))]) [0] 2)
 (.seq (.post (.reg [.op (.ldn 4 (.v 0)),
  .nop 5,
  .nop 6,
  .op (.call 15 [(.v 0), (.v 5), (.v 6)]),
  .nop 0,
  .op (.extr 0 (.v 0)),
  .op (.extr 1 (.v 1)),
  .op (.new [(.int .i64 0), (.int .i64 0)]),
  .eff (.st 2 (.v 0) (.v 2)),
  .nop 1]) [0, 1] 5)
 (.seq (.seq (.post (.reg [.op (.ldn 4 (.v 2)),
  .nop 7,
  .nop 8,
  .op (.call 16 [(.v 0), (.v 7), (.v 8)]),
  .op (.una .not (.v 0))]) [0] 3)
 (.cond (.v 0) (.seq (.post (.reg [.nop 2,
  .op (.bin .eql 32 (.v 2) (.c (.int .i64 2))),
  .nop 0,
  .opg (.ldn 2 (.v 2)) 0 true,
  .opg (.build [(.int .i64 0), (.int .i64 0)] []) 1 true,
  .opg (.bin .eql 31 (.v 1) (.v 0)) 2 true,
  .op (.pick (.v 3) (.v 0) (.c (.bool false))),
  .nop 0]) [0] 5)
 (.ret [.v 0]))
 .skip))
 (.seq (.post (.regD [.nop 2,
  .op (.bin .eql 32 (.v 2) (.c (.int .i64 0))),
  .nop 0,
  .opg (.ldn 2 (.v 2)) 0 true,
  .opg (.ldn 4 (.v 5)) 1 true,
  .opg (.mov (.v 10)) 2 true,
  .opg (.mov (.v 12)) 3 true,
  .opg (.call 17 [(.v 2), (.v 1), (.v 0)]) 4 true,
  .opg (.bin .eql 31 (.v 4) (.v 0)) 5 true,
  .op (.pick (.v 6) (.v 0) (.c (.bool false))),
  .nop 0] [0, 1, 3, 7, 7, 7, 7, 119, 255, 511, 1023]) [0] 8)
 (.ret [.v 0])))))))⟩

/-- tegula/tegulalaw21.LayoutAt -/
def ac4 : AFn := ⟨2, [],
 (.seq (.reg [.op (.box (.v 1)),
  .op (.mov (.c (.bool false)))])
 (.seq (.seq (.post (.reg [.op (.call 13 []),
  .op (.una .not (.v 0))]) [0] 2)
 (.cond (.v 0) (.seq (.reg [.op (.mov (.c (.bool false)))])
 (.ret [.v 0]))
 .skip))
 (.seq (.post (.reg [.nop 3,
  .op (.call 14 [(.v 3)]),
  .op (.new [(.int .i64 0), (.slice none 0 0), (.int .i64 0), (.int .i64 0)]),
  .eff (.st 4 (.v 0) (.v 1))]) [0] 2)
 (.seq (.post (.reg [.op (.ldn 4 (.v 0)),
  .op (.ldn 2 (.v 4)),
  .op (.call 18 [(.v 1), (.v 0)]),
  .nop 0,
  .op (.extr 0 (.v 0)),
  .op (.extr 1 (.v 1)),
  .op (.extr 2 (.v 2)),
  .nop 2,
  .nop 1,
  .nop 0]) [0, 1, 2] 6)
 (.seq (.seq (.post (.regD [.op (.fld 0 (.v 6)),
  .op (.ld1 (.v 0)),
  .op (.bin .lss 3 (.v 0) (.c (.int .i64 0))),
  .nop 0,
  .opg (.fld 0 (.v 9)) 0 false,
  .opg (.ld1 (.v 0)) 1 false,
  .opg (.fld 0 (.v 8)) 2 false,
  .opg (.fld 0 (.v 0)) 3 false,
  .opg (.ld1 (.v 0)) 4 false,
  .opg (.bin .geq 3 (.v 3) (.v 0)) 5 false,
  .op (.pick (.v 6) (.c (.bool true)) (.v 0)),
  .nop 0,
  .opg (.fld 1 (.v 16)) 0 false,
  .opg (.ld1 (.v 0)) 1 false,
  .opg (.bin .lss 3 (.v 0) (.c (.int .i64 0))) 2 false,
  .op (.pick (.v 3) (.c (.bool true)) (.v 0)),
  .nop 0,
  .opg (.fld 1 (.v 20)) 0 false,
  .opg (.ld1 (.v 0)) 1 false,
  .opg (.ldn 4 (.v 19)) 2 false,
  .opg (.call 19 [(.v 0)]) 3 false,
  .opg (.bin .geq 3 (.v 2) (.v 0)) 4 false,
  .op (.pick (.v 5) (.c (.bool true)) (.v 0))] [0, 1, 3, 7, 15, 31, 15, 79, 207, 511, 1023, 2047, 4095, 8191, 16383, 32767, 65535, 131071, 262143, 131071, 655359, 2097151, 4194303]) [0] 20)
 (.cond (.v 0) (.seq (.post (.reg [.nop 1,
  .op (.bin .eql 32 (.v 1) (.c (.int .i64 2))),
  .nop 0,
  .opg (.mov (.v 4)) 0 true,
  .opg (.bin .eql 3 (.v 0) (.c (.int .i64 0))) 1 true,
  .op (.pick (.v 2) (.v 0) (.c (.bool false))),
  .nop 0,
  .opg (.mov (.v 6)) 0 true,
  .opg (.bin .eql 3 (.v 0) (.c (.int .i64 0))) 1 true,
  .op (.pick (.v 2) (.v 0) (.c (.bool false))),
  .nop 0]) [0] 7)
 (.ret [.v 0]))
 .skip))
 (.seq (.post (.reg [.op (.ldn 4 (.v 4)),
  .op (.ldn 2 (.v 8)),
  .op (.call 20 [(.v 1), (.v 0)]),
  .nop 0,
  .op (.extr 0 (.v 0)),
  .op (.extr 1 (.v 1)),
  .op (.extr 2 (.v 2)),
  .nop 2,
  .nop 1,
  .nop 0]) [0, 1, 2] 6)
 (.seq (.seq (.reg [.nop 0,
  .op (.una .not (.v 0))])
 (.cond (.v 0) (.seq (.post (.regD [.nop 5,
  .op (.bin .eql 32 (.v 5) (.c (.int .i64 9))),
  .nop 0,
  .opg (.mov (.v 8)) 0 true,
  .opg (.bin .eql 3 (.v 0) (.c (.int .i64 0))) 1 true,
  .op (.pick (.v 2) (.v 0) (.c (.bool false))),
  .nop 0,
  .opg (.mov (.v 10)) 0 true,
  .opg (.bin .eql 3 (.v 0) (.c (.int .i64 0))) 1 true,
  .op (.pick (.v 2) (.v 0) (.c (.bool false))),
  .nop 0,
  .opg (.fld 1 (.v 18)) 0 true,
  .opg (.ld1 (.v 0)) 1 true,
  .opg (.ldn 4 (.v 17)) 2 true,
  .opg (.call 21 [(.v 0)]) 3 true,
  .opg (.bin .geq 3 (.v 2) (.v 0)) 4 true,
  .op (.pick (.v 5) (.v 0) (.c (.bool false))),
  .nop 0] [0, 1, 3, 7, 15, 31, 63, 127, 255, 511, 1023, 2047, 4095, 2047, 10239, 32767, 65535, 131071]) [0] 13)
 (.ret [.v 0]))
 .skip))
 (.seq (.post (.reg [.nop 5,
  .op (.bin .eql 32 (.v 5) (.c (.int .i64 0))),
  .nop 0,
  .opg (.mov (.v 8)) 0 true,
  .opg (.mov (.v 5)) 1 true,
  .opg (.bin .eql 3 (.v 1) (.v 0)) 2 true,
  .op (.pick (.v 3) (.v 0) (.c (.bool false))),
  .nop 0,
  .opg (.mov (.v 11)) 0 true,
  .opg (.mov (.v 8)) 1 true,
  .opg (.bin .eql 3 (.v 1) (.v 0)) 2 true,
  .op (.pick (.v 3) (.v 0) (.c (.bool false))),
  .nop 0]) [0] 9)
 (.ret [.v 0])))))))))⟩

def ac5L0b : AC :=
 (.post (.seq (.seq (.reg [.nop 1,
  .op (.ldn 4 (.v 5)),
  .op (.call 23 [(.v 0)]),
  .op (.bin .lss 3 (.v 3) (.v 0))])
 (.cond (.v 0) .skip
 (.pre [3] 5 (.exit 0))))
 (.seq (.block 1 [[4], [30], [29], [28], [], [8, 27], [], [26, 7], [22, 6], [5], [15], [], [0, 16], [1, 18]] (.post (.seq (.reg [.op (.ldn 4 (.v 8)),
  .nop 8,
  .nop 5,
  .op (.call 15 [(.v 0), (.v 8), (.v 5)]),
  .nop 0,
  .op (.extr 0 (.v 0)),
  .op (.extr 1 (.v 1)),
  .op (.new [(.int .i64 0), (.int .i64 0)]),
  .eff (.st 2 (.v 0) (.v 2)),
  .nop 1])
 (.seq (.seq (.regD [.nop 1,
  .op (.bin .neq 32 (.v 1) (.c (.int .i64 0))),
  .nop 0,
  .opg (.fld 0 (.v 1)) 0 false,
  .opg (.ld1 (.v 0)) 1 false,
  .opg (.bin .lss 3 (.v 0) (.c (.int .i64 0))) 2 false,
  .op (.pick (.v 3) (.c (.bool true)) (.v 0)),
  .nop 0,
  .opg (.fld 0 (.v 5)) 0 false,
  .opg (.ld1 (.v 0)) 1 false,
  .opg (.mov (.v 18)) 2 false,
  .opg (.len false (.v 0)) 3 false,
  .opg (.bin .geq 3 (.v 2) (.v 0)) 4 false,
  .op (.pick (.v 5) (.c (.bool true)) (.v 0)),
  .nop 0,
  .opg (.mov (.v 22)) 0 false,
  .opg (.fld 0 (.v 12)) 1 false,
  .opg (.ld1 (.v 0)) 2 false,
  .opg (.idx 1 (.v 2) (.v 0)) 3 false,
  .opg (.ld1 (.v 0)) 4 false,
  .op (.pick (.v 5) (.c (.bool true)) (.v 0)),
  .nop 0,
  .opg (.fld 1 (.v 17)) 0 false,
  .opg (.ld1 (.v 0)) 1 false,
  .opg (.bin .lss 3 (.v 0) (.c (.int .i64 0))) 2 false,
  .op (.pick (.v 3) (.c (.bool true)) (.v 0)),
  .nop 0,
  .opg (.fld 1 (.v 21)) 0 false,
  .opg (.ld1 (.v 0)) 1 false,
  .opg (.ldn 4 (.v 36)) 2 false,
  .opg (.call 21 [(.v 0)]) 3 false,
  .opg (.bin .geq 3 (.v 2) (.v 0)) 4 false,
  .op (.pick (.v 5) (.c (.bool true)) (.v 0))] [0, 1, 3, 7, 15, 31, 63, 127, 255, 511, 255, 1279, 4095, 8191, 16383, 32767, 32767, 98303, 262143, 524287, 1048575, 2097151, 4194303, 8388607, 16777215, 33554431, 67108863, 134217727, 268435455, 134217727, 671088639, 2147483647, 4294967295])
 (.cond (.v 0) (.seq (.reg [.op (.mov (.c (.bool false)))])
 (.ret [.v 0]))
 .skip))
 (.seq (.reg [.nop 38,
  .op (.fld 0 (.v 27)),
  .op (.ld1 (.v 0)),
  .op (.idx 1 (.v 40) (.v 0)),
  .eff (.st 1 (.v 0) (.c (.bool true)))])
 (.seq (.reg [.op (.ldn 4 (.v 43)),
  .op (.ldn 2 (.v 31)),
  .op (.call 18 [(.v 1), (.v 0)]),
  .nop 0,
  .op (.extr 0 (.v 0)),
  .op (.extr 1 (.v 1)),
  .op (.extr 2 (.v 2)),
  .nop 2,
  .nop 1,
  .nop 0])
 (.seq (.reg [.nop 0,
  .op (.bin .neq 32 (.v 0) (.c (.int .i64 0))),
  .nop 0,
  .opg (.mov (.v 3)) 0 false,
  .opg (.mov (.v 50)) 1 false,
  .opg (.bin .neq 3 (.v 1) (.v 0)) 2 false,
  .op (.pick (.v 3) (.c (.bool true)) (.v 0)),
  .nop 0,
  .opg (.mov (.v 6)) 0 false,
  .opg (.mov (.v 51)) 1 false,
  .opg (.bin .neq 3 (.v 1) (.v 0)) 2 false,
  .op (.pick (.v 3) (.c (.bool true)) (.v 0))])
 (.cond (.v 0) (.seq (.reg [.op (.mov (.c (.bool false)))])
 (.ret [.v 0]))
 .skip)))))) [53] 50))
 (.reg [.nop 5,
  .op (.bin .add 3 (.v 5) (.c (.int .i64 1))),
  .nop 0]))) [1, 0] 7)
def ac5L0 : AC := .loop [[4], [8], [], [26, 7], [22, 6], [5], [15], [], [0, 16], [1, 18]] ac5L0b
/-- tegula/tegulalaw21.LayoutApart -/
def ac5 : AFn := ⟨2, [],
 (.seq (.reg [.op (.mov (.c (.bool false)))])
 (.seq (.seq (.post (.reg [.op (.call 13 []),
  .op (.una .not (.v 0))]) [0] 2)
 (.cond (.v 0) (.seq (.reg [.op (.mov (.c (.bool false)))])
 (.ret [.v 0]))
 .skip))
 (.seq (.post (.reg [.nop 2,
  .op (.call 14 [(.v 2)]),
  .op (.new [(.int .i64 0), (.slice none 0 0), (.int .i64 0), (.int .i64 0)]),
  .eff (.st 4 (.v 0) (.v 1))]) [0] 2)
 (.seq (.post (.reg [.nop 4,
  .op (.conv .i64 (.v 4)),
  .op (.ldn 4 (.v 1)),
  .op (.call 22 [(.v 0)]),
  .op (.bin .rem 3 (.v 2) (.v 0)),
  .nop 0]) [0] 4)
 (.seq (.post (.reg [.op (.fld 0 (.v 1)),
  .op (.fld 0 (.v 0)),
  .op (.ld1 (.v 0)),
  .op (.make 1 1 [(.bool false)] (.v 0) (.v 0)),
  .nop 0]) [0] 4)
 (.seq (.seq (.reg [.op (.mov (.c (.int .i64 0)))])
 (.block 0 [[4], [], [26, 7], [22, 6], [5], [15], [], [0, 16], [1, 18]] (.pre [5, 0] 0 ac5L0)))
 (.seq (.reg [.op (.mov (.c (.bool true)))])
 (.ret [.v 0]))))))))⟩

def ac6L0b : AC :=
 (.post (.seq (.seq (.reg [.nop 1,
  .op (.ldn 4 (.v 12)),
  .op (.call 26 [(.v 0)]),
  .op (.bin .lss 3 (.v 3) (.v 0))])
 (.cond (.v 0) .skip
 (.pre [3, 4] 5 (.exit 2))))
 (.seq (.block 3 [[2], [42], [41], [40], [], [7, 39], [], [36], [35], [34], [], [6, 33], [], [32, 5], [26], [20, 4, 21, 30], [3], [13], [], [0, 14]] (.post (.seq (.reg [.op (.ldn 4 (.v 15)),
  .nop 11,
  .nop 5,
  .op (.call 15 [(.v 0), (.v 11), (.v 5)]),
  .nop 0,
  .op (.extr 0 (.v 0)),
  .op (.extr 1 (.v 1)),
  .op (.new [(.int .i64 0), (.int .i64 0)]),
  .eff (.st 2 (.v 0) (.v 2)),
  .nop 1])
 (.seq (.reg [.op (.fld 0 (.v 0)),
  .op (.ld1 (.v 0)),
  .nop 21,
  .op (.bin .mul 3 (.v 0) (.v 21)),
  .op (.fld 1 (.v 3)),
  .op (.ld1 (.v 0)),
  .op (.bin .add 3 (.v 2) (.v 0)),
  .nop 0])
 (.seq (.seq (.reg [.nop 7,
  .op (.bin .neq 32 (.v 7) (.c (.int .i64 0))),
  .nop 0,
  .opg (.fld 1 (.v 7)) 0 false,
  .opg (.ld1 (.v 0)) 1 false,
  .opg (.bin .lss 3 (.v 0) (.c (.int .i64 0))) 2 false,
  .op (.pick (.v 3) (.c (.bool true)) (.v 0)),
  .nop 0,
  .opg (.fld 1 (.v 11)) 0 false,
  .opg (.ld1 (.v 0)) 1 false,
  .opg (.mov (.v 32)) 2 false,
  .opg (.bin .geq 3 (.v 1) (.v 0)) 3 false,
  .op (.pick (.v 4) (.c (.bool true)) (.v 0)),
  .nop 0,
  .opg (.mov (.v 10)) 0 false,
  .opg (.bin .lss 3 (.v 0) (.c (.int .i64 0))) 1 false,
  .op (.pick (.v 2) (.c (.bool true)) (.v 0)),
  .nop 0,
  .opg (.mov (.v 13)) 0 false,
  .opg (.mov (.v 37)) 1 false,
  .opg (.len false (.v 0)) 2 false,
  .opg (.bin .geq 3 (.v 2) (.v 0)) 3 false,
  .op (.pick (.v 4) (.c (.bool true)) (.v 0)),
  .nop 0,
  .opg (.mov (.v 41)) 0 false,
  .opg (.mov (.v 19)) 1 false,
  .opg (.idx 1 (.v 1) (.v 0)) 2 false,
  .opg (.ld1 (.v 0)) 3 false,
  .op (.pick (.v 4) (.c (.bool true)) (.v 0))])
 (.cond (.v 0) (.seq (.reg [.op (.mov (.c (.bool false)))])
 (.ret [.v 0]))
 .skip))
 (.reg [.nop 46,
  .nop 23,
  .op (.idx 1 (.v 46) (.v 23)),
  .eff (.st 1 (.v 0) (.c (.bool true)))])))) [38] 35))
 (.reg [.nop 5,
  .op (.bin .add 3 (.v 5) (.c (.int .i64 1))),
  .nop 0]))) [1, 0] 7)
def ac6L0 : AC := .loop [[2], [7], [], [36], [35], [34], [], [6, 33], [], [32, 5], [26], [20, 4, 21, 30], [3], [13], [], [0, 14]] ac6L0b
def ac6L1b : AC :=
 (.post (.seq (.seq (.reg [.nop 1,
  .op (.ldn 4 (.v 6)),
  .op (.call 25 [(.v 0)]),
  .op (.bin .lss 3 (.v 3) (.v 0))])
 (.cond (.v 0) .skip
 (.pre [3] 5 (.exit 0))))
 (.seq (.block 1 [[2], [36], [35], [34], [], [6, 33], [], [32, 5], [26], [20, 4, 21, 30], [3], [13], [], [0, 14]] (.post (.seq (.reg [.op (.mov (.c (.int .i64 0)))])
 (.block 2 [[2], [7], [], [36], [35], [34], [], [6, 33], [], [32, 5], [26], [20, 4, 21, 30], [3], [13], [], [0, 14]] (.pre [4, 0] 0 ac6L0))) [0] 3))
 (.reg [.nop 5,
  .op (.bin .add 3 (.v 5) (.c (.int .i64 1))),
  .nop 0]))) [1, 0] 7)
def ac6L1 : AC := .loop [[2], [6], [], [32, 5], [26], [20, 4, 21, 30], [3], [13], [], [0, 14]] ac6L1b
def ac6L2b : AC :=
 (.post (.seq (.seq (.reg [.nop 1,
  .nop 5,
  .op (.len false (.v 5)),
  .op (.bin .lss 3 (.v 2) (.v 0))])
 (.cond (.v 0) .skip
 (.pre [2] 4 (.exit 4))))
 (.seq (.block 5 [[2], [94], [93], [], [11, 91], [], [], [], [32, 5, 92], [26], [20, 4, 21, 30], [3], [13], [], [0, 14]] (.post (.seq (.reg [.nop 7,
  .nop 3,
  .op (.idx 1 (.v 7) (.v 3)),
  .op (.ld1 (.v 0)),
  .op (.una .not (.v 0))])
 (.cond (.v 0) (.seq (.reg [.op (.mov (.c (.bool false)))])
 (.ret [.v 0]))
 .skip)) [5] 3))
 (.reg [.nop 4,
  .op (.bin .add 3 (.v 4) (.c (.int .i64 1))),
  .nop 0]))) [1, 0] 6)
def ac6L2 : AC := .loop [[2], [11], [], [], [], [32, 5], [26], [20, 4, 21, 30], [3], [13], [], [0, 14]] ac6L2b
/-- tegula/tegulalaw21.LayoutFull -/
def ac6 : AFn := ⟨1, [],
 (.seq (.reg [.op (.mov (.c (.bool false)))])
 (.seq (.seq (.post (.reg [.op (.call 13 []),
  .op (.una .not (.v 0))]) [0] 2)
 (.cond (.v 0) (.seq (.reg [.op (.mov (.c (.bool false)))])
 (.ret [.v 0]))
 .skip))
 (.seq (.post (.reg [.nop 2,
  .op (.call 14 [(.v 2)]),
  .op (.new [(.int .i64 0), (.slice none 0 0), (.int .i64 0), (.int .i64 0)]),
  .eff (.st 4 (.v 0) (.v 1))]) [0] 2)
 (.seq (.post (.regD [.op (.ldn 4 (.v 0)),
  .op (.call 24 [(.v 0)]),
  .op (.fld 3 (.v 2)),
  .op (.ld1 (.v 0)),
  .op (.bin .sub 3 (.v 2) (.v 0)),
  .nop 0] [0, 1, 0, 4, 15, 31]) [0] 5)
 (.seq (.seq (.post (.reg [.nop 0,
  .op (.bin .lss 3 (.v 0) (.c (.int .i64 1))),
  .nop 0,
  .opg (.mov (.v 1)) 0 false,
  .opg (.bin .gtr 3 (.v 0) (.c (.int .i64 200))) 1 false,
  .op (.pick (.v 2) (.c (.bool true)) (.v 0))]) [0] 4)
 (.cond (.v 0) (.seq (.reg [.op (.mov (.c (.bool false)))])
 (.ret [.v 0]))
 .skip))
 (.seq (.post (.reg [.op (.fld 0 (.v 2)),
  .op (.fld 0 (.v 0)),
  .op (.ld1 (.v 0)),
  .nop 4,
  .op (.bin .mul 3 (.v 0) (.v 4)),
  .op (.make 1 1 [(.bool false)] (.v 0) (.v 0)),
  .nop 0]) [0] 5)
 (.seq (.seq (.reg [.op (.mov (.c (.int .i64 0)))])
 (.block 0 [[2], [], [32, 5], [26], [20, 4, 21, 30], [3], [13], [], [0, 14]] (.pre [6, 0] 0 ac6L1)))
 (.seq (.seq (.reg [.op (.mov (.c (.int .i64 0)))])
 (.block 4 [[2], [], [], [], [32, 5], [26], [20, 4, 21, 30], [3], [13], [], [0, 14]] (.pre [1, 0] 0 ac6L2)))
 (.seq (.reg [.op (.mov (.c (.bool true)))])
 (.ret [.v 0]))))))))))⟩

/-- tegula/tegulalaw21.LayoutValid -/
def ac7 : AFn := ⟨1, [],
 (.seq (.reg [.op (.box (.v 0)),
  .op (.mov (.c (.bool false)))])
 (.seq (.seq (.post (.reg [.op (.call 13 []),
  .op (.una .not (.v 0))]) [0] 2)
 (.cond (.v 0) (.seq (.reg [.op (.mov (.c (.bool false)))])
 (.ret [.v 0]))
 .skip))
 (.seq (.seq (.post (.reg [.op (.ldn 4 (.v 2)),
  .op (.call 27 [(.v 0)]),
  .op (.una .not (.v 0))]) [0] 3)
 (.cond (.v 0) (.seq (.reg [.op (.mov (.c (.bool true)))])
 (.ret [.v 0]))
 .skip))
 (.seq (.seq (.post (.regD [.op (.ldn 4 (.v 3)),
  .op (.call 28 [(.v 0)]),
  .op (.ldn 4 (.v 5)),
  .op (.call 29 [(.v 0)]),
  .op (.bin .neq 4 (.v 2) (.v 0))] [0, 1, 0, 7, 15]) [0] 5)
 (.cond (.v 0) (.seq (.reg [.op (.mov (.c (.bool false)))])
 (.ret [.v 0]))
 .skip))
 (.seq (.seq (.post (.reg [.op (.ldn 4 (.v 4)),
  .op (.call 29 [(.v 0)]),
  .op (.una .not (.v 0))]) [0] 3)
 (.cond (.v 0) (.seq (.post (.reg [.op (.ldn 4 (.v 5)),
  .op (.call 26 [(.v 0)]),
  .op (.bin .eql 3 (.v 0) (.c (.int .i64 0))),
  .nop 0,
  .opg (.ldn 4 (.v 8)) 0 true,
  .opg (.call 30 [(.v 0)]) 1 true,
  .opg (.bin .eql 3 (.v 0) (.c (.int .i64 0))) 2 true,
  .op (.pick (.v 3) (.v 0) (.c (.bool false))),
  .nop 0,
  .opg (.ldn 4 (.v 12)) 0 true,
  .opg (.call 25 [(.v 0)]) 1 true,
  .opg (.bin .eql 3 (.v 0) (.c (.int .i64 0))) 2 true,
  .op (.pick (.v 3) (.v 0) (.c (.bool false))),
  .nop 0,
  .opg (.ldn 4 (.v 16)) 0 true,
  .opg (.call 31 [(.v 0)]) 1 true,
  .opg (.bin .eql 3 (.v 0) (.c (.int .i64 0))) 2 true,
  .op (.pick (.v 3) (.v 0) (.c (.bool false))),
  .nop 0,
  .opg (.ldn 4 (.v 20)) 0 true,
  .opg (.call 24 [(.v 0)]) 1 true,
  .opg (.bin .eql 3 (.v 0) (.c (.int .i64 0))) 2 true,
  .op (.pick (.v 3) (.v 0) (.c (.bool false))),
  .nop 0]) [0] 19)
 (.ret [.v 0]))
 .skip))
 (.seq (.post (.regD [.op (.ldn 4 (.v 5)),
  .op (.call 26 [(.v 0)]),
  .op (.ldn 4 (.v 7)),
  .op (.call 23 [(.v 0)]),
  .op (.bin .eql 3 (.v 2) (.v 0)),
  .nop 0,
  .opg (.ldn 4 (.v 10)) 0 true,
  .opg (.call 30 [(.v 0)]) 1 true,
  .opg (.ldn 4 (.v 12)) 2 true,
  .opg (.call 23 [(.v 0)]) 3 true,
  .opg (.bin .sub 3 (.v 0) (.c (.int .i64 3))) 4 true,
  .opg (.bin .eql 3 (.v 3) (.v 0)) 5 true,
  .op (.pick (.v 6) (.v 0) (.c (.bool false))),
  .nop 0,
  .opg (.ldn 4 (.v 17)) 0 true,
  .opg (.call 25 [(.v 0)]) 1 true,
  .opg (.ldn 4 (.v 19)) 2 true,
  .opg (.call 22 [(.v 0)]) 3 true,
  .opg (.bin .eql 3 (.v 2) (.v 0)) 4 true,
  .op (.pick (.v 5) (.v 0) (.c (.bool false))),
  .nop 0,
  .opg (.ldn 4 (.v 23)) 0 true,
  .opg (.call 31 [(.v 0)]) 1 true,
  .opg (.ldn 4 (.v 25)) 2 true,
  .opg (.call 32 [(.v 0)]) 3 true,
  .opg (.bin .eql 3 (.v 2) (.v 0)) 4 true,
  .op (.pick (.v 5) (.v 0) (.c (.bool false))),
  .nop 0,
  .opg (.ldn 4 (.v 29)) 0 true,
  .opg (.call 24 [(.v 0)]) 1 true,
  .opg (.ldn 4 (.v 31)) 2 true,
  .opg (.call 19 [(.v 0)]) 3 true,
  .opg (.bin .eql 3 (.v 2) (.v 0)) 4 true,
  .op (.pick (.v 5) (.v 0) (.c (.bool false))),
  .nop 0] [0, 1, 0, 7, 15, 31, 63, 127, 63, 511, 1023, 2047, 4095, 8191, 16383, 32767, 16383, 131071, 262143, 524287, 1048575, 2097151, 4194303, 2097151, 16777215, 33554431, 67108863, 134217727, 268435455, 536870911, 268435455, 2147483647, 4294967295, 8589934591, 17179869183]) [0] 30)
 (.ret [.v 0])))))))⟩

def ac8L0b : AC :=
 (.post (.seq (.seq (.reg [.nop 1,
  .nop 6,
  .op (.len false (.v 6)),
  .op (.bin .lss 3 (.v 2) (.v 0))])
 (.cond (.v 0) .skip
 (.pre [2] 4 (.exit 0))))
 (.seq (.block 1 [[4], [47], [46], [], [8, 44], [], [43], [27], [18, 7, 35], [17, 6, 45], [5], [10], [], [0, 11], [1, 15, 19]] (.post (.seq (.regD [.op (.ldn 4 (.v 9)),
  .nop 9,
  .nop 4,
  .op (.idx 2 (.v 9) (.v 4)),
  .op (.fld 0 (.v 0)),
  .op (.ld1 (.v 0)),
  .nop 12,
  .nop 7,
  .op (.idx 2 (.v 12) (.v 7)),
  .op (.fld 1 (.v 0)),
  .op (.ld1 (.v 0)),
  .op (.call 16 [(.v 6), (.v 3), (.v 0)]),
  .op (.una .not (.v 0)),
  .nop 0,
  .opg (.ldn 4 (.v 18)) 0 false,
  .opg (.mov (.v 18)) 1 false,
  .opg (.mov (.v 14)) 2 false,
  .opg (.idx 2 (.v 1) (.v 0)) 3 false,
  .opg (.fld 0 (.v 0)) 4 false,
  .opg (.ld1 (.v 0)) 5 false,
  .opg (.mov (.v 23)) 6 false,
  .opg (.mov (.v 19)) 7 false,
  .opg (.idx 2 (.v 1) (.v 0)) 8 false,
  .opg (.fld 1 (.v 0)) 9 false,
  .opg (.ld1 (.v 0)) 10 false,
  .opg (.call 17 [(.v 10), (.v 5), (.v 0)]) 11 false,
  .opg (.mov (.v 34)) 12 false,
  .opg (.mov (.v 25)) 13 false,
  .opg (.build [(.int .i64 0), (.int .i64 0)] [(0, 1, (.v 1)), (1, 1, (.v 0))]) 14 false,
  .opg (.bin .neq 31 (.v 3) (.v 0)) 15 false,
  .op (.pick (.v 16) (.c (.bool true)) (.v 0))] [0, 0, 0, 6, 14, 30, 0, 0, 192, 448, 960, 2047, 4095, 8191, 16383, 16383, 16383, 114687, 245759, 507903, 16383, 16383, 3162111, 7356415, 15745023, 33554431, 16383, 16383, 201342975, 536870911, 1073741823])
 (.cond (.v 0) (.seq (.reg [.op (.mov (.c (.bool false)))])
 (.ret [.v 0]))
 .skip)) [28] 26))
 (.reg [.nop 4,
  .op (.bin .add 3 (.v 4) (.c (.int .i64 1))),
  .nop 0]))) [1, 0] 6)
def ac8L0 : AC := .loop [[4], [8], [], [43], [27], [18, 7, 35], [17, 6], [5], [10], [], [0, 11], [1, 15, 19]] ac8L0b
/-- tegula/tegulalaw21.LayoutOnDisk -/
def ac8 : AFn := ⟨2, [],
 (.seq (.reg [.op (.mov (.c (.bool false)))])
 (.seq (.seq (.post (.reg [.op (.call 13 []),
  .op (.una .not (.v 0))]) [0] 2)
 (.cond (.v 0) (.seq (.reg [.op (.mov (.c (.bool false)))])
 (.ret [.v 0]))
 .skip))
 (.seq (.post (.reg [.nop 2,
  .op (.call 14 [(.v 2)]),
  .op (.new [(.int .i64 0), (.slice none 0 0), (.int .i64 0), (.int .i64 0)]),
  .eff (.st 4 (.v 0) (.v 1))]) [0] 2)
 (.seq (.post (.reg [.op (.ldn 4 (.v 0)),
  .nop 5,
  .op (.call 33 [(.v 0), (.v 5)]),
  .nop 0,
  .op (.extr 0 (.v 0)),
  .op (.extr 1 (.v 1)),
  .nop 1,
  .nop 0]) [0, 1] 4)
 (.seq (.seq (.post (.reg [.nop 6,
  .op (.bin .lss 3 (.v 6) (.c (.int .i64 0))),
  .nop 0,
  .opg (.mov (.v 7)) 0 false,
  .opg (.fld 0 (.v 4)) 1 false,
  .opg (.fld 0 (.v 0)) 2 false,
  .opg (.ld1 (.v 0)) 3 false,
  .opg (.bin .geq 3 (.v 3) (.v 0)) 4 false,
  .op (.pick (.v 5) (.c (.bool true)) (.v 0))]) [0] 7)
 (.cond (.v 0) (.seq (.post (.reg [.nop 1,
  .op (.bin .eql 32 (.v 1) (.c (.int .i64 2))),
  .nop 0,
  .opg (.mov (.v 3)) 0 true,
  .opg (.len false (.v 0)) 1 true,
  .opg (.bin .eql 3 (.v 0) (.c (.int .i64 0))) 2 true,
  .op (.pick (.v 3) (.v 0) (.c (.bool false))),
  .nop 0]) [0] 5)
 (.ret [.v 0]))
 .skip))
 (.seq (.seq (.post (.reg [.nop 1,
  .op (.bin .neq 32 (.v 1) (.c (.int .i64 0))),
  .nop 0,
  .opg (.mov (.v 3)) 0 false,
  .opg (.len false (.v 0)) 1 false,
  .opg (.ldn 4 (.v 6)) 2 false,
  .opg (.call 21 [(.v 0)]) 3 false,
  .opg (.bin .neq 3 (.v 2) (.v 0)) 4 false,
  .op (.pick (.v 5) (.c (.bool true)) (.v 0))]) [0] 7)
 (.cond (.v 0) (.seq (.reg [.op (.mov (.c (.bool false)))])
 (.ret [.v 0]))
 .skip))
 (.seq (.seq (.reg [.op (.mov (.c (.int .i64 0)))])
 (.block 0 [[4], [], [43], [27], [18, 7, 35], [17, 6], [5], [10], [], [0, 11], [1, 15, 19]] (.pre [7, 0] 0 ac8L0)))
 (.seq (.reg [.op (.mov (.c (.bool true)))])
 (.ret [.v 0])))))))))⟩

def ac9L0b : AC :=
 (.post (.seq (.seq (.reg [.nop 1,
  .nop 11,
  .op (.len false (.v 11)),
  .op (.bin .lss 3 (.v 2) (.v 0))])
 (.cond (.v 0) .skip
 (.pre [2, 3] 4 (.exit 2))))
 (.seq (.block 3 [[15], [88], [87], [], [17, 85], [], [82], [81], [], [16, 79], [], [], [78], [50, 14], [49, 13, 86], [39, 12], [38, 11, 80], [28, 10, 51], [27, 9], [26, 8], [7], [19], [6], [0, 20], [1, 31], [2, 42]] (.post (.seq (.regD [.nop 15,
  .nop 8,
  .op (.idx 2 (.v 15) (.v 8)),
  .op (.fld 0 (.v 0)),
  .op (.ld1 (.v 0)),
  .nop 16,
  .nop 6,
  .op (.idx 2 (.v 16) (.v 6)),
  .op (.fld 0 (.v 0)),
  .op (.ld1 (.v 0)),
  .op (.bin .eql 3 (.v 3) (.v 0))] [0, 0, 3, 7, 15, 0, 0, 96, 224, 480, 1023])
 (.cond (.v 0) (.reg [.nop 9,
  .op (.bin .add 3 (.v 9) (.c (.int .i64 1))),
  .nop 0])
 (.post .skip [9] 0))) [0] 8))
 (.reg [.nop 4,
  .op (.bin .add 3 (.v 4) (.c (.int .i64 1))),
  .nop 0]))) [1, 0] 6)
def ac9L0 : AC := .loop [[15], [17], [], [82], [81], [], [16, 79], [], [], [78], [50, 14], [49, 13], [39, 12], [38, 11, 80], [28, 10, 51], [27, 9], [26, 8], [7], [19], [6], [0, 20], [1, 31], [2, 42]] ac9L0b
def ac9L1b : AC :=
 (.post (.seq (.seq (.reg [.nop 1,
  .nop 8,
  .op (.len false (.v 8)),
  .op (.bin .lss 3 (.v 2) (.v 0))])
 (.cond (.v 0) .skip
 (.pre [2] 4 (.exit 0))))
 (.seq (.block 1 [[15], [82], [81], [], [16, 79], [], [], [78], [50, 14], [49, 13], [39, 12], [38, 11, 80], [28, 10, 51], [27, 9], [26, 8], [7], [19], [6], [0, 20], [1, 31], [2, 42]] (.post (.seq (.reg [.op (.mov (.c (.int .i64 0)))])
 (.block 2 [[15], [17], [], [82], [81], [], [16, 79], [], [], [78], [50, 14], [49, 13], [39, 12], [38, 11, 80], [28, 10, 51], [27, 9], [26, 8], [7], [19], [6], [0, 20], [1, 31], [2, 42]] (.pre [3, 0] 0 ac9L0))) [0] 3))
 (.reg [.nop 4,
  .op (.bin .add 3 (.v 4) (.c (.int .i64 1))),
  .nop 0]))) [1, 0] 6)
def ac9L1 : AC := .loop [[15], [16], [], [], [78], [50, 14], [49, 13], [39, 12], [38, 11], [28, 10, 51], [27, 9], [26, 8], [7], [19], [6], [0, 20], [1, 31], [2, 42]] ac9L1b
/-- tegula/tegulalaw21.LayoutBalance -/
def ac9 : AFn := ⟨3, [],
 (.seq (.reg [.op (.mov (.c (.bool false)))])
 (.seq (.seq (.post (.reg [.op (.call 13 []),
  .op (.una .not (.v 0))]) [0] 2)
 (.cond (.v 0) (.seq (.reg [.op (.mov (.c (.bool false)))])
 (.ret [.v 0]))
 .skip))
 (.seq (.post (.reg [.nop 2,
  .op (.call 14 [(.v 2)]),
  .op (.new [(.int .i64 0), (.slice none 0 0), (.int .i64 0), (.int .i64 0)]),
  .eff (.st 4 (.v 0) (.v 1))]) [0] 2)
 (.seq (.post (.reg [.op (.fld 0 (.v 0)),
  .op (.ldn 2 (.v 0)),
  .op (.call 34 [(.v 0)]),
  .nop 0,
  .op (.extr 0 (.v 0)),
  .op (.extr 1 (.v 1)),
  .op (.extr 2 (.v 2)),
  .nop 2,
  .nop 1,
  .nop 0]) [0, 1, 2] 6)
 (.seq (.post (.regD [.op (.ldn 4 (.v 3)),
  .nop 8,
  .op (.conv .i64 (.v 8)),
  .op (.fld 0 (.v 5)),
  .op (.fld 0 (.v 0)),
  .op (.ld1 (.v 0)),
  .op (.bin .rem 3 (.v 3) (.v 0)),
  .op (.call 33 [(.v 5), (.v 0)]),
  .nop 0,
  .op (.extr 0 (.v 0)),
  .op (.extr 1 (.v 1)),
  .nop 1,
  .nop 0] [0, 0, 2, 0, 8, 24, 62, 127, 255, 511, 511, 1023, 4095]) [0, 1] 9)
 (.seq (.post (.regD [.op (.ldn 4 (.v 5)),
  .nop 11,
  .op (.conv .i64 (.v 11)),
  .op (.fld 0 (.v 7)),
  .op (.fld 0 (.v 0)),
  .op (.ld1 (.v 0)),
  .op (.bin .rem 3 (.v 3) (.v 0)),
  .op (.call 33 [(.v 5), (.v 0)]),
  .nop 0,
  .op (.extr 0 (.v 0)),
  .op (.extr 1 (.v 1)),
  .nop 1,
  .nop 0] [0, 0, 2, 0, 8, 24, 62, 127, 255, 511, 511, 1023, 4095]) [0, 1] 9)
 (.seq (.seq (.post (.reg [.nop 4,
  .op (.bin .neq 32 (.v 4) (.c (.int .i64 0))),
  .nop 0,
  .opg (.mov (.v 3)) 0 false,
  .opg (.bin .neq 32 (.v 0) (.c (.int .i64 0))) 1 false,
  .op (.pick (.v 2) (.c (.bool true)) (.v 0)),
  .nop 0,
  .opg (.mov (.v 4)) 0 false,
  .opg (.bin .neq 32 (.v 0) (.c (.int .i64 0))) 1 false,
  .op (.pick (.v 2) (.c (.bool true)) (.v 0)),
  .nop 0,
  .opg (.mov (.v 10)) 0 false,
  .opg (.len false (.v 0)) 1 false,
  .opg (.fld 2 (.v 16)) 2 false,
  .opg (.ld1 (.v 0)) 3 false,
  .opg (.mov (.v 17)) 4 false,
  .opg (.bin .mul 3 (.v 1) (.v 0)) 5 false,
  .opg (.bin .neq 3 (.v 4) (.v 0)) 6 false,
  .op (.pick (.v 7) (.c (.bool true)) (.v 0)),
  .nop 0,
  .opg (.mov (.v 16)) 0 false,
  .opg (.len false (.v 0)) 1 false,
  .opg (.fld 2 (.v 24)) 2 false,
  .opg (.ld1 (.v 0)) 3 false,
  .opg (.mov (.v 25)) 4 false,
  .opg (.bin .mul 3 (.v 1) (.v 0)) 5 false,
  .opg (.bin .neq 3 (.v 4) (.v 0)) 6 false,
  .op (.pick (.v 7) (.c (.bool true)) (.v 0))]) [0] 23)
 (.cond (.v 0) (.seq (.reg [.op (.mov (.c (.bool false)))])
 (.ret [.v 0]))
 .skip))
 (.seq (.reg [.op (.mov (.c (.int .i64 0)))])
 (.seq (.seq (.reg [.op (.mov (.c (.int .i64 0)))])
 (.block 0 [[15], [], [], [78], [50, 14], [49, 13], [39, 12], [38, 11], [28, 10, 51], [27, 9], [26, 8], [7], [19], [6], [0, 20], [1, 31], [2, 42]] (.pre [1, 0] 0 ac9L1)))
 (.seq (.seq (.post (.regD [.nop 15,
  .op (.conv .i64 (.v 15)),
  .op (.fld 0 (.v 12)),
  .op (.fld 0 (.v 0)),
  .op (.ld1 (.v 0)),
  .op (.bin .rem 3 (.v 3) (.v 0)),
  .nop 21,
  .op (.conv .i64 (.v 21)),
  .op (.fld 0 (.v 17)),
  .op (.fld 0 (.v 0)),
  .op (.ld1 (.v 0)),
  .op (.bin .rem 3 (.v 3) (.v 0)),
  .op (.bin .eql 3 (.v 5) (.v 0))] [0, 1, 0, 4, 12, 31, 0, 64, 0, 256, 768, 1984, 4095]) [0] 11)
 (.cond (.v 0) (.seq (.post (.reg [.nop 1,
  .op (.fld 2 (.v 12)),
  .op (.ld1 (.v 0)),
  .nop 13,
  .op (.bin .mul 3 (.v 0) (.v 13)),
  .op (.bin .eql 3 (.v 4) (.v 0)),
  .nop 0]) [0] 4)
 (.ret [.v 0]))
 .skip))
 (.seq (.post (.reg [.nop 1,
  .op (.fld 2 (.v 12)),
  .op (.ld1 (.v 0)),
  .nop 12,
  .op (.bin .mul 3 (.v 0) (.v 12)),
  .op (.bin .eql 3 (.v 4) (.v 0)),
  .nop 0]) [0] 4)
 (.ret [.v 0]))))))))))))⟩

def ac10L0b : AC :=
 (.post (.seq (.seq (.reg [.nop 1,
  .nop 5,
  .op (.len false (.v 5)),
  .op (.bin .lss 3 (.v 2) (.v 0))])
 (.cond (.v 0) .skip
 (.pre [2] 4 (.exit 0))))
 (.seq (.block 1 [[6], [42], [41], [], [11, 39], [], [38, 10], [35, 9], [34, 8, 40], [7], [14], [], [0, 15], [1, 27], [2, 20]] (.post (.seq (.seq (.reg [.nop 7,
  .nop 3,
  .op (.idx 2 (.v 7) (.v 3)),
  .op (.fld 1 (.v 0)),
  .op (.ld1 (.v 0)),
  .op (.bin .lss 3 (.v 0) (.c (.int .i64 0))),
  .nop 0,
  .opg (.mov (.v 11)) 0 false,
  .opg (.mov (.v 8)) 1 false,
  .opg (.idx 2 (.v 1) (.v 0)) 2 false,
  .opg (.fld 1 (.v 0)) 3 false,
  .opg (.ld1 (.v 0)) 4 false,
  .opg (.mov (.v 14)) 5 false,
  .opg (.len false (.v 0)) 6 false,
  .opg (.bin .geq 3 (.v 2) (.v 0)) 7 false,
  .op (.pick (.v 8) (.c (.bool true)) (.v 0))])
 (.cond (.v 0) (.seq (.reg [.op (.mov (.c (.bool false)))])
 (.ret [.v 0]))
 .skip))
 (.reg [.nop 18,
  .nop 20,
  .nop 16,
  .op (.idx 2 (.v 20) (.v 16)),
  .op (.fld 1 (.v 0)),
  .op (.ld1 (.v 0)),
  .op (.idx 1 (.v 21) (.v 0)),
  .op (.ld1 (.v 0)),
  .op (.bin .add 3 (.v 0) (.c (.int .i64 1))),
  .op (.idx 1 (.v 24) (.v 3)),
  .eff (.st 1 (.v 0) (.v 1))])) [22] 20))
 (.reg [.nop 4,
  .op (.bin .add 3 (.v 4) (.c (.int .i64 1))),
  .nop 0]))) [1, 0] 6)
def ac10L0 : AC := .loop [[6], [11], [], [38, 10], [35, 9], [34, 8], [7], [14], [], [0, 15], [1, 27], [2, 20]] ac10L0b
def ac10L1b : AC :=
 (.post (.seq (.seq (.reg [.nop 1,
  .nop 5,
  .op (.len false (.v 5)),
  .op (.bin .lss 3 (.v 2) (.v 0))])
 (.cond (.v 0) .skip
 (.pre [2] 4 (.exit 2))))
 (.seq (.block 3 [[6], [74], [73], [], [12, 71], [], [], [], [38, 10, 72], [35, 9], [34, 8], [7], [14], [], [0, 15], [1, 27], [2, 20]] (.post (.seq (.reg [.nop 7,
  .nop 3,
  .op (.idx 1 (.v 7) (.v 3)),
  .op (.ld1 (.v 0)),
  .nop 9,
  .op (.len false (.v 9)),
  .op (.bin .mul 3 (.v 1) (.v 0)),
  .nop 13,
  .op (.len false (.v 13)),
  .op (.bin .neq 3 (.v 1) (.v 0))])
 (.cond (.v 0) (.seq (.reg [.op (.mov (.c (.bool false)))])
 (.ret [.v 0]))
 .skip)) [8] 6))
 (.reg [.nop 4,
  .op (.bin .add 3 (.v 4) (.c (.int .i64 1))),
  .nop 0]))) [1, 0] 6)
def ac10L1 : AC := .loop [[6], [12], [], [], [], [38, 10], [35, 9], [34, 8], [7], [14], [], [0, 15], [1, 27], [2, 20]] ac10L1b
/-- tegula/tegulalaw21.LayoutSpread -/
def ac10 : AFn := ⟨3, [],
 (.seq (.reg [.op (.mov (.c (.bool false)))])
 (.seq (.seq (.post (.reg [.op (.call 13 []),
  .op (.una .not (.v 0))]) [0] 2)
 (.cond (.v 0) (.seq (.reg [.op (.mov (.c (.bool false)))])
 (.ret [.v 0]))
 .skip))
 (.seq (.post (.reg [.nop 2,
  .op (.call 14 [(.v 2)]),
  .op (.new [(.int .i64 0), (.slice none 0 0), (.int .i64 0), (.int .i64 0)]),
  .eff (.st 4 (.v 0) (.v 1))]) [0] 2)
 (.seq (.post (.reg [.op (.ldn 4 (.v 0)),
  .op (.call 23 [(.v 0)]),
  .op (.fld 2 (.v 2)),
  .eff (.st 1 (.v 0) (.v 1))]) [] 3)
 (.seq (.seq (.reg [.nop 5])
 (.cond (.v 5) (.post (.reg [.op (.fld 2 (.v 0)),
  .op (.ld1 (.v 0)),
  .op (.bin .mul 3 (.c (.int .i64 2)) (.v 0)),
  .op (.fld 2 (.v 3)),
  .eff (.st 1 (.v 0) (.v 1))]) [] 4)
 .skip))
 (.seq (.post (.regD [.op (.ldn 4 (.v 0)),
  .nop 5,
  .op (.conv .i64 (.v 5)),
  .op (.fld 0 (.v 2)),
  .op (.fld 0 (.v 0)),
  .op (.ld1 (.v 0)),
  .op (.bin .rem 3 (.v 3) (.v 0)),
  .op (.call 33 [(.v 5), (.v 0)]),
  .nop 0,
  .op (.extr 0 (.v 0)),
  .op (.extr 1 (.v 1)),
  .nop 1,
  .nop 0] [0, 0, 2, 0, 8, 24, 62, 127, 255, 511, 511, 1023, 4095]) [0, 1] 9)
 (.seq (.post (.reg [.op (.ldn 4 (.v 2)),
  .op (.call 23 [(.v 0)]),
  .op (.make 1 8 [(.int .i64 0)] (.v 0) (.v 0)),
  .nop 0]) [0] 3)
 (.seq (.seq (.reg [.op (.mov (.c (.int .i64 0)))])
 (.block 0 [[6], [], [38, 10], [35, 9], [34, 8], [7], [14], [], [0, 15], [1, 27], [2, 20]] (.pre [6, 0] 0 ac10L0)))
 (.seq (.seq (.reg [.op (.mov (.c (.int .i64 0)))])
 (.block 2 [[6], [], [], [], [38, 10], [35, 9], [34, 8], [7], [14], [], [0, 15], [1, 27], [2, 20]] (.pre [1, 0] 0 ac10L1)))
 (.seq (.post (.reg [.nop 5,
  .op (.bin .eql 32 (.v 5) (.c (.int .i64 0))),
  .nop 0,
  .opg (.mov (.v 7)) 0 true,
  .opg (.len false (.v 0)) 1 true,
  .opg (.bin .gtr 3 (.v 0) (.c (.int .i64 0))) 2 true,
  .op (.pick (.v 3) (.v 0) (.c (.bool false))),
  .nop 0]) [0] 5)
 (.ret [.v 0])))))))))))⟩

/-- tegula/tegulalaw21.LayoutSlots -/
def ac11 : AFn := ⟨2, [],
 (.seq (.reg [.op (.box (.v 1)),
  .op (.mov (.c (.bool false)))])
 (.seq (.seq (.post (.reg [.op (.call 13 []),
  .op (.una .not (.v 0))]) [0] 2)
 (.cond (.v 0) (.seq (.reg [.op (.mov (.c (.bool false)))])
 (.ret [.v 0]))
 .skip))
 (.seq (.post (.regD [.op (.ida 3 1 (.v 2) (.c (.int .i64 0))),
  .op (.ld1 (.v 0)),
  .op (.ida 3 1 (.v 4) (.c (.int .i64 1))),
  .op (.ld1 (.v 0)),
  .op (.ida 3 1 (.v 6) (.c (.int .i64 2))),
  .op (.ld1 (.v 0)),
  .nop 4,
  .nop 2,
  .nop 0] [0, 1, 0, 4, 0, 16, 3, 79, 255]) [0, 2, 4] 6)
 (.seq (.post (.reg [.nop 6,
  .op (.call 14 [(.v 6)]),
  .op (.new [(.int .i64 0), (.slice none 0 0), (.int .i64 0), (.int .i64 0)]),
  .eff (.st 4 (.v 0) (.v 1))]) [0] 2)
 (.seq (.post (.reg [.op (.ldn 4 (.v 0)),
  .op (.call 23 [(.v 0)]),
  .op (.bin .sub 3 (.v 0) (.c (.int .i64 3))),
  .nop 0]) [0] 3)
 (.seq (.post (.reg [.op (.ldn 4 (.v 1)),
  .nop 5,
  .op (.call 35 [(.v 0), (.v 5)]),
  .nop 0,
  .op (.extr 0 (.v 0)),
  .op (.extr 1 (.v 1)),
  .op (.extr 2 (.v 2)),
  .nop 2,
  .nop 1,
  .nop 0]) [0, 1, 2] 5)
 (.seq (.seq (.post (.reg [.nop 7,
  .op (.bin .lss 3 (.v 7) (.c (.int .i64 0))),
  .nop 0,
  .opg (.mov (.v 8)) 0 false,
  .opg (.ldn 4 (.v 6)) 1 false,
  .opg (.call 32 [(.v 0)]) 2 false,
  .opg (.bin .geq 3 (.v 2) (.v 0)) 3 false,
  .op (.pick (.v 4) (.c (.bool true)) (.v 0))]) [0] 6)
 (.cond (.v 0) (.post (.seq (.post (.reg [.nop 1,
  .op (.bin .neq 32 (.v 1) (.c (.int .i64 2))),
  .nop 0,
  .opg (.mov (.v 4)) 0 false,
  .opg (.bin .neq 3 (.v 0) (.c (.int .i64 0))) 1 false,
  .op (.pick (.v 2) (.c (.bool true)) (.v 0)),
  .nop 0,
  .opg (.mov (.v 6)) 0 false,
  .opg (.bin .neq 3 (.v 0) (.c (.int .i64 0))) 1 false,
  .op (.pick (.v 2) (.c (.bool true)) (.v 0))]) [0] 7)
 (.cond (.v 0) (.seq (.reg [.op (.mov (.c (.bool false)))])
 (.ret [.v 0]))
 .skip)) [11] 1)
 (.post (.seq (.post (.reg [.op (.ldn 4 (.v 5)),
  .nop 4,
  .nop 3,
  .op (.call 36 [(.v 0), (.v 4), (.v 3)]),
  .nop 0,
  .op (.extr 0 (.v 0)),
  .op (.extr 1 (.v 1)),
  .nop 1,
  .nop 0]) [0, 1] 4)
 (.seq (.post (.reg [.nop 3,
  .op (.bin .neq 32 (.v 3) (.c (.int .i64 0))),
  .nop 0,
  .opg (.mov (.v 6)) 0 false,
  .opg (.mov (.v 12)) 1 false,
  .opg (.mov (.v 9)) 2 false,
  .opg (.bin .quo 3 (.v 1) (.v 0)) 3 false,
  .opg (.bin .neq 3 (.v 3) (.v 0)) 4 false,
  .op (.pick (.v 5) (.c (.bool true)) (.v 0)),
  .nop 0,
  .opg (.mov (.v 11)) 0 false,
  .opg (.mov (.v 18)) 1 false,
  .opg (.mov (.v 15)) 2 false,
  .opg (.bin .rem 3 (.v 1) (.v 0)) 3 false,
  .opg (.bin .neq 3 (.v 3) (.v 0)) 4 false,
  .op (.pick (.v 5) (.c (.bool true)) (.v 0)),
  .nop 0,
  .opg (.mov (.v 13)) 0 false,
  .opg (.bin .neq 32 (.v 0) (.c (.int .i64 0))) 1 false,
  .op (.pick (.v 2) (.c (.bool true)) (.v 0)),
  .nop 0,
  .opg (.mov (.v 17)) 0 false,
  .opg (.mov (.v 27)) 1 false,
  .opg (.bin .neq 3 (.v 1) (.v 0)) 2 false,
  .op (.pick (.v 3) (.c (.bool true)) (.v 0))]) [0] 20)
 (.cond (.v 0) (.seq (.reg [.op (.mov (.c (.bool false)))])
 (.ret [.v 0]))
 .skip))) [13] 3)))
 (.seq (.post (.reg [.op (.ldn 4 (.v 6)),
  .nop 9,
  .nop 8,
  .op (.call 36 [(.v 0), (.v 9), (.v 8)]),
  .nop 0,
  .op (.extr 0 (.v 0)),
  .op (.extr 1 (.v 1)),
  .nop 1,
  .nop 0]) [0, 1] 4)
 (.seq (.seq (.post (.reg [.op (.ldn 4 (.v 8)),
  .nop 11,
  .nop 10,
  .op (.call 16 [(.v 0), (.v 11), (.v 10)]),
  .op (.una .not (.v 0))]) [0] 3)
 (.cond (.v 0) (.seq (.post (.reg [.nop 1,
  .op (.bin .eql 32 (.v 1) (.c (.int .i64 2))),
  .nop 0,
  .opg (.mov (.v 3)) 0 true,
  .opg (.bin .eql 3 (.v 0) (.c (.int .i64 0))) 1 true,
  .op (.pick (.v 2) (.v 0) (.c (.bool false))),
  .nop 0]) [0] 4)
 (.ret [.v 0]))
 .skip))
 (.seq (.seq (.reg [.nop 10,
  .nop 8,
  .op (.bin .geq 3 (.v 10) (.v 8))])
 (.cond (.v 0) (.seq (.post (.reg [.nop 2,
  .op (.bin .eql 32 (.v 2) (.c (.int .i64 9))),
  .nop 0,
  .opg (.mov (.v 4)) 0 true,
  .opg (.bin .eql 3 (.v 0) (.c (.int .i64 0))) 1 true,
  .op (.pick (.v 2) (.v 0) (.c (.bool false))),
  .nop 0]) [0] 4)
 (.ret [.v 0]))
 .skip))
 (.seq (.post (.reg [.nop 2,
  .op (.bin .eql 32 (.v 2) (.c (.int .i64 0))),
  .nop 0,
  .opg (.mov (.v 4)) 0 true,
  .opg (.mov (.v 14)) 1 true,
  .opg (.mov (.v 12)) 2 true,
  .opg (.bin .mul 3 (.v 1) (.v 0)) 3 true,
  .opg (.mov (.v 16)) 4 true,
  .opg (.bin .add 3 (.v 1) (.v 0)) 5 true,
  .opg (.bin .eql 3 (.v 5) (.v 0)) 6 true,
  .op (.pick (.v 7) (.v 0) (.c (.bool false))),
  .nop 0]) [0] 9)
 (.ret [.v 0]))))))))))))⟩

/-- tegula/tegulalaw21.LayoutErrors -/
def ac12 : AFn := ⟨2, [],
 (.seq (.reg [.op (.box (.v 0)),
  .op (.mov (.c (.bool false)))])
 (.seq (.seq (.post (.reg [.op (.call 13 []),
  .op (.una .not (.v 0))]) [0] 2)
 (.cond (.v 0) (.seq (.reg [.op (.mov (.c (.bool false)))])
 (.ret [.v 0]))
 .skip))
 (.seq (.seq (.post (.reg [.op (.ldn 4 (.v 2)),
  .op (.call 27 [(.v 0)]),
  .op (.una .not (.v 0)),
  .nop 0,
  .opg (.ldn 4 (.v 5)) 0 false,
  .opg (.call 29 [(.v 0)]) 1 false,
  .op (.pick (.v 2) (.c (.bool true)) (.v 0))]) [0] 6)
 (.cond (.v 0) (.seq (.reg [.op (.mov (.c (.bool true)))])
 (.ret [.v 0]))
 .skip))
 (.seq (.post (.reg [.op (.ldn 4 (.v 3)),
  .nop 6,
  .nop 6,
  .op (.call 15 [(.v 0), (.v 6), (.v 6)]),
  .nop 0,
  .op (.extr 0 (.v 0)),
  .op (.extr 1 (.v 1)),
  .op (.new [(.int .i64 0), (.int .i64 0)]),
  .eff (.st 2 (.v 0) (.v 2)),
  .nop 1]) [1] 5)
 (.seq (.post (.reg [.op (.ldn 4 (.v 4)),
  .nop 7,
  .nop 7,
  .op (.build [(.int .i64 0), (.int .i64 0)] [(0, 1, (.v 7)), (1, 1, (.v 7))]),
  .op (.call 18 [(.v 1), (.v 0)]),
  .nop 0,
  .op (.extr 0 (.v 0)),
  .op (.extr 1 (.v 1)),
  .op (.extr 2 (.v 2)),
  .nop 2,
  .nop 1,
  .nop 0]) [0] 6)
 (.seq (.post (.reg [.op (.ldn 4 (.v 5)),
  .nop 8,
  .op (.call 35 [(.v 0), (.v 8)]),
  .nop 0,
  .op (.extr 0 (.v 0)),
  .op (.extr 1 (.v 1)),
  .op (.extr 2 (.v 2)),
  .nop 2,
  .nop 1,
  .nop 0]) [0] 5)
 (.seq (.post (.reg [.op (.ldn 4 (.v 6)),
  .nop 9,
  .nop 9,
  .op (.call 36 [(.v 0), (.v 9), (.v 9)]),
  .nop 0,
  .op (.extr 0 (.v 0)),
  .op (.extr 1 (.v 1)),
  .nop 1,
  .nop 0]) [0] 4)
 (.seq (.post (.reg [.op (.ldn 4 (.v 7)),
  .nop 10,
  .op (.call 33 [(.v 0), (.v 10)]),
  .nop 0,
  .op (.extr 0 (.v 0)),
  .op (.extr 1 (.v 1)),
  .nop 1,
  .nop 0]) [0, 1] 4)
 (.seq (.post (.reg [.nop 5,
  .op (.bin .eql 32 (.v 5) (.c (.int .i64 1))),
  .nop 0,
  .opg (.mov (.v 5)) 0 true,
  .opg (.bin .eql 32 (.v 0) (.c (.int .i64 1))) 1 true,
  .op (.pick (.v 2) (.v 0) (.c (.bool false))),
  .nop 0,
  .opg (.mov (.v 7)) 0 true,
  .opg (.bin .eql 32 (.v 0) (.c (.int .i64 1))) 1 true,
  .op (.pick (.v 2) (.v 0) (.c (.bool false))),
  .nop 0,
  .opg (.mov (.v 9)) 0 true,
  .opg (.bin .eql 32 (.v 0) (.c (.int .i64 1))) 1 true,
  .op (.pick (.v 2) (.v 0) (.c (.bool false))),
  .nop 0,
  .opg (.mov (.v 10)) 0 true,
  .opg (.bin .eql 32 (.v 0) (.c (.int .i64 1))) 1 true,
  .op (.pick (.v 2) (.v 0) (.c (.bool false))),
  .nop 0,
  .opg (.mov (.v 14)) 0 true,
  .opg (.len false (.v 0)) 1 true,
  .opg (.bin .eql 3 (.v 0) (.c (.int .i64 0))) 2 true,
  .op (.pick (.v 3) (.v 0) (.c (.bool false))),
  .nop 0]) [0] 17)
 (.ret [.v 0]))))))))))⟩

/-- tegula/tegulalaw21.awake -/
def ac13 : AFn := ⟨0, [],
 (.seq (.reg [.op (.mov (.c (.bool false)))])
 (.seq (.post (.reg [.op (.call 37 [(.c (.int .i64 5)), (.c (.int .i64 4))]),
  .op (.build [(.int .i64 0), (.slice none 0 0), (.int .i64 0), (.int .i64 0)] [(0, 2, (.v 0)), (2, 1, (.c (.int .i64 2))), (3, 1, (.c (.int .i64 3)))]),
  .op (.new [(.int .i64 0), (.slice none 0 0), (.int .i64 0), (.int .i64 0)]),
  .eff (.st 4 (.v 0) (.v 1))]) [0] 3)
 (.seq (.post (.reg [.op (.ldn 4 (.v 0)),
  .op (.call 15 [(.v 0), (.c (.int .i64 1)), (.c (.int .i64 3))]),
  .nop 0,
  .op (.extr 0 (.v 0)),
  .op (.extr 1 (.v 1)),
  .op (.new [(.int .i64 0), (.int .i64 0)]),
  .eff (.st 2 (.v 0) (.v 2)),
  .nop 1]) [0, 1] 5)
 (.seq (.post (.reg [.op (.ldn 4 (.v 2)),
  .op (.call 15 [(.v 0), (.c (.int .i64 6)), (.c (.int .i64 0))]),
  .nop 0,
  .op (.extr 0 (.v 0)),
  .op (.extr 1 (.v 1)),
  .op (.new [(.int .i64 0), (.int .i64 0)]),
  .eff (.st 2 (.v 0) (.v 2)),
  .nop 1]) [0, 1] 5)
 (.seq (.post (.reg [.op (.ldn 4 (.v 4)),
  .op (.call 15 [(.v 0), (.c (.int .i64 6)), (.c (.int .i64 3))]),
  .nop 0,
  .op (.extr 0 (.v 0)),
  .op (.extr 1 (.v 1)),
  .op (.new [(.int .i64 0), (.int .i64 0)]),
  .eff (.st 2 (.v 0) (.v 2)),
  .nop 1]) [0, 1] 5)
 (.seq (.post (.reg [.op (.ldn 4 (.v 6)),
  .op (.build [(.int .i64 0), (.int .i64 0)] [(0, 1, (.c (.int .i64 4))), (1, 1, (.c (.int .i64 4)))]),
  .op (.call 18 [(.v 1), (.v 0)]),
  .nop 0,
  .op (.extr 0 (.v 0)),
  .op (.extr 1 (.v 1)),
  .op (.extr 2 (.v 2)),
  .nop 2,
  .nop 1,
  .nop 0]) [0, 1, 2] 6)
 (.seq (.post (.reg [.nop 8,
  .op (.bin .eql 32 (.v 8) (.c (.int .i64 0))),
  .nop 0,
  .opg (.mov (.v 7)) 0 true,
  .opg (.bin .eql 32 (.v 0) (.c (.int .i64 0))) 1 true,
  .op (.pick (.v 2) (.v 0) (.c (.bool false))),
  .nop 0,
  .opg (.mov (.v 8)) 0 true,
  .opg (.bin .eql 32 (.v 0) (.c (.int .i64 0))) 1 true,
  .op (.pick (.v 2) (.v 0) (.c (.bool false))),
  .nop 0,
  .opg (.mov (.v 7)) 0 true,
  .opg (.bin .eql 32 (.v 0) (.c (.int .i64 0))) 1 true,
  .op (.pick (.v 2) (.v 0) (.c (.bool false))),
  .nop 0,
  .opg (.ldn 2 (.v 17)) 0 true,
  .opg (.build [(.int .i64 0), (.int .i64 0)] [(0, 1, (.c (.int .i64 4)))]) 1 true,
  .opg (.bin .eql 31 (.v 1) (.v 0)) 2 true,
  .op (.pick (.v 3) (.v 0) (.c (.bool false))),
  .nop 0,
  .opg (.ldn 2 (.v 19)) 0 true,
  .opg (.build [(.int .i64 0), (.int .i64 0)] [(0, 1, (.c (.int .i64 1))), (1, 1, (.c (.int .i64 5)))]) 1 true,
  .opg (.bin .eql 31 (.v 1) (.v 0)) 2 true,
  .op (.pick (.v 3) (.v 0) (.c (.bool false))),
  .nop 0,
  .opg (.ldn 2 (.v 21)) 0 true,
  .opg (.build [(.int .i64 0), (.int .i64 0)] [(0, 1, (.c (.int .i64 0))), (1, 1, (.c (.int .i64 5)))]) 1 true,
  .opg (.bin .eql 31 (.v 1) (.v 0)) 2 true,
  .op (.pick (.v 3) (.v 0) (.c (.bool false))),
  .nop 0,
  .opg (.mov (.v 24)) 0 true,
  .opg (.bin .eql 3 (.v 0) (.c (.int .i64 6))) 1 true,
  .op (.pick (.v 2) (.v 0) (.c (.bool false))),
  .nop 0,
  .opg (.mov (.v 26)) 0 true,
  .opg (.bin .eql 3 (.v 0) (.c (.int .i64 2))) 1 true,
  .op (.pick (.v 2) (.v 0) (.c (.bool false))),
  .nop 0,
  .opg (.ldn 4 (.v 37)) 0 true,
  .opg (.call 31 [(.v 0)]) 1 true,
  .opg (.bin .eql 3 (.v 0) (.c (.int .i64 10))) 2 true,
  .op (.pick (.v 3) (.v 0) (.c (.bool false))),
  .nop 0,
  .opg (.ldn 4 (.v 41)) 0 true,
  .opg (.call 24 [(.v 0)]) 1 true,
  .opg (.bin .eql 3 (.v 0) (.c (.int .i64 11))) 2 true,
  .op (.pick (.v 3) (.v 0) (.c (.bool false))),
  .nop 0]) [0] 36)
 (.ret [.v 0]))))))))⟩

/-- tegula/tegularef21.Small -/
def ac14 : AFn := ⟨1, [],
 (.seq (.reg [.op (.new [(.int .i64 0), (.slice none 0 0), (.int .i64 0), (.int .i64 0)])])
 (.seq (.reg [.op (.new [(.int .i64 0), (.slice none 0 0)])])
 (.seq (.reg [.nop 2,
  .op (.conv .i64 (.v 2)),
  .nop 0])
 (.seq (.seq (.reg [.nop 0,
  .op (.bin .rem 3 (.v 0) (.c (.int .i64 8)))])
 (.block 0 [[8], [6, 4, 7], [3], [2], [0, 5]] (.post (.seq (.seq (.reg [.op (.bin .eql 3 (.v 0) (.c (.int .i64 0))),
  .nop 0])
 (.cond (.v 0) (.post .skip [0] 0)
 (.post (.seq (.reg [.op (.bin .eql 3 (.v 1) (.c (.int .i64 1))),
  .nop 0])
 (.cond (.v 0) (.post .skip [0] 0)
 (.reg [.op (.bin .eql 3 (.v 2) (.c (.int .i64 2))),
  .nop 0]))) [0] 2)))
 (.cond (.v 0) (.post (.reg [.op (.call 37 [(.c (.int .i64 5)), (.c (.int .i64 4))]),
  .eff (.st 2 (.v 5) (.v 0))]) [] 1)
 (.post (.seq (.reg [.op (.bin .eql 3 (.v 2) (.c (.int .i64 3))),
  .nop 0])
 (.cond (.v 0) (.post (.reg [.op (.call 37 [(.c (.int .i64 6)), (.c (.int .i64 4))]),
  .eff (.st 2 (.v 6) (.v 0))]) [] 1)
 (.post (.seq (.reg [.op (.bin .eql 3 (.v 3) (.c (.int .i64 4))),
  .nop 0])
 (.cond (.v 0) (.post (.reg [.op (.call 37 [(.c (.int .i64 6)), (.c (.int .i64 5))]),
  .eff (.st 2 (.v 7) (.v 0))]) [] 1)
 (.post (.seq (.reg [.op (.bin .eql 3 (.v 4) (.c (.int .i64 5))),
  .nop 0])
 (.cond (.v 0) (.post (.reg [.nop 6,
  .op (.bin .quo 3 (.v 6) (.c (.int .i64 8))),
  .op (.bin .rem 3 (.v 0) (.c (.int .i64 2))),
  .op (.bin .add 3 (.c (.int .i64 4)) (.v 0)),
  .nop 9,
  .op (.bin .quo 3 (.v 9) (.c (.int .i64 8))),
  .op (.bin .rem 3 (.v 0) (.c (.int .i64 2))),
  .op (.bin .add 3 (.c (.int .i64 4)) (.v 0)),
  .op (.call 37 [(.v 3), (.v 0)]),
  .eff (.st 2 (.v 14) (.v 0))]) [] 7)
 (.post (.seq (.reg [.op (.bin .eql 3 (.v 5) (.c (.int .i64 6))),
  .nop 0])
 (.cond (.v 0) (.post (.reg [.op (.call 38 [(.c (.int .i64 3))]),
  .eff (.st 2 (.v 9) (.v 0))]) [] 1)
 (.post (.seq (.reg [.op (.bin .eql 3 (.v 6) (.c (.int .i64 7))),
  .nop 0])
 (.cond (.v 0) (.post (.reg [.op (.call 37 [(.c (.int .i64 7)), (.c (.int .i64 5))]),
  .eff (.st 2 (.v 10) (.v 0))]) [] 1)
 .skip)) [] 1))) [] 1))) [] 1))) [] 1))) [] 1))) [] 2)))
 (.seq (.post (.reg [.op (.ldn 2 (.v 2)),
  .nop 2,
  .op (.bin .quo 3 (.v 2) (.c (.int .i64 16))),
  .op (.bin .rem 3 (.v 0) (.c (.int .i64 5))),
  .op (.bin .add 3 (.c (.int .i64 1)) (.v 0)),
  .nop 5,
  .op (.bin .quo 3 (.v 5) (.c (.int .i64 80))),
  .op (.bin .rem 3 (.v 0) (.c (.int .i64 8))),
  .op (.build [(.int .i64 0), (.slice none 0 0), (.int .i64 0), (.int .i64 0)] [(0, 2, (.v 5)), (2, 1, (.v 2)), (3, 1, (.v 0))]),
  .eff (.st 4 (.v 10) (.v 0))]) [] 7)
 (.ret [.cells 3 4]))))))⟩

/-- tegula/layout.Home -/
def ac15 : AFn := ⟨3, [],
 (.seq (.reg [.op (.box (.v 0)),
  .op (.new [(.int .i64 0), (.int .i64 0)]),
  .op (.mov (.c (.int .i64 0)))])
 (.seq (.post (.reg [.op (.ldn 4 (.v 2)),
  .op (.call 39 [(.v 0)]),
  .nop 0,
  .op (.extr 0 (.v 0)),
  .op (.extr 1 (.v 1)),
  .op (.new [(.int .i64 0), (.slice none 0 0), (.int .i64 0), (.int .i64 0), (.int .i64 0), (.int .i64 0), (.int .i64 0), (.slice none 0 0), (.slice none 0 0), (.int .i64 0), (.int .i64 0)]),
  .eff (.st 11 (.v 0) (.v 2)),
  .nop 1]) [0, 1] 5)
 (.seq (.block 0 [[7], [8], [14, 9], [], [6], [3], [0], [1], [2]] (.post (.seq (.reg [.nop 1,
  .op (.una .not (.v 1)),
  .nop 0])
 (.cond (.v 0) (.seq (.post (.reg [.op (.build [(.int .i64 0), (.int .i64 0)] []),
  .eff (.st 2 (.v 5) (.v 0)),
  .op (.mov (.c (.int .i64 1)))]) [0] 2)
 (.ret [.cells 5 2, .v 0]))
 (.seq (.post (.reg [.op (.ldn 11 (.v 1)),
  .nop 8,
  .nop 9,
  .op (.call 40 [(.v 0), (.v 8), (.v 9)]),
  .op (.una .not (.v 0)),
  .nop 0]) [0] 3)
 (.cond (.v 0) (.seq (.post (.reg [.op (.build [(.int .i64 0), (.int .i64 0)] []),
  .eff (.st 2 (.v 6) (.v 0)),
  .op (.mov (.c (.int .i64 2)))]) [0] 2)
 (.ret [.cells 6 2, .v 0]))
 .skip)))) [4] 2))
 (.seq (.post (.reg [.op (.ldn 11 (.v 1)),
  .nop 8,
  .nop 9,
  .op (.call 41 [(.v 0), (.v 8), (.v 9)]),
  .eff (.st 2 (.v 6) (.v 0)),
  .op (.mov (.c (.int .i64 0)))]) [0] 3)
 (.ret [.cells 5 2, .v 0])))))⟩

/-- tegula/tegularef21.Is -/
def ac16 : AFn := ⟨3, [],
 (.seq (.reg [.op (.box (.v 0)),
  .op (.mov (.c (.bool false)))])
 (.seq (.post (.reg [.nop 3,
  .op (.bin .geq 3 (.v 3) (.c (.int .i64 0))),
  .nop 0,
  .opg (.mov (.v 4)) 0 true,
  .opg (.ldn 4 (.v 3)) 1 true,
  .opg (.call 22 [(.v 0)]) 2 true,
  .opg (.bin .lss 3 (.v 2) (.v 0)) 3 true,
  .op (.pick (.v 4) (.v 0) (.c (.bool false))),
  .nop 0,
  .opg (.mov (.v 10)) 0 true,
  .opg (.bin .geq 3 (.v 0) (.c (.int .i64 0))) 1 true,
  .op (.pick (.v 2) (.v 0) (.c (.bool false))),
  .nop 0,
  .opg (.mov (.v 13)) 0 true,
  .opg (.ldn 4 (.v 11)) 1 true,
  .opg (.call 23 [(.v 0)]) 2 true,
  .opg (.bin .lss 3 (.v 2) (.v 0)) 3 true,
  .op (.pick (.v 4) (.v 0) (.c (.bool false))),
  .nop 0]) [0] 14)
 (.ret [.v 0])))⟩

def ac17L0b : AC :=
 (.post (.seq (.seq (.reg [.nop 2,
  .nop 9,
  .op (.bin .lss 3 (.v 2) (.v 9))])
 (.cond (.v 0) .skip
 (.pre [1, 2] 4 (.exit 0))))
 (.seq (.block 1 [[11], [12], [40], [], [], [13, 38], [], [], [], [37, 10], [23, 9, 27], [20, 8, 31], [17, 7, 19, 22, 39], [6], [3], [0], [1, 18, 21], [2, 30]] (.post (.seq (.reg [.op (.fld 0 (.v 12)),
  .op (.fld 1 (.v 0)),
  .op (.ld1 (.v 0)),
  .nop 6,
  .op (.idx 1 (.v 0) (.v 6)),
  .op (.ld1 (.v 0)),
  .nop 12,
  .op (.call 42 [(.v 0), (.v 12)])])
 (.cond (.v 0) (.post (.seq (.reg [.nop 7,
  .op (.bin .add 3 (.v 7) (.c (.int .i64 1))),
  .nop 0])
 (.seq (.reg [.nop 10,
  .nop 15,
  .op (.bin .lss 3 (.v 10) (.v 15))])
 (.cond (.v 0) (.reg [.nop 10,
  .op (.bin .add 3 (.v 10) (.c (.int .i64 1))),
  .nop 0])
 (.post .skip [10] 0)))) [2, 0] 3)
 (.post .skip [7, 8] 0))) [0, 1] 8))
 (.reg [.nop 5,
  .op (.bin .add 3 (.v 5) (.c (.int .i64 1))),
  .nop 0]))) [1, 2, 0] 7)
def ac17L0 : AC := .loop [[11], [12], [13], [], [], [], [37, 10], [23, 9, 27], [20, 8, 31], [17, 7, 19, 22], [6], [3], [0], [1, 18, 21], [2, 30]] ac17L0b
/-- tegula/tegularef21.Home -/
def ac17 : AFn := ⟨3, [],
 (.seq (.reg [.op (.box (.v 0)),
  .op (.new [(.int .i64 0), (.int .i64 0)])])
 (.seq (.post (.reg [.op (.fld 0 (.v 1)),
  .op (.fld 1 (.v 0)),
  .op (.ld1 (.v 0)),
  .op (.len false (.v 0)),
  .nop 0]) [0] 4)
 (.seq (.regD [.nop 4,
  .nop 0,
  .op (.bin .quo 3 (.v 4) (.v 0)),
  .nop 5,
  .nop 1,
  .op (.bin .rem 3 (.v 5) (.v 1)),
  .nop 1,
  .nop 0] [0, 0, 3, 0, 0, 24, 7, 127])
 (.seq (.post (.regD [.op (.fld 0 (.v 4)),
  .op (.fld 1 (.v 0)),
  .op (.ld1 (.v 0)),
  .nop 3,
  .op (.idx 1 (.v 0) (.v 3)),
  .op (.ld1 (.v 0)),
  .nop 12,
  .nop 6,
  .op (.bin .add 3 (.v 12) (.v 6)),
  .op (.ldn 4 (.v 10)),
  .op (.call 23 [(.v 0)]),
  .op (.bin .rem 3 (.v 2) (.v 0)),
  .op (.idx 1 (.v 4) (.v 0)),
  .op (.ld1 (.v 0)),
  .nop 0] [0, 1, 3, 0, 15, 31, 0, 0, 192, 0, 512, 1984, 4095, 8191, 16383]) [0] 11)
 (.seq (.reg [.op (.mov (.c (.int .i64 0))),
  .op (.mov (.c (.int .i64 0)))])
 (.seq (.seq (.reg [.op (.mov (.c (.int .i64 0)))])
 (.block 0 [[11], [12], [], [], [], [37, 10], [23, 9, 27], [20, 8, 31], [17, 7, 19, 22], [6], [3], [0], [1, 18, 21], [2, 30]] (.pre [2, 1, 0] 0 ac17L0)))
 (.seq (.post (.reg [.nop 5,
  .nop 7,
  .nop 0,
  .op (.bin .mul 3 (.v 7) (.v 0)),
  .nop 2,
  .op (.bin .add 3 (.v 0) (.v 2)),
  .op (.build [(.int .i64 0), (.int .i64 0)] [(0, 1, (.v 7)), (1, 1, (.v 0))]),
  .eff (.st 2 (.v 12) (.v 0))]) [] 3)
 (.ret [.cells 9 2]))))))))⟩

/-- tegula/layout.At -/
def ac18 : AFn := ⟨2, [],
 (.seq (.reg [.op (.box (.v 0)),
  .op (.box (.v 2)),
  .op (.mov (.c (.int .i64 0))),
  .op (.mov (.c (.int .i64 0))),
  .op (.mov (.c (.int .i64 0)))])
 (.seq (.post (.reg [.op (.ldn 4 (.v 4)),
  .op (.call 39 [(.v 0)]),
  .nop 0,
  .op (.extr 0 (.v 0)),
  .op (.extr 1 (.v 1)),
  .op (.new [(.int .i64 0), (.slice none 0 0), (.int .i64 0), (.int .i64 0), (.int .i64 0), (.int .i64 0), (.int .i64 0), (.slice none 0 0), (.slice none 0 0), (.int .i64 0), (.int .i64 0)]),
  .eff (.st 11 (.v 0) (.v 2)),
  .nop 1]) [0, 1] 5)
 (.seq (.block 0 [[4], [5], [6], [7], [14, 8], [], [], [], [3], [2], [0], [1]] (.post (.seq (.reg [.nop 1,
  .op (.una .not (.v 1)),
  .nop 0])
 (.cond (.v 0) (.seq (.reg [.op (.mov (.c (.int .i64 0))),
  .op (.mov (.c (.int .i64 0))),
  .op (.mov (.c (.int .i64 1)))])
 (.ret [.v 2, .v 1, .v 0]))
 (.seq (.post (.reg [.op (.fld 0 (.v 6)),
  .op (.ld1 (.v 0)),
  .op (.bin .lss 3 (.v 0) (.c (.int .i64 0))),
  .nop 0,
  .opg (.fld 0 (.v 9)) 0 false,
  .opg (.ld1 (.v 0)) 1 false,
  .opg (.fld 0 (.v 12)) 2 false,
  .opg (.fld 0 (.v 0)) 3 false,
  .opg (.ld1 (.v 0)) 4 false,
  .opg (.bin .geq 3 (.v 3) (.v 0)) 5 false,
  .op (.pick (.v 6) (.c (.bool true)) (.v 0)),
  .nop 0,
  .opg (.fld 1 (.v 16)) 0 false,
  .opg (.ld1 (.v 0)) 1 false,
  .opg (.bin .lss 3 (.v 0) (.c (.int .i64 0))) 2 false,
  .op (.pick (.v 3) (.c (.bool true)) (.v 0)),
  .nop 0,
  .opg (.fld 1 (.v 20)) 0 false,
  .opg (.ld1 (.v 0)) 1 false,
  .opg (.fld 10 (.v 17)) 2 false,
  .opg (.ld1 (.v 0)) 3 false,
  .opg (.bin .geq 3 (.v 2) (.v 0)) 4 false,
  .op (.pick (.v 5) (.c (.bool true)) (.v 0)),
  .nop 0]) [0] 20)
 (.cond (.v 0) (.seq (.reg [.op (.mov (.c (.int .i64 0))),
  .op (.mov (.c (.int .i64 0))),
  .op (.mov (.c (.int .i64 2)))])
 (.ret [.v 2, .v 1, .v 0]))
 (.seq (.post (.reg [.op (.fld 1 (.v 7)),
  .op (.ld1 (.v 0)),
  .op (.fld 9 (.v 4)),
  .op (.ld1 (.v 0)),
  .op (.bin .geq 3 (.v 2) (.v 0)),
  .nop 0]) [0] 5)
 (.cond (.v 0) (.seq (.reg [.op (.mov (.c (.int .i64 0))),
  .op (.mov (.c (.int .i64 0))),
  .op (.mov (.c (.int .i64 9)))])
 (.ret [.v 2, .v 1, .v 0]))
 .skip)))))) [7, 6, 5] 3))
 (.seq (.post (.reg [.op (.ldn 11 (.v 3)),
  .op (.fld 0 (.v 9)),
  .op (.ld1 (.v 0)),
  .op (.fld 1 (.v 11)),
  .op (.ld1 (.v 0)),
  .op (.call 43 [(.v 4), (.v 2), (.v 0)]),
  .op (.new [(.int .i64 0), (.int .i64 0)]),
  .eff (.st 2 (.v 0) (.v 1))]) [0] 7)
 (.seq (.post (.regD [.op (.fld 0 (.v 0)),
  .op (.ld1 (.v 0)),
  .op (.fld 1 (.v 2)),
  .op (.ld1 (.v 0)),
  .nop 2,
  .nop 0,
  .op (.mov (.c (.int .i64 0)))] [0, 1, 0, 4, 3, 31, 63]) [0, 1, 3] 5)
 (.ret [.v 2, .v 1, .v 0]))))))⟩

/-- tegula/tegularef21.Blocks -/
def ac19 : AFn := ⟨1, [],
 (.seq (.reg [.op (.box (.v 0)),
  .op (.mov (.c (.int .i64 0)))])
 (.seq (.post (.regD [.op (.ldn 4 (.v 1)),
  .op (.call 21 [(.v 0)]),
  .op (.fld 3 (.v 3)),
  .op (.ld1 (.v 0)),
  .op (.bin .add 3 (.v 2) (.v 0)),
  .nop 0] [0, 1, 0, 4, 15, 31]) [0] 5)
 (.ret [.v 0])))⟩

def ac20L0b : AC :=
 (.post (.seq (.seq (.reg [.nop 3,
  .op (.ldn 4 (.v 17)),
  .op (.call 23 [(.v 0)]),
  .op (.bin .lss 3 (.v 5) (.v 0))])
 (.cond (.v 0) .skip
 (.pre [3, 4, 5, 6] 7 (.exit 2))))
 (.seq (.block 3 [[4], [5], [6], [18], [17], [16], [], [], [], [8, 15], [], [12], [11], [10], [], [], [], [7, 9], [], [], [], [], [3], [2], [0], [1]] (.post (.seq (.regD [.op (.ldn 4 (.v 20)),
  .nop 15,
  .nop 7,
  .op (.call 17 [(.v 0), (.v 15), (.v 7)]),
  .op (.ldn 2 (.v 21)),
  .op (.bin .eql 31 (.v 1) (.v 0))] [0, 0, 0, 7, 0, 31])
 (.cond (.v 0) (.seq (.reg [.nop 18,
  .nop 10,
  .nop 18,
  .nop 10,
  .op (.mov (.c (.bool true)))])
 (.ret [.v 19, .v 11, .v 0]))
 .skip)) [7, 8, 9] 4))
 (.reg [.nop 9,
  .op (.bin .add 3 (.v 9) (.c (.int .i64 1))),
  .nop 0]))) [1, 2, 3, 0] 11)
def ac20L0 : AC := .loop [[4], [5], [6], [8], [], [12], [11], [10], [], [], [], [7, 9], [], [], [], [], [3], [2], [0], [1]] ac20L0b
def ac20L1b : AC :=
 (.post (.seq (.seq (.reg [.nop 3,
  .op (.ldn 4 (.v 9)),
  .op (.call 22 [(.v 0)]),
  .op (.bin .lss 3 (.v 5) (.v 0))])
 (.cond (.v 0) .skip
 (.pre [3, 4, 5] 7 (.exit 0))))
 (.seq (.block 1 [[4], [5], [6], [12], [11], [10], [], [], [], [7, 9], [], [], [], [], [3], [2], [0], [1]] (.post (.seq (.reg [.op (.mov (.c (.int .i64 0)))])
 (.block 2 [[4], [5], [6], [8], [], [12], [11], [10], [], [], [], [7, 9], [], [], [], [], [3], [2], [0], [1]] (.pre [4, 5, 6, 0] 0 ac20L0))) [0, 1, 2] 5))
 (.reg [.nop 9,
  .op (.bin .add 3 (.v 9) (.c (.int .i64 1))),
  .nop 0]))) [1, 2, 3, 0] 11)
def ac20L1 : AC := .loop [[4], [5], [6], [7], [], [], [], [], [3], [2], [0], [1]] ac20L1b
/-- tegula/tegularef21.At -/
def ac20 : AFn := ⟨2, [],
 (.seq (.reg [.op (.box (.v 0)),
  .op (.box (.v 2)),
  .op (.mov (.c (.int .i64 0))),
  .op (.mov (.c (.int .i64 0))),
  .op (.mov (.c (.bool false)))])
 (.seq (.seq (.reg [.op (.mov (.c (.int .i64 0)))])
 (.block 0 [[4], [5], [6], [], [], [], [], [3], [2], [0], [1]] (.pre [3, 2, 1, 0] 0 ac20L1)))
 (.seq (.reg [.op (.mov (.c (.int .i64 0))),
  .op (.mov (.c (.int .i64 0))),
  .op (.mov (.c (.bool false)))])
 (.ret [.v 2, .v 1, .v 0]))))⟩

/-- tegula/tegularef21.Homes -/
def ac21 : AFn := ⟨1, [],
 (.seq (.reg [.op (.box (.v 0)),
  .op (.mov (.c (.int .i64 0)))])
 (.seq (.post (.reg [.op (.fld 0 (.v 1)),
  .op (.ldn 2 (.v 0)),
  .op (.call 44 [(.v 0)]),
  .nop 0,
  .op (.extr 0 (.v 0)),
  .op (.extr 1 (.v 1)),
  .op (.extr 2 (.v 2)),
  .nop 2,
  .nop 1,
  .nop 0]) [2] 6)
 (.seq (.post (.reg [.op (.fld 2 (.v 2)),
  .op (.ld1 (.v 0)),
  .nop 2,
  .op (.bin .mul 3 (.v 0) (.v 2)),
  .nop 0]) [0] 3)
 (.ret [.v 0]))))⟩

/-- tegula/tegularef21.Groups -/
def ac22 : AFn := ⟨1, [],
 (.seq (.reg [.op (.box (.v 0)),
  .op (.mov (.c (.int .i64 0)))])
 (.seq (.post (.reg [.op (.fld 2 (.v 1)),
  .op (.ld1 (.v 0)),
  .op (.fld 0 (.v 3)),
  .op (.fld 1 (.v 0)),
  .op (.ld1 (.v 0)),
  .op (.len false (.v 0)),
  .op (.bin .mul 3 (.v 4) (.v 0)),
  .nop 0]) [0] 7)
 (.ret [.v 0])))⟩

/-- tegula/tegularef21.Width -/
def ac23 : AFn := ⟨1, [],
 (.seq (.reg [.op (.box (.v 0)),
  .op (.mov (.c (.int .i64 0)))])
 (.seq (.post (.reg [.op (.fld 0 (.v 1)),
  .op (.fld 1 (.v 0)),
  .op (.ld1 (.v 0)),
  .op (.idx 1 (.v 0) (.c (.int .i64 0))),
  .op (.ld1 (.v 0)),
  .op (.len false (.v 0)),
  .nop 0]) [0] 6)
 (.ret [.v 0])))⟩

/-- tegula/layout.Blocks -/
def ac24 : AFn := ⟨1, [],
 (.seq (.reg [.op (.box (.v 0)),
  .op (.mov (.c (.int .i64 0)))])
 (.seq (.post (.reg [.op (.ldn 4 (.v 1)),
  .op (.call 39 [(.v 0)]),
  .nop 0,
  .op (.extr 0 (.v 0)),
  .op (.extr 1 (.v 1)),
  .op (.new [(.int .i64 0), (.slice none 0 0), (.int .i64 0), (.int .i64 0), (.int .i64 0), (.int .i64 0), (.int .i64 0), (.slice none 0 0), (.slice none 0 0), (.int .i64 0), (.int .i64 0)]),
  .eff (.st 11 (.v 0) (.v 2)),
  .nop 1]) [0] 5)
 (.seq (.post (.reg [.op (.fld 10 (.v 0)),
  .op (.ld1 (.v 0)),
  .nop 0]) [0] 2)
 (.ret [.v 0]))))⟩

/-- tegula/layout.Groups -/
def ac25 : AFn := ⟨1, [],
 (.seq (.reg [.op (.box (.v 0)),
  .op (.mov (.c (.int .i64 0)))])
 (.seq (.post (.reg [.op (.ldn 4 (.v 1)),
  .op (.call 39 [(.v 0)]),
  .nop 0,
  .op (.extr 0 (.v 0)),
  .op (.extr 1 (.v 1)),
  .op (.new [(.int .i64 0), (.slice none 0 0), (.int .i64 0), (.int .i64 0), (.int .i64 0), (.int .i64 0), (.int .i64 0), (.slice none 0 0), (.slice none 0 0), (.int .i64 0), (.int .i64 0)]),
  .eff (.st 11 (.v 0) (.v 2)),
  .nop 1]) [0] 5)
 (.seq (.post (.reg [.op (.ldn 11 (.v 0)),
  .op (.call 45 [(.v 0)]),
  .nop 0]) [0] 2)
 (.ret [.v 0]))))⟩

/-- tegula/layout.Width -/
def ac26 : AFn := ⟨1, [],
 (.seq (.reg [.op (.box (.v 0)),
  .op (.mov (.c (.int .i64 0)))])
 (.seq (.post (.reg [.op (.ldn 4 (.v 1)),
  .op (.call 39 [(.v 0)]),
  .nop 0,
  .op (.extr 0 (.v 0)),
  .op (.extr 1 (.v 1)),
  .op (.new [(.int .i64 0), (.slice none 0 0), (.int .i64 0), (.int .i64 0), (.int .i64 0), (.int .i64 0), (.int .i64 0), (.slice none 0 0), (.slice none 0 0), (.int .i64 0), (.int .i64 0)]),
  .eff (.st 11 (.v 0) (.v 2)),
  .nop 1]) [0] 5)
 (.seq (.post (.reg [.op (.fld 4 (.v 0)),
  .op (.ld1 (.v 0)),
  .nop 0]) [0] 2)
 (.ret [.v 0]))))⟩

def ac27L0b : AC :=
 (.post (.seq (.seq (.reg [.nop 1,
  .op (.fld 0 (.v 5)),
  .op (.fld 1 (.v 0)),
  .op (.ld1 (.v 0)),
  .op (.len false (.v 0)),
  .op (.bin .lss 3 (.v 5) (.v 0))])
 (.cond (.v 0) .skip
 (.pre [5] 7 (.exit 0))))
 (.seq (.block 1 [[2], [14], [13], [12], [11], [10], [], [3, 9], [], [8], [], [1], [0]] (.post (.seq (.reg [.op (.fld 0 (.v 10)),
  .op (.fld 1 (.v 0)),
  .op (.ld1 (.v 0)),
  .nop 9,
  .op (.idx 1 (.v 0) (.v 9)),
  .op (.ld1 (.v 0)),
  .op (.len false (.v 0)),
  .op (.bin .gtr 3 (.v 0) (.c (.int .i64 20)))])
 (.cond (.v 0) (.seq (.reg [.op (.mov (.c (.bool false)))])
 (.ret [.v 0]))
 .skip)) [12] 7))
 (.reg [.nop 7,
  .op (.bin .add 3 (.v 7) (.c (.int .i64 1))),
  .nop 0]))) [1, 0] 9)
def ac27L0 : AC := .loop [[2], [3], [], [8], [], [1], [0]] ac27L0b
/-- tegula/tegulalaw21.few -/
def ac27 : AFn := ⟨1, [],
 (.seq (.reg [.op (.box (.v 0)),
  .op (.mov (.c (.bool false)))])
 (.seq (.seq (.post (.reg [.op (.fld 0 (.v 1)),
  .op (.fld 1 (.v 0)),
  .op (.ld1 (.v 0)),
  .op (.len false (.v 0)),
  .op (.bin .gtr 3 (.v 0) (.c (.int .i64 60)))]) [0] 5)
 (.cond (.v 0) (.seq (.reg [.op (.mov (.c (.bool false)))])
 (.ret [.v 0]))
 .skip))
 (.seq (.seq (.reg [.op (.mov (.c (.int .i64 0)))])
 (.block 0 [[2], [], [8], [], [1], [0]] (.pre [2, 0] 0 ac27L0)))
 (.seq (.reg [.op (.mov (.c (.bool true)))])
 (.ret [.v 0])))))⟩

/-- tegula/layout.Valid -/
def ac28 : AFn := ⟨1, [],
 (.seq (.reg [.op (.box (.v 0)),
  .op (.mov (.c (.bool false)))])
 (.seq (.post (.reg [.op (.ldn 4 (.v 1)),
  .op (.call 39 [(.v 0)]),
  .nop 0,
  .op (.extr 0 (.v 0)),
  .op (.extr 1 (.v 1)),
  .op (.new [(.int .i64 0), (.slice none 0 0), (.int .i64 0), (.int .i64 0), (.int .i64 0), (.int .i64 0), (.int .i64 0), (.slice none 0 0), (.slice none 0 0), (.int .i64 0), (.int .i64 0)]),
  .eff (.st 11 (.v 0) (.v 2)),
  .nop 1]) [1] 5)
 (.seq (.reg [.nop 0,
  .nop 0])
 (.ret [.v 0]))))⟩

/-- tegula/tegularef21.Valid -/
def ac29 : AFn := ⟨1, [],
 (.seq (.reg [.op (.box (.v 0)),
  .op (.mov (.c (.bool false)))])
 (.seq (.post (.reg [.op (.fld 0 (.v 1)),
  .op (.ldn 2 (.v 0)),
  .op (.call 44 [(.v 0)]),
  .nop 0,
  .op (.extr 0 (.v 0)),
  .op (.extr 1 (.v 1)),
  .op (.extr 2 (.v 2)),
  .nop 2,
  .nop 1,
  .nop 0]) [0, 2] 6)
 (.seq (.seq (.post (.reg [.nop 0,
  .op (.una .not (.v 0)),
  .nop 0,
  .opg (.fld 2 (.v 4)) 0 false,
  .opg (.ld1 (.v 0)) 1 false,
  .opg (.bin .lss 3 (.v 0) (.c (.int .i64 1))) 2 false,
  .op (.pick (.v 3) (.c (.bool true)) (.v 0)),
  .nop 0,
  .opg (.fld 2 (.v 8)) 0 false,
  .opg (.ld1 (.v 0)) 1 false,
  .opg (.bin .gtr 3 (.v 0) (.c (.int .i64 256))) 2 false,
  .op (.pick (.v 3) (.c (.bool true)) (.v 0)),
  .nop 0,
  .opg (.fld 3 (.v 12)) 0 false,
  .opg (.ld1 (.v 0)) 1 false,
  .opg (.bin .lss 3 (.v 0) (.c (.int .i64 0))) 2 false,
  .op (.pick (.v 3) (.c (.bool true)) (.v 0)),
  .nop 0,
  .opg (.fld 3 (.v 16)) 0 false,
  .opg (.ld1 (.v 0)) 1 false,
  .opg (.bin .gtr 3 (.v 0) (.c (.int .i64 65536))) 2 false,
  .op (.pick (.v 3) (.c (.bool true)) (.v 0))]) [0] 17)
 (.cond (.v 0) (.seq (.reg [.op (.mov (.c (.bool false)))])
 (.ret [.v 0]))
 .skip))
 (.seq (.post (.reg [.op (.fld 0 (.v 4)),
  .op (.fld 1 (.v 0)),
  .op (.ld1 (.v 0)),
  .op (.idx 1 (.v 0) (.c (.int .i64 0))),
  .op (.ld1 (.v 0)),
  .op (.len false (.v 0)),
  .nop 0]) [0] 6)
 (.seq (.post (.reg [.op (.fld 2 (.v 5)),
  .op (.ld1 (.v 0)),
  .op (.fld 0 (.v 7)),
  .op (.fld 1 (.v 0)),
  .op (.ld1 (.v 0)),
  .op (.len false (.v 0)),
  .op (.bin .mul 3 (.v 4) (.v 0)),
  .nop 0]) [0] 7)
 (.seq (.post (.reg [.nop 1,
  .op (.bin .geq 3 (.v 1) (.c (.int .i64 4))),
  .nop 0,
  .opg (.mov (.v 2)) 0 true,
  .opg (.bin .leq 3 (.v 0) (.c (.int .i64 16))) 1 true,
  .op (.pick (.v 2) (.v 0) (.c (.bool false))),
  .nop 0,
  .opg (.mov (.v 4)) 0 true,
  .opg (.bin .leq 3 (.v 0) (.c (.int .i64 4096))) 1 true,
  .op (.pick (.v 2) (.v 0) (.c (.bool false))),
  .nop 0,
  .opg (.mov (.v 7)) 0 true,
  .opg (.mov (.v 9)) 1 true,
  .opg (.bin .sub 3 (.v 0) (.c (.int .i64 3))) 2 true,
  .opg (.bin .mul 3 (.v 2) (.v 0)) 3 true,
  .opg (.bin .leq 3 (.v 0) (.c (.int .i64 65536))) 4 true,
  .op (.pick (.v 5) (.v 0) (.c (.bool false))),
  .nop 0,
  .opg (.fld 2 (.v 19)) 0 true,
  .opg (.ld1 (.v 0)) 1 true,
  .opg (.mov (.v 19)) 2 true,
  .opg (.bin .mul 3 (.v 1) (.v 0)) 3 true,
  .opg (.fld 3 (.v 23)) 4 true,
  .opg (.ld1 (.v 0)) 5 true,
  .opg (.bin .add 3 (.v 2) (.v 0)) 6 true,
  .opg (.bin .leq 3 (.v 0) (.c (.int .i64 65536))) 7 true,
  .op (.pick (.v 8) (.v 0) (.c (.bool false))),
  .nop 0]) [0] 22)
 (.ret [.v 0])))))))⟩

/-- tegula/layout.Data -/
def ac30 : AFn := ⟨1, [],
 (.seq (.reg [.op (.box (.v 0)),
  .op (.mov (.c (.int .i64 0)))])
 (.seq (.post (.reg [.op (.ldn 4 (.v 1)),
  .op (.call 39 [(.v 0)]),
  .nop 0,
  .op (.extr 0 (.v 0)),
  .op (.extr 1 (.v 1)),
  .op (.new [(.int .i64 0), (.slice none 0 0), (.int .i64 0), (.int .i64 0), (.int .i64 0), (.int .i64 0), (.int .i64 0), (.slice none 0 0), (.slice none 0 0), (.int .i64 0), (.int .i64 0)]),
  .eff (.st 11 (.v 0) (.v 2)),
  .nop 1]) [0, 1] 5)
 (.seq (.seq (.reg [.nop 1,
  .op (.una .not (.v 1))])
 (.cond (.v 0) (.seq (.reg [.op (.mov (.c (.int .i64 0)))])
 (.ret [.v 0]))
 .skip))
 (.seq (.post (.reg [.op (.ldn 11 (.v 1)),
  .op (.call 46 [(.v 0)]),
  .nop 0]) [0] 2)
 (.ret [.v 0])))))⟩

/-- tegula/layout.Slots -/
def ac31 : AFn := ⟨1, [],
 (.seq (.reg [.op (.box (.v 0)),
  .op (.mov (.c (.int .i64 0)))])
 (.seq (.post (.regD [.op (.ldn 4 (.v 1)),
  .op (.call 25 [(.v 0)]),
  .op (.ldn 4 (.v 3)),
  .op (.call 30 [(.v 0)]),
  .op (.bin .mul 3 (.v 2) (.v 0)),
  .nop 0] [0, 1, 0, 7, 15, 31]) [0] 5)
 (.ret [.v 0])))⟩

/-- tegula/tegularef21.Slots -/
def ac32 : AFn := ⟨1, [],
 (.seq (.reg [.op (.box (.v 0)),
  .op (.mov (.c (.int .i64 0)))])
 (.seq (.post (.regD [.op (.ldn 4 (.v 1)),
  .op (.call 22 [(.v 0)]),
  .op (.ldn 4 (.v 3)),
  .op (.call 23 [(.v 0)]),
  .op (.bin .sub 3 (.v 0) (.c (.int .i64 3))),
  .op (.bin .mul 3 (.v 3) (.v 0)),
  .nop 0] [0, 1, 0, 7, 15, 31, 63]) [0] 6)
 (.ret [.v 0])))⟩

def ac33L0b : AC :=
 (.post (.seq (.reg [.op (.bin .lss 3 (.v 1) (.v 3))])
 (.seq (.cond (.v 0) .skip
 (.pre [1] 3 (.exit 1)))
 (.seq (.block 2 [[8], [31], [], [30], [], [29], [], [4], [5], [6], [14, 7], [], [], [2], [0], [1]] (.post (.seq (.reg [.nop 2,
  .nop 2])
 (.reg [.nop 1,
  .op (.ldn 11 (.v 8)),
  .nop 15,
  .nop 3,
  .op (.call 43 [(.v 0), (.v 15), (.v 3)]),
  .op (.mkl 2 1 [(.int .i64 0), (.int .i64 0)] [(0, (.v 0))]),
  .op (.app 2 16 (.v 4) (.v 0)),
  .nop 0])) [0] 4))
 (.reg [.op (.bin .add 3 (.v 3) (.c (.int .i64 1))),
  .nop 0])))) [1, 0] 5)
def ac33L0 : AC := .loop [[8], [30], [], [29], [], [4], [5], [6], [14, 7], [], [], [2], [0], [1]] ac33L0b
/-- tegula/layout.OnDisk -/
def ac33 : AFn := ⟨2, [],
 (.seq (.reg [.op (.box (.v 0)),
  .op (.mov (.c (.slice none 0 0))),
  .op (.mov (.c (.int .i64 0)))])
 (.seq (.post (.reg [.op (.ldn 4 (.v 2)),
  .op (.call 39 [(.v 0)]),
  .nop 0,
  .op (.extr 0 (.v 0)),
  .op (.extr 1 (.v 1)),
  .op (.new [(.int .i64 0), (.slice none 0 0), (.int .i64 0), (.int .i64 0), (.int .i64 0), (.int .i64 0), (.int .i64 0), (.slice none 0 0), (.slice none 0 0), (.int .i64 0), (.int .i64 0)]),
  .eff (.st 11 (.v 0) (.v 2)),
  .nop 1]) [0, 1] 5)
 (.seq (.block 0 [[4], [5], [6], [14, 7], [], [], [2], [0], [1]] (.post (.seq (.reg [.nop 1,
  .op (.una .not (.v 1)),
  .nop 0])
 (.cond (.v 0) (.seq (.reg [.op (.mov (.c (.slice none 0 0))),
  .op (.mov (.c (.int .i64 1)))])
 (.ret [.v 1, .v 0]))
 (.seq (.post (.reg [.nop 7,
  .op (.bin .lss 3 (.v 7) (.c (.int .i64 0))),
  .nop 0,
  .opg (.mov (.v 8)) 0 false,
  .opg (.fld 0 (.v 7)) 1 false,
  .opg (.fld 0 (.v 0)) 2 false,
  .opg (.ld1 (.v 0)) 3 false,
  .opg (.bin .geq 3 (.v 3) (.v 0)) 4 false,
  .op (.pick (.v 5) (.c (.bool true)) (.v 0)),
  .nop 0]) [0] 7)
 (.cond (.v 0) (.seq (.reg [.op (.mov (.c (.slice none 0 0))),
  .op (.mov (.c (.int .i64 2)))])
 (.ret [.v 1, .v 0]))
 .skip)))) [5, 4] 2))
 (.seq (.reg [.op (.mov (.c (.slice none 0 0)))])
 (.seq (.seq (.post (.reg [.op (.fld 9 (.v 3)),
  .op (.ld1 (.v 0)),
  .op (.mov (.c (.int .i64 0)))]) [0, 1] 3)
 (.block 1 [[8], [], [29], [], [4], [5], [6], [14, 7], [], [], [2], [0], [1]] (.pre [2, 0] 0 ac33L0)))
 (.seq (.reg [.nop 0,
  .nop 0,
  .op (.mov (.c (.int .i64 0)))])
 (.ret [.v 1, .v 0])))))))⟩

def ac34L0b : AC :=
 (.post (.seq (.reg [.op (.bin .lss 3 (.v 0) (.v 2))])
 (.seq (.cond (.v 0) .skip
 (.pre [1] 2 (.exit 4)))
 (.seq (.block 5 [[36], [35], [], [34], [32, 9], [31], [30], [29], [], [28], [26, 7, 27, 33], [25], [24], [23], [], [22], [21], [5], [19], [4], [3], [2], [1], [0]] (.post (.seq (.reg [.op (.idx 1 (.v 10) (.v 1)),
  .op (.ld1 (.v 0)),
  .nop 0])
 (.regD [.nop 6,
  .nop 0,
  .op (.ida 60 60 (.v 19) (.v 6)),
  .op (.ida 60 1 (.v 0) (.v 1)),
  .op (.ld1 (.v 0)),
  .op (.bin .add 3 (.v 0) (.c (.int .i64 1))),
  .op (.ida 60 60 (.v 23) (.v 10)),
  .op (.ida 60 1 (.v 0) (.v 5)),
  .eff (.st 1 (.v 0) (.v 2))] [0, 0, 1, 7, 15, 31, 1, 127, 255])) [] 8))
 (.reg [.op (.bin .add 3 (.v 1) (.c (.int .i64 1))),
  .nop 0])))) [0] 3)
def ac34L0 : AC := .loop [[35], [], [34], [32, 9], [31], [30], [29], [], [28], [26, 7, 27, 33], [25], [24], [23], [], [22], [21], [5], [19], [4], [3], [2], [1], [0]] ac34L0b
def ac34L1b : AC :=
 (.post (.seq (.reg [.op (.bin .lss 3 (.v 0) (.v 2))])
 (.seq (.cond (.v 0) .skip
 (.pre [1] 2 (.exit 2)))
 (.seq (.block 3 [[30], [29], [], [28], [26, 7, 27], [25], [24], [23], [], [22], [21], [5], [19], [4], [3], [2], [1], [0]] (.post (.seq (.reg [.op (.idx 1 (.v 4) (.v 1)),
  .op (.ld1 (.v 0)),
  .nop 0])
 (.seq (.reg [.nop 6,
  .op (.len false (.v 6)),
  .op (.mov (.c (.int .i64 0)))])
 (.block 4 [[35], [], [34], [32, 9], [31], [30], [29], [], [28], [26, 7, 27, 33], [25], [24], [23], [], [22], [21], [5], [19], [4], [3], [2], [1], [0]] (.pre [0] 0 ac34L0)))) [] 5))
 (.reg [.op (.bin .add 3 (.v 1) (.c (.int .i64 1))),
  .nop 0])))) [0] 3)
def ac34L1 : AC := .loop [[29], [], [28], [26, 7, 27], [25], [24], [23], [], [22], [21], [5], [19], [4], [3], [2], [1], [0]] ac34L1b
def ac34L2b : AC :=
 (.post (.seq (.reg [.op (.bin .lss 3 (.v 0) (.v 2))])
 (.seq (.cond (.v 0) .skip
 (.pre [] 2 (.exit 0)))
 (.seq (.block 1 [[24], [23], [], [22], [21], [5], [19], [4], [3], [2], [1], [0]] (.post (.seq (.reg [.op (.idx 1 (.v 4) (.v 1)),
  .op (.ld1 (.v 0)),
  .nop 0])
 (.seq (.reg [.nop 0,
  .op (.len false (.v 0)),
  .op (.mov (.c (.int .i64 0)))])
 (.block 2 [[29], [], [28], [26, 7, 27], [25], [24], [23], [], [22], [21], [5], [19], [4], [3], [2], [1], [0]] (.pre [0] 0 ac34L1)))) [] 5))
 (.reg [.op (.bin .add 3 (.v 1) (.c (.int .i64 1))),
  .nop 0])))) [0] 3)
def ac34L2 : AC := .loop [[23], [], [22], [21], [5], [19], [4], [3], [2], [1], [0]] ac34L2b
def ac34L3b : AC :=
 (.post (.seq (.reg [.op (.bin .lss 3 (.v 3) (.v 5))])
 (.seq (.cond (.v 0) .skip
 (.pre [1, 2, 3, 4] 5 (.exit 8)))
 (.seq (.block 9 [[2], [3], [4], [64], [], [], [], [63], [], [62], [61], [59], [], [], [], [58, 60, 14], [], [57], [55, 13], [52, 12], [], [22], [21], [5], [19], [], [], [], [1], [0]] (.post (.seq (.reg [.nop 4,
  .nop 4])
 (.seq (.reg [.nop 15,
  .nop 15])
 (.seq (.seq (.reg [.nop 12,
  .nop 4,
  .op (.bin .eql 3 (.v 12) (.v 4))])
 (.cond (.v 0) (.post (.reg [.nop 17,
  .nop 17]) [17] 0)
 (.post .skip [16] 0)))
 (.seq (.reg [.nop 14,
  .nop 6,
  .op (.ida 60 60 (.v 22) (.v 14)),
  .op (.ida 60 1 (.v 0) (.v 7)),
  .op (.ld1 (.v 0)),
  .nop 3,
  .op (.bin .neq 3 (.v 0) (.v 3))])
 (.cond (.v 0) (.seq (.reg [.op (.mov (.c (.int .i64 0))),
  .op (.mov (.c (.int .i64 0))),
  .op (.mov (.c (.int .i64 5)))])
 (.ret [.v 2, .v 1, .v 0]))
 .skip))))) [7, 8, 9] 6))
 (.reg [.op (.bin .add 3 (.v 7) (.c (.int .i64 1))),
  .nop 0])))) [1, 2, 3, 0] 9)
def ac34L3 : AC := .loop [[2], [3], [4], [63], [], [62], [61], [59], [], [], [], [58, 60, 14], [], [57], [55, 13], [52, 12], [], [22], [21], [5], [19], [], [], [], [1], [0]] ac34L3b
def ac34L4b : AC :=
 (.post (.seq (.reg [.op (.bin .lss 3 (.v 3) (.v 5))])
 (.seq (.cond (.v 0) .skip
 (.pre [1, 2, 3] 5 (.exit 6)))
 (.seq (.block 7 [[2], [3], [4], [59], [], [], [], [58], [], [57], [55, 13], [52, 12], [], [22], [21], [5], [19], [], [], [], [1], [0]] (.post (.seq (.reg [.nop 4,
  .nop 4])
 (.seq (.reg [.op (.fld 0 (.v 17)),
  .op (.ld1 (.v 0)),
  .op (.mov (.c (.int .i64 0)))])
 (.block 8 [[2], [3], [4], [63], [], [62], [61], [59], [], [], [], [58, 60, 14], [], [57], [55, 13], [52, 12], [], [22], [21], [5], [19], [], [], [], [1], [0]] (.pre [4, 5, 6, 0] 0 ac34L3)))) [0, 1, 2] 7))
 (.reg [.op (.bin .add 3 (.v 7) (.c (.int .i64 1))),
  .nop 0])))) [1, 2, 3, 0] 9)
def ac34L4 : AC := .loop [[2], [3], [4], [58], [], [57], [55, 13], [52, 12], [], [22], [21], [5], [19], [], [], [], [1], [0]] ac34L4b
/-- tegula/design.Check -/
def ac34 : AFn := ⟨1, [],
 (.seq (.reg [.op (.box (.v 0)),
  .op (.mov (.c (.int .i64 0))),
  .op (.mov (.c (.int .i64 0))),
  .op (.mov (.c (.int .i64 0)))])
 (.seq (.seq (.post (.reg [.op (.ldn 2 (.v 3)),
  .op (.call 47 [(.v 0)]),
  .op (.una .not (.v 0))]) [0] 3)
 (.cond (.v 0) (.seq (.reg [.op (.mov (.c (.int .i64 0))),
  .op (.mov (.c (.int .i64 0))),
  .op (.mov (.c (.int .i64 5)))])
 (.ret [.v 2, .v 1, .v 0]))
 .skip))
 (.seq (.reg [.op (.new (List.replicate 3600 (.int .i64 0)))])
 (.seq (.seq (.post (.reg [.op (.fld 1 (.v 5)),
  .op (.ld1 (.v 0)),
  .op (.len false (.v 0)),
  .op (.mov (.c (.int .i64 0)))]) [0, 1, 2] 4)
 (.block 0 [[], [22], [21], [5], [19], [4], [3], [2], [1], [0]] (.pre [0] 0 ac34L2)))
 (.seq (.post (.regD [.op (.ida 60 60 (.v 3) (.c (.int .i64 0))),
  .op (.ida 60 1 (.v 0) (.c (.int .i64 0))),
  .op (.ld1 (.v 0)),
  .op (.ida 60 60 (.v 6) (.c (.int .i64 0))),
  .op (.ida 60 1 (.v 0) (.c (.int .i64 1))),
  .op (.ld1 (.v 0)),
  .nop 3,
  .nop 0] [0, 1, 3, 0, 8, 24, 7, 127]) [0, 3] 6)
 (.seq (.seq (.post (.reg [.op (.fld 0 (.v 10)),
  .op (.ld1 (.v 0)),
  .op (.mov (.c (.int .i64 0)))]) [0, 1] 3)
 (.block 6 [[2], [3], [4], [], [57], [55, 13], [52, 12], [], [22], [21], [5], [19], [], [], [], [1], [0]] (.pre [11, 10, 9, 0] 0 ac34L4)))
 (.seq (.seq (.reg [.nop 5,
  .op (.bin .lss 3 (.v 5) (.c (.int .i64 1)))])
 (.cond (.v 0) (.seq (.reg [.op (.mov (.c (.int .i64 0))),
  .op (.mov (.c (.int .i64 0))),
  .op (.mov (.c (.int .i64 5)))])
 (.ret [.v 2, .v 1, .v 0]))
 .skip))
 (.seq (.reg [.nop 7,
  .nop 6,
  .nop 7,
  .nop 6,
  .op (.mov (.c (.int .i64 0)))])
 (.ret [.v 8, .v 7, .v 0])))))))))⟩

/-- tegula/layout.Slot -/
def ac35 : AFn := ⟨2, [],
 (.seq (.reg [.op (.box (.v 0)),
  .op (.mov (.c (.int .i64 0))),
  .op (.mov (.c (.int .i64 0))),
  .op (.mov (.c (.int .i64 0)))])
 (.seq (.post (.reg [.op (.ldn 4 (.v 3)),
  .op (.call 39 [(.v 0)]),
  .nop 0,
  .op (.extr 0 (.v 0)),
  .op (.extr 1 (.v 1)),
  .op (.new [(.int .i64 0), (.slice none 0 0), (.int .i64 0), (.int .i64 0), (.int .i64 0), (.int .i64 0), (.int .i64 0), (.slice none 0 0), (.slice none 0 0), (.int .i64 0), (.int .i64 0)]),
  .eff (.st 11 (.v 0) (.v 2)),
  .nop 1]) [0, 1] 5)
 (.seq (.block 0 [[4], [5], [6], [7], [13, 8], [], [], [], [2], [0], [1]] (.post (.seq (.reg [.nop 1,
  .op (.una .not (.v 1)),
  .nop 0])
 (.cond (.v 0) (.seq (.reg [.op (.mov (.c (.int .i64 0))),
  .op (.mov (.c (.int .i64 0))),
  .op (.mov (.c (.int .i64 1)))])
 (.ret [.v 2, .v 1, .v 0]))
 (.seq (.post (.regD [.nop 8,
  .op (.bin .lss 3 (.v 8) (.c (.int .i64 0))),
  .nop 0,
  .opg (.mov (.v 9)) 0 false,
  .opg (.ldn 11 (.v 3)) 1 false,
  .opg (.call 45 [(.v 0)]) 2 false,
  .opg (.ldn 11 (.v 5)) 3 false,
  .opg (.call 46 [(.v 0)]) 4 false,
  .opg (.bin .mul 3 (.v 2) (.v 0)) 5 false,
  .opg (.bin .geq 3 (.v 5) (.v 0)) 6 false,
  .op (.pick (.v 7) (.c (.bool true)) (.v 0)),
  .nop 0] [0, 1, 3, 7, 7, 23, 7, 119, 247, 511, 1023, 2047]) [0] 9)
 (.cond (.v 0) (.seq (.reg [.op (.mov (.c (.int .i64 0))),
  .op (.mov (.c (.int .i64 0))),
  .op (.mov (.c (.int .i64 2)))])
 (.ret [.v 2, .v 1, .v 0]))
 .skip)))) [6, 5, 4] 2))
 (.seq (.post (.regD [.nop 10,
  .op (.ldn 11 (.v 3)),
  .op (.call 46 [(.v 0)]),
  .op (.bin .quo 3 (.v 12) (.v 0)),
  .nop 13,
  .op (.ldn 11 (.v 6)),
  .op (.call 46 [(.v 0)]),
  .op (.bin .rem 3 (.v 15) (.v 0)),
  .nop 3,
  .nop 0,
  .op (.mov (.c (.int .i64 0)))] [0, 0, 2, 7, 0, 0, 38, 118, 111, 511, 1023]) [0, 1, 4] 7)
 (.ret [.v 2, .v 1, .v 0])))))⟩

/-- tegula/layout.Number -/
def ac36 : AFn := ⟨3, [],
 (.seq (.reg [.op (.box (.v 0)),
  .op (.mov (.c (.int .i64 0))),
  .op (.mov (.c (.int .i64 0)))])
 (.seq (.post (.reg [.op (.ldn 4 (.v 2)),
  .op (.call 39 [(.v 0)]),
  .nop 0,
  .op (.extr 0 (.v 0)),
  .op (.extr 1 (.v 1)),
  .op (.new [(.int .i64 0), (.slice none 0 0), (.int .i64 0), (.int .i64 0), (.int .i64 0), (.int .i64 0), (.int .i64 0), (.slice none 0 0), (.slice none 0 0), (.int .i64 0), (.int .i64 0)]),
  .eff (.st 11 (.v 0) (.v 2)),
  .nop 1]) [0, 1] 5)
 (.seq (.block 0 [[6], [7], [8], [14, 9], [], [], [3], [0], [1], [2]] (.post (.seq (.reg [.nop 1,
  .op (.una .not (.v 1)),
  .nop 0])
 (.cond (.v 0) (.seq (.reg [.op (.mov (.c (.int .i64 0))),
  .op (.mov (.c (.int .i64 1)))])
 (.ret [.v 1, .v 0]))
 (.seq (.post (.reg [.op (.ldn 11 (.v 1)),
  .nop 8,
  .nop 9,
  .op (.call 40 [(.v 0), (.v 8), (.v 9)]),
  .op (.una .not (.v 0)),
  .nop 0]) [0] 3)
 (.cond (.v 0) (.seq (.reg [.op (.mov (.c (.int .i64 0))),
  .op (.mov (.c (.int .i64 2)))])
 (.ret [.v 1, .v 0]))
 (.seq (.post (.reg [.nop 9,
  .op (.ldn 11 (.v 2)),
  .op (.call 46 [(.v 0)]),
  .op (.bin .geq 3 (.v 11) (.v 0)),
  .nop 0]) [0] 3)
 (.cond (.v 0) (.seq (.reg [.op (.mov (.c (.int .i64 0))),
  .op (.mov (.c (.int .i64 9)))])
 (.ret [.v 1, .v 0]))
 .skip)))))) [6, 5] 3))
 (.seq (.post (.reg [.nop 8,
  .op (.ldn 11 (.v 2)),
  .op (.call 46 [(.v 0)]),
  .op (.bin .mul 3 (.v 10) (.v 0)),
  .nop 12,
  .op (.bin .add 3 (.v 0) (.v 12)),
  .nop 0,
  .op (.mov (.c (.int .i64 0)))]) [0, 1] 5)
 (.ret [.v 1, .v 0])))))⟩

def ac37L0b : AC :=
 (.post (.seq (.seq (.reg [.nop 0,
  .nop 6,
  .op (.bin .lss 3 (.v 0) (.v 6))])
 (.cond (.v 0) .skip
 (.pre [] 2 (.exit 0))))
 (.seq (.block 1 [[16], [7, 14], [], [13, 6], [5], [4], [0, 10], [1, 12, 15]] (.post (.reg [.nop 3,
  .nop 1,
  .nop 1,
  .op (.idx 1 (.v 3) (.v 1)),
  .eff (.st 1 (.v 0) (.v 2))]) [] 1))
 (.reg [.nop 1,
  .op (.bin .add 3 (.v 1) (.c (.int .i64 1))),
  .nop 0]))) [0] 3)
def ac37L0 : AC := .loop [[7], [], [13, 6], [5], [4], [0, 10], [1, 12]] ac37L0b
def ac37L1b : AC :=
 (.post (.seq (.seq (.reg [.nop 0,
  .op (.bin .geq 3 (.v 0) (.c (.int .i64 0))),
  .nop 0,
  .opg (.mov (.v 11)) 0 true,
  .opg (.mov (.v 2)) 1 true,
  .opg (.idx 1 (.v 1) (.v 0)) 2 true,
  .opg (.ld1 (.v 0)) 3 true,
  .opg (.mov (.v 18)) 4 true,
  .opg (.mov (.v 20)) 5 true,
  .opg (.bin .sub 3 (.v 1) (.v 0)) 6 true,
  .opg (.mov (.v 8)) 7 true,
  .opg (.bin .add 3 (.v 1) (.v 0)) 8 true,
  .opg (.bin .eql 3 (.v 5) (.v 0)) 9 true,
  .op (.pick (.v 10) (.v 0) (.c (.bool false)))])
 (.cond (.v 0) .skip
 (.pre [12] 13 (.exit 4))))
 (.block 5 [[8], [46], [45], [44], [43], [42], [41], [40], [39], [38], [37], [36], [34, 35], [33], [32], [30], [29], [28], [27], [25], [24], [23], [], [13, 6, 26], [5], [4], [0, 10], [1, 12, 31]] (.reg [.nop 12,
  .op (.bin .sub 3 (.v 12) (.c (.int .i64 1))),
  .nop 0]))) [0] 14)
def ac37L1 : AC := .loop [[8], [32], [30], [29], [28], [27], [25], [24], [23], [], [13, 6, 26], [5], [4], [0, 10], [1, 12, 31]] ac37L1b
def ac37L2b : AC :=
 (.post (.seq (.seq (.reg [.nop 0,
  .nop 21,
  .op (.bin .lss 3 (.v 0) (.v 21))])
 (.cond (.v 0) .skip
 (.pre [1] 2 (.exit 6))))
 (.seq (.block 7 [[62], [9, 60], [59], [57], [56], [55], [54], [50], [8, 49, 53, 58], [32], [30], [29], [28], [27], [25], [24], [23], [], [13, 6, 26, 52], [5], [4], [0, 10], [1, 12, 31, 61]] (.post (.reg [.nop 18,
  .nop 1,
  .nop 18,
  .nop 1,
  .op (.bin .sub 3 (.v 1) (.c (.int .i64 1))),
  .op (.idx 1 (.v 19) (.v 0)),
  .op (.ld1 (.v 0)),
  .op (.bin .add 3 (.v 0) (.c (.int .i64 1))),
  .op (.idx 1 (.v 22) (.v 5)),
  .eff (.st 1 (.v 0) (.v 1))]) [] 5))
 (.reg [.nop 1,
  .op (.bin .add 3 (.v 1) (.c (.int .i64 1))),
  .nop 0]))) [0] 3)
def ac37L2 : AC := .loop [[9], [59], [57], [56], [55], [54], [50], [8, 49, 53, 58], [32], [30], [29], [28], [27], [25], [24], [23], [], [13, 6, 26, 52], [5], [4], [0, 10], [1, 12, 31]] ac37L2b
def ac37L3b : AC :=
 (.block 3 [[], [13, 6], [5], [4], [0, 10], [1, 12]] (.post (.seq (.regD [.op (.fld 1 (.v 2)),
  .op (.ld1 (.v 0)),
  .op (.mkl 1 0 [(.int .i64 0)] []),
  .nop 4,
  .op (.app 1 8 (.v 0) (.v 4)),
  .op (.mkl 1 1 [(.slice none 0 0)] [(0, (.v 0))]),
  .op (.app 1 24 (.v 3) (.v 0)),
  .op (.fld 1 (.v 8)),
  .eff (.st 1 (.v 0) (.v 1))] [0, 1, 0, 0, 12, 28, 63, 127, 255])
 (.seq (.reg [.nop 12,
  .op (.bin .sub 3 (.v 12) (.c (.int .i64 1))),
  .nop 0])
 (.seq (.block 4 [[8], [32], [30], [29], [28], [27], [25], [24], [23], [], [13, 6, 26], [5], [4], [0, 10], [1, 12, 31]] (.pre [0] 0 ac37L1))
 (.seq (.seq (.reg [.nop 0,
  .op (.bin .lss 3 (.v 0) (.c (.int .i64 0)))])
 (.cond (.v 0) (.seq (.reg [.op (.ldn 2 (.v 12)),
  .eff (.st 2 (.v 14) (.v 0))])
 (.ret [.cells 14 2]))
 .skip))
 (.seq (.reg [.nop 11,
  .nop 1,
  .op (.idx 1 (.v 11) (.v 1)),
  .op (.ld1 (.v 0)),
  .op (.bin .add 3 (.v 0) (.c (.int .i64 1))),
  .op (.idx 1 (.v 14) (.v 4)),
  .eff (.st 1 (.v 0) (.v 1))])
 (.seq (.reg [.nop 5,
  .op (.bin .add 3 (.v 5) (.c (.int .i64 1))),
  .nop 0])
 (.block 6 [[9], [59], [57], [56], [55], [54], [50], [8, 49, 53, 58], [32], [30], [29], [28], [27], [25], [24], [23], [], [13, 6, 26, 52], [5], [4], [0, 10], [1, 12, 31]] (.pre [0] 0 ac37L2)))))))) [] 16))
def ac37L3 : AC := .loop [[], [13, 6], [5], [4], [0, 10], [1, 12]] ac37L3b
/-- tegula/tegularef07.Complete -/
def ac37 : AFn := ⟨2, [.cells 3 2],
 (.seq (.reg [.op (.new [(.int .i64 0), (.slice none 0 0)])])
 (.seq (.post (.reg [.nop 1,
  .op (.build [(.int .i64 0), (.slice none 0 0)] [(0, 1, (.v 1))]),
  .op (.new [(.int .i64 0), (.slice none 0 0)]),
  .eff (.st 2 (.v 0) (.v 1))]) [0] 2)
 (.seq (.reg [.nop 3,
  .op (.make 1 8 [(.int .i64 0)] (.v 3) (.v 3)),
  .nop 0])
 (.seq (.seq (.reg [.op (.mov (.c (.int .i64 0)))])
 (.block 0 [[], [13, 6], [5], [4], [0, 10], [1, 12]] (.pre [0] 0 ac37L0)))
 (.block 2 [[], [13, 6], [5], [4], [0, 10], [1, 12]] (.pre [] 0 ac37L3))))))⟩

def ac38L0b : AC :=
 (.post (.seq (.seq (.reg [.nop 1,
  .op (.bin .lss 3 (.v 1) (.c (.int .i64 3)))])
 (.cond (.v 0) .skip
 (.pre [1, 2] 3 (.exit 4))))
 (.seq (.block 5 [[8], [28], [], [9, 27], [], [], [24], [23], [6], [7, 21], [], [], [18], [17], [5, 15], [], [4], [11, 3, 12, 16, 22], [2], [0, 10]] (.post (.regD [.nop 18,
  .nop 1,
  .nop 18,
  .nop 16,
  .nop 13,
  .nop 2,
  .op (.idx 3 (.v 16) (.v 13)),
  .op (.ida 3 1 (.v 0) (.v 3)),
  .op (.ld1 (.v 0)),
  .nop 19,
  .nop 11,
  .nop 5,
  .op (.idx 3 (.v 19) (.v 11)),
  .op (.ida 3 1 (.v 0) (.v 6)),
  .op (.ld1 (.v 0)),
  .op (.call 50 [(.v 24), (.v 3), (.v 0)]),
  .op (.call 49 [(.v 25), (.v 8), (.v 0)]),
  .nop 0] [0, 0, 0, 0, 0, 0, 24, 120, 248, 0, 0, 0, 1536, 7680, 15872, 32764, 65535, 131071]) [0] 8))
 (.reg [.nop 3,
  .op (.bin .add 3 (.v 3) (.c (.int .i64 1))),
  .nop 0]))) [1, 0] 5)
def ac38L0 : AC := .loop [[8], [9], [], [], [24], [23], [6], [7, 21], [], [], [18], [17], [5, 15], [], [4], [11, 3, 12, 16, 22], [2], [0, 10]] ac38L0b
def ac38L1b : AC :=
 (.post (.seq (.seq (.reg [.nop 1,
  .nop 9,
  .op (.len false (.v 9)),
  .op (.bin .lss 3 (.v 2) (.v 0))])
 (.cond (.v 0) .skip
 (.pre [2, 3] 4 (.exit 2))))
 (.seq (.block 3 [[6], [24], [23], [], [7, 21], [], [], [18], [17], [5, 15], [], [4], [11, 3, 12, 16, 22], [2], [0, 10]] (.post (.seq (.reg [.op (.mov (.c (.int .i64 0)))])
 (.seq (.seq (.reg [.op (.mov (.c (.int .i64 0)))])
 (.block 4 [[8], [9], [], [], [24], [23], [6], [7, 21], [], [], [18], [17], [5, 15], [], [4], [11, 3, 12, 16, 22], [2], [0, 10]] (.pre [1, 0] 0 ac38L0)))
 (.seq (.reg [.nop 0,
  .op (.bin .eql 3 (.v 0) (.c (.int .i64 0)))])
 (.cond (.v 0) (.post (.reg [.nop 7,
  .nop 8,
  .op (.mkl 1 1 [(.int .i64 0)] [(0, (.v 8))]),
  .op (.app 1 8 (.v 8) (.v 0)),
  .nop 0]) [0] 2)
 (.post .skip [7] 0))))) [0] 6))
 (.reg [.nop 4,
  .op (.bin .add 3 (.v 4) (.c (.int .i64 1))),
  .nop 0]))) [1, 0] 6)
def ac38L1 : AC := .loop [[6], [7], [], [], [18], [17], [5, 15], [], [4], [11, 3, 12, 16], [2], [0, 10]] ac38L1b
def ac38L2b : AC :=
 (.post (.seq (.seq (.reg [.nop 0,
  .nop 3,
  .op (.len false (.v 3)),
  .op (.bin .lss 3 (.v 1) (.v 0))])
 (.cond (.v 0) .skip
 (.pre [] 3 (.exit 0))))
 (.seq (.block 1 [[18], [17], [5, 15], [], [4], [11, 3, 12, 16], [2], [0, 10]] (.post (.seq (.reg [.op (.mov (.c (.slice none 0 0)))])
 (.seq (.seq (.reg [.op (.mov (.c (.int .i64 0)))])
 (.block 2 [[6], [7], [], [], [18], [17], [5, 15], [], [4], [11, 3, 12, 16], [2], [0, 10]] (.pre [1, 0] 0 ac38L1)))
 (.reg [.op (.fld 1 (.v 8)),
  .op (.ld1 (.v 0)),
  .nop 2,
  .op (.mkl 1 1 [(.slice none 0 0)] [(0, (.v 2))]),
  .op (.app 1 24 (.v 1) (.v 0)),
  .op (.fld 1 (.v 12)),
  .eff (.st 1 (.v 0) (.v 1))]))) [] 9))
 (.reg [.nop 2,
  .op (.bin .add 3 (.v 2) (.c (.int .i64 1))),
  .nop 0]))) [0] 4)
def ac38L2 : AC := .loop [[5], [], [4], [11, 3, 12], [2], [0, 10]] ac38L2b
/-- tegula/tegularef06.Projective -/
def ac38 : AFn := ⟨1, [],
 (.seq (.reg [.op (.new [(.int .i64 0), (.slice none 0 0)])])
 (.seq (.reg [.nop 1,
  .op (.call 48 [(.v 1)]),
  .nop 0])
 (.seq (.post (.reg [.nop 0,
  .op (.len false (.v 0)),
  .op (.build [(.int .i64 0), (.slice none 0 0)] [(0, 1, (.v 0))]),
  .op (.new [(.int .i64 0), (.slice none 0 0)]),
  .eff (.st 2 (.v 0) (.v 1))]) [0] 3)
 (.seq (.seq (.reg [.op (.mov (.c (.int .i64 0)))])
 (.block 0 [[], [4], [11, 3, 12], [2], [0, 10]] (.pre [0] 0 ac38L2)))
 (.seq (.post (.reg [.op (.ldn 2 (.v 1)),
  .eff (.st 2 (.v 4) (.v 0))]) [] 1)
 (.ret [.cells 3 2]))))))⟩

def ac39L0b : AC :=
 (.post (.seq (.reg [.op (.bin .lss 3 (.v 1) (.v 3))])
 (.seq (.cond (.v 0) .skip
 (.pre [1, 2] 3 (.exit 2)))
 (.seq (.block 3 [[10], [116], [], [115], [], [114], [], [112, 9, 113], [111], [109], [108, 110, 8], [], [107], [106], [97], [63], [7], [21], [19, 6, 20], [17, 4, 30, 67], [3], [2], [1], [0]] (.post (.seq (.reg [.op (.idx 1 (.v 6) (.v 2)),
  .op (.ld1 (.v 0)),
  .nop 0])
 (.seq (.reg [.nop 3,
  .op (.fld 8 (.v 17)),
  .op (.ld1 (.v 0)),
  .nop 2,
  .op (.idx 1 (.v 0) (.v 2)),
  .op (.ld1 (.v 0)),
  .op (.len false (.v 0)),
  .op (.mkl 1 1 [(.int .i64 0)] [(0, (.v 0))]),
  .op (.app 1 8 (.v 9) (.v 0)),
  .nop 0])
 (.regD [.op (.fld 8 (.v 24)),
  .op (.ld1 (.v 0)),
  .nop 9,
  .op (.fld 8 (.v 26)),
  .op (.ld1 (.v 0)),
  .nop 11,
  .op (.idx 1 (.v 0) (.v 11)),
  .op (.ld1 (.v 0)),
  .nop 24,
  .op (.mkl 1 1 [(.int .i64 0)] [(0, (.v 24))]),
  .op (.app 1 8 (.v 1) (.v 0)),
  .op (.idx 1 (.v 6) (.v 15)),
  .eff (.st 1 (.v 0) (.v 1))] [0, 1, 0, 0, 8, 0, 56, 120, 0, 256, 1016, 2047, 4095]))) [9] 18))
 (.reg [.op (.bin .add 3 (.v 3) (.c (.int .i64 1))),
  .nop 0])))) [1, 0] 5)
def ac39L0 : AC := .loop [[10], [115], [], [114], [], [112, 9, 113], [111], [109], [108, 110, 8], [], [107], [106], [97], [63], [7], [21], [19, 6, 20], [17, 4, 30, 67], [3], [2], [1], [0]] ac39L0b
def ac39L1b : AC :=
 (.post (.seq (.reg [.op (.bin .lss 3 (.v 0) (.v 2))])
 (.seq (.cond (.v 0) .skip
 (.pre [] 2 (.exit 0)))
 (.seq (.block 1 [[109], [108], [], [107], [106], [97], [63], [7], [21], [19, 6, 20], [17, 4, 30, 67], [3], [2], [1], [0]] (.post (.seq (.reg [.nop 1,
  .op (.idx 1 (.v 4) (.v 1)),
  .op (.ld1 (.v 0)),
  .nop 3,
  .nop 0])
 (.seq (.reg [.op (.mov (.c (.slice none 0 0)))])
 (.seq (.seq (.reg [.nop 1,
  .op (.len false (.v 1)),
  .op (.mov (.c (.int .i64 0)))])
 (.block 2 [[10], [115], [], [114], [], [112, 9, 113], [111], [109], [108, 110, 8], [], [107], [106], [97], [63], [7], [21], [19, 6, 20], [17, 4, 30, 67], [3], [2], [1], [0]] (.pre [2, 0] 0 ac39L0)))
 (.reg [.op (.fld 7 (.v 14)),
  .op (.ld1 (.v 0)),
  .nop 2,
  .op (.mkl 1 1 [(.slice none 0 0)] [(0, (.v 2))]),
  .op (.app 1 24 (.v 1) (.v 0)),
  .op (.fld 7 (.v 18)),
  .eff (.st 1 (.v 0) (.v 1))])))) [] 12))
 (.reg [.op (.bin .add 3 (.v 1) (.c (.int .i64 1))),
  .nop 0])))) [0] 3)
def ac39L1 : AC := .loop [[108], [], [107], [106], [97], [63], [7], [21], [19, 6, 20], [17, 4, 30, 67], [3], [2], [1], [0]] ac39L1b
/-- tegula/layout.measure -/
def ac39 : AFn := ⟨1, [],
 (.seq (.reg [.op (.box (.v 0)),
  .op (.new [(.int .i64 0), (.slice none 0 0), (.int .i64 0), (.int .i64 0), (.int .i64 0), (.int .i64 0), (.int .i64 0), (.slice none 0 0), (.slice none 0 0), (.int .i64 0), (.int .i64 0)]),
  .op (.mov (.c (.bool false)))])
 (.seq (.post (.reg [.op (.fld 0 (.v 2)),
  .op (.ldn 2 (.v 0)),
  .op (.call 34 [(.v 0)]),
  .nop 0,
  .op (.extr 0 (.v 0)),
  .op (.extr 1 (.v 1)),
  .op (.extr 2 (.v 2)),
  .nop 2,
  .nop 1,
  .nop 0]) [0, 2] 6)
 (.seq (.seq (.reg [.nop 0,
  .op (.bin .neq 32 (.v 0) (.c (.int .i64 0)))])
 (.cond (.v 0) (.seq (.post (.reg [.op (.build [(.int .i64 0), (.slice none 0 0), (.int .i64 0), (.int .i64 0), (.int .i64 0), (.int .i64 0), (.int .i64 0), (.slice none 0 0), (.slice none 0 0), (.int .i64 0), (.int .i64 0)] []),
  .eff (.st 11 (.v 5) (.v 0)),
  .op (.mov (.c (.bool false)))]) [0] 2)
 (.ret [.cells 5 11, .v 0]))
 .skip))
 (.seq (.post (.regD [.op (.ldn 4 (.v 5)),
  .op (.fld 0 (.v 6)),
  .op (.fld 1 (.v 0)),
  .op (.ld1 (.v 0)),
  .op (.idx 1 (.v 0) (.c (.int .i64 0))),
  .op (.ld1 (.v 0)),
  .op (.len false (.v 0)),
  .nop 9,
  .op (.fld 0 (.v 12)),
  .op (.fld 1 (.v 0)),
  .op (.ld1 (.v 0)),
  .op (.len false (.v 0)),
  .op (.build [(.int .i64 0), (.slice none 0 0), (.int .i64 0), (.int .i64 0), (.int .i64 0), (.int .i64 0), (.int .i64 0), (.slice none 0 0), (.slice none 0 0), (.int .i64 0), (.int .i64 0)] [(0, 4, (.v 10)), (4, 1, (.v 4)), (5, 1, (.v 13)), (6, 1, (.v 0))]),
  .op (.new [(.int .i64 0), (.slice none 0 0), (.int .i64 0), (.int .i64 0), (.int .i64 0), (.int .i64 0), (.int .i64 0), (.slice none 0 0), (.slice none 0 0), (.int .i64 0), (.int .i64 0)]),
  .eff (.st 11 (.v 0) (.v 1))] [0, 0, 2, 6, 14, 30, 62, 0, 0, 256, 768, 1792, 4095, 0, 16383]) [0] 13)
 (.seq (.seq (.post (.reg [.op (.fld 4 (.v 0)),
  .op (.ld1 (.v 0)),
  .op (.bin .leq 3 (.v 0) (.c (.int .i64 3))),
  .nop 0,
  .opg (.fld 4 (.v 3)) 0 false,
  .opg (.ld1 (.v 0)) 1 false,
  .opg (.bin .gtr 3 (.v 0) (.c (.int .i64 16))) 2 false,
  .op (.pick (.v 3) (.c (.bool true)) (.v 0)),
  .nop 0,
  .opg (.fld 2 (.v 13)) 0 false,
  .opg (.ld1 (.v 0)) 1 false,
  .opg (.bin .lss 3 (.v 0) (.c (.int .i64 1))) 2 false,
  .op (.pick (.v 3) (.c (.bool true)) (.v 0)),
  .nop 0,
  .opg (.fld 2 (.v 17)) 0 false,
  .opg (.ld1 (.v 0)) 1 false,
  .opg (.bin .gtr 3 (.v 0) (.c (.int .i64 256))) 2 false,
  .op (.pick (.v 3) (.c (.bool true)) (.v 0)),
  .nop 0,
  .opg (.fld 3 (.v 21)) 0 false,
  .opg (.ld1 (.v 0)) 1 false,
  .opg (.bin .lss 3 (.v 0) (.c (.int .i64 0))) 2 false,
  .op (.pick (.v 3) (.c (.bool true)) (.v 0)),
  .nop 0,
  .opg (.fld 3 (.v 25)) 0 false,
  .opg (.ld1 (.v 0)) 1 false,
  .opg (.bin .gtr 3 (.v 0) (.c (.int .i64 65536))) 2 false,
  .op (.pick (.v 3) (.c (.bool true)) (.v 0))]) [0] 23)
 (.cond (.v 0) (.seq (.post (.reg [.op (.build [(.int .i64 0), (.slice none 0 0), (.int .i64 0), (.int .i64 0), (.int .i64 0), (.int .i64 0), (.int .i64 0), (.slice none 0 0), (.slice none 0 0), (.int .i64 0), (.int .i64 0)] []),
  .eff (.st 11 (.v 7) (.v 0)),
  .op (.mov (.c (.bool false)))]) [0] 2)
 (.ret [.cells 7 11, .v 0]))
 .skip))
 (.seq (.post (.reg [.op (.fld 2 (.v 7)),
  .op (.ld1 (.v 0)),
  .nop 6,
  .op (.bin .mul 3 (.v 0) (.v 6)),
  .op (.fld 9 (.v 4)),
  .eff (.st 1 (.v 0) (.v 1))]) [] 4)
 (.seq (.post (.reg [.op (.fld 9 (.v 1)),
  .op (.ld1 (.v 0)),
  .op (.fld 3 (.v 9)),
  .op (.ld1 (.v 0)),
  .op (.bin .add 3 (.v 2) (.v 0)),
  .op (.fld 10 (.v 6)),
  .eff (.st 1 (.v 0) (.v 1))]) [] 6)
 (.seq (.seq (.post (.regD [.op (.fld 2 (.v 7)),
  .op (.ld1 (.v 0)),
  .op (.fld 6 (.v 3)),
  .op (.ld1 (.v 0)),
  .op (.bin .mul 3 (.v 2) (.v 0)),
  .op (.bin .gtr 3 (.v 0) (.c (.int .i64 4096))),
  .nop 0,
  .opg (.fld 2 (.v 13)) 0 false,
  .opg (.ld1 (.v 0)) 1 false,
  .opg (.fld 6 (.v 9)) 2 false,
  .opg (.ld1 (.v 0)) 3 false,
  .opg (.bin .mul 3 (.v 2) (.v 0)) 4 false,
  .opg (.ldn 11 (.v 12)) 5 false,
  .opg (.call 46 [(.v 0)]) 6 false,
  .opg (.bin .mul 3 (.v 2) (.v 0)) 7 false,
  .opg (.bin .gtr 3 (.v 0) (.c (.int .i64 65536))) 8 false,
  .op (.pick (.v 9) (.c (.bool true)) (.v 0)),
  .nop 0,
  .opg (.fld 10 (.v 17)) 0 false,
  .opg (.ld1 (.v 0)) 1 false,
  .opg (.bin .gtr 3 (.v 0) (.c (.int .i64 65536))) 2 false,
  .op (.pick (.v 3) (.c (.bool true)) (.v 0))] [0, 1, 0, 4, 15, 31, 63, 127, 255, 127, 639, 2047, 127, 4223, 16383, 32767, 65535, 131071, 262143, 524287, 1048575, 2097151]) [0] 20)
 (.cond (.v 0) (.seq (.post (.reg [.op (.build [(.int .i64 0), (.slice none 0 0), (.int .i64 0), (.int .i64 0), (.int .i64 0), (.int .i64 0), (.int .i64 0), (.slice none 0 0), (.slice none 0 0), (.int .i64 0), (.int .i64 0)] []),
  .eff (.st 11 (.v 8) (.v 0)),
  .op (.mov (.c (.bool false)))]) [0] 2)
 (.ret [.cells 8 11, .v 0]))
 .skip))
 (.seq (.post (.reg [.op (.fld 0 (.v 8)),
  .op (.fld 0 (.v 0)),
  .op (.ld1 (.v 0)),
  .op (.make 1 24 [(.slice none 0 0)] (.v 0) (.v 0)),
  .op (.fld 8 (.v 6)),
  .eff (.st 1 (.v 0) (.v 1))]) [] 5)
 (.seq (.seq (.post (.reg [.op (.fld 0 (.v 8)),
  .op (.fld 1 (.v 0)),
  .op (.ld1 (.v 0)),
  .op (.len false (.v 0)),
  .op (.mov (.c (.int .i64 0)))]) [0, 1, 2] 5)
 (.block 0 [[], [107], [106], [97], [63], [7], [21], [19, 6, 20], [17, 4, 30, 67], [3], [2], [1], [0]] (.pre [0] 0 ac39L1)))
 (.seq (.post (.reg [.op (.ldn 11 (.v 5)),
  .eff (.st 11 (.v 11) (.v 0)),
  .op (.mov (.c (.bool true)))]) [0] 2)
 (.ret [.cells 11 11, .v 0]))))))))))))⟩

/-- (tegula/layout.numbers).has -/
def ac40 : AFn := ⟨3, [],
 (.seq (.reg [.op (.box (.v 0)),
  .op (.mov (.c (.bool false)))])
 (.seq (.post (.reg [.nop 3,
  .op (.bin .geq 3 (.v 3) (.c (.int .i64 0))),
  .nop 0,
  .opg (.mov (.v 4)) 0 true,
  .opg (.ldn 11 (.v 3)) 1 true,
  .opg (.call 45 [(.v 0)]) 2 true,
  .opg (.bin .lss 3 (.v 2) (.v 0)) 3 true,
  .op (.pick (.v 4) (.v 0) (.c (.bool false))),
  .nop 0,
  .opg (.mov (.v 10)) 0 true,
  .opg (.bin .geq 3 (.v 0) (.c (.int .i64 0))) 1 true,
  .op (.pick (.v 2) (.v 0) (.c (.bool false))),
  .nop 0,
  .opg (.mov (.v 13)) 0 true,
  .opg (.fld 4 (.v 11)) 1 true,
  .opg (.ld1 (.v 0)) 2 true,
  .opg (.bin .lss 3 (.v 2) (.v 0)) 3 true,
  .op (.pick (.v 4) (.v 0) (.c (.bool false))),
  .nop 0]) [0] 14)
 (.ret [.v 0])))⟩

/-- (tegula/layout.numbers).home -/
def ac41 : AFn := ⟨3, [],
 (.seq (.reg [.op (.box (.v 0)),
  .op (.new [(.int .i64 0), (.int .i64 0)])])
 (.seq (.post (.regD [.nop 3,
  .op (.fld 6 (.v 1)),
  .op (.ld1 (.v 0)),
  .op (.bin .quo 3 (.v 5) (.v 0)),
  .nop 6,
  .op (.fld 6 (.v 4)),
  .op (.ld1 (.v 0)),
  .op (.bin .rem 3 (.v 8) (.v 0)),
  .nop 3,
  .nop 0] [0, 0, 2, 7, 0, 0, 32, 112, 15, 511]) [0, 3] 6)
 (.seq (.post (.reg [.nop 6,
  .nop 1,
  .op (.bin .add 3 (.v 6) (.v 1)),
  .op (.fld 4 (.v 4)),
  .op (.ld1 (.v 0)),
  .op (.bin .rem 3 (.v 2) (.v 0)),
  .nop 0]) [0] 4)
 (.seq (.post (.regD [.op (.fld 0 (.v 4)),
  .op (.fld 0 (.v 0)),
  .op (.fld 1 (.v 0)),
  .op (.ld1 (.v 0)),
  .nop 5,
  .op (.idx 1 (.v 0) (.v 5)),
  .op (.ld1 (.v 0)),
  .nop 6,
  .op (.idx 1 (.v 0) (.v 6)),
  .op (.ld1 (.v 0)),
  .nop 10,
  .op (.fld 5 (.v 12)),
  .op (.ld1 (.v 0)),
  .op (.bin .mul 3 (.v 12) (.v 0)),
  .op (.fld 7 (.v 15)),
  .op (.ld1 (.v 0)),
  .nop 14,
  .op (.idx 1 (.v 0) (.v 14)),
  .op (.ld1 (.v 0)),
  .nop 15,
  .op (.idx 1 (.v 0) (.v 15)),
  .op (.ld1 (.v 0)),
  .op (.bin .add 3 (.v 6) (.v 0)),
  .op (.build [(.int .i64 0), (.int .i64 0)] [(0, 1, (.v 10)), (1, 1, (.v 0))]),
  .eff (.st 2 (.v 22) (.v 0))] [0, 1, 3, 7, 0, 31, 63, 0, 255, 511, 0, 0, 2048, 7168, 0, 16384, 0, 114688, 245760, 0, 1032192, 2080768, 4193280, 8388607, 16777215]) [] 19)
 (.ret [.cells 3 2])))))⟩

def ac42L0b : AC :=
 (.post (.seq (.seq (.reg [.nop 1,
  .nop 4,
  .op (.len false (.v 4)),
  .op (.bin .lss 3 (.v 2) (.v 0))])
 (.cond (.v 0) .skip
 (.pre [2] 4 (.exit 0))))
 (.seq (.block 1 [[4], [9], [8], [], [5, 6], [], [], [0, 7], [1]] (.post (.seq (.reg [.nop 6,
  .nop 3,
  .op (.idx 1 (.v 6) (.v 3)),
  .op (.ld1 (.v 0)),
  .nop 9,
  .op (.bin .eql 3 (.v 0) (.v 9))])
 (.cond (.v 0) (.seq (.reg [.op (.mov (.c (.bool true)))])
 (.ret [.v 0]))
 .skip)) [5] 3))
 (.reg [.nop 4,
  .op (.bin .add 3 (.v 4) (.c (.int .i64 1))),
  .nop 0]))) [1, 0] 6)
def ac42L0 : AC := .loop [[4], [5], [], [], [0], [1]] ac42L0b
/-- tegula/tegularef06.Has -/
def ac42 : AFn := ⟨2, [],
 (.seq (.reg [.op (.mov (.c (.bool false)))])
 (.seq (.seq (.reg [.op (.mov (.c (.int .i64 0)))])
 (.block 0 [[4], [], [], [0], [1]] (.pre [1, 0] 0 ac42L0)))
 (.seq (.reg [.op (.mov (.c (.bool false)))])
 (.ret [.v 0]))))⟩

/-- (tegula/layout.numbers).at -/
def ac43 : AFn := ⟨3, [],
 (.seq (.reg [.op (.box (.v 0)),
  .op (.new [(.int .i64 0), (.int .i64 0)])])
 (.seq (.post (.reg [.nop 4,
  .op (.fld 5 (.v 1)),
  .op (.ld1 (.v 0)),
  .op (.bin .quo 3 (.v 6) (.v 0)),
  .nop 0]) [0] 3)
 (.seq (.post (.regD [.op (.fld 8 (.v 2)),
  .op (.ld1 (.v 0)),
  .nop 6,
  .op (.idx 1 (.v 0) (.v 6)),
  .op (.ld1 (.v 0)),
  .nop 9,
  .op (.fld 5 (.v 6)),
  .op (.ld1 (.v 0)),
  .op (.bin .rem 3 (.v 11) (.v 0)),
  .op (.idx 1 (.v 3) (.v 0)),
  .op (.ld1 (.v 0)),
  .nop 0] [0, 1, 0, 7, 15, 0, 0, 64, 224, 511, 1023, 2047]) [0] 9)
 (.seq (.post (.reg [.op (.fld 0 (.v 3)),
  .op (.fld 0 (.v 0)),
  .op (.fld 1 (.v 0)),
  .op (.ld1 (.v 0)),
  .nop 4,
  .op (.idx 1 (.v 0) (.v 4)),
  .op (.ld1 (.v 0)),
  .nop 11,
  .op (.call 51 [(.v 0), (.v 11)]),
  .nop 0]) [0] 7)
 (.seq (.post (.regD [.nop 2,
  .op (.fld 6 (.v 4)),
  .op (.ld1 (.v 0)),
  .op (.bin .mul 3 (.v 4) (.v 0)),
  .nop 4,
  .op (.bin .add 3 (.v 0) (.v 4)),
  .nop 4,
  .nop 6,
  .op (.bin .sub 3 (.v 4) (.v 6)),
  .op (.fld 4 (.v 9)),
  .op (.ld1 (.v 0)),
  .op (.bin .rem 3 (.v 2) (.v 0)),
  .op (.fld 4 (.v 12)),
  .op (.ld1 (.v 0)),
  .op (.bin .add 3 (.v 2) (.v 0)),
  .op (.fld 4 (.v 15)),
  .op (.ld1 (.v 0)),
  .op (.bin .rem 3 (.v 2) (.v 0)),
  .op (.build [(.int .i64 0), (.int .i64 0)] [(0, 1, (.v 10)), (1, 1, (.v 0))]),
  .eff (.st 2 (.v 18) (.v 0))] [0, 0, 2, 7, 0, 31, 0, 0, 192, 0, 512, 1984, 0, 4096, 16320, 0, 32768, 131008, 262143, 524287]) [] 15)
 (.ret [.cells 3 2]))))))⟩

def ac44L0b : AC :=
 (.post (.seq (.seq (.reg [.nop 3,
  .nop 16,
  .op (.len false (.v 16)),
  .op (.bin .lss 3 (.v 4) (.v 0))])
 (.cond (.v 0) .skip
 (.pre [2, 3, 4, 5] 6 (.exit 2))))
 (.seq (.block 3 [[2], [3], [4], [61], [60], [], [], [], [8, 58], [], [57], [56], [55], [54], [53], [52], [51], [50], [49], [47, 48], [46], [44, 7, 45, 59], [43], [41], [40], [37], [36], [35], [34], [], [], [], [6, 33, 42], [], [5], [32], [], [], [], [1], [0]] (.post (.seq (.regD [.nop 18,
  .nop 5,
  .op (.idx 1 (.v 18) (.v 5)),
  .op (.ld1 (.v 0)),
  .op (.bin .lss 3 (.v 0) (.c (.int .i64 0))),
  .nop 0,
  .opg (.mov (.v 21)) 0 false,
  .opg (.mov (.v 9)) 1 false,
  .opg (.idx 1 (.v 1) (.v 0)) 2 false,
  .opg (.ld1 (.v 0)) 3 false,
  .opg (.fld 0 (.v 43)) 4 false,
  .opg (.ld1 (.v 0)) 5 false,
  .opg (.bin .geq 3 (.v 2) (.v 0)) 6 false,
  .op (.pick (.v 7) (.c (.bool true)) (.v 0)),
  .nop 0,
  .opg (.mov (.v 16)) 0 false,
  .opg (.bin .gtr 3 (.v 0) (.c (.int .i64 0))) 1 false,
  .opg (.mov (.v 0)) 2 false,
  .opg (.mov (.v 32)) 0 true,
  .opg (.mov (.v 20)) 1 true,
  .opg (.idx 1 (.v 1) (.v 0)) 2 true,
  .opg (.ld1 (.v 0)) 3 true,
  .opg (.mov (.v 36)) 4 true,
  .opg (.mov (.v 24)) 5 true,
  .opg (.bin .sub 3 (.v 0) (.c (.int .i64 1))) 6 true,
  .opg (.idx 1 (.v 2) (.v 0)) 7 true,
  .opg (.ld1 (.v 0)) 8 true,
  .opg (.bin .leq 3 (.v 5) (.v 0)) 9 true,
  .opg (.pick (.v 10) (.v 0) (.c (.bool false))) 13 false,
  .op (.pick (.v 14) (.c (.bool true)) (.v 0))] [0, 0, 3, 7, 15, 31, 63, 63, 255, 511, 63, 1087, 4095, 8191, 16383, 32767, 65535, 131071, 262143, 262143, 1048575, 2097151, 262143, 262143, 8650751, 29622271, 63176703, 134217727, 268435455, 536870911])
 (.cond (.v 0) (.seq (.reg [.op (.mov (.c (.int .i64 0))),
  .op (.mov (.c (.int .i64 0))),
  .op (.mov (.c (.bool false)))])
 (.ret [.v 2, .v 1, .v 0]))
 .skip)) [28, 29, 30] 26))
 (.reg [.nop 8,
  .op (.bin .add 3 (.v 8) (.c (.int .i64 1))),
  .nop 0]))) [1, 2, 3, 0] 10)
def ac44L0 : AC := .loop [[2], [3], [4], [8], [], [57], [56], [55], [54], [53], [52], [51], [50], [49], [47, 48], [46], [44, 7, 45], [43], [41], [40], [37], [36], [35], [34], [], [], [], [6, 33, 42], [], [5], [32], [], [], [], [1], [0]] ac44L0b
def ac44L1b : AC :=
 (.post (.seq (.seq (.reg [.nop 0,
  .nop 22,
  .op (.len false (.v 22)),
  .op (.bin .lss 3 (.v 1) (.v 0))])
 (.cond (.v 0) .skip
 (.pre [2] 3 (.exit 6))))
 (.seq (.block 7 [[103], [102], [10, 100], [], [97], [96], [9, 94], [], [2], [3], [4], [8], [], [57], [56], [55], [54], [53], [52], [51], [50], [49], [47, 48], [46], [44, 7, 45, 95, 101], [43], [41], [40], [37], [36], [35], [34], [], [], [], [6, 33, 42], [], [5], [32], [], [], [], [1], [0]] (.post (.regD [.nop 24,
  .nop 6,
  .op (.idx 1 (.v 24) (.v 6)),
  .op (.ld1 (.v 0)),
  .nop 26,
  .nop 4,
  .op (.idx 1 (.v 26) (.v 4)),
  .op (.ld1 (.v 0)),
  .op (.ida 60 60 (.v 41) (.v 2)),
  .op (.ida 60 1 (.v 0) (.v 1)),
  .op (.ld1 (.v 0)),
  .op (.bin .add 3 (.v 0) (.c (.int .i64 1))),
  .op (.ida 60 60 (.v 45) (.v 6)),
  .op (.ida 60 1 (.v 0) (.v 5)),
  .eff (.st 1 (.v 0) (.v 2))] [0, 0, 3, 7, 0, 0, 48, 112, 15, 511, 1023, 2047, 15, 8191, 16383]) [] 10))
 (.reg [.nop 2,
  .op (.bin .add 3 (.v 2) (.c (.int .i64 1))),
  .nop 0]))) [0] 4)
def ac44L1 : AC := .loop [[10], [], [97], [96], [9, 94], [], [2], [3], [4], [8], [], [57], [56], [55], [54], [53], [52], [51], [50], [49], [47, 48], [46], [44, 7, 45, 95], [43], [41], [40], [37], [36], [35], [34], [], [], [], [6, 33, 42], [], [5], [32], [], [], [], [1], [0]] ac44L1b
def ac44L2b : AC :=
 (.post (.seq (.seq (.reg [.nop 0,
  .nop 18,
  .op (.len false (.v 18)),
  .op (.bin .lss 3 (.v 1) (.v 0))])
 (.cond (.v 0) .skip
 (.pre [2] 3 (.exit 4))))
 (.seq (.block 5 [[97], [96], [9, 94], [], [2], [3], [4], [8], [], [57], [56], [55], [54], [53], [52], [51], [50], [49], [47, 48], [46], [44, 7, 45, 95], [43], [41], [40], [37], [36], [35], [34], [], [], [], [6, 33, 42], [], [5], [32], [], [], [], [1], [0]] (.post (.seq (.reg [.op (.mov (.c (.int .i64 0)))])
 (.block 6 [[10], [], [97], [96], [9, 94], [], [2], [3], [4], [8], [], [57], [56], [55], [54], [53], [52], [51], [50], [49], [47, 48], [46], [44, 7, 45, 95], [43], [41], [40], [37], [36], [35], [34], [], [], [], [6, 33, 42], [], [5], [32], [], [], [], [1], [0]] (.pre [0] 0 ac44L1))) [] 2))
 (.reg [.nop 2,
  .op (.bin .add 3 (.v 2) (.c (.int .i64 1))),
  .nop 0]))) [0] 4)
def ac44L2 : AC := .loop [[9], [], [2], [3], [4], [8], [], [57], [56], [55], [54], [53], [52], [51], [50], [49], [47, 48], [46], [44, 7, 45], [43], [41], [40], [37], [36], [35], [34], [], [], [], [6, 33, 42], [], [5], [32], [], [], [], [1], [0]] ac44L2b
def ac44L3b : AC :=
 (.post (.seq (.seq (.reg [.nop 3,
  .op (.fld 1 (.v 10)),
  .op (.ld1 (.v 0)),
  .op (.len false (.v 0)),
  .op (.bin .lss 3 (.v 6) (.v 0))])
 (.cond (.v 0) .skip
 (.pre [4, 5, 6] 8 (.exit 0))))
 (.seq (.block 1 [[2], [3], [4], [37], [36], [35], [34], [], [], [], [6, 33], [], [5], [32], [], [], [], [1], [0]] (.post (.seq (.reg [.op (.fld 1 (.v 14)),
  .op (.ld1 (.v 0)),
  .nop 9,
  .op (.idx 1 (.v 0) (.v 9)),
  .op (.ld1 (.v 0)),
  .nop 0])
 (.seq (.seq (.reg [.nop 0,
  .op (.len false (.v 0)),
  .op (.bin .lss 3 (.v 0) (.c (.int .i64 2))),
  .nop 0,
  .opg (.mov (.v 2)) 0 false,
  .opg (.len false (.v 0)) 1 false,
  .opg (.fld 1 (.v 22)) 2 false,
  .opg (.ld1 (.v 0)) 3 false,
  .opg (.idx 1 (.v 0) (.c (.int .i64 0))) 4 false,
  .opg (.ld1 (.v 0)) 5 false,
  .opg (.len false (.v 0)) 6 false,
  .opg (.bin .neq 3 (.v 5) (.v 0)) 7 false,
  .op (.pick (.v 8) (.c (.bool true)) (.v 0))])
 (.cond (.v 0) (.seq (.reg [.op (.mov (.c (.int .i64 0))),
  .op (.mov (.c (.int .i64 0))),
  .op (.mov (.c (.bool false)))])
 (.ret [.v 2, .v 1, .v 0]))
 .skip))
 (.seq (.seq (.reg [.op (.mov (.c (.int .i64 0)))])
 (.block 2 [[2], [3], [4], [8], [], [57], [56], [55], [54], [53], [52], [51], [50], [49], [47, 48], [46], [44, 7, 45], [43], [41], [40], [37], [36], [35], [34], [], [], [], [6, 33, 42], [], [5], [32], [], [], [], [1], [0]] (.pre [20, 21, 22, 0] 0 ac44L0)))
 (.seq (.reg [.op (.mov (.c (.int .i64 0)))])
 (.block 4 [[9], [], [2], [3], [4], [8], [], [57], [56], [55], [54], [53], [52], [51], [50], [49], [47, 48], [46], [44, 7, 45], [43], [41], [40], [37], [36], [35], [34], [], [], [], [6, 33, 42], [], [5], [32], [], [], [], [1], [0]] (.pre [0] 0 ac44L2)))))) [2, 3, 4] 22))
 (.reg [.nop 10,
  .op (.bin .add 3 (.v 10) (.c (.int .i64 1))),
  .nop 0]))) [1, 2, 3, 0] 12)
def ac44L3 : AC := .loop [[2], [3], [4], [6], [], [5], [32], [], [], [], [1], [0]] ac44L3b
def ac44L4b : AC :=
 (.post (.seq (.seq (.reg [.nop 3,
  .op (.fld 0 (.v 22)),
  .op (.ld1 (.v 0)),
  .op (.bin .lss 3 (.v 5) (.v 0))])
 (.cond (.v 0) .skip
 (.pre [3, 4, 5, 6] 7 (.exit 10))))
 (.seq (.block 11 [[2], [3], [4], [129], [128], [127], [], [], [], [12, 126], [], [123], [122], [121], [], [], [], [11, 120], [], [], [], [], [], [5], [32], [], [], [], [1], [0]] (.post (.seq (.regD [.nop 14,
  .nop 6,
  .op (.bin .eql 3 (.v 14) (.v 6)),
  .nop 0,
  .opg (.mov (.v 15)) 0 true,
  .opg (.mov (.v 16)) 1 true,
  .opg (.ida 60 60 (.v 23) (.v 1)) 2 true,
  .opg (.ida 60 1 (.v 0) (.v 1)) 3 true,
  .opg (.ld1 (.v 0)) 4 true,
  .opg (.ida 60 60 (.v 26) (.c (.int .i64 0))) 5 true,
  .opg (.ida 60 1 (.v 0) (.c (.int .i64 0))) 6 true,
  .opg (.ld1 (.v 0)) 7 true,
  .opg (.bin .neq 3 (.v 3) (.v 0)) 8 true,
  .op (.pick (.v 9) (.v 0) (.c (.bool false))),
  .nop 0,
  .opg (.mov (.v 25)) 0 false,
  .opg (.mov (.v 18)) 1 false,
  .opg (.bin .neq 3 (.v 1) (.v 0)) 2 false,
  .opg (.mov (.v 0)) 3 false,
  .opg (.mov (.v 29)) 0 true,
  .opg (.mov (.v 22)) 1 true,
  .opg (.ida 60 60 (.v 37) (.v 1)) 2 true,
  .opg (.ida 60 1 (.v 0) (.v 1)) 3 true,
  .opg (.ld1 (.v 0)) 4 true,
  .opg (.ida 60 60 (.v 40) (.c (.int .i64 0))) 5 true,
  .opg (.ida 60 1 (.v 0) (.c (.int .i64 1))) 6 true,
  .opg (.ld1 (.v 0)) 7 true,
  .opg (.bin .neq 3 (.v 3) (.v 0)) 8 true,
  .opg (.pick (.v 9) (.v 0) (.c (.bool false))) 13 false,
  .op (.pick (.v 14) (.c (.bool true)) (.v 0))] [0, 0, 3, 7, 15, 15, 31, 127, 255, 15, 527, 1551, 4095, 8191, 16383, 32767, 32767, 131071, 262143, 524287, 524287, 1048575, 4194303, 8388607, 524287, 17301503, 50855935, 134217727, 268435455, 536870911])
 (.cond (.v 0) (.seq (.reg [.op (.mov (.c (.int .i64 0))),
  .op (.mov (.c (.int .i64 0))),
  .op (.mov (.c (.bool false)))])
 (.ret [.v 2, .v 1, .v 0]))
 .skip)) [29, 30, 31] 26))
 (.reg [.nop 9,
  .op (.bin .add 3 (.v 9) (.c (.int .i64 1))),
  .nop 0]))) [1, 2, 3, 0] 11)
def ac44L4 : AC := .loop [[2], [3], [4], [12], [], [123], [122], [121], [], [], [], [11, 120], [], [], [], [], [], [5], [32], [], [], [], [1], [0]] ac44L4b
def ac44L5b : AC :=
 (.post (.seq (.seq (.reg [.nop 3,
  .op (.fld 0 (.v 14)),
  .op (.ld1 (.v 0)),
  .op (.bin .lss 3 (.v 5) (.v 0))])
 (.cond (.v 0) .skip
 (.pre [3, 4, 5] 7 (.exit 8))))
 (.seq (.block 9 [[2], [3], [4], [123], [122], [121], [], [], [], [11, 120], [], [], [], [], [], [5], [32], [], [], [], [1], [0]] (.post (.seq (.reg [.op (.mov (.c (.int .i64 0)))])
 (.block 10 [[2], [3], [4], [12], [], [123], [122], [121], [], [], [], [11, 120], [], [], [], [], [], [5], [32], [], [], [], [1], [0]] (.pre [4, 5, 6, 0] 0 ac44L4))) [0, 1, 2] 5))
 (.reg [.nop 9,
  .op (.bin .add 3 (.v 9) (.c (.int .i64 1))),
  .nop 0]))) [1, 2, 3, 0] 11)
def ac44L5 : AC := .loop [[2], [3], [4], [11], [], [], [], [], [], [5], [32], [], [], [], [1], [0]] ac44L5b
/-- tegula/tegularef07.Check -/
def ac44 : AFn := ⟨1, [],
 (.seq (.reg [.op (.box (.v 0)),
  .op (.mov (.c (.int .i64 0))),
  .op (.mov (.c (.int .i64 0))),
  .op (.mov (.c (.bool false)))])
 (.seq (.seq (.post (.reg [.op (.fld 0 (.v 3)),
  .op (.ld1 (.v 0)),
  .op (.bin .lss 3 (.v 0) (.c (.int .i64 2))),
  .nop 0,
  .opg (.fld 0 (.v 6)) 0 false,
  .opg (.ld1 (.v 0)) 1 false,
  .opg (.bin .gtr 3 (.v 0) (.c (.int .i64 60))) 2 false,
  .op (.pick (.v 3) (.c (.bool true)) (.v 0)),
  .nop 0,
  .opg (.fld 1 (.v 10)) 0 false,
  .opg (.ld1 (.v 0)) 1 false,
  .opg (.len false (.v 0)) 2 false,
  .opg (.bin .lss 3 (.v 0) (.c (.int .i64 1))) 3 false,
  .op (.pick (.v 4) (.c (.bool true)) (.v 0)),
  .nop 0,
  .opg (.fld 1 (.v 15)) 0 false,
  .opg (.ld1 (.v 0)) 1 false,
  .opg (.len false (.v 0)) 2 false,
  .opg (.bin .gtr 3 (.v 0) (.c (.int .i64 4096))) 3 false,
  .op (.pick (.v 4) (.c (.bool true)) (.v 0))]) [0] 17)
 (.cond (.v 0) (.seq (.reg [.op (.mov (.c (.int .i64 0))),
  .op (.mov (.c (.int .i64 0))),
  .op (.mov (.c (.bool false)))])
 (.ret [.v 2, .v 1, .v 0]))
 .skip))
 (.seq (.reg [.op (.new (List.replicate 3600 (.int .i64 0)))])
 (.seq (.seq (.reg [.op (.mov (.c (.int .i64 0)))])
 (.block 0 [[2], [3], [4], [], [5], [32], [], [], [], [1], [0]] (.pre [5, 4, 3, 0] 0 ac44L3)))
 (.seq (.seq (.reg [.op (.mov (.c (.int .i64 0)))])
 (.block 8 [[2], [3], [4], [], [], [], [], [], [5], [32], [], [], [], [1], [0]] (.pre [1, 2, 3, 0] 0 ac44L5)))
 (.seq (.post (.regD [.op (.ida 60 60 (.v 8) (.c (.int .i64 0))),
  .op (.ida 60 1 (.v 0) (.c (.int .i64 0))),
  .op (.ld1 (.v 0)),
  .op (.ida 60 60 (.v 11) (.c (.int .i64 0))),
  .op (.ida 60 1 (.v 0) (.c (.int .i64 1))),
  .op (.ld1 (.v 0)),
  .op (.ida 60 60 (.v 14) (.c (.int .i64 0))),
  .op (.ida 60 1 (.v 0) (.c (.int .i64 1))),
  .op (.ld1 (.v 0)),
  .op (.bin .gtr 3 (.v 0) (.c (.int .i64 0))),
  .nop 7,
  .nop 4,
  .nop 0] [0, 1, 3, 0, 8, 24, 0, 64, 192, 448, 7, 1087, 4095]) [0, 4, 7] 10)
 (.ret [.v 2, .v 1, .v 0])))))))⟩

/-- (tegula/layout.numbers).groups -/
def ac45 : AFn := ⟨1, [],
 (.seq (.reg [.op (.box (.v 0)),
  .op (.mov (.c (.int .i64 0)))])
 (.seq (.post (.reg [.op (.fld 0 (.v 1)),
  .op (.fld 2 (.v 0)),
  .op (.ld1 (.v 0)),
  .op (.fld 6 (.v 4)),
  .op (.ld1 (.v 0)),
  .op (.bin .mul 3 (.v 2) (.v 0)),
  .nop 0]) [0] 6)
 (.ret [.v 0])))⟩

/-- (tegula/layout.numbers).data -/
def ac46 : AFn := ⟨1, [],
 (.seq (.reg [.op (.box (.v 0)),
  .op (.mov (.c (.int .i64 0)))])
 (.seq (.post (.reg [.op (.fld 4 (.v 1)),
  .op (.ld1 (.v 0)),
  .op (.bin .sub 3 (.v 0) (.c (.int .i64 3))),
  .nop 0]) [0] 3)
 (.ret [.v 0])))⟩

def ac47L0b : AC :=
 (.post (.seq (.reg [.op (.bin .lss 3 (.v 1) (.v 3))])
 (.seq (.cond (.v 0) .skip
 (.pre [1, 2] 3 (.exit 2)))
 (.seq (.block 3 [[2], [53], [], [52], [], [51], [49], [48], [47], [46], [45], [44], [43], [41, 4, 42, 50], [40], [39], [], [38], [], [37], [36], [34], [], [1], [0]] (.post (.seq (.reg [.nop 2,
  .op (.idx 1 (.v 12) (.v 2)),
  .op (.ld1 (.v 0)),
  .nop 4,
  .nop 0])
 (.seq (.reg [.nop 0,
  .op (.bin .lss 3 (.v 0) (.c (.int .i64 0))),
  .nop 0,
  .opg (.mov (.v 1)) 0 false,
  .opg (.fld 0 (.v 26)) 1 false,
  .opg (.ld1 (.v 0)) 2 false,
  .opg (.bin .geq 3 (.v 2) (.v 0)) 3 false,
  .op (.pick (.v 4) (.c (.bool true)) (.v 0)),
  .nop 0,
  .opg (.mov (.v 10)) 0 false,
  .opg (.bin .gtr 3 (.v 0) (.c (.int .i64 0))) 1 false,
  .opg (.mov (.v 0)) 2 false,
  .opg (.mov (.v 23)) 0 true,
  .opg (.mov (.v 14)) 1 true,
  .opg (.bin .sub 3 (.v 0) (.c (.int .i64 1))) 2 true,
  .opg (.idx 1 (.v 2) (.v 0)) 3 true,
  .opg (.ld1 (.v 0)) 4 true,
  .opg (.mov (.v 14)) 5 true,
  .opg (.bin .geq 3 (.v 1) (.v 0)) 6 true,
  .opg (.pick (.v 7) (.v 0) (.c (.bool false))) 10 false,
  .op (.pick (.v 11) (.c (.bool true)) (.v 0))])
 (.cond (.v 0) (.seq (.reg [.op (.mov (.c (.bool false)))])
 (.ret [.v 0]))
 .skip))) [21] 20))
 (.reg [.op (.bin .add 3 (.v 3) (.c (.int .i64 1))),
  .nop 0])))) [1, 0] 5)
def ac47L0 : AC := .loop [[2], [52], [], [51], [49], [48], [47], [46], [45], [44], [43], [41, 4, 42, 50], [40], [39], [], [38], [], [37], [36], [34], [], [1], [0]] ac47L0b
def ac47L1b : AC :=
 (.post (.seq (.reg [.op (.bin .lss 3 (.v 1) (.v 3))])
 (.seq (.cond (.v 0) .skip
 (.pre [1] 3 (.exit 0)))
 (.seq (.block 1 [[2], [39], [], [38], [], [37], [36], [34], [], [1], [0]] (.post (.seq (.reg [.op (.idx 1 (.v 5) (.v 2)),
  .op (.ld1 (.v 0)),
  .nop 0])
 (.seq (.seq (.reg [.nop 0,
  .op (.len false (.v 0)),
  .op (.fld 1 (.v 11)),
  .op (.ld1 (.v 0)),
  .op (.idx 1 (.v 0) (.c (.int .i64 0))),
  .op (.ld1 (.v 0)),
  .op (.len false (.v 0)),
  .op (.bin .neq 3 (.v 5) (.v 0))])
 (.cond (.v 0) (.seq (.reg [.op (.mov (.c (.bool false)))])
 (.ret [.v 0]))
 .skip))
 (.seq (.reg [.nop 7,
  .op (.len false (.v 7)),
  .op (.mov (.c (.int .i64 0)))])
 (.block 2 [[2], [52], [], [51], [49], [48], [47], [46], [45], [44], [43], [41, 4, 42, 50], [40], [39], [], [38], [], [37], [36], [34], [], [1], [0]] (.pre [12, 0] 0 ac47L0))))) [0] 13))
 (.reg [.op (.bin .add 3 (.v 3) (.c (.int .i64 1))),
  .nop 0])))) [1, 0] 5)
def ac47L1 : AC := .loop [[2], [38], [], [37], [36], [34], [], [1], [0]] ac47L1b
/-- tegula/design.formed -/
def ac47 : AFn := ⟨1, [],
 (.seq (.reg [.op (.box (.v 0)),
  .op (.mov (.c (.bool false)))])
 (.seq (.seq (.post (.reg [.op (.fld 0 (.v 1)),
  .op (.ld1 (.v 0)),
  .op (.bin .lss 3 (.v 0) (.c (.int .i64 2))),
  .nop 0,
  .opg (.fld 0 (.v 4)) 0 false,
  .opg (.ld1 (.v 0)) 1 false,
  .opg (.bin .gtr 3 (.v 0) (.c (.int .i64 60))) 2 false,
  .op (.pick (.v 3) (.c (.bool true)) (.v 0)),
  .nop 0,
  .opg (.fld 1 (.v 8)) 0 false,
  .opg (.ld1 (.v 0)) 1 false,
  .opg (.len false (.v 0)) 2 false,
  .opg (.bin .lss 3 (.v 0) (.c (.int .i64 1))) 3 false,
  .op (.pick (.v 4) (.c (.bool true)) (.v 0)),
  .nop 0,
  .opg (.fld 1 (.v 13)) 0 false,
  .opg (.ld1 (.v 0)) 1 false,
  .opg (.len false (.v 0)) 2 false,
  .opg (.bin .gtr 3 (.v 0) (.c (.int .i64 4096))) 3 false,
  .op (.pick (.v 4) (.c (.bool true)) (.v 0)),
  .nop 0,
  .opg (.fld 1 (.v 18)) 0 false,
  .opg (.ld1 (.v 0)) 1 false,
  .opg (.idx 1 (.v 0) (.c (.int .i64 0))) 2 false,
  .opg (.ld1 (.v 0)) 3 false,
  .opg (.len false (.v 0)) 4 false,
  .opg (.bin .lss 3 (.v 0) (.c (.int .i64 2))) 5 false,
  .op (.pick (.v 6) (.c (.bool true)) (.v 0))]) [0] 24)
 (.cond (.v 0) (.seq (.reg [.op (.mov (.c (.bool false)))])
 (.ret [.v 0]))
 .skip))
 (.seq (.seq (.post (.reg [.op (.fld 1 (.v 2)),
  .op (.ld1 (.v 0)),
  .op (.len false (.v 0)),
  .op (.mov (.c (.int .i64 0)))]) [0, 1, 2] 4)
 (.block 0 [[2], [], [37], [36], [34], [], [1], [0]] (.pre [4, 0] 0 ac47L1)))
 (.seq (.reg [.op (.mov (.c (.bool true)))])
 (.ret [.v 0])))))⟩

def ac48L0b : AC :=
 (.post (.seq (.seq (.reg [.nop 1,
  .nop 13,
  .op (.bin .lss 3 (.v 1) (.v 13))])
 (.cond (.v 0) .skip
 (.pre [1, 2] 3 (.exit 4))))
 (.seq (.block 5 [[3], [19], [], [6, 17], [], [14], [], [5, 12], [], [9], [], [4, 7], [], [], [2], [0, 8, 13, 18]] (.post (.seq (.reg [.nop 10,
  .op (.bin .eql 3 (.v 10) (.c (.int .i64 1))),
  .nop 0,
  .opg (.mov (.v 11)) 0 false,
  .opg (.bin .eql 3 (.v 0) (.c (.int .i64 0))) 1 false,
  .opg (.mov (.v 0)) 2 false,
  .opg (.mov (.v 10)) 0 true,
  .opg (.bin .eql 3 (.v 0) (.c (.int .i64 1))) 1 true,
  .opg (.pick (.v 2) (.v 0) (.c (.bool false))) 5 false,
  .op (.pick (.v 6) (.c (.bool true)) (.v 0)),
  .nop 0,
  .opg (.mov (.v 18)) 0 false,
  .opg (.bin .eql 3 (.v 0) (.c (.int .i64 0))) 1 false,
  .opg (.mov (.v 0)) 2 false,
  .opg (.mov (.v 17)) 0 true,
  .opg (.bin .eql 3 (.v 0) (.c (.int .i64 0))) 1 true,
  .opg (.pick (.v 2) (.v 0) (.c (.bool false))) 5 false,
  .opg (.mov (.v 0)) 6 false,
  .opg (.mov (.v 17)) 0 true,
  .opg (.bin .eql 3 (.v 0) (.c (.int .i64 1))) 1 true,
  .opg (.pick (.v 2) (.v 0) (.c (.bool false))) 9 false,
  .op (.pick (.v 10) (.c (.bool true)) (.v 0))])
 (.cond (.v 0) (.post (.reg [.nop 20,
  .nop 29,
  .nop 25,
  .nop 21,
  .op (.build [(.int .i64 0), (.int .i64 0), (.int .i64 0)] [(0, 1, (.v 29)), (1, 1, (.v 25)), (2, 1, (.v 21))]),
  .op (.mkl 3 1 [(.int .i64 0), (.int .i64 0), (.int .i64 0)] [(0, (.v 0))]),
  .op (.app 3 24 (.v 22) (.v 0)),
  .nop 0]) [0] 3)
 (.post .skip [20] 0))) [0] 20))
 (.reg [.nop 3,
  .op (.bin .add 3 (.v 3) (.c (.int .i64 1))),
  .nop 0]))) [1, 0] 5)
def ac48L0 : AC := .loop [[3], [6], [], [14], [], [5, 12], [], [9], [], [4, 7], [], [], [2], [0, 8, 13]] ac48L0b
def ac48L1b : AC :=
 (.post (.seq (.seq (.reg [.nop 1,
  .nop 9,
  .op (.bin .lss 3 (.v 1) (.v 9))])
 (.cond (.v 0) .skip
 (.pre [1, 2] 3 (.exit 2))))
 (.seq (.block 3 [[3], [14], [], [5, 12], [], [9], [], [4, 7], [], [], [2], [0, 8, 13]] (.post (.seq (.reg [.op (.mov (.c (.int .i64 0)))])
 (.block 4 [[3], [6], [], [14], [], [5, 12], [], [9], [], [4, 7], [], [], [2], [0, 8, 13]] (.pre [2, 0] 0 ac48L0))) [0] 3))
 (.reg [.nop 3,
  .op (.bin .add 3 (.v 3) (.c (.int .i64 1))),
  .nop 0]))) [1, 0] 5)
def ac48L1 : AC := .loop [[3], [5], [], [9], [], [4, 7], [], [], [2], [0, 8]] ac48L1b
def ac48L2b : AC :=
 (.post (.seq (.seq (.reg [.nop 1,
  .nop 5,
  .op (.bin .lss 3 (.v 1) (.v 5))])
 (.cond (.v 0) .skip
 (.pre [1] 3 (.exit 0))))
 (.seq (.block 1 [[3], [9], [], [4, 7], [], [], [2], [0, 8]] (.post (.seq (.reg [.op (.mov (.c (.int .i64 0)))])
 (.block 2 [[3], [5], [], [9], [], [4, 7], [], [], [2], [0, 8]] (.pre [2, 0] 0 ac48L1))) [0] 3))
 (.reg [.nop 3,
  .op (.bin .add 3 (.v 3) (.c (.int .i64 1))),
  .nop 0]))) [1, 0] 5)
def ac48L2 : AC := .loop [[3], [4], [], [], [2], [0]] ac48L2b
/-- tegula/tegularef06.coordinates -/
def ac48 : AFn := ⟨1, [],
 (.seq (.reg [.op (.mov (.c (.slice none 0 0)))])
 (.seq (.reg [.op (.mov (.c (.slice none 0 0)))])
 (.seq (.seq (.reg [.op (.mov (.c (.int .i64 0)))])
 (.block 0 [[3], [], [], [2], [0]] (.pre [1, 0] 0 ac48L2)))
 (.seq (.reg [.nop 0,
  .nop 0])
 (.ret [.v 0])))))⟩

def ac49L0b : AC :=
 (.post (.seq (.seq (.reg [.nop 0,
  .nop 4,
  .op (.bin .lss 3 (.v 0) (.v 4))])
 (.cond (.v 0) .skip
 (.pre [] 2 (.exit 0))))
 (.seq (.block 1 [[27], [11, 25], [], [24, 10], [20, 9], [16, 8, 19, 23, 26], [15, 7, 18, 22], [6], [0, 13], [1, 17], [2, 21]] (.post (.regD [.nop 4,
  .nop 1,
  .nop 4,
  .nop 1,
  .op (.idx 1 (.v 4) (.v 1)),
  .op (.ld1 (.v 0)),
  .nop 5,
  .nop 3,
  .op (.idx 1 (.v 5) (.v 3)),
  .op (.ld1 (.v 0)),
  .op (.bin .add 3 (.v 2) (.v 0)),
  .nop 11,
  .op (.bin .rem 3 (.v 0) (.v 11)),
  .op (.idx 1 (.v 10) (.v 7)),
  .eff (.st 1 (.v 0) (.v 1))] [0, 0, 0, 0, 12, 28, 0, 0, 192, 448, 1020, 0, 4092, 8191, 16383]) [] 7))
 (.reg [.nop 1,
  .op (.bin .add 3 (.v 1) (.c (.int .i64 1))),
  .nop 0]))) [0] 3)
def ac49L0 : AC := .loop [[11], [], [24, 10], [20, 9], [16, 8, 19, 23], [15, 7, 18, 22], [6], [0, 13], [1, 17], [2, 21]] ac49L0b
/-- tegula/tegularef05.Add -/
def ac49 : AFn := ⟨3, [],
 (.seq (.reg [.op (.mov (.c (.int .i64 0)))])
 (.seq (.post (.reg [.nop 1,
  .op (.call 52 [(.v 1)]),
  .nop 0,
  .op (.extr 0 (.v 0)),
  .op (.extr 1 (.v 1)),
  .nop 1,
  .nop 0]) [0, 1] 3)
 (.seq (.reg [.nop 4,
  .nop 1,
  .nop 0,
  .op (.call 53 [(.v 4), (.v 1), (.v 0)]),
  .nop 6,
  .nop 2,
  .nop 1,
  .op (.call 53 [(.v 6), (.v 2), (.v 1)]),
  .nop 1,
  .nop 0])
 (.seq (.seq (.reg [.op (.mov (.c (.int .i64 0)))])
 (.block 0 [[], [24, 10], [20, 9], [16, 8, 19, 23], [15, 7, 18, 22], [6], [0, 13], [1, 17], [2, 21]] (.pre [0] 0 ac49L0)))
 (.seq (.reg [.nop 2,
  .nop 4,
  .op (.call 54 [(.v 2), (.v 4)]),
  .nop 0])
 (.ret [.v 0]))))))⟩

def ac50L0b : AC :=
 (.post (.seq (.seq (.reg [.nop 0,
  .nop 9,
  .op (.bin .lss 3 (.v 0) (.v 9))])
 (.cond (.v 0) .skip
 (.pre [1] 2 (.exit 2))))
 (.seq (.block 3 [[48], [13, 46], [], [43], [12, 41], [], [40, 11], [36, 10], [32, 9], [23], [21, 8, 22, 31, 35, 37, 42, 47], [20, 7, 30, 34], [6], [0, 18], [1, 29], [2, 33]] (.post (.regD [.nop 6,
  .nop 4,
  .nop 1,
  .op (.bin .add 3 (.v 4) (.v 1)),
  .nop 7,
  .nop 5,
  .nop 2,
  .op (.bin .add 3 (.v 5) (.v 2)),
  .op (.idx 1 (.v 8) (.v 0)),
  .op (.ld1 (.v 0)),
  .nop 12,
  .nop 8,
  .op (.idx 1 (.v 12) (.v 8)),
  .op (.ld1 (.v 0)),
  .nop 13,
  .nop 7,
  .op (.idx 1 (.v 13) (.v 7)),
  .op (.ld1 (.v 0)),
  .op (.bin .mul 3 (.v 2) (.v 0)),
  .op (.bin .add 3 (.v 5) (.v 0)),
  .nop 21,
  .op (.bin .rem 3 (.v 0) (.v 21)),
  .op (.idx 1 (.v 17) (.v 10)),
  .eff (.st 1 (.v 0) (.v 1))] [0, 0, 0, 6, 0, 0, 0, 96, 240, 496, 0, 0, 3072, 7168, 0, 0, 49152, 114688, 261120, 524272, 0, 2097136, 4194303, 8388607]) [] 12))
 (.reg [.nop 1,
  .op (.bin .add 3 (.v 1) (.c (.int .i64 1))),
  .nop 0]))) [0] 3)
def ac50L0 : AC := .loop [[13], [], [43], [12, 41], [], [40, 11], [36, 10], [32, 9], [23], [21, 8, 22, 31, 35, 37, 42], [20, 7, 30, 34], [6], [0, 18], [1, 29], [2, 33]] ac50L0b
def ac50L1b : AC :=
 (.post (.seq (.seq (.reg [.nop 0,
  .nop 6,
  .op (.bin .lss 3 (.v 0) (.v 6))])
 (.cond (.v 0) .skip
 (.pre [] 2 (.exit 0))))
 (.seq (.block 1 [[43], [12, 41], [], [40, 11], [36, 10], [32, 9], [23], [21, 8, 22, 31, 35, 37, 42], [20, 7, 30, 34], [6], [0, 18], [1, 29], [2, 33]] (.post (.seq (.reg [.op (.mov (.c (.int .i64 0)))])
 (.block 2 [[13], [], [43], [12, 41], [], [40, 11], [36, 10], [32, 9], [23], [21, 8, 22, 31, 35, 37, 42], [20, 7, 30, 34], [6], [0, 18], [1, 29], [2, 33]] (.pre [0] 0 ac50L0))) [] 2))
 (.reg [.nop 1,
  .op (.bin .add 3 (.v 1) (.c (.int .i64 1))),
  .nop 0]))) [0] 3)
def ac50L1 : AC := .loop [[12], [], [40, 11], [36, 10], [32, 9], [23], [21, 8, 22, 31, 35, 37], [20, 7, 30, 34], [6], [0, 18], [1, 29], [2, 33]] ac50L1b
def ac50L2b : AC :=
 (.post (.seq (.seq (.reg [.nop 0,
  .nop 15,
  .op (.bin .lss 3 (.v 0) (.v 15))])
 (.cond (.v 0) .skip
 (.pre [1] 2 (.exit 6))))
 (.seq (.block 7 [[91], [16, 89], [], [86], [15, 84], [83], [14], [79], [], [76], [74], [], [40, 11], [36, 10], [32, 9], [23], [21, 8, 22, 31, 35, 37, 81, 85, 90], [20, 7, 30, 34], [6], [0, 18, 75, 78], [1, 29], [2, 33]] (.post (.regD [.nop 12,
  .nop 4,
  .nop 16,
  .op (.bin .sub 3 (.v 4) (.v 16)),
  .nop 2,
  .op (.bin .add 3 (.v 0) (.v 2)),
  .nop 14,
  .nop 6,
  .nop 18,
  .op (.bin .sub 3 (.v 6) (.v 18)),
  .nop 4,
  .op (.bin .add 3 (.v 0) (.v 4)),
  .op (.idx 1 (.v 16) (.v 0)),
  .op (.ld1 (.v 0)),
  .nop 18,
  .nop 10,
  .op (.idx 1 (.v 18) (.v 10)),
  .op (.ld1 (.v 0)),
  .nop 25,
  .nop 14,
  .nop 9,
  .op (.idx 1 (.v 14) (.v 9)),
  .op (.ld1 (.v 0)),
  .op (.bin .sub 3 (.v 27) (.v 0)),
  .op (.bin .mul 3 (.v 3) (.v 0)),
  .op (.bin .add 3 (.v 6) (.v 0)),
  .nop 30,
  .op (.bin .rem 3 (.v 0) (.v 30)),
  .op (.idx 1 (.v 26) (.v 12)),
  .eff (.st 1 (.v 0) (.v 1))] [0, 0, 0, 6, 0, 30, 0, 0, 0, 384, 0, 1920, 4032, 8128, 0, 0, 49152, 114688, 0, 0, 0, 1572864, 3670016, 8126464, 16760832, 33554368, 0, 134217664, 268435455, 536870911]) [] 15))
 (.reg [.nop 1,
  .op (.bin .add 3 (.v 1) (.c (.int .i64 1))),
  .nop 0]))) [0] 3)
def ac50L2 : AC := .loop [[16], [], [86], [15, 84], [83], [14], [79], [], [76], [74], [], [40, 11], [36, 10], [32, 9], [23], [21, 8, 22, 31, 35, 37, 81, 85], [20, 7, 30, 34], [6], [0, 18, 75, 78], [1, 29], [2, 33]] ac50L2b
def ac50L3b : AC :=
 (.post (.seq (.seq (.reg [.nop 0,
  .nop 12,
  .op (.bin .geq 3 (.v 0) (.v 12))])
 (.cond (.v 0) .skip
 (.pre [] 2 (.exit 4))))
 (.seq (.block 5 [[86], [15, 84], [83], [14], [79], [], [76], [74], [], [40, 11], [36, 10], [32, 9], [23], [21, 8, 22, 31, 35, 37, 81, 85], [20, 7, 30, 34], [6], [0, 18, 75, 78], [1, 29], [2, 33]] (.post (.seq (.seq (.reg [.op (.mov (.c (.int .i64 0)))])
 (.block 6 [[16], [], [86], [15, 84], [83], [14], [79], [], [76], [74], [], [40, 11], [36, 10], [32, 9], [23], [21, 8, 22, 31, 35, 37, 81, 85], [20, 7, 30, 34], [6], [0, 18, 75, 78], [1, 29], [2, 33]] (.pre [0] 0 ac50L2)))
 (.reg [.nop 11,
  .nop 3,
  .op (.idx 1 (.v 11) (.v 3)),
  .eff (.st 1 (.v 0) (.c (.int .i64 0)))])) [] 3))
 (.reg [.nop 1,
  .op (.bin .sub 3 (.v 1) (.c (.int .i64 1))),
  .nop 0]))) [0] 3)
def ac50L3 : AC := .loop [[15], [83], [14], [79], [], [76], [74], [], [40, 11], [36, 10], [32, 9], [23], [21, 8, 22, 31, 35, 37, 81], [20, 7, 30, 34], [6], [0, 18, 75, 78], [1, 29], [2, 33]] ac50L3b
/-- tegula/tegularef05.Mul -/
def ac50 : AFn := ⟨3, [],
 (.seq (.reg [.op (.mov (.c (.int .i64 0)))])
 (.seq (.post (.reg [.nop 1,
  .op (.call 52 [(.v 1)]),
  .nop 0,
  .op (.extr 0 (.v 0)),
  .op (.extr 1 (.v 1)),
  .nop 1,
  .nop 0]) [0, 1] 3)
 (.seq (.seq (.reg [.nop 0,
  .op (.bin .eql 3 (.v 0) (.c (.int .i64 1)))])
 (.cond (.v 0) (.seq (.post (.reg [.nop 5,
  .nop 6,
  .op (.bin .mul 3 (.v 5) (.v 6)),
  .nop 3,
  .op (.bin .rem 3 (.v 0) (.v 3)),
  .nop 0]) [0] 2)
 (.ret [.v 0]))
 .skip))
 (.seq (.reg [.nop 5,
  .nop 2,
  .nop 1,
  .op (.call 53 [(.v 5), (.v 2), (.v 1)]),
  .nop 7,
  .nop 3,
  .nop 2,
  .op (.call 53 [(.v 7), (.v 3), (.v 2)]),
  .nop 1,
  .nop 0])
 (.seq (.post (.reg [.nop 3,
  .op (.bin .mul 3 (.c (.int .i64 2)) (.v 3)),
  .op (.bin .sub 3 (.v 0) (.c (.int .i64 1))),
  .op (.make 1 8 [(.int .i64 0)] (.v 0) (.v 0)),
  .nop 0]) [0] 3)
 (.seq (.seq (.reg [.op (.mov (.c (.int .i64 0)))])
 (.block 0 [[], [40, 11], [36, 10], [32, 9], [23], [21, 8, 22, 31, 35, 37], [20, 7, 30, 34], [6], [0, 18], [1, 29], [2, 33]] (.pre [0] 0 ac50L1)))
 (.seq (.reg [.op (.mkl 1 2 [(.int .i64 0)] [(0, (.c (.int .i64 1))), (1, (.c (.int .i64 1)))]),
  .nop 0])
 (.seq (.seq (.reg [.nop 9,
  .op (.bin .eql 3 (.v 9) (.c (.int .i64 8)))])
 (.cond (.v 0) (.reg [.op (.mkl 1 3 [(.int .i64 0)] [(0, (.c (.int .i64 1))), (1, (.c (.int .i64 1))), (2, (.c (.int .i64 0)))]),
  .nop 0])
 (.post .skip [1] 0)))
 (.seq (.seq (.reg [.nop 11,
  .op (.bin .eql 3 (.v 11) (.c (.int .i64 9)))])
 (.cond (.v 0) (.reg [.op (.mkl 1 2 [(.int .i64 0)] [(0, (.c (.int .i64 1))), (1, (.c (.int .i64 0)))]),
  .nop 0])
 (.post .skip [1] 0)))
 (.seq (.seq (.post (.reg [.nop 10,
  .op (.bin .mul 3 (.c (.int .i64 2)) (.v 10)),
  .op (.bin .sub 3 (.v 0) (.c (.int .i64 2))),
  .nop 0]) [0] 2)
 (.block 4 [[83], [14], [79], [], [76], [74], [], [40, 11], [36, 10], [32, 9], [23], [21, 8, 22, 31, 35, 37, 81], [20, 7, 30, 34], [6], [0, 18, 75, 78], [1, 29], [2, 33]] (.pre [0] 0 ac50L3)))
 (.seq (.post (.reg [.nop 7,
  .nop 11,
  .op (.slc 1 (.v 7) none (some (.v 11))),
  .nop 13,
  .op (.call 54 [(.v 0), (.v 13)]),
  .nop 0]) [0] 2)
 (.ret [.v 0]))))))))))))⟩

def ac51L0b : AC :=
 (.post (.seq (.reg [.op (.bin .lss 3 (.v 1) (.v 3))])
 (.seq (.cond (.v 0) .skip
 (.pre [1] 3 (.exit 0)))
 (.seq (.block 1 [[4], [9], [], [8], [], [7], [], [0, 6], [1]] (.post (.seq (.reg [.nop 2,
  .nop 2])
 (.seq (.reg [.nop 7,
  .nop 6,
  .nop 2,
  .op (.idx 1 (.v 6) (.v 2)),
  .op (.ld1 (.v 0)),
  .op (.bin .eql 3 (.v 9) (.v 0))])
 (.cond (.v 0) (.seq (.reg [.nop 5,
  .nop 5])
 (.ret [.v 5]))
 .skip))) [4] 3))
 (.reg [.op (.bin .add 3 (.v 3) (.c (.int .i64 1))),
  .nop 0])))) [1, 0] 5)
def ac51L0 : AC := .loop [[4], [8], [], [7], [], [0, 6], [1]] ac51L0b
/-- slices.Index[[]int,int] -/
def ac51 : AFn := ⟨2, [],
 (.seq (.reg [.op (.mov (.c (.int .i64 0)))])
 (.seq (.seq (.reg [.nop 1,
  .op (.len false (.v 1)),
  .op (.mov (.c (.int .i64 0)))])
 (.block 0 [[4], [], [7], [], [0, 6], [1]] (.pre [2, 0] 0 ac51L0)))
 (.seq (.reg [.op (.mov (.c (.int .i64 (-1))))])
 (.ret [.v 0]))))⟩

/-- tegula/tegularef05.Prime -/
def ac52 : AFn := ⟨1, [],
 (.seq (.reg [.op (.mov (.c (.int .i64 0))),
  .op (.mov (.c (.int .i64 0)))])
 (.seq (.seq (.reg [.nop 2])
 (.block 0 [[2], [3], [], [], [0, 4]] (.post (.seq (.seq (.reg [.op (.bin .eql 3 (.v 2) (.c (.int .i64 2))),
  .nop 0])
 (.cond (.v 0) (.post .skip [0] 0)
 (.post (.seq (.reg [.op (.bin .eql 3 (.v 3) (.c (.int .i64 3))),
  .nop 0])
 (.cond (.v 0) (.post .skip [0] 0)
 (.post (.seq (.reg [.op (.bin .eql 3 (.v 4) (.c (.int .i64 5))),
  .nop 0])
 (.cond (.v 0) (.post .skip [0] 0)
 (.reg [.op (.bin .eql 3 (.v 5) (.c (.int .i64 7))),
  .nop 0]))) [0] 2))) [0] 2)))
 (.cond (.v 0) (.seq (.reg [.nop 4,
  .nop 4,
  .op (.mov (.c (.int .i64 1)))])
 (.ret [.v 5, .v 0]))
 (.seq (.reg [.op (.bin .eql 3 (.v 4) (.c (.int .i64 4))),
  .nop 0])
 (.cond (.v 0) (.seq (.reg [.op (.mov (.c (.int .i64 2))),
  .op (.mov (.c (.int .i64 2)))])
 (.ret [.v 1, .v 0]))
 (.seq (.reg [.op (.bin .eql 3 (.v 5) (.c (.int .i64 8))),
  .nop 0])
 (.cond (.v 0) (.seq (.reg [.op (.mov (.c (.int .i64 2))),
  .op (.mov (.c (.int .i64 3)))])
 (.ret [.v 1, .v 0]))
 (.seq (.reg [.op (.bin .eql 3 (.v 6) (.c (.int .i64 9))),
  .nop 0])
 (.cond (.v 0) (.seq (.reg [.op (.mov (.c (.int .i64 3))),
  .op (.mov (.c (.int .i64 2)))])
 (.ret [.v 1, .v 0]))
 .skip)))))))) [6, 5] 5)))
 (.seq (.reg [.op (.mov (.c (.int .i64 0))),
  .op (.mov (.c (.int .i64 0)))])
 (.ret [.v 1, .v 0]))))⟩

def ac53L0b : AC :=
 (.post (.seq (.seq (.reg [.nop 2,
  .nop 8,
  .op (.bin .lss 3 (.v 2) (.v 8))])
 (.cond (.v 0) .skip
 (.pre [2] 4 (.exit 0))))
 (.seq (.block 1 [[0], [7], [11], [], [], [8, 9], [], [], [6], [], [1], [2, 10]] (.post (.seq (.reg [.nop 2,
  .nop 1,
  .nop 8,
  .op (.bin .rem 3 (.v 1) (.v 8)),
  .op (.mkl 1 1 [(.int .i64 0)] [(0, (.v 0))]),
  .op (.app 1 8 (.v 4) (.v 0)),
  .nop 0])
 (.reg [.nop 4,
  .nop 11,
  .op (.bin .quo 3 (.v 4) (.v 11)),
  .nop 0])) [0, 1] 4))
 (.reg [.nop 5,
  .op (.bin .add 3 (.v 5) (.c (.int .i64 1))),
  .nop 0]))) [1, 2, 0] 7)
def ac53L0 : AC := .loop [[0], [7], [8], [], [], [6], [], [1], [2]] ac53L0b
/-- tegula/tegularef05.digits -/
def ac53 : AFn := ⟨3, [],
 (.seq (.reg [.op (.mov (.c (.slice none 0 0)))])
 (.seq (.reg [.op (.mov (.c (.slice none 0 0)))])
 (.seq (.seq (.reg [.op (.mov (.c (.int .i64 0)))])
 (.block 0 [[7], [], [], [6], [], [1], [2]] (.pre [3, 1, 0] 0 ac53L0)))
 (.seq (.reg [.nop 0,
  .nop 0])
 (.ret [.v 0])))))⟩

def ac54L0b : AC :=
 (.post (.seq (.seq (.reg [.nop 1,
  .op (.bin .geq 3 (.v 1) (.c (.int .i64 0)))])
 (.cond (.v 0) .skip
 (.pre [1] 3 (.exit 0))))
 (.seq (.block 1 [[5], [11], [], [6, 10], [9], [], [4], [0, 7], [1]] (.post (.reg [.nop 1,
  .nop 7,
  .op (.bin .mul 3 (.v 1) (.v 7)),
  .nop 7,
  .nop 3,
  .op (.idx 1 (.v 7) (.v 3)),
  .op (.ld1 (.v 0)),
  .op (.bin .add 3 (.v 2) (.v 0)),
  .nop 0]) [0] 4))
 (.reg [.nop 3,
  .op (.bin .sub 3 (.v 3) (.c (.int .i64 1))),
  .nop 0]))) [1, 0] 5)
def ac54L0 : AC := .loop [[5], [6], [9], [], [4], [0, 7], [1]] ac54L0b
/-- tegula/tegularef05.number -/
def ac54 : AFn := ⟨2, [],
 (.seq (.reg [.op (.mov (.c (.int .i64 0)))])
 (.seq (.reg [.op (.mov (.c (.int .i64 0)))])
 (.seq (.seq (.post (.reg [.nop 2,
  .op (.len false (.v 2)),
  .op (.bin .sub 3 (.v 0) (.c (.int .i64 1))),
  .nop 0]) [0] 2)
 (.block 0 [[5], [9], [], [4], [0, 7], [1]] (.pre [1, 0] 0 ac54L0)))
 (.seq (.reg [.nop 0,
  .nop 0])
 (.ret [.v 0])))))⟩

theorem chk2 : chkFn Proofs.Try.prog Proofs.Try.f2 ac2 = true := by kernel_rfl
theorem chk3 : chkFn Proofs.Try.prog Proofs.Try.f3 ac3 = true := by kernel_rfl
theorem chk4 : chkFn Proofs.Try.prog Proofs.Try.f4 ac4 = true := by kernel_rfl
theorem chk5 : chkFn Proofs.Try.prog Proofs.Try.f5 ac5 = true := by kernel_rfl
theorem chk6 : chkFn Proofs.Try.prog Proofs.Try.f6 ac6 = true := by kernel_rfl
theorem chk7 : chkFn Proofs.Try.prog Proofs.Try.f7 ac7 = true := by kernel_rfl
theorem chk8 : chkFn Proofs.Try.prog Proofs.Try.f8 ac8 = true := by kernel_rfl
theorem chk9 : chkFn Proofs.Try.prog Proofs.Try.f9 ac9 = true := by kernel_rfl
theorem chk10 : chkFn Proofs.Try.prog Proofs.Try.f10 ac10 = true := by kernel_rfl
theorem chk11 : chkFn Proofs.Try.prog Proofs.Try.f11 ac11 = true := by kernel_rfl
theorem chk12 : chkFn Proofs.Try.prog Proofs.Try.f12 ac12 = true := by kernel_rfl
theorem chk13 : chkFn Proofs.Try.prog Proofs.Try.f13 ac13 = true := by kernel_rfl
theorem chk14 : chkFn Proofs.Try.prog Proofs.Try.f14 ac14 = true := by kernel_rfl
theorem chk15 : chkFn Proofs.Try.prog Proofs.Try.f15 ac15 = true := by kernel_rfl
theorem chk16 : chkFn Proofs.Try.prog Proofs.Try.f16 ac16 = true := by kernel_rfl
theorem chk17 : chkFn Proofs.Try.prog Proofs.Try.f17 ac17 = true := by kernel_rfl
theorem chk18 : chkFn Proofs.Try.prog Proofs.Try.f18 ac18 = true := by kernel_rfl
theorem chk19 : chkFn Proofs.Try.prog Proofs.Try.f19 ac19 = true := by kernel_rfl
theorem chk20 : chkFn Proofs.Try.prog Proofs.Try.f20 ac20 = true := by kernel_rfl
theorem chk21 : chkFn Proofs.Try.prog Proofs.Try.f21 ac21 = true := by kernel_rfl
theorem chk22 : chkFn Proofs.Try.prog Proofs.Try.f22 ac22 = true := by kernel_rfl
theorem chk23 : chkFn Proofs.Try.prog Proofs.Try.f23 ac23 = true := by kernel_rfl
theorem chk24 : chkFn Proofs.Try.prog Proofs.Try.f24 ac24 = true := by kernel_rfl
theorem chk25 : chkFn Proofs.Try.prog Proofs.Try.f25 ac25 = true := by kernel_rfl
theorem chk26 : chkFn Proofs.Try.prog Proofs.Try.f26 ac26 = true := by kernel_rfl
theorem chk27 : chkFn Proofs.Try.prog Proofs.Try.f27 ac27 = true := by kernel_rfl
theorem chk28 : chkFn Proofs.Try.prog Proofs.Try.f28 ac28 = true := by kernel_rfl
theorem chk29 : chkFn Proofs.Try.prog Proofs.Try.f29 ac29 = true := by kernel_rfl
theorem chk30 : chkFn Proofs.Try.prog Proofs.Try.f30 ac30 = true := by kernel_rfl
theorem chk31 : chkFn Proofs.Try.prog Proofs.Try.f31 ac31 = true := by kernel_rfl
theorem chk32 : chkFn Proofs.Try.prog Proofs.Try.f32 ac32 = true := by kernel_rfl
theorem chk33 : chkFn Proofs.Try.prog Proofs.Try.f33 ac33 = true := by kernel_rfl
theorem chk34 : chkFn Proofs.Try.prog Proofs.Try.f34 ac34 = true := by kernel_rfl
theorem chk35 : chkFn Proofs.Try.prog Proofs.Try.f35 ac35 = true := by kernel_rfl
theorem chk36 : chkFn Proofs.Try.prog Proofs.Try.f36 ac36 = true := by kernel_rfl
theorem chk37 : chkFn Proofs.Try.prog Proofs.Try.f37 ac37 = true := by kernel_rfl
theorem chk38 : chkFn Proofs.Try.prog Proofs.Try.f38 ac38 = true := by kernel_rfl
theorem chk39 : chkFn Proofs.Try.prog Proofs.Try.f39 ac39 = true := by kernel_rfl
theorem chk40 : chkFn Proofs.Try.prog Proofs.Try.f40 ac40 = true := by kernel_rfl
theorem chk41 : chkFn Proofs.Try.prog Proofs.Try.f41 ac41 = true := by kernel_rfl
theorem chk42 : chkFn Proofs.Try.prog Proofs.Try.f42 ac42 = true := by kernel_rfl
theorem chk43 : chkFn Proofs.Try.prog Proofs.Try.f43 ac43 = true := by kernel_rfl
theorem chk44 : chkFn Proofs.Try.prog Proofs.Try.f44 ac44 = true := by kernel_rfl
theorem chk45 : chkFn Proofs.Try.prog Proofs.Try.f45 ac45 = true := by kernel_rfl
theorem chk46 : chkFn Proofs.Try.prog Proofs.Try.f46 ac46 = true := by kernel_rfl
theorem chk47 : chkFn Proofs.Try.prog Proofs.Try.f47 ac47 = true := by kernel_rfl
theorem chk48 : chkFn Proofs.Try.prog Proofs.Try.f48 ac48 = true := by kernel_rfl
theorem chk49 : chkFn Proofs.Try.prog Proofs.Try.f49 ac49 = true := by kernel_rfl
theorem chk50 : chkFn Proofs.Try.prog Proofs.Try.f50 ac50 = true := by kernel_rfl
theorem chk51 : chkFn Proofs.Try.prog Proofs.Try.f51 ac51 = true := by kernel_rfl
theorem chk52 : chkFn Proofs.Try.prog Proofs.Try.f52 ac52 = true := by kernel_rfl
theorem chk53 : chkFn Proofs.Try.prog Proofs.Try.f53 ac53 = true := by kernel_rfl
theorem chk54 : chkFn Proofs.Try.prog Proofs.Try.f54 ac54 = true := by kernel_rfl
noncomputable def tab : List (Nat × AFn) := [(2, ac2), (3, ac3), (4, ac4), (5, ac5), (6, ac6), (7, ac7), (8, ac8), (9, ac9), (10, ac10), (11, ac11), (12, ac12), (13, ac13), (14, ac14), (15, ac15), (16, ac16), (17, ac17), (18, ac18), (19, ac19), (20, ac20), (21, ac21), (22, ac22), (23, ac23), (24, ac24), (25, ac25), (26, ac26), (27, ac27), (28, ac28), (29, ac29), (30, ac30), (31, ac31), (32, ac32), (33, ac33), (34, ac34), (35, ac35), (36, ac36), (37, ac37), (38, ac38), (39, ac39), (40, ac40), (41, ac41), (42, ac42), (43, ac43), (44, ac44), (45, ac45), (46, ac46), (47, ac47), (48, ac48), (49, ac49), (50, ac50), (51, ac51), (52, ac52), (53, ac53), (54, ac54)]
theorem good : Good Proofs.Try.prog tab := (.cons Proofs.Try.func2 chk2 (.cons Proofs.Try.func3 chk3 (.cons Proofs.Try.func4 chk4 (.cons Proofs.Try.func5 chk5 (.cons Proofs.Try.func6 chk6 (.cons Proofs.Try.func7 chk7 (.cons Proofs.Try.func8 chk8 (.cons Proofs.Try.func9 chk9 (.cons Proofs.Try.func10 chk10 (.cons Proofs.Try.func11 chk11 (.cons Proofs.Try.func12 chk12 (.cons Proofs.Try.func13 chk13 (.cons Proofs.Try.func14 chk14 (.cons Proofs.Try.func15 chk15 (.cons Proofs.Try.func16 chk16 (.cons Proofs.Try.func17 chk17 (.cons Proofs.Try.func18 chk18 (.cons Proofs.Try.func19 chk19 (.cons Proofs.Try.func20 chk20 (.cons Proofs.Try.func21 chk21 (.cons Proofs.Try.func22 chk22 (.cons Proofs.Try.func23 chk23 (.cons Proofs.Try.func24 chk24 (.cons Proofs.Try.func25 chk25 (.cons Proofs.Try.func26 chk26 (.cons Proofs.Try.func27 chk27 (.cons Proofs.Try.func28 chk28 (.cons Proofs.Try.func29 chk29 (.cons Proofs.Try.func30 chk30 (.cons Proofs.Try.func31 chk31 (.cons Proofs.Try.func32 chk32 (.cons Proofs.Try.func33 chk33 (.cons Proofs.Try.func34 chk34 (.cons Proofs.Try.func35 chk35 (.cons Proofs.Try.func36 chk36 (.cons Proofs.Try.func37 chk37 (.cons Proofs.Try.func38 chk38 (.cons Proofs.Try.func39 chk39 (.cons Proofs.Try.func40 chk40 (.cons Proofs.Try.func41 chk41 (.cons Proofs.Try.func42 chk42 (.cons Proofs.Try.func43 chk43 (.cons Proofs.Try.func44 chk44 (.cons Proofs.Try.func45 chk45 (.cons Proofs.Try.func46 chk46 (.cons Proofs.Try.func47 chk47 (.cons Proofs.Try.func48 chk48 (.cons Proofs.Try.func49 chk49 (.cons Proofs.Try.func50 chk50 (.cons Proofs.Try.func51 chk51 (.cons Proofs.Try.func52 chk52 (.cons Proofs.Try.func53 chk53 (.cons Proofs.Try.func54 chk54 .nil)))))))))))))))))))))))))))))))))))))))))))))))))))))
end Go.Am.C21
