/- What the abstract machine runs, the model runs: codes and functions. -/
import Derived.Test.YtaohgpgbphlblaaAmSim
import Derived.Orders
set_option linter.unusedVariables false
set_option linter.unusedSimpArgs false
set_option linter.unusedSectionVars false
namespace Go.Am
open Go Go.RowKit
section
variable {μ : Type} [AMem μ] {P : Program}

def DrawSim (μ : Type) [AMem μ] (P : Program) : Prop :=
  ∀ (rec : Nat → List Value → μ → Nat → OR μ) (nt : Nat) (ops : Array Oper) (bs : List Nat) (l : List AI) (Γ Γe : Ctx) (e : List Value) (m : μ) (n : Nat) (X : AX) (e' : List Value) (m' : μ) (n' r wm : Nat), CallSim P rec → CallLoc rec → orderOk ops bs = true →
    chkOps P nt ops ops.toList Γ l = some Γe → opsD P rec l bs 0 [] e m n 0 0 = .ok X e' m' n' r wm →
    X = .norm ∧ ∀ (ρ : Ren) (V : Nat → Option Blk) (w : World) (B F : Nat) (a : Act), a.defers = [] → a.tmps.size = nt → EnvRel ρ Γ e a.tmps → Sub (Nat.lor r wm) F → Agree V m n F → MRel ρ V w B → Free ρ n →
      wpAny P .any ops (RegPost B ρ V w n m' n' wm nt Γe e') ops.size (Array.replicate ops.size false) a w

/-- how a code ends -/
def Ends (P : Program) (res : Array ResultVar) (ctx : List (Nat × Ctx)) (Γo : Option Ctx) (ρ : Ren) (e : List Value) (a : Act) (w : World) : AX → Exit → Prop
  | .norm, ex => ex = .normal ∧ ∃ Γ, Γo = some Γ ∧ EnvRel ρ Γ e a.tmps
  | .exit id, ex => ex = .exit id ∧ ∃ Γ, lookC ctx id = some Γ ∧ EnvRel ρ Γ e a.tmps
  | .ret v, ex => ex = .ret ∧ ∃ v', (∀ fn : Func, fn.results = res → (results fn a.tmps).run P w = .ok v' w) ∧ VRel ρ v v'
def Leaves (P : Program) (res : Array ResultVar) (ctx : List (Nat × Ctx)) (Γo : Option Ctx) (nt B : Nat) (ρ : Ren) (V : Nat → Option Blk) (w : World) (n : Nat) (m' : μ) (n' W : Nat) (X : AX) (e : List Value) : Exit → Act → World → Prop := fun ex a' w' =>
  ∃ ρ', a'.defers = [] ∧ a'.tmps.size = nt ∧ Post ρ V w B n m' n' W ρ' w' ∧ Ends P res ctx Γo ρ' e a' w' X ex

def CodeSim (μ : Type) [AMem μ] (P : Program) (E : Nat → Option AFn) (Y : Nat → List Value → μ → Nat → OR μ) (k : Nat) : Prop :=
  ∀ (nt : Nat) (res : Array ResultVar) (x : AC) (c : Code) (ctx : List (Nat × Ctx)) (Γ : Ctx) (Γo : Option Ctx) (e : List Value) (m : μ) (n : Nat) (X : AX) (e' : List Value) (m' : μ) (n' r wm : Nat), chk P nt res ctx Γ c x = some Γo → exec P E Y k x e m n = .ok X e' m' n' r wm →
    ∀ (ρ : Ren) (V : Nat → Option Blk) (w : World) (B F : Nat) (a : Act), a.defers = [] → a.tmps.size = nt → EnvRel ρ Γ e a.tmps → Sub (Nat.lor r wm) F → Agree V m n F → MRel ρ V w B → Free ρ n →
      c.wp P (Leaves P res ctx Γo nt B ρ V w n m' n' wm X e') a w

/-! ### results -/
theorem res_sound {ρ : Ren} {V : Nat → Option Blk} {w : World} {B F : Nat} {Γ : Ctx} {e : List Value} {tmps : Array Value} {m : μ} {n : Nat} (he : EnvRel ρ Γ e tmps) (hm : MRel ρ V w B) (hag : Agree V m n F) :
    ∀ (rs : List ResultVar) (l : List ROp) (vs : List Value) (r : Nat), resOk P Γ rs l = true → resA e m n l = some (vs, r) → Sub r F →
      ∃ vs', LRel ρ vs vs' ∧ (rs.mapM (m := Sem) fun | .tmp t => pure (tmps.getD t undef) | .cell a t => do loadVar t (← asAddr (tmps.getD a undef))).run P w = .ok vs' w
  | [], [], vs, r, _, h, _ => by injection h with h; injection h with h1 h2; subst h1; exact ⟨[], .nil ρ, rfl⟩
  | x :: rs, [], vs, r, h, _, _ => by cases x <;> simp [resOk] at h
  | [], y :: l, vs, r, h, _, _ => by simp [resOk] at h
  | x :: rs, y :: l, vs, r, hok, h, hF => by
    have h : Option.rec (motive := fun _ => Option (List Value × Nat)) none (fun p => resO e m n p.1 p.2 y) (resA e m n l) = some (vs, r) := h
    cases hr : resA e m n l with
    | none => rw [hr] at h; cases h
    | some p =>
      obtain ⟨vs1, r1⟩ := p
      rw [hr] at h
      replace h : resO e m n vs1 r1 y = some (vs, r) := h
      have key : ∀ (hrest : resOk P Γ rs l = true) (hsub : Sub r1 F) (v v' : Value), vs = v :: vs1 → VRel ρ v v' → ((fun | .tmp t => pure (tmps.getD t undef) | .cell a t => do loadVar t (← asAddr (tmps.getD a undef)) : ResultVar → Sem Value) x).run P w = .ok v' w →
          ∃ vs', LRel ρ vs vs' ∧ ((x :: rs).mapM (m := Sem) fun | .tmp t => pure (tmps.getD t undef) | .cell a t => do loadVar t (← asAddr (tmps.getD a undef))).run P w = .ok vs' w := by
        intro hrest hsub v v' hvs hv hrun
        obtain ⟨vs', h1, h2⟩ := res_sound he hm hag rs l vs1 r1 hrest hr hsub
        refine ⟨v' :: vs', by rw [hvs]; exact .cons hv h1, ?_⟩
        rw [List.mapM_cons]
        simp only [Sem.run_bind] at hrun ⊢
        rw [hrun]
        simp only [Result.andThen_ok, h2]; rfl
      have cellf : ∀ (a i : Nat) (t : Nat) (b o : Nat) (f : List Value → Option Value) (v : Value), named Γ i a = true → lget e i = .pointer (some ⟨b, o, none⟩) → resC vs1 r1 b f (getb m n b) = some (vs, r) →
          (∀ c p v sz opn wr, getb m n b = some (.cells c sz opn wr) → ρ b = some p → F.testBit b = true → f c = some v → ∃ v', (loadVar t ⟨p.blk, p.base + o, none⟩).run P w = .ok v' w ∧ VRel ρ v v') →
          Sub r1 F ∧ ∃ v v', vs = v :: vs1 ∧ VRel ρ v v' ∧ (do loadVar t (← asAddr (tmps.getD a undef)) : Sem Value).run P w = .ok v' w := by
        intro a i t b o f v hn hl hc hld
        cases hg : getb m n b with
        | none => rw [hg] at hc; cases hc
        | some O =>
          cases O with | cells c sz opn wr =>
          rw [hg] at hc
          replace hc : Option.rec (motive := fun _ => Option (List Value × Nat)) none (fun v => some (v :: vs1, Nat.lor r1 (bit b))) (f c) = some (vs, r) := hc
          cases hf : f c with
          | none => rw [hf] at hc; cases hc
          | some v =>
            rw [hf] at hc
            replace hc : some (v :: vs1, Nat.lor r1 (bit b)) = some (vs, r) := hc
            injection hc with hc; injection hc with h1 h2; subst h1; subst h2
            obtain ⟨x1, y1, g1, g2, g3⟩ := he i a hn
            rw [lget_eq, g1] at hl
            replace hl : x1 = .pointer (some ⟨b, o, none⟩) := hl
            subst hl
            cases g3 with
            | flat hf => simp [flat] at hf
            | ptr hp =>
              rename_i p
              obtain ⟨v', hr', hv⟩ := hld c p v sz opn wr hg hp (hF b (by rw [lor_test, bit_test]; simp)) hf
              refine ⟨Sub.trans (Sub.left _ _) hF, v, v', rfl, hv, ?_⟩
              rw [Array.getD_eq_getD_getElem?, g2]
              simp [asAddr, hr']
      cases y with
      | v i =>
        cases x with
        | cell a t => simp [resOk] at hok
        | tmp t =>
          simp only [resOk, Bool.and_eq_true] at hok
          injection h with h; injection h with h1 h2
          obtain ⟨x1, y1, g1, g2, g3⟩ := he i t hok.1
          refine key hok.2 (by rw [h2]; exact hF) x1 y1 ?_ g3 ?_
          · rw [← h1, lget_eq, g1]; rfl
          · show Result.ok _ w = _
            rw [Array.getD_eq_getD_getElem?, g2]; rfl
      | cell i =>
        cases x with
        | tmp t => simp [resOk] at hok
        | cell a t =>
          simp only [resOk, Bool.and_eq_true, beq_iff_eq] at hok
          replace h : resP m n vs1 r1 (fun o c => cget c o) (lget e i) = some (vs, r) := h
          unfold resP at h
          split at h
          · rename_i b o hl
            obtain ⟨hs, v, v', h1, h2, h3⟩ := cellf a i t b o _ undef hok.1.1 hl h (fun c p v sz opn wr hg hp hFb hf => by
              replace hf : cget c o = some v := hf
              rw [cget_eq] at hf
              obtain ⟨_, hb⟩ := at_block hm hag hFb hg hp
              obtain ⟨y', hy, hr⟩ := brel_cell hb hf
              exact ⟨y', by simp [loadVar, run_isAgg hok.1.2, hy], hr⟩)
            exact key hok.2 hs v v' h1 h2 h3
          · cases h
      | cells i k =>
        cases x with
        | tmp t => simp [resOk] at hok
        | cell a t =>
          simp only [resOk, Bool.and_eq_true, beq_iff_eq] at hok
          replace h : resP m n vs1 r1 (fun o c => aggO (cellsAt c o k)) (lget e i) = some (vs, r) := h
          unfold resP at h
          split at h
          · rename_i b o hl
            obtain ⟨ti, hti, hts⟩ := isSz_run hok.1.2
            obtain ⟨hs, v, v', h1, h2, h3⟩ := cellf a i t b o _ undef hok.1.1.1 hl h (fun c p v sz opn wr hg hp hFb hf => by
              replace hf : aggO (cellsAt c o k) = some v := hf
              obtain ⟨cl, hcl, rfl⟩ := aggO_some hf
              obtain ⟨_, hb⟩ := at_block hm hag hFb hg hp
              obtain ⟨l', hr, hlen, hcell⟩ := brel_cells hb hcl
              have := run_loadCells_list (P := P) w ⟨p.blk, p.base + o, none⟩ l' (fun j v hv => (hcell j v hv).2)
              rw [hlen] at this
              exact ⟨.agg l'.toArray, by simp [loadVar, run_isAgg hok.1.1.2, run_sizeOf hti, hts, this], hr.agg⟩)
            exact key hok.2 hs v v' h1 h2 h3
          · cases h

theorem results_sound {ρ : Ren} {V : Nat → Option Blk} {w : World} {B F : Nat} {Γ : Ctx} {e : List Value} {tmps : Array Value} {m : μ} {n r : Nat} {res : Array ResultVar} {l : List ROp} {vs : List Value} (he : EnvRel ρ Γ e tmps) (hm : MRel ρ V w B) (hag : Agree V m n F)
    (hok : resOk P Γ res.toList l = true) (h : resA e m n l = some (vs, r)) (hF : Sub r F) : ∃ v', (∀ fn : Func, fn.results = res → (results fn tmps).run P w = .ok v' w) ∧ VRel ρ (retV vs) v' := by
  obtain ⟨vs', hr, hrun⟩ := res_sound he hm hag res.toList l vs r hok h hF
  have hex : ∃ v', VRel ρ (retV vs) v' ∧ v' = (if h : vs'.toArray.size = 1 then vs'.toArray[0] else .tuple vs'.toArray) := by
    refine LRel.cases (P := fun vs vs' => ∃ v', VRel ρ (retV vs) v' ∧ v' = (if h : vs'.toArray.size = 1 then vs'.toArray[0] else .tuple vs'.toArray)) hr ⟨_, .tuple rfl (fun i x y h => by simp at h), rfl⟩ ?_
    intro x y l l' hxy hl
    refine LRel.cases (P := fun l l' => ∃ v', VRel ρ (retV (x :: l)) v' ∧ v' = (if h : (y :: l').toArray.size = 1 then (y :: l').toArray[0] else .tuple (y :: l').toArray)) hl ⟨y, hxy, by simp⟩ ?_
    intro x2 y2 l2 l2' h2 hl2
    exact ⟨_, (LRel.cons hxy (.cons h2 hl2)).tuple, by simp⟩
  obtain ⟨v', hv, he'⟩ := hex
  refine ⟨v', fun fn hfn => ?_, hv⟩
  unfold results
  rw [hfn, Array.mapM_eq_mapM_toList]
  simp only [Sem.run_bind, Sem.run_map, Sem.run_pure]
  erw [hrun]
  simp only [Result.andThen_ok]
  rw [he']

theorem Leaves.map {res : Array ResultVar} {ctx : List (Nat × Ctx)} {Γo Γo' : Option Ctx} {nt B : Nat} {ρ ρ1 : Ren} {V : Nat → Option Blk} {w w1 : World} {n n1 : Nat} {m1 m' : μ} {n' W1 W : Nat} {X : AX} {e : List Value} {ex : Exit} {a' : Act} {w' : World}
    (hp : Post ρ V w B n m1 n1 W1 ρ1 w1) (l : Loc m1 n1 m' n' W) (h : Leaves P res ctx Γo nt B ρ1 (upd V W1 m1) w1 n1 m' n' W X e ex a' w') (hE : ∀ ρ', Ends P res ctx Γo ρ' e a' w' X ex → Ends P res ctx Γo' ρ' e a' w' X ex) :
    Leaves P res ctx Γo' nt B ρ V w n m' n' (Nat.lor W1 W) X e ex a' w' := by
  obtain ⟨ρ', h1, h2, h3, h4⟩ := h
  exact ⟨ρ', h1, h2, hp.trans h3 l, hE ρ' h4⟩

theorem bit_pow (n : Nat) : bit n = 2 ^ n := by unfold bit; show 1 <<< n = _; rw [Nat.one_shiftLeft]
theorem mod_test (x n b : Nat) : (Nat.mod x (bit n)).testBit b = (decide (b < n) && x.testBit b) := by
  rw [bit_pow]; exact Nat.testBit_mod_two_pow x n b
theorem mod_bit {x n : Nat} (h : Nat.mod x (bit n) = 0) : ∀ b, b < n → x.testBit b = false := by
  intro b hb
  have h1 := mod_test x n b
  rw [h] at h1
  simpa [hb] using h1.symm

/-- the calls of the abstract machine, once its codes are simulated -/
theorem call_sim {E : Nat → Option AFn} {Y : Nat → List Value → μ → Nat → OR μ} (hY : CallLoc Y) (hYs : CallSim P Y) {k : Nat} (hE : ∀ f af, E f = some af → ∃ fn, P.funcs[f]? = some fn ∧ chkFn P fn af = true) (hk : CodeSim μ P E Y k) : CallSim P (callA (μ := μ) E Y (exec P E Y k)) := by
  intro f args m n v m' n' r wm h ρ V w B F args' hargs hF hag hm hfree
  unfold callA at h
  cases hEf : E f with
  | none => rw [hEf] at h; exact hYs _ _ _ _ _ _ _ _ _ h ρ V w B F args' hargs hF hag hm hfree
  | some af =>
    rw [hEf] at h
    replace h : callF (exec P E Y k) args m n af = .ok v m' n' r wm := h
    unfold callF at h
    cases hl : Nat.beq (llen args) af.na
    · rw [hl, cond_false] at h; cases h
    · rw [hl, cond_true] at h
      have hla : args.length = af.na := by have := Nat.eq_of_beq_eq_true hl; rwa [llen_eq] at this
      obtain ⟨fn, hfn, hck⟩ := hE f af hEf
      unfold chkFn at hck
      split at hck
      · rename_i c hbody
        simp only [Bool.and_eq_true, bne_iff_ne, ne_eq, decide_eq_true_eq] at hck
        obtain ⟨⟨hname, hna⟩, hck⟩ := hck
        refine ⟨⟨fn, c, hfn, hname, hbody⟩, ?_⟩
        cases hr : exec P E Y k af.code args m n with
        | no => rw [hr] at h; cases h
        | ok X e1 m1 n1 r1 w1 =>
          rw [hr] at h
          replace h : leaveX af m n e1 m1 n1 r1 w1 X = .ok v m' n' r wm := h
          have l1 := exec_loc (P := P) (E := E) (Y := Y) hY k _ _ _ _ _ _ _ _ _ _ hr
          -- the frame at the start
          have hsz : args'.size = af.na := by have := hargs.1; simp at this; omega
          have henv : EnvRel ρ (argC af.na) args (args' ++ Array.replicate (fn.ntmps - args'.size) undef) := by
            intro i t hn
            obtain ⟨l, h1, h2⟩ := named_iff.1 hn
            simp only [argC, List.getElem?_map, Option.map_eq_some_iff] at h1
            obtain ⟨j, hj, rfl⟩ := h1
            have hjr := List.getElem?_eq_some_iff.1 hj
            obtain ⟨hlt, hje⟩ := hjr
            simp at hlt hje
            subst hje
            have : t = i := by simpa using h2
            subst this
            have hx : args[t]? = some (args[t]'(by omega)) := List.getElem?_eq_getElem _
            obtain ⟨y, hy, hv⟩ := hargs.get hx
            refine ⟨_, y, hx, ?_, hv⟩
            rw [Array.getElem?_append_left (by omega)]
            simpa using hy
          have hts : (args' ++ Array.replicate (fn.ntmps - args'.size) undef).size = fn.ntmps := by simp; omega
          -- the masks that the run itself asks
          have masks : ∀ {r0 : Nat} {v0 : Value}, leaveA m n v0 m1 n1 r0 w1 = .ok v m' n' r wm → ∃ F', Sub (Nat.lor r0 w1) F' ∧ Agree V m n F' := by
            intro r0 v0 h
            unfold leaveA at h
            cases hb : (addrFree v0 && Nat.beq (Nat.mod w1 (bit n)) 0)
            · rw [hb, cond_false] at h; injection h with e1 e2 e3 e4 e5; subst e4; subst e5; exact ⟨F, hF, hag⟩
            · rw [hb, cond_true, forceN_eq] at h; injection h with e1 e2 e3 e4 e5
              rw [Bool.and_eq_true] at hb
              refine ⟨Nat.lor F (Nat.lor r0 w1), Sub.right _ _, fun b hb1 hb2 => hag b hb1 ?_⟩
              rw [lor_test, lor_test] at hb2
              cases hFb : F.testBit b
              · have hw := mod_bit (Nat.eq_of_beq_eq_true hb.2) b hb1
                rw [hFb, hw] at hb2
                simp at hb2
                have := hF b (by rw [lor_test, ← e4, mod_test, hb2]; simp [hb1])
                rw [hFb] at this; exact this
              · rfl
          have leave : ∀ {r0 : Nat} {v0 : Value} {ρ' : Ren} {w' : World} {v' : Value}, leaveA m n v0 m1 n1 r0 w1 = .ok v m' n' r wm → VRel ρ' v0 v' → Post ρ V w B n m1 n1 w1 ρ' w' → ∃ ρ'', VRel ρ'' v v' ∧ Post ρ V w B n m' n' wm ρ'' w' := by
            intro r0 v0 ρ' w' v' h hv hp
            unfold leaveA at h
            cases hb : (addrFree v0 && Nat.beq (Nat.mod w1 (bit n)) 0)
            · rw [hb, cond_false] at h; injection h with e1 e2 e3 e4 e5; subst e1; subst e2; subst e3; subst e5; exact ⟨ρ', hv, hp⟩
            · rw [hb, cond_true, forceN_eq] at h; injection h with e1 e2 e3 e4 e5; subst e1; subst e2; subst e3; subst e5
              rw [Bool.and_eq_true] at hb
              have e := hv.free_eq hb.1
              subst e
              have hw := mod_bit (Nat.eq_of_beq_eq_true hb.2)
              have same : ∀ k, k < w.heap.size → w'.heap[k]? = w.heap[k]? := fun k hk => hp.frame k hk fun b p hb1 hb2 => by
                have hbn : b < n := by
                  rcases Nat.lt_or_ge b n with h1 | h1
                  · exact h1
                  · rw [hfree b h1] at hb1; cases hb1
                rw [hw b hbn] at hb2; cases hb2
              refine ⟨ρ, addrFree_rel ρ hb.1, ρ.le_refl, fun _ _ h => .inl h, ?_, hp.below, Nat.le_refl _, fun k hk _ => same k hk, fun _ _ h => .inl h, fun b h => by simp at h⟩
              rw [upd_zero]
              exact ⟨fun b p O h1 h2 => (hm.blk b p O h1 h2).mono ρ.le_refl (same _ (hm.fresh b p h1)), hm.excl, fun b p h1 => Nat.lt_of_lt_of_le (hm.fresh b p h1) hp.below.size, Nat.le_trans hm.le hp.below.size⟩
          -- the body
          cases hch : chk P fn.ntmps fn.results [] (argC af.na) c af.code with
          | none => rw [hch] at hck; cases hck
          | some Γo =>
            rw [hch] at hck
            have body : ∀ F', Sub (Nat.lor r1 w1) F' → Agree V m n F' → c.wp P (Leaves P fn.results [] Γo fn.ntmps B ρ V w n m1 n1 w1 X e1) { tmps := args' ++ Array.replicate (fn.ntmps - args'.size) undef, defers := [] } w := fun F' hF' hag' =>
              hk fn.ntmps fn.results af.code c [] (argC af.na) Γo args m n X e1 m1 n1 r1 w1 hch hr ρ V w B F' _ rfl hts henv hF' hag' hm hfree
            unfold leaveX at h
            split at h
            · -- the code ends by itself
              unfold leaveO at h
              split at h
              · rename_i vs r' hres
                obtain ⟨F', hF', hag'⟩ := masks h
                refine calls_of_wp hfn hbody (wp_mono (body F' (Sub.trans (Sub.lor (Sub.trans (Sub.left r1 r') (Sub.left _ w1)) (Sub.right _ w1)) hF') hag') fun ex a' w' hq => ?_)
                obtain ⟨ρ', hd, hs, hp, rfl, Γ', rfl, henv'⟩ := hq
                have hck : resOk P Γ' fn.results.toList af.endrs = true := hck
                obtain ⟨v', hrun, hv⟩ := results_sound (P := P) henv' hp.mrel (hag'.step l1) hck hres (Sub.trans (Sub.trans (Sub.right r1 r') (Sub.left _ w1)) hF')
                obtain ⟨ρ'', hv'', hp''⟩ := leave h hv hp
                exact ⟨hd, v', hrun fn rfl, ρ'', v', rfl, hv'', hp''⟩
              · cases h
            · -- a return
              rename_i v0
              obtain ⟨F', hF', hag'⟩ := masks h
              refine calls_of_wp hfn hbody (wp_mono (body F' hF' hag') fun ex a' w' hq => ?_)
              obtain ⟨ρ', hd, hs, hp, rfl, v', hrun, hv⟩ := hq
              obtain ⟨ρ'', hv'', hp''⟩ := leave h hv hp
              exact ⟨hd, v', hrun fn rfl, ρ'', v', rfl, hv'', hp''⟩
            · cases h
      · cases hck

omit [AMem μ] in
theorem onNorm_ok {f : List Value → μ → Nat → CR μ} {X1 X : AX} {e1 e' : List Value} {m1 m' : μ} {n1 n' r1 w1 r wm : Nat} (h : onNorm f X1 e1 m1 n1 r1 w1 = .ok X e' m' n' r wm) :
    (X1 = .norm ∧ ∃ r2 w2, f e1 m1 n1 = .ok X e' m' n' r2 w2 ∧ r = Nat.lor r1 r2 ∧ wm = Nat.lor w1 w2) ∨ (X1 ≠ .norm ∧ X = X1 ∧ e' = e1 ∧ m' = m1 ∧ n' = n1 ∧ r = r1 ∧ wm = w1) := by
  unfold onNorm at h
  split at h
  · obtain ⟨r2, w2, h2, e1, e2⟩ := addRW_ok h
    exact .inl ⟨rfl, r2, w2, h2, e1, e2⟩
  · rename_i hn
    injection h with e1 e2 e3 e4 e5 e6
    exact .inr ⟨hn, e1.symm, e2.symm, e3.symm, e4.symm, e5.symm, e6.symm⟩

/-- 'a' and then 'b' -/
theorem seq_wp {nt : Nat} {res : Array ResultVar} {ctx : List (Nat × Ctx)} {Γ1 : Option Ctx} {Γo : Option Ctx} {a : Code} {rest : Code → Prop} {E : Nat → Option AFn}
    {e1 e' : List Value} {m m1 m' : μ} {n n1 n' r1 w1 r2 w2 : Nat} {X1 X : AX} {ρ : Ren} {V : Nat → Option Blk} {w : World} {B F : Nat} {act : Act} {K : Act → World → Prop} {Q : Exit → Act → World → Prop}
    (h : a.wp P (Leaves P res ctx Γ1 nt B ρ V w n m1 n1 w1 X1 e1) act w) (hn : X1 = .norm) (hK : ∀ a' w' ρ', a'.defers = [] → a'.tmps.size = nt → Post ρ V w B n m1 n1 w1 ρ' w' → (∃ Γ, Γ1 = some Γ ∧ EnvRel ρ' Γ e1 a'.tmps) → K a' w') : a.wp P (Exit.then K Q) act w := by
  refine wp_mono h fun ex a' w' hq => ?_
  obtain ⟨ρ', hd, hs, hp, hE⟩ := hq
  subst hn
  obtain ⟨rfl, hΓ⟩ := hE
  exact hK a' w' ρ' hd hs hp hΓ

theorem Ends.exits {res : Array ResultVar} {ctx : List (Nat × Ctx)} {Γ1 Γo : Option Ctx} {ρ : Ren} {e : List Value} {a : Act} {w : World} {X : AX} {ex : Exit} (hn : X ≠ .norm) (h : Ends P res ctx Γ1 ρ e a w X ex) : Ends P res ctx Γo ρ e a w X ex ∧ ex ≠ .normal := by
  cases X with
  | norm => exact absurd rfl hn
  | exit id => exact ⟨h, by rw [h.1]; simp⟩
  | ret v => exact ⟨h, by rw [h.1]; simp⟩

/-- a loop, from the head of a round -/
def Round (P : Program) (c : Code) (Q : Exit → Act → World → Prop) (a : Act) (w : World) : Prop :=
  ∀ (b : Frame) (k : List Item) (cs : List Frame), ∃ e a' w', Q e a' w' ∧ Arrives P (lone (b.at a (.code c :: .inLoop c :: k)) cs w) b k cs e a' w'
omit [AMem μ] in
theorem Round.mono {c : Code} {Q Q' : Exit → Act → World → Prop} {a : Act} {w : World} (h : Round P c Q a w) (hq : ∀ e a w, Q e a w → Q' e a w) : Round P c Q' a w :=
  fun b k cs => let ⟨e, a', w', q, r⟩ := h b k cs; ⟨e, a', w', hq _ _ _ q, r⟩
omit [AMem μ] in
theorem wp_of_round {c : Code} {Q : Exit → Act → World → Prop} {a : Act} {w : World} (h : Round P c Q a w) : (Code.loop c).wp P Q a w := by
  intro b k cs
  obtain ⟨e, a', w', hq, harr⟩ := h b k cs
  exact ⟨e, a', w', hq, .of_steps (.one step_loop) harr⟩
omit [AMem μ] in
theorem round_of {c : Code} {Q : Exit → Act → World → Prop} {a : Act} {w : World} (h : c.wp P (Exit.then (Round P c Q) Q) a w) : Round P c Q a w := by
  intro b k cs
  obtain ⟨e, a₁, w₁, hq, harr⟩ := h b (.inLoop c :: k) cs
  cases e with
  | normal =>
    obtain ⟨e₂, a₂, w₂, hq₂, harr₂⟩ := hq b k cs
    exact ⟨e₂, a₂, w₂, hq₂, .of_steps (Steps.trans harr (.one step_inLoop)) harr₂⟩
  | exit id => exact ⟨_, a₁, w₁, hq, .pass (x := .inLoop c) rfl (fun _ _ => .inl (by simp)) harr⟩
  | goto l => exact ⟨_, a₁, w₁, hq, .pass (x := .inLoop c) rfl (fun _ _ => .inl (by simp)) harr⟩
  | ret => exact ⟨_, a₁, w₁, hq, .pass (x := .inLoop c) rfl (fun _ _ => .inl (by simp)) harr⟩
  | panic ch => exact ⟨_, a₁, w₁, hq, .pass (x := .inLoop c) rfl (fun _ _ => .inl (by simp)) harr⟩
  | outgrown => exact ⟨_, a₁, w₁, hq, .pass (x := .inLoop c) rfl (fun _ _ => .inl (by simp)) harr⟩
def LoopSim (μ : Type) [AMem μ] (P : Program) (E : Nat → Option AFn) (Y : Nat → List Value → μ → Nat → OR μ) (k : Nat) : Prop :=
  ∀ (nt : Nat) (res : Array ResultVar) (x : AC) (c : Code) (ctx : List (Nat × Ctx)) (Γh : Ctx) (Γb : Option Ctx) (Γo : Option Ctx) (e : List Value) (m : μ) (n : Nat) (X : AX) (e' : List Value) (m' : μ) (n' r wm : Nat), chk P nt res ctx Γh c x = some Γb → (∀ Γ2, Γb = some Γ2 → leC Γh Γ2 = true) → exec P E Y k (.loop Γh x) e m n = .ok X e' m' n' r wm →
    ∀ (ρ : Ren) (V : Nat → Option Blk) (w : World) (B F : Nat) (a : Act), a.defers = [] → a.tmps.size = nt → EnvRel ρ Γh e a.tmps → Sub (Nat.lor r wm) F → Agree V m n F → MRel ρ V w B → Free ρ n →
      X ≠ .norm ∧ Round P c (Leaves P res ctx Γo nt B ρ V w n m' n' wm X e') a w

theorem loop_sim {E : Nat → Option AFn} {Y : Nat → List Value → μ → Nat → OR μ} (hY : CallLoc Y) {k : Nat} (ih : CodeSim μ P E Y k) (ihl : LoopSim μ P E Y k) : LoopSim μ P E Y (k + 1) := by
  intro nt res x c ctx Γh Γb Γo e m n X e' m' n' r wm hchk hle h ρ V w B F a hd hs he hF hag hm hfree
  replace h : crRec (exec P E Y k x e m n) (onNorm (exec P E Y k (.loop Γh x))) = .ok X e' m' n' r wm := h
  obtain ⟨X1, e1, m1, n1, r1, w1, h1, h2⟩ := crRec_ok h
  rcases onNorm_ok h2 with ⟨rfl, r2, w2, h3, rfl, rfl⟩ | ⟨hne, rfl, rfl, rfl, rfl, rfl, rfl⟩
  · have l1 := exec_loc (P := P) (E := E) (Y := Y) hY k _ _ _ _ _ _ _ _ _ _ h1
    have l2 := exec_loc (P := P) (E := E) (Y := Y) hY k _ _ _ _ _ _ _ _ _ _ h3
    have hwp := ih nt res x c ctx Γh Γb e m n .norm e1 m1 n1 r1 w1 hchk h1 ρ V w B F a hd hs he (Sub.trans (Sub.lor (Sub.trans (Sub.left r1 r2) (Sub.left _ _)) (Sub.trans (Sub.left w1 w2) (Sub.right _ _))) hF) hag hm hfree
    have next : ∀ a' w' ρ', a'.defers = [] → a'.tmps.size = nt → Post ρ V w B n m1 n1 w1 ρ' w' → (∃ Γ2, Γb = some Γ2 ∧ EnvRel ρ' Γ2 e1 a'.tmps) → X ≠ .norm ∧ Round P c (Leaves P res ctx Γo nt B ρ V w n m' n' (Nat.lor w1 w2) X e') a' w' := by
      intro a' w' ρ' g1 g2 g3 ⟨Γ2, hΓ, g4⟩
      obtain ⟨q1, q2⟩ := ihl nt res x c ctx Γh Γb Γo e1 m1 n1 X e' m' n' r2 w2 hchk hle h3 ρ' (upd V w1 m1) w' B F a' g1 g2 (g4.le (hle Γ2 hΓ)) (Sub.trans (Sub.lor (Sub.trans (Sub.right r1 r2) (Sub.left _ _)) (Sub.trans (Sub.right w1 w2) (Sub.right _ _))) hF) (hag.step l1) g3.mrel (hfree.next g3)
      exact ⟨q1, q2.mono fun ex a'' w'' hq => Leaves.map g3 l2 hq fun _ h => h⟩
    have hX : X ≠ .norm := by
      intro hX
      subst hX
      obtain ⟨ex, a', w', ⟨ρ', g1, g2, g3, _, g4⟩, _⟩ := hwp default [] []
      exact (next a' w' ρ' g1 g2 g3 g4).1 rfl
    refine ⟨hX, round_of (wp_mono hwp fun ex a' w' hq => ?_)⟩
    obtain ⟨ρ', g1, g2, g3, rfl, g4⟩ := hq
    exact (next a' w' ρ' g1 g2 g3 g4).2
  · have hwp := ih nt res x c ctx Γh Γb e m n X e' m' n' r wm hchk h1 ρ V w B F a hd hs he hF hag hm hfree
    refine ⟨hne, round_of (wp_mono hwp fun ex a' w' hq => ?_)⟩
    obtain ⟨ρ', g1, g2, g3, g4⟩ := hq
    obtain ⟨g5, g6⟩ := g4.exits (Γo := Γo) hne
    have hl : Leaves P res ctx Γo nt B ρ V w n m' n' wm X e' ex a' w' := ⟨ρ', g1, g2, g3, g5⟩
    cases ex <;> first | exact hl | exact absurd rfl g6

set_option maxHeartbeats 1000000 in
theorem code_sim (hmix : P.follows .mixedOrders = true) (hdraw : DrawSim μ P) {E : Nat → Option AFn} {Y : Nat → List Value → μ → Nat → OR μ} (hY : CallLoc Y) (hYs : CallSim P Y) (hE : ∀ f af, E f = some af → ∃ fn, P.funcs[f]? = some fn ∧ chkFn P fn af = true) : ∀ k, CodeSim μ P E Y k ∧ LoopSim μ P E Y k
  | 0 => by
    refine ⟨?_, fun nt res x c ctx Γh Γb Γo e m n X e' m' n' r wm hchk hle h => by cases h⟩
    intro nt res x c ctx Γ Γo e m n X e' m' n' r wm hchk h
    cases h
  | k + 1 => by
    obtain ⟨ih, ihl⟩ := code_sim hmix hdraw hY hYs hE k
    have hloop := loop_sim hY ih ihl
    refine ⟨?_, hloop⟩
    have hcall := call_sim hY hYs hE ih
    have hloc : CallLoc (callA (μ := μ) E Y (exec P E Y k)) := fun f args m n v m' n' r wm h => call_loc hY (exec_loc (P := P) (E := E) (Y := Y) hY k) h
    intro nt res x c ctx Γ Γo e m n X e' m' n' r wm hchk h ρ V w B F a hd hs he hF hag hm hfree
    replace h : execF P E Y (exec P E Y k) x e m n = .ok X e' m' n' r wm := h
    have same : ∀ {Γ0 : Ctx}, EnvRel ρ Γ0 e a.tmps → Leaves P res ctx (some Γ0) nt B ρ V w n m n 0 .norm e .normal a w := fun h0 => ⟨ρ, hd, hs, Post.same hm n m, rfl, _, rfl, h0⟩
    cases x with
    | pre sel d x =>
      have hchk : chk P nt res ctx (fixC sel d Γ) c x = some Γo := by cases c <;> simpa [chk] using hchk
      exact ih nt res x c ctx _ Γo _ m n X e' m' n' r wm hchk h ρ V w B F a hd hs (he.fix sel d) hF hag hm hfree
    | post x sel d =>
      have hchk : postC sel d (chk P nt res ctx Γ c x) = some Γo := by cases c <;> simpa [chk] using hchk
      obtain ⟨X1, e1, m1, n1, r1, w1, h1, h2⟩ := crRec_ok h
      have sub : ∀ Γ1, chk P nt res ctx Γ c x = some Γ1 → r = r1 → wm = w1 → c.wp P (Leaves P res ctx Γ1 nt B ρ V w n m1 n1 w1 X1 e1) a w := by
        intro Γ1 hc e1 e2
        subst e1; subst e2
        exact ih nt res x c ctx Γ Γ1 e m n X1 _ m1 n1 _ _ hc h1 ρ V w B F a hd hs he hF hag hm hfree
      unfold onPost at h2
      cases hc : chk P nt res ctx Γ c x with
      | none => rw [hc] at hchk; cases hchk
      | some Γ1 =>
        rw [hc] at hchk
        split at h2
        · injection h2 with q1 q2 q3 q4 q5 q6
          subst q1; subst q2; subst q3; subst q4
          refine wp_mono (sub Γ1 hc q5.symm q6.symm) fun ex a' w' hq => ?_
          obtain ⟨ρ', g1, g2, g3, rfl, Γ2, rfl, g4⟩ := hq
          injection hchk with hchk; subst hchk
          rw [← q6]
          exact ⟨ρ', g1, g2, g3, rfl, _, rfl, g4.fix sel d⟩
        · rename_i hne
          injection h2 with q1 q2 q3 q4 q5 q6
          subst q1; subst q2; subst q3; subst q4
          refine wp_mono (sub Γ1 hc q5.symm q6.symm) fun ex a' w' hq => ?_
          obtain ⟨ρ', g1, g2, g3, g4⟩ := hq
          rw [← q6]
          exact ⟨ρ', g1, g2, g3, (g4.exits hne).1⟩
    | skip =>
      cases c <;> simp [chk] at hchk
      subst hchk
      injection h with q1 q2 q3 q4 q5 q6
      subst q1; subst q2; subst q3; subst q4; subst q6
      exact wp_skip (same he)
    | reg l =>
      have hc : ∃ id ops, c = .region id ops false := by
        cases c with
        | region id ops draw => cases draw with
          | false => exact ⟨id, ops, rfl⟩
          | true => simp [chk] at hchk
        | _ => simp [chk] at hchk
      obtain ⟨id, ops, rfl⟩ := hc
      simp only [chk, Option.map_eq_some_iff] at hchk
      obtain ⟨Γe, hch, rfl⟩ := hchk
      obtain ⟨rfl, W, hW, hl, hwp⟩ := ops_sim hcall hloc l ops.toList 0 Γ e m n 0 0 X e' m' n' r wm (by simp) hch h
      rw [zero_lor'] at hW
      subst hW
      refine wp_region ?_
      have := hwp ρ V w B F a hd hs he hF hag hm hfree
      rw [show List.range ops.size = List.range' 0 ops.toList.length by rw [List.range_eq_range']; simp]
      refine wpOps_mono (fun ex a' w' hq => ?_) _ _ _ this
      obtain ⟨ρ', g1, g2, g3, g4, g5⟩ := hq
      exact ⟨ρ', g2, g3, g5, g1, Γe, rfl, g4⟩
    | regD l bs =>
      have hc : ∃ id ops, c = .region id ops true := by
        cases c with
        | region id ops draw => cases draw with
          | true => exact ⟨id, ops, rfl⟩
          | false => simp [chk] at hchk
        | _ => simp [chk] at hchk
      obtain ⟨id, ops, rfl⟩ := hc
      simp only [chk] at hchk
      cases ho : orderOk ops bs
      · rw [ho] at hchk; cases hchk
      rw [ho] at hchk
      simp only [cond_true, Option.map_eq_some_iff] at hchk
      obtain ⟨Γe, hch, rfl⟩ := hchk
      obtain ⟨rfl, hwp⟩ := hdraw _ nt ops bs l Γ Γe e m n X e' m' n' r wm hcall hloc ho hch h
      refine wp_mono (wp_region_any hmix (hwp ρ V w.drew B F a hd hs he hF hag hm.drew hfree)) fun ex a' w' hq => ?_
      obtain ⟨ρ', g1, g2, g3, g4, g5⟩ := hq
      exact ⟨ρ', g2, g3, g5.of_drew, g1, Γe, rfl, g4⟩
    | seq x y =>
      cases c <;> simp [chk] at hchk
      rename_i c1 c2
      obtain ⟨X1, e1, m1, n1, r1, w1, h1, h2⟩ := crRec_ok h
      cases hc : chk P nt res ctx Γ c1 x with
      | none => rw [hc] at hchk; cases hchk
      | some Γ1 =>
        rw [hc] at hchk
        cases Γ1 with
        | none => cases hchk
        | some Γ1 =>
          replace hchk : chk P nt res ctx Γ1 c2 y = some Γo := hchk
          refine wp_seq ?_
          rcases onNorm_ok h2 with ⟨rfl, r2, w2, h3, rfl, rfl⟩ | ⟨hne, rfl, rfl, rfl, rfl, rfl, rfl⟩
          · have l1 := exec_loc (P := P) (E := E) (Y := Y) hY k _ _ _ _ _ _ _ _ _ _ h1
            have l2 := exec_loc (P := P) (E := E) (Y := Y) hY k _ _ _ _ _ _ _ _ _ _ h3
            have hwp := ih nt res x c1 ctx Γ (some Γ1) e m n .norm e1 m1 n1 r1 w1 hc h1 ρ V w B F a hd hs he (Sub.trans (Sub.lor (Sub.trans (Sub.left r1 r2) (Sub.left _ _)) (Sub.trans (Sub.left w1 w2) (Sub.right _ _))) hF) hag hm hfree
            refine wp_mono hwp fun ex a' w' hq => ?_
            obtain ⟨ρ', g1, g2, g3, rfl, Γ2, hΓ, g4⟩ := hq
            injection hΓ with hΓ; subst hΓ
            have hwp2 := ih nt res y c2 ctx Γ1 Γo e1 m1 n1 X e' m' n' r2 w2 hchk h3 ρ' (upd V w1 m1) w' B F a' g1 g2 g4 (Sub.trans (Sub.lor (Sub.trans (Sub.right r1 r2) (Sub.left _ _)) (Sub.trans (Sub.right w1 w2) (Sub.right _ _))) hF) (hag.step l1) g3.mrel (hfree.next g3)
            exact wp_mono hwp2 fun ex a'' w'' hq => Leaves.map g3 l2 hq fun _ h => h
          · have hwp := ih nt res x c1 ctx Γ (some Γ1) e m n X e' m' n' r wm hc h1 ρ V w B F a hd hs he hF hag hm hfree
            refine wp_mono hwp fun ex a' w' hq => ?_
            obtain ⟨ρ', g1, g2, g3, g4⟩ := hq
            obtain ⟨g5, g6⟩ := g4.exits (Γo := Γo) hne
            have hl : Leaves P res ctx Γo nt B ρ V w n m' n' wm X e' ex a' w' := ⟨ρ', g1, g2, g3, g5⟩
            cases ex <;> first | exact hl | exact absurd rfl g6
    | cond c0 x y =>
      cases c <;> simp [chk] at hchk
      rename_i o c1 c2
      cases ho : opdOk Γ o c0
      · rw [ho] at hchk; cases hchk
      rw [ho, cond_true] at hchk
      replace h : onCond (exec P E Y k x e m n) (exec P E Y k y e m n) (ev e c0) = .ok X e' m' n' r wm := h
      have hval := opd_sound he ho
      cases hc1 : chk P nt res ctx Γ c1 x with
      | none => rw [hc1] at hchk; cases hchk
      | some Γa =>
        cases hc2 : chk P nt res ctx Γ c2 y with
        | none => rw [hc1, hc2] at hchk; cases hchk
        | some Γb =>
          rw [hc1, hc2] at hchk
          injection hchk with hchk; subst hchk
          unfold onCond at h
          split at h
          · rename_i t ht
            rw [ht] at hval
            have hval := hval.flat_eq rfl
            cases t
            · refine wp_cond_false hval (wp_mono (ih nt res y c2 ctx Γ Γb e m n X e' m' n' r wm hc2 h ρ V w B F a hd hs he hF hag hm hfree) fun ex a' w' hq => ?_)
              obtain ⟨ρ', g1, g2, g3, g4⟩ := hq
              refine ⟨ρ', g1, g2, g3, ?_⟩
              cases X with
              | norm =>
                obtain ⟨rfl, Γ2, rfl, g5⟩ := g4
                refine ⟨rfl, ?_⟩
                cases Γa with
                | none => exact ⟨_, rfl, g5⟩
                | some Γa => exact ⟨_, rfl, fun i t hn => g5 i t (named_meet hn).2⟩
              | exit id => exact g4
              | ret v => exact g4
            · refine wp_cond_true hval (wp_mono (ih nt res x c1 ctx Γ Γa e m n X e' m' n' r wm hc1 h ρ V w B F a hd hs he hF hag hm hfree) fun ex a' w' hq => ?_)
              obtain ⟨ρ', g1, g2, g3, g4⟩ := hq
              refine ⟨ρ', g1, g2, g3, ?_⟩
              cases X with
              | norm =>
                obtain ⟨rfl, Γ2, rfl, g5⟩ := g4
                refine ⟨rfl, ?_⟩
                cases Γb with
                | none => exact ⟨_, rfl, g5⟩
                | some Γb => exact ⟨_, rfl, fun i t hn => g5 i t (named_meet hn).1⟩
              | exit id => exact g4
              | ret v => exact g4
          · cases h
    | block id Γt x =>
      cases c <;> simp [chk] at hchk
      rename_i id' c1
      cases hid : Nat.beq id' id
      · rw [hid] at hchk; cases hchk
      rw [hid, cond_true] at hchk
      have hid : id' = id := Nat.eq_of_beq_eq_true hid
      subst hid
      obtain ⟨X1, e1, m1, n1, r1, w1, h1, h2⟩ := crRec_ok h
      cases hc : chk P nt res ((id', Γt) :: ctx) Γ c1 x with
      | none => rw [hc] at hchk; cases hchk
      | some Γb =>
        rw [hc] at hchk
        have hle : Γo = some Γt ∧ ∀ Γ2, Γb = some Γ2 → leC Γt Γ2 = true := by
          cases Γb with
          | none => injection hchk with hchk; exact ⟨hchk.symm, fun _ h => by cases h⟩
          | some Γ2 =>
            replace hchk : cond (leC Γt Γ2) (some (some Γt)) none = some Γo := hchk
            cases hl : leC Γt Γ2
            · rw [hl] at hchk; cases hchk
            · rw [hl, cond_true] at hchk; injection hchk with hchk
              exact ⟨hchk.symm, fun _ h => by injection h with h; subst h; exact hl⟩
        obtain ⟨rfl, hle⟩ := hle
        have hmask : r = r1 ∧ wm = w1 ∧ m' = m1 ∧ n' = n1 ∧ e' = e1 ∧ ((X1 = .norm ∧ X = .norm) ∨ (X1 = .exit id' ∧ X = .norm) ∨ (∃ i, i ≠ id' ∧ X1 = .exit i ∧ X = .exit i) ∨ (∃ v, X1 = .ret v ∧ X = .ret v)) := by
          unfold onBlock at h2
          split at h2
          · rename_i i
            cases hi : Nat.beq i id'
            · rw [hi, cond_false] at h2; injection h2 with q1 q2 q3 q4 q5 q6
              exact ⟨q5.symm, q6.symm, q3.symm, q4.symm, q2.symm, .inr (.inr (.inl ⟨i, by intro e; subst e; simp at hi, rfl, q1.symm⟩))⟩
            · rw [hi, cond_true] at h2; injection h2 with q1 q2 q3 q4 q5 q6
              exact ⟨q5.symm, q6.symm, q3.symm, q4.symm, q2.symm, .inr (.inl ⟨by rw [Nat.eq_of_beq_eq_true hi], q1.symm⟩)⟩
          · rename_i hne
            injection h2 with q1 q2 q3 q4 q5 q6
            refine ⟨q5.symm, q6.symm, q3.symm, q4.symm, q2.symm, ?_⟩
            cases X1 with
            | norm => exact .inl ⟨rfl, q1.symm⟩
            | exit i => exact absurd rfl (hne i)
            | ret v => exact .inr (.inr (.inr ⟨v, rfl, q1.symm⟩))
        obtain ⟨rfl, rfl, rfl, rfl, rfl, hX⟩ := hmask
        refine wp_block (wp_mono (ih nt res x c1 ((id', Γt) :: ctx) Γ Γb e m n X1 e' m' n' r wm hc h1 ρ V w B F a hd hs he hF hag hm hfree) fun ex a' w' hq => ?_)
        obtain ⟨ρ', g1, g2, g3, g4⟩ := hq
        rcases hX with ⟨rfl, rfl⟩ | ⟨rfl, rfl⟩ | ⟨i, hi, rfl, rfl⟩ | ⟨v, rfl, rfl⟩
        · obtain ⟨rfl, Γ2, hΓ2, g5⟩ := g4
          exact ⟨ρ', g1, g2, g3, rfl, Γt, rfl, g5.le (hle Γ2 hΓ2)⟩
        · obtain ⟨rfl, Γ2, hΓ2, g5⟩ := g4
          have : some Γt = some Γ2 := by rw [← hΓ2]; simp [lookC]
          injection this with this; subst this
          show (if id' = id' then Leaves P res ctx (some Γt) nt B ρ V w n m' n' wm .norm e' .normal a' w' else _)
          rw [if_pos rfl]
          exact ⟨ρ', g1, g2, g3, rfl, Γt, rfl, g5⟩
        · obtain ⟨rfl, Γ2, hΓ2, g5⟩ := g4
          have hΓ2 : lookC ctx i = some Γ2 := by
            have hb : Nat.beq id' i = false := by
              cases hb : Nat.beq id' i
              · rfl
              · exact absurd (Nat.eq_of_beq_eq_true hb).symm hi
            simpa [lookC, hb] using hΓ2
          show (if i = id' then _ else Leaves P res ctx (some Γt) nt B ρ V w n m' n' wm (.exit i) e' (.exit i) a' w')
          rw [if_neg hi]
          exact ⟨ρ', g1, g2, g3, rfl, Γ2, hΓ2, g5⟩
        · obtain ⟨rfl, g5⟩ := g4
          exact ⟨ρ', g1, g2, g3, rfl, g5⟩
    | loop Γh x =>
      cases c <;> simp [chk] at hchk
      rename_i c1
      cases hle0 : leC Γh Γ
      · rw [hle0] at hchk; cases hchk
      rw [hle0, cond_true] at hchk
      cases hc : chk P nt res ctx Γh c1 x with
      | none => rw [hc] at hchk; cases hchk
      | some Γb =>
        rw [hc] at hchk
        have hle : ∀ Γ2, Γb = some Γ2 → leC Γh Γ2 = true := by
          intro Γ2 e2
          subst e2
          replace hchk : cond (leC Γh Γ2) (some none) none = some Γo := hchk
          cases hl : leC Γh Γ2
          · rw [hl] at hchk; cases hchk
          · rfl
        exact wp_of_round (hloop nt res x c1 ctx Γh Γb Γo e m n X e' m' n' r wm hc hle h ρ V w B F a hd hs (he.le hle0) hF hag hm hfree).2
    | exit id =>
      cases c <;> simp [chk] at hchk
      rename_i id'
      cases hid : Nat.beq id' id
      · rw [hid] at hchk; cases hchk
      rw [hid, cond_true] at hchk
      have hid : id' = id := Nat.eq_of_beq_eq_true hid
      subst hid
      injection h with q1 q2 q3 q4 q5 q6
      subst q1; subst q2; subst q3; subst q4; subst q6
      split at hchk
      · rename_i Γt hl
        cases hle : leC Γt Γ
        · rw [hle] at hchk; cases hchk
        · exact wp_exit ⟨ρ, hd, hs, Post.same hm n m, rfl, Γt, hl, he.le hle⟩
      · cases hchk
    | ret rs =>
      cases c <;> simp [chk] at hchk
      cases hres : resOk P Γ res.toList rs
      · rw [hres] at hchk; cases hchk
      replace h : onRet e m n (resA e m n rs) = .ok X e' m' n' r wm := h
      unfold onRet at h
      split at h
      · rename_i vs r' hra
        injection h with q1 q2 q3 q4 q5 q6
        subst q1; subst q2; subst q3; subst q4; subst q5; subst q6
        obtain ⟨v', hrun, hv⟩ := results_sound (P := P) he hm hag hres hra (Sub.trans (Sub.left _ _) hF)
        exact wp_ret ⟨ρ, hd, hs, Post.same hm n m, rfl, v', hrun, hv⟩
      · cases h
end
end Go.Am
