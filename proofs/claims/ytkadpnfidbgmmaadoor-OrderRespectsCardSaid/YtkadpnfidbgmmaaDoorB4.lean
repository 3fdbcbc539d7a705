/- The machine and its runs, part 4: AmRun AmDraw AmDraw2 AmDraw3 AmDraw4. -/
import Derived.Orders
import Derived.Scope
import Derived.Test.YtkadpnfidbgmmaaDoorB3
set_option linter.unusedVariables false
set_option linter.unusedSimpArgs false
set_option linter.unusedSectionVars false
namespace Go.Am
open Go Go.RowKit
section
variable {μ : Type} [AMem μ] {P : Program}

def DrawSim (μ : Type) [AMem μ] (P : Program) : Prop :=
  ∀ (rec : Nat → List Value → μ → Nat → OR μ) (nt : Nat) (ops : Array Oper) (bs : List Nat) (l : List AI) (Γ Γe : Ctx) (e : List Value) (m : μ) (n : Nat) (X : AX) (e' : List Value) (m' : μ) (n' r wm : Nat), CallSim P rec → CallLoc rec → orderOk ops bs = true →
    chkOps P nt ops ops.toList Γ l = some Γe → opsD P rec l bs 0 [] e m n 0 0 = .ok X e' m' n' r wm →
    X = .norm ∧ ∀ (ρ : Ren) (V : Nat → Option Blk) (w : World) (B F : Nat) (a : Act), a.defers = [] → a.tmps.size = nt → EnvRel ρ Γ e a.tmps → Sub (Nat.lor r wm) F → Agree V m n F → MRel ρ V w B → Free ρ n →
      wpAny P .any ops (RegPost B ρ V w n m' n' wm nt Γe e') ops.size (Array.replicate ops.size false) a w

/-- how a code ends -/
def Ends (P : Program) (res : Array ResultVar) (ctx : List (Nat × Ctx)) (Γo : Option Ctx) (ρ : Ren) (e : List Value) (a : Act) (w : World) : AX → Exit → Prop
  | .norm, ex => ex = .normal ∧ ∃ Γ, Γo = some Γ ∧ EnvRel ρ Γ e a.tmps
  | .exit id, ex => ex = .exit id ∧ ∃ Γ, lookC ctx id = some Γ ∧ EnvRel ρ Γ e a.tmps
  | .ret v, ex => ex = .ret ∧ ∃ v', (∀ fn : Func, fn.results = res → (results fn a.tmps).run P w = .ok v' w) ∧ VRel ρ v v'
def Leaves (P : Program) (res : Array ResultVar) (ctx : List (Nat × Ctx)) (Γo : Option Ctx) (nt B : Nat) (ρ : Ren) (V : Nat → Option Blk) (w : World) (n : Nat) (m' : μ) (n' W : Nat) (X : AX) (e : List Value) : Exit → Act → World → Prop := fun ex a' w' =>
  ∃ ρ', a'.defers = [] ∧ a'.tmps.size = nt ∧ Post ρ V w B n m' n' W ρ' w' ∧ Ends P res ctx Γo ρ' e a' w' X ex

def CodeSim (μ : Type) [AMem μ] (P : Program) (E : Nat → Option AFn) (Y : Nat → List Value → μ → Nat → OR μ) (k : Nat) : Prop :=
  ∀ (nt : Nat) (res : Array ResultVar) (x : AC) (c : Code) (ctx : List (Nat × Ctx)) (Γ : Ctx) (Γo : Option Ctx) (e : List Value) (m : μ) (n : Nat) (X : AX) (e' : List Value) (m' : μ) (n' r wm : Nat), chk P nt res ctx Γ c x = some Γo → exec P E Y k x e m n = .ok X e' m' n' r wm →
    ∀ (ρ : Ren) (V : Nat → Option Blk) (w : World) (B F : Nat) (a : Act), a.defers = [] → a.tmps.size = nt → EnvRel ρ Γ e a.tmps → Sub (Nat.lor r wm) F → Agree V m n F → MRel ρ V w B → Free ρ n →
      c.wp P (Leaves P res ctx Γo nt B ρ V w n m' n' wm X e') a w

/-! ### results -/
theorem res_sound {ρ : Ren} {V : Nat → Option Blk} {w : World} {B F : Nat} {Γ : Ctx} {e : List Value} {tmps : Array Value} {m : μ} {n : Nat} (he : EnvRel ρ Γ e tmps) (hm : MRel ρ V w B) (hag : Agree V m n F) :
    ∀ (rs : List ResultVar) (l : List ROp) (vs : List Value) (r : Nat), resOk P Γ rs l = true → resA e m n l = some (vs, r) → Sub r F →
      ∃ vs', LRel ρ vs vs' ∧ (rs.mapM (m := Sem) fun | .tmp t => pure (tmps.getD t undef) | .cell a t => do loadVar t (← asAddr (tmps.getD a undef))).run P w = .ok vs' w
  | [], [], vs, r, _, h, _ => by injection h with h; injection h with h1 h2; subst h1; exact ⟨[], .nil ρ, rfl⟩
  | x :: rs, [], vs, r, h, _, _ => by cases x <;> simp [resOk] at h
  | [], y :: l, vs, r, h, _, _ => by simp [resOk] at h
  | x :: rs, y :: l, vs, r, hok, h, hF => by
    have h : Option.rec (motive := fun _ => Option (List Value × Nat)) none (fun p => resO e m n p.1 p.2 y) (resA e m n l) = some (vs, r) := h
    cases hr : resA e m n l with
    | none => rw [hr] at h; cases h
    | some p =>
      obtain ⟨vs1, r1⟩ := p
      rw [hr] at h
      replace h : resO e m n vs1 r1 y = some (vs, r) := h
      have key : ∀ (hrest : resOk P Γ rs l = true) (hsub : Sub r1 F) (v v' : Value), vs = v :: vs1 → VRel ρ v v' → ((fun | .tmp t => pure (tmps.getD t undef) | .cell a t => do loadVar t (← asAddr (tmps.getD a undef)) : ResultVar → Sem Value) x).run P w = .ok v' w →
          ∃ vs', LRel ρ vs vs' ∧ ((x :: rs).mapM (m := Sem) fun | .tmp t => pure (tmps.getD t undef) | .cell a t => do loadVar t (← asAddr (tmps.getD a undef))).run P w = .ok vs' w := by
        intro hrest hsub v v' hvs hv hrun
        obtain ⟨vs', h1, h2⟩ := res_sound he hm hag rs l vs1 r1 hrest hr hsub
        refine ⟨v' :: vs', by rw [hvs]; exact .cons hv h1, ?_⟩
        rw [List.mapM_cons]
        simp only [Sem.run_bind] at hrun ⊢
        rw [hrun]
        simp only [Result.andThen_ok, h2]; rfl
      have cellf : ∀ (a i : Nat) (t : Nat) (b o : Nat) (f : List Value → Option Value) (v : Value), named Γ i a = true → lget e i = .pointer (some ⟨b, o, none⟩) → resC vs1 r1 b f (getb m n b) = some (vs, r) →
          (∀ c p v sz opn wr, getb m n b = some (.cells c sz opn wr) → ρ b = some p → F.testBit b = true → f c = some v → ∃ v', (loadVar t ⟨p.blk, p.base + o, none⟩).run P w = .ok v' w ∧ VRel ρ v v') →
          Sub r1 F ∧ ∃ v v', vs = v :: vs1 ∧ VRel ρ v v' ∧ (do loadVar t (← asAddr (tmps.getD a undef)) : Sem Value).run P w = .ok v' w := by
        intro a i t b o f v hn hl hc hld
        cases hg : getb m n b with
        | none => rw [hg] at hc; cases hc
        | some O =>
          cases O with | cells c sz opn wr =>
          rw [hg] at hc
          replace hc : Option.rec (motive := fun _ => Option (List Value × Nat)) none (fun v => some (v :: vs1, Nat.lor r1 (bit b))) (f c) = some (vs, r) := hc
          cases hf : f c with
          | none => rw [hf] at hc; cases hc
          | some v =>
            rw [hf] at hc
            replace hc : some (v :: vs1, Nat.lor r1 (bit b)) = some (vs, r) := hc
            injection hc with hc; injection hc with h1 h2; subst h1; subst h2
            obtain ⟨x1, y1, g1, g2, g3⟩ := he i a hn
            rw [lget_eq, g1] at hl
            replace hl : x1 = .pointer (some ⟨b, o, none⟩) := hl
            subst hl
            cases g3 with
            | flat hf => simp [flat] at hf
            | ptr hp =>
              rename_i p
              obtain ⟨v', hr', hv⟩ := hld c p v sz opn wr hg hp (hF b (by rw [lor_test, bit_test]; simp)) hf
              refine ⟨Sub.trans (Sub.left _ _) hF, v, v', rfl, hv, ?_⟩
              rw [Array.getD_eq_getD_getElem?, g2]
              simp [asAddr, hr']
      cases y with
      | v i =>
        cases x with
        | cell a t => simp [resOk] at hok
        | tmp t =>
          simp only [resOk, Bool.and_eq_true] at hok
          injection h with h; injection h with h1 h2
          obtain ⟨x1, y1, g1, g2, g3⟩ := he i t hok.1
          refine key hok.2 (by rw [h2]; exact hF) x1 y1 ?_ g3 ?_
          · rw [← h1, lget_eq, g1]; rfl
          · show Result.ok _ w = _
            rw [Array.getD_eq_getD_getElem?, g2]; rfl
      | cell i =>
        cases x with
        | tmp t => simp [resOk] at hok
        | cell a t =>
          simp only [resOk, Bool.and_eq_true, beq_iff_eq] at hok
          replace h : resP m n vs1 r1 (fun o c => cget c o) (lget e i) = some (vs, r) := h
          unfold resP at h
          split at h
          · rename_i b o hl
            obtain ⟨hs, v, v', h1, h2, h3⟩ := cellf a i t b o _ undef hok.1.1 hl h (fun c p v sz opn wr hg hp hFb hf => by
              replace hf : cget c o = some v := hf
              rw [cget_eq] at hf
              obtain ⟨_, hb⟩ := at_block hm hag hFb hg hp
              obtain ⟨y', hy, hr⟩ := brel_cell hb hf
              exact ⟨y', by simp [loadVar, run_isAgg hok.1.2, hy], hr⟩)
            exact key hok.2 hs v v' h1 h2 h3
          · cases h
      | cells i k =>
        cases x with
        | tmp t => simp [resOk] at hok
        | cell a t =>
          simp only [resOk, Bool.and_eq_true, beq_iff_eq] at hok
          replace h : resP m n vs1 r1 (fun o c => aggO (cellsAt c o k)) (lget e i) = some (vs, r) := h
          unfold resP at h
          split at h
          · rename_i b o hl
            obtain ⟨ti, hti, hts⟩ := isSz_run hok.1.2
            obtain ⟨hs, v, v', h1, h2, h3⟩ := cellf a i t b o _ undef hok.1.1.1 hl h (fun c p v sz opn wr hg hp hFb hf => by
              replace hf : aggO (cellsAt c o k) = some v := hf
              obtain ⟨cl, hcl, rfl⟩ := aggO_some hf
              obtain ⟨_, hb⟩ := at_block hm hag hFb hg hp
              obtain ⟨l', hr, hlen, hcell⟩ := brel_cells hb hcl
              have := run_loadCells_list (P := P) w ⟨p.blk, p.base + o, none⟩ l' (fun j v hv => (hcell j v hv).2)
              rw [hlen] at this
              exact ⟨.agg l'.toArray, by simp [loadVar, run_isAgg hok.1.1.2, run_sizeOf hti, hts, this], hr.agg⟩)
            exact key hok.2 hs v v' h1 h2 h3
          · cases h

theorem results_sound {ρ : Ren} {V : Nat → Option Blk} {w : World} {B F : Nat} {Γ : Ctx} {e : List Value} {tmps : Array Value} {m : μ} {n r : Nat} {res : Array ResultVar} {l : List ROp} {vs : List Value} (he : EnvRel ρ Γ e tmps) (hm : MRel ρ V w B) (hag : Agree V m n F)
    (hok : resOk P Γ res.toList l = true) (h : resA e m n l = some (vs, r)) (hF : Sub r F) : ∃ v', (∀ fn : Func, fn.results = res → (results fn tmps).run P w = .ok v' w) ∧ VRel ρ (retV vs) v' := by
  obtain ⟨vs', hr, hrun⟩ := res_sound he hm hag res.toList l vs r hok h hF
  have hex : ∃ v', VRel ρ (retV vs) v' ∧ v' = (if h : vs'.toArray.size = 1 then vs'.toArray[0] else .tuple vs'.toArray) := by
    refine LRel.cases (P := fun vs vs' => ∃ v', VRel ρ (retV vs) v' ∧ v' = (if h : vs'.toArray.size = 1 then vs'.toArray[0] else .tuple vs'.toArray)) hr ⟨_, .tuple rfl (fun i x y h => by simp at h), rfl⟩ ?_
    intro x y l l' hxy hl
    refine LRel.cases (P := fun l l' => ∃ v', VRel ρ (retV (x :: l)) v' ∧ v' = (if h : (y :: l').toArray.size = 1 then (y :: l').toArray[0] else .tuple (y :: l').toArray)) hl ⟨y, hxy, by simp⟩ ?_
    intro x2 y2 l2 l2' h2 hl2
    exact ⟨_, (LRel.cons hxy (.cons h2 hl2)).tuple, by simp⟩
  obtain ⟨v', hv, he'⟩ := hex
  refine ⟨v', fun fn hfn => ?_, hv⟩
  unfold results
  rw [hfn, Array.mapM_eq_mapM_toList]
  simp only [Sem.run_bind, Sem.run_map, Sem.run_pure]
  erw [hrun]
  simp only [Result.andThen_ok]
  rw [he']

theorem Leaves.map {res : Array ResultVar} {ctx : List (Nat × Ctx)} {Γo Γo' : Option Ctx} {nt B : Nat} {ρ ρ1 : Ren} {V : Nat → Option Blk} {w w1 : World} {n n1 : Nat} {m1 m' : μ} {n' W1 W : Nat} {X : AX} {e : List Value} {ex : Exit} {a' : Act} {w' : World}
    (hp : Post ρ V w B n m1 n1 W1 ρ1 w1) (l : Loc m1 n1 m' n' W) (h : Leaves P res ctx Γo nt B ρ1 (upd V W1 m1) w1 n1 m' n' W X e ex a' w') (hE : ∀ ρ', Ends P res ctx Γo ρ' e a' w' X ex → Ends P res ctx Γo' ρ' e a' w' X ex) :
    Leaves P res ctx Γo' nt B ρ V w n m' n' (Nat.lor W1 W) X e ex a' w' := by
  obtain ⟨ρ', h1, h2, h3, h4⟩ := h
  exact ⟨ρ', h1, h2, hp.trans h3 l, hE ρ' h4⟩

theorem bit_pow (n : Nat) : bit n = 2 ^ n := by unfold bit; show 1 <<< n = _; rw [Nat.one_shiftLeft]
theorem mod_test (x n b : Nat) : (Nat.mod x (bit n)).testBit b = (decide (b < n) && x.testBit b) := by
  rw [bit_pow]; exact Nat.testBit_mod_two_pow x n b
theorem mod_bit {x n : Nat} (h : Nat.mod x (bit n) = 0) : ∀ b, b < n → x.testBit b = false := by
  intro b hb
  have h1 := mod_test x n b
  rw [h] at h1
  simpa [hb] using h1.symm

/-- the calls of the abstract machine, once its codes are simulated -/
theorem call_sim {E : Nat → Option AFn} {Y : Nat → List Value → μ → Nat → OR μ} (hY : CallLoc Y) (hYs : CallSim P Y) {k : Nat} (hE : ∀ f af, E f = some af → ∃ fn, P.funcs[f]? = some fn ∧ chkFn P fn af = true) (hk : CodeSim μ P E Y k) : CallSim P (callA (μ := μ) E Y (exec P E Y k)) := by
  intro f args m n v m' n' r wm h ρ V w B F args' hargs hF hag hm hfree
  unfold callA at h
  cases hEf : E f with
  | none => rw [hEf] at h; exact hYs _ _ _ _ _ _ _ _ _ h ρ V w B F args' hargs hF hag hm hfree
  | some af =>
    rw [hEf] at h
    replace h : callF (exec P E Y k) args m n af = .ok v m' n' r wm := h
    unfold callF at h
    cases hl : Nat.beq (llen args) af.na
    · rw [hl, cond_false] at h; cases h
    · rw [hl, cond_true] at h
      have hla : args.length = af.na := by have := Nat.eq_of_beq_eq_true hl; rwa [llen_eq] at this
      obtain ⟨fn, hfn, hck⟩ := hE f af hEf
      unfold chkFn at hck
      split at hck
      · rename_i c hbody
        simp only [Bool.and_eq_true, bne_iff_ne, ne_eq, decide_eq_true_eq] at hck
        obtain ⟨⟨hname, hna⟩, hck⟩ := hck
        refine ⟨⟨fn, c, hfn, hname, hbody⟩, ?_⟩
        cases hr : exec P E Y k af.code args m n with
        | no => rw [hr] at h; cases h
        | ok X e1 m1 n1 r1 w1 =>
          rw [hr] at h
          replace h : leaveX af m n e1 m1 n1 r1 w1 X = .ok v m' n' r wm := h
          have l1 := exec_loc (P := P) (E := E) (Y := Y) hY k _ _ _ _ _ _ _ _ _ _ hr
          -- the frame at the start
          have hsz : args'.size = af.na := by have := hargs.1; simp at this; omega
          have henv : EnvRel ρ (argC af.na) args (args' ++ Array.replicate (fn.ntmps - args'.size) undef) := by
            intro i t hn
            obtain ⟨l, h1, h2⟩ := named_iff.1 hn
            simp only [argC, List.getElem?_map, Option.map_eq_some_iff] at h1
            obtain ⟨j, hj, rfl⟩ := h1
            have hjr := List.getElem?_eq_some_iff.1 hj
            obtain ⟨hlt, hje⟩ := hjr
            simp at hlt hje
            subst hje
            have : t = i := by simpa using h2
            subst this
            have hx : args[t]? = some (args[t]'(by omega)) := List.getElem?_eq_getElem _
            obtain ⟨y, hy, hv⟩ := hargs.get hx
            refine ⟨_, y, hx, ?_, hv⟩
            rw [Array.getElem?_append_left (by omega)]
            simpa using hy
          have hts : (args' ++ Array.replicate (fn.ntmps - args'.size) undef).size = fn.ntmps := by simp; omega
          -- the masks that the run itself asks
          have masks : ∀ {r0 : Nat} {v0 : Value}, leaveA m n v0 m1 n1 r0 w1 = .ok v m' n' r wm → ∃ F', Sub (Nat.lor r0 w1) F' ∧ Agree V m n F' := by
            intro r0 v0 h
            unfold leaveA at h
            cases hb : (addrFree v0 && Nat.beq (Nat.mod w1 (bit n)) 0)
            · rw [hb, cond_false] at h; injection h with e1 e2 e3 e4 e5; subst e4; subst e5; exact ⟨F, hF, hag⟩
            · rw [hb, cond_true, forceN_eq] at h; injection h with e1 e2 e3 e4 e5
              rw [Bool.and_eq_true] at hb
              refine ⟨Nat.lor F (Nat.lor r0 w1), Sub.right _ _, fun b hb1 hb2 => hag b hb1 ?_⟩
              rw [lor_test, lor_test] at hb2
              cases hFb : F.testBit b
              · have hw := mod_bit (Nat.eq_of_beq_eq_true hb.2) b hb1
                rw [hFb, hw] at hb2
                simp at hb2
                have := hF b (by rw [lor_test, ← e4, mod_test, hb2]; simp [hb1])
                rw [hFb] at this; exact this
              · rfl
          have leave : ∀ {r0 : Nat} {v0 : Value} {ρ' : Ren} {w' : World} {v' : Value}, leaveA m n v0 m1 n1 r0 w1 = .ok v m' n' r wm → VRel ρ' v0 v' → Post ρ V w B n m1 n1 w1 ρ' w' → ∃ ρ'', VRel ρ'' v v' ∧ Post ρ V w B n m' n' wm ρ'' w' := by
            intro r0 v0 ρ' w' v' h hv hp
            unfold leaveA at h
            cases hb : (addrFree v0 && Nat.beq (Nat.mod w1 (bit n)) 0)
            · rw [hb, cond_false] at h; injection h with e1 e2 e3 e4 e5; subst e1; subst e2; subst e3; subst e5; exact ⟨ρ', hv, hp⟩
            · rw [hb, cond_true, forceN_eq] at h; injection h with e1 e2 e3 e4 e5; subst e1; subst e2; subst e3; subst e5
              rw [Bool.and_eq_true] at hb
              have e := hv.free_eq hb.1
              subst e
              have hw := mod_bit (Nat.eq_of_beq_eq_true hb.2)
              have same : ∀ k, k < w.heap.size → w'.heap[k]? = w.heap[k]? := fun k hk => hp.frame k hk fun b p hb1 hb2 => by
                have hbn : b < n := by
                  rcases Nat.lt_or_ge b n with h1 | h1
                  · exact h1
                  · rw [hfree b h1] at hb1; cases hb1
                rw [hw b hbn] at hb2; cases hb2
              refine ⟨ρ, addrFree_rel ρ hb.1, ρ.le_refl, fun _ _ h => .inl h, ?_, hp.below, Nat.le_refl _, fun k hk _ => same k hk, fun _ _ h => .inl h, fun b h => by simp at h⟩
              rw [upd_zero]
              exact ⟨fun b p O h1 h2 => (hm.blk b p O h1 h2).mono ρ.le_refl (same _ (hm.fresh b p h1)), hm.excl, fun b p h1 => Nat.lt_of_lt_of_le (hm.fresh b p h1) hp.below.size, Nat.le_trans hm.le hp.below.size⟩
          -- the body
          cases hch : chk P fn.ntmps fn.results [] (argC af.na) c af.code with
          | none => rw [hch] at hck; cases hck
          | some Γo =>
            rw [hch] at hck
            have body : ∀ F', Sub (Nat.lor r1 w1) F' → Agree V m n F' → c.wp P (Leaves P fn.results [] Γo fn.ntmps B ρ V w n m1 n1 w1 X e1) { tmps := args' ++ Array.replicate (fn.ntmps - args'.size) undef, defers := [] } w := fun F' hF' hag' =>
              hk fn.ntmps fn.results af.code c [] (argC af.na) Γo args m n X e1 m1 n1 r1 w1 hch hr ρ V w B F' _ rfl hts henv hF' hag' hm hfree
            unfold leaveX at h
            split at h
            · -- the code ends by itself
              unfold leaveO at h
              split at h
              · rename_i vs r' hres
                obtain ⟨F', hF', hag'⟩ := masks h
                refine calls_of_wp hfn hbody (wp_mono (body F' (Sub.trans (Sub.lor (Sub.trans (Sub.left r1 r') (Sub.left _ w1)) (Sub.right _ w1)) hF') hag') fun ex a' w' hq => ?_)
                obtain ⟨ρ', hd, hs, hp, rfl, Γ', rfl, henv'⟩ := hq
                have hck : resOk P Γ' fn.results.toList af.endrs = true := hck
                obtain ⟨v', hrun, hv⟩ := results_sound (P := P) henv' hp.mrel (hag'.step l1) hck hres (Sub.trans (Sub.trans (Sub.right r1 r') (Sub.left _ w1)) hF')
                obtain ⟨ρ'', hv'', hp''⟩ := leave h hv hp
                exact ⟨hd, v', hrun fn rfl, ρ'', v', rfl, hv'', hp''⟩
              · cases h
            · -- a return
              rename_i v0
              obtain ⟨F', hF', hag'⟩ := masks h
              refine calls_of_wp hfn hbody (wp_mono (body F' hF' hag') fun ex a' w' hq => ?_)
              obtain ⟨ρ', hd, hs, hp, rfl, v', hrun, hv⟩ := hq
              obtain ⟨ρ'', hv'', hp''⟩ := leave h hv hp
              exact ⟨hd, v', hrun fn rfl, ρ'', v', rfl, hv'', hp''⟩
            · cases h
      · cases hck

omit [AMem μ] in
theorem onNorm_ok {f : List Value → μ → Nat → CR μ} {X1 X : AX} {e1 e' : List Value} {m1 m' : μ} {n1 n' r1 w1 r wm : Nat} (h : onNorm f X1 e1 m1 n1 r1 w1 = .ok X e' m' n' r wm) :
    (X1 = .norm ∧ ∃ r2 w2, f e1 m1 n1 = .ok X e' m' n' r2 w2 ∧ r = Nat.lor r1 r2 ∧ wm = Nat.lor w1 w2) ∨ (X1 ≠ .norm ∧ X = X1 ∧ e' = e1 ∧ m' = m1 ∧ n' = n1 ∧ r = r1 ∧ wm = w1) := by
  unfold onNorm at h
  split at h
  · obtain ⟨r2, w2, h2, e1, e2⟩ := addRW_ok h
    exact .inl ⟨rfl, r2, w2, h2, e1, e2⟩
  · rename_i hn
    injection h with e1 e2 e3 e4 e5 e6
    exact .inr ⟨hn, e1.symm, e2.symm, e3.symm, e4.symm, e5.symm, e6.symm⟩

/-- 'a' and then 'b' -/
theorem seq_wp {nt : Nat} {res : Array ResultVar} {ctx : List (Nat × Ctx)} {Γ1 : Option Ctx} {Γo : Option Ctx} {a : Code} {rest : Code → Prop} {E : Nat → Option AFn}
    {e1 e' : List Value} {m m1 m' : μ} {n n1 n' r1 w1 r2 w2 : Nat} {X1 X : AX} {ρ : Ren} {V : Nat → Option Blk} {w : World} {B F : Nat} {act : Act} {K : Act → World → Prop} {Q : Exit → Act → World → Prop}
    (h : a.wp P (Leaves P res ctx Γ1 nt B ρ V w n m1 n1 w1 X1 e1) act w) (hn : X1 = .norm) (hK : ∀ a' w' ρ', a'.defers = [] → a'.tmps.size = nt → Post ρ V w B n m1 n1 w1 ρ' w' → (∃ Γ, Γ1 = some Γ ∧ EnvRel ρ' Γ e1 a'.tmps) → K a' w') : a.wp P (Exit.then K Q) act w := by
  refine wp_mono h fun ex a' w' hq => ?_
  obtain ⟨ρ', hd, hs, hp, hE⟩ := hq
  subst hn
  obtain ⟨rfl, hΓ⟩ := hE
  exact hK a' w' ρ' hd hs hp hΓ

theorem Ends.exits {res : Array ResultVar} {ctx : List (Nat × Ctx)} {Γ1 Γo : Option Ctx} {ρ : Ren} {e : List Value} {a : Act} {w : World} {X : AX} {ex : Exit} (hn : X ≠ .norm) (h : Ends P res ctx Γ1 ρ e a w X ex) : Ends P res ctx Γo ρ e a w X ex ∧ ex ≠ .normal := by
  cases X with
  | norm => exact absurd rfl hn
  | exit id => exact ⟨h, by rw [h.1]; simp⟩
  | ret v => exact ⟨h, by rw [h.1]; simp⟩

/-- a loop, from the head of a round -/
def Round (P : Program) (c : Code) (Q : Exit → Act → World → Prop) (a : Act) (w : World) : Prop :=
  ∀ (b : Frame) (k : List Item) (cs : List Frame), ∃ e a' w', Q e a' w' ∧ Arrives P (lone (b.at a (.code c :: .inLoop c :: k)) cs w) b k cs e a' w'
omit [AMem μ] in
theorem Round.mono {c : Code} {Q Q' : Exit → Act → World → Prop} {a : Act} {w : World} (h : Round P c Q a w) (hq : ∀ e a w, Q e a w → Q' e a w) : Round P c Q' a w :=
  fun b k cs => let ⟨e, a', w', q, r⟩ := h b k cs; ⟨e, a', w', hq _ _ _ q, r⟩
omit [AMem μ] in
theorem wp_of_round {c : Code} {Q : Exit → Act → World → Prop} {a : Act} {w : World} (h : Round P c Q a w) : (Code.loop c).wp P Q a w := by
  intro b k cs
  obtain ⟨e, a', w', hq, harr⟩ := h b k cs
  exact ⟨e, a', w', hq, .of_steps (.one step_loop) harr⟩
omit [AMem μ] in
theorem round_of {c : Code} {Q : Exit → Act → World → Prop} {a : Act} {w : World} (h : c.wp P (Exit.then (Round P c Q) Q) a w) : Round P c Q a w := by
  intro b k cs
  obtain ⟨e, a₁, w₁, hq, harr⟩ := h b (.inLoop c :: k) cs
  cases e with
  | normal =>
    obtain ⟨e₂, a₂, w₂, hq₂, harr₂⟩ := hq b k cs
    exact ⟨e₂, a₂, w₂, hq₂, .of_steps (Steps.trans harr (.one step_inLoop)) harr₂⟩
  | exit id => exact ⟨_, a₁, w₁, hq, .pass (x := .inLoop c) rfl (fun _ _ => .inl (by simp)) harr⟩
  | goto l => exact ⟨_, a₁, w₁, hq, .pass (x := .inLoop c) rfl (fun _ _ => .inl (by simp)) harr⟩
  | ret => exact ⟨_, a₁, w₁, hq, .pass (x := .inLoop c) rfl (fun _ _ => .inl (by simp)) harr⟩
  | panic ch => exact ⟨_, a₁, w₁, hq, .pass (x := .inLoop c) rfl (fun _ _ => .inl (by simp)) harr⟩
  | outgrown => exact ⟨_, a₁, w₁, hq, .pass (x := .inLoop c) rfl (fun _ _ => .inl (by simp)) harr⟩
def LoopSim (μ : Type) [AMem μ] (P : Program) (E : Nat → Option AFn) (Y : Nat → List Value → μ → Nat → OR μ) (k : Nat) : Prop :=
  ∀ (nt : Nat) (res : Array ResultVar) (x : AC) (c : Code) (ctx : List (Nat × Ctx)) (Γh : Ctx) (Γb : Option Ctx) (Γo : Option Ctx) (e : List Value) (m : μ) (n : Nat) (X : AX) (e' : List Value) (m' : μ) (n' r wm : Nat), chk P nt res ctx Γh c x = some Γb → (∀ Γ2, Γb = some Γ2 → leC Γh Γ2 = true) → exec P E Y k (.loop Γh x) e m n = .ok X e' m' n' r wm →
    ∀ (ρ : Ren) (V : Nat → Option Blk) (w : World) (B F : Nat) (a : Act), a.defers = [] → a.tmps.size = nt → EnvRel ρ Γh e a.tmps → Sub (Nat.lor r wm) F → Agree V m n F → MRel ρ V w B → Free ρ n →
      X ≠ .norm ∧ Round P c (Leaves P res ctx Γo nt B ρ V w n m' n' wm X e') a w

theorem loop_sim {E : Nat → Option AFn} {Y : Nat → List Value → μ → Nat → OR μ} (hY : CallLoc Y) {k : Nat} (ih : CodeSim μ P E Y k) (ihl : LoopSim μ P E Y k) : LoopSim μ P E Y (k + 1) := by
  intro nt res x c ctx Γh Γb Γo e m n X e' m' n' r wm hchk hle h ρ V w B F a hd hs he hF hag hm hfree
  replace h : crRec (exec P E Y k x e m n) (onNorm (exec P E Y k (.loop Γh x))) = .ok X e' m' n' r wm := h
  obtain ⟨X1, e1, m1, n1, r1, w1, h1, h2⟩ := crRec_ok h
  rcases onNorm_ok h2 with ⟨rfl, r2, w2, h3, rfl, rfl⟩ | ⟨hne, rfl, rfl, rfl, rfl, rfl, rfl⟩
  · have l1 := exec_loc (P := P) (E := E) (Y := Y) hY k _ _ _ _ _ _ _ _ _ _ h1
    have l2 := exec_loc (P := P) (E := E) (Y := Y) hY k _ _ _ _ _ _ _ _ _ _ h3
    have hwp := ih nt res x c ctx Γh Γb e m n .norm e1 m1 n1 r1 w1 hchk h1 ρ V w B F a hd hs he (Sub.trans (Sub.lor (Sub.trans (Sub.left r1 r2) (Sub.left _ _)) (Sub.trans (Sub.left w1 w2) (Sub.right _ _))) hF) hag hm hfree
    have next : ∀ a' w' ρ', a'.defers = [] → a'.tmps.size = nt → Post ρ V w B n m1 n1 w1 ρ' w' → (∃ Γ2, Γb = some Γ2 ∧ EnvRel ρ' Γ2 e1 a'.tmps) → X ≠ .norm ∧ Round P c (Leaves P res ctx Γo nt B ρ V w n m' n' (Nat.lor w1 w2) X e') a' w' := by
      intro a' w' ρ' g1 g2 g3 ⟨Γ2, hΓ, g4⟩
      obtain ⟨q1, q2⟩ := ihl nt res x c ctx Γh Γb Γo e1 m1 n1 X e' m' n' r2 w2 hchk hle h3 ρ' (upd V w1 m1) w' B F a' g1 g2 (g4.le (hle Γ2 hΓ)) (Sub.trans (Sub.lor (Sub.trans (Sub.right r1 r2) (Sub.left _ _)) (Sub.trans (Sub.right w1 w2) (Sub.right _ _))) hF) (hag.step l1) g3.mrel (hfree.next g3)
      exact ⟨q1, q2.mono fun ex a'' w'' hq => Leaves.map g3 l2 hq fun _ h => h⟩
    have hX : X ≠ .norm := by
      intro hX
      subst hX
      obtain ⟨ex, a', w', ⟨ρ', g1, g2, g3, _, g4⟩, _⟩ := hwp default [] []
      exact (next a' w' ρ' g1 g2 g3 g4).1 rfl
    refine ⟨hX, round_of (wp_mono hwp fun ex a' w' hq => ?_)⟩
    obtain ⟨ρ', g1, g2, g3, rfl, g4⟩ := hq
    exact (next a' w' ρ' g1 g2 g3 g4).2
  · have hwp := ih nt res x c ctx Γh Γb e m n X e' m' n' r wm hchk h1 ρ V w B F a hd hs he hF hag hm hfree
    refine ⟨hne, round_of (wp_mono hwp fun ex a' w' hq => ?_)⟩
    obtain ⟨ρ', g1, g2, g3, g4⟩ := hq
    obtain ⟨g5, g6⟩ := g4.exits (Γo := Γo) hne
    have hl : Leaves P res ctx Γo nt B ρ V w n m' n' wm X e' ex a' w' := ⟨ρ', g1, g2, g3, g5⟩
    cases ex <;> first | exact hl | exact absurd rfl g6

set_option maxHeartbeats 1000000 in
theorem code_sim (hmix : P.follows .mixedOrders = true) (hdraw : DrawSim μ P) {E : Nat → Option AFn} {Y : Nat → List Value → μ → Nat → OR μ} (hY : CallLoc Y) (hYs : CallSim P Y) (hE : ∀ f af, E f = some af → ∃ fn, P.funcs[f]? = some fn ∧ chkFn P fn af = true) : ∀ k, CodeSim μ P E Y k ∧ LoopSim μ P E Y k
  | 0 => by
    refine ⟨?_, fun nt res x c ctx Γh Γb Γo e m n X e' m' n' r wm hchk hle h => by cases h⟩
    intro nt res x c ctx Γ Γo e m n X e' m' n' r wm hchk h
    cases h
  | k + 1 => by
    obtain ⟨ih, ihl⟩ := code_sim hmix hdraw hY hYs hE k
    have hloop := loop_sim hY ih ihl
    refine ⟨?_, hloop⟩
    have hcall := call_sim hY hYs hE ih
    have hloc : CallLoc (callA (μ := μ) E Y (exec P E Y k)) := fun f args m n v m' n' r wm h => call_loc hY (exec_loc (P := P) (E := E) (Y := Y) hY k) h
    intro nt res x c ctx Γ Γo e m n X e' m' n' r wm hchk h ρ V w B F a hd hs he hF hag hm hfree
    replace h : execF P E Y (exec P E Y k) x e m n = .ok X e' m' n' r wm := h
    have same : ∀ {Γ0 : Ctx}, EnvRel ρ Γ0 e a.tmps → Leaves P res ctx (some Γ0) nt B ρ V w n m n 0 .norm e .normal a w := fun h0 => ⟨ρ, hd, hs, Post.same hm n m, rfl, _, rfl, h0⟩
    cases x with
    | pre sel d x =>
      have hchk : chk P nt res ctx (fixC sel d Γ) c x = some Γo := by cases c <;> simpa [chk] using hchk
      exact ih nt res x c ctx _ Γo _ m n X e' m' n' r wm hchk h ρ V w B F a hd hs (he.fix sel d) hF hag hm hfree
    | post x sel d =>
      have hchk : postC sel d (chk P nt res ctx Γ c x) = some Γo := by cases c <;> simpa [chk] using hchk
      obtain ⟨X1, e1, m1, n1, r1, w1, h1, h2⟩ := crRec_ok h
      have sub : ∀ Γ1, chk P nt res ctx Γ c x = some Γ1 → r = r1 → wm = w1 → c.wp P (Leaves P res ctx Γ1 nt B ρ V w n m1 n1 w1 X1 e1) a w := by
        intro Γ1 hc e1 e2
        subst e1; subst e2
        exact ih nt res x c ctx Γ Γ1 e m n X1 _ m1 n1 _ _ hc h1 ρ V w B F a hd hs he hF hag hm hfree
      unfold onPost at h2
      cases hc : chk P nt res ctx Γ c x with
      | none => rw [hc] at hchk; cases hchk
      | some Γ1 =>
        rw [hc] at hchk
        split at h2
        · injection h2 with q1 q2 q3 q4 q5 q6
          subst q1; subst q2; subst q3; subst q4
          refine wp_mono (sub Γ1 hc q5.symm q6.symm) fun ex a' w' hq => ?_
          obtain ⟨ρ', g1, g2, g3, rfl, Γ2, rfl, g4⟩ := hq
          injection hchk with hchk; subst hchk
          rw [← q6]
          exact ⟨ρ', g1, g2, g3, rfl, _, rfl, g4.fix sel d⟩
        · rename_i hne
          injection h2 with q1 q2 q3 q4 q5 q6
          subst q1; subst q2; subst q3; subst q4
          refine wp_mono (sub Γ1 hc q5.symm q6.symm) fun ex a' w' hq => ?_
          obtain ⟨ρ', g1, g2, g3, g4⟩ := hq
          rw [← q6]
          exact ⟨ρ', g1, g2, g3, (g4.exits hne).1⟩
    | skip =>
      cases c <;> simp [chk] at hchk
      all_goals
        subst hchk
        injection h with q1 q2 q3 q4 q5 q6
        subst q1; subst q2; subst q3; subst q4; subst q6
      · exact wp_skip (same he)
      · exact wp_label (same he)
    | reg l =>
      have hc : ∃ id ops, c = .region id ops false := by
        cases c with
        | region id ops draw => cases draw with
          | false => exact ⟨id, ops, rfl⟩
          | true => simp [chk] at hchk
        | _ => simp [chk] at hchk
      obtain ⟨id, ops, rfl⟩ := hc
      simp only [chk, Option.map_eq_some_iff] at hchk
      obtain ⟨Γe, hch, rfl⟩ := hchk
      obtain ⟨rfl, W, hW, hl, hwp⟩ := ops_sim hcall hloc l ops.toList 0 Γ e m n 0 0 X e' m' n' r wm (by simp) hch h
      rw [zero_lor'] at hW
      subst hW
      refine wp_region ?_
      have := hwp ρ V w B F a hd hs he hF hag hm hfree
      rw [show List.range ops.size = List.range' 0 ops.toList.length by rw [List.range_eq_range']; simp]
      refine wpOps_mono (fun ex a' w' hq => ?_) _ _ _ this
      obtain ⟨ρ', g1, g2, g3, g4, g5⟩ := hq
      exact ⟨ρ', g2, g3, g5, g1, Γe, rfl, g4⟩
    | regD l bs =>
      have hc : ∃ id ops, c = .region id ops true := by
        cases c with
        | region id ops draw => cases draw with
          | true => exact ⟨id, ops, rfl⟩
          | false => simp [chk] at hchk
        | _ => simp [chk] at hchk
      obtain ⟨id, ops, rfl⟩ := hc
      simp only [chk] at hchk
      cases ho : orderOk ops bs
      · rw [ho] at hchk; cases hchk
      rw [ho] at hchk
      simp only [cond_true, Option.map_eq_some_iff] at hchk
      obtain ⟨Γe, hch, rfl⟩ := hchk
      obtain ⟨rfl, hwp⟩ := hdraw _ nt ops bs l Γ Γe e m n X e' m' n' r wm hcall hloc ho hch h
      refine wp_mono (wp_region_any hmix (hwp ρ V w.drew B F a hd hs he hF hag hm.drew hfree)) fun ex a' w' hq => ?_
      obtain ⟨ρ', g1, g2, g3, g4, g5⟩ := hq
      exact ⟨ρ', g2, g3, g5.of_drew, g1, Γe, rfl, g4⟩
    | seq x y =>
      by_cases hsc : ∃ c1, c = .scope c1
      · obtain ⟨c1, rfl⟩ := hsc
        have hx : x = .skip := by
          cases x with
          | skip => rfl
          | _ => simp [chk] at hchk
        subst hx
        replace hchk : chk P nt res ctx Γ c1 y = some Γo := by simpa [chk] using hchk
        obtain ⟨X1, e1, m1, n1, r1, w1, h1, h2⟩ := crRec_ok h
        have hk : ∃ k', k = k' + 1 := by
          cases k with
          | zero => cases h1
          | succ k' => exact ⟨k', rfl⟩
        obtain ⟨k', rfl⟩ := hk
        have h1 : CR.ok .norm e m n 0 0 = .ok X1 e1 m1 n1 r1 w1 := h1
        injection h1 with q1 q2 q3 q4 q5 q6
        subst q1; subst q2; subst q3; subst q4; subst q5; subst q6
        rcases onNorm_ok h2 with ⟨_, r2, w2, h3, rfl, rfl⟩ | ⟨hne, _⟩
        · rw [zero_lor', zero_lor'] at *
          refine wp_scope_straight (wp_mono (ih nt res y c1 ctx Γ Γo e m n X e' m' n' _ _ hchk h3 ρ V w B F a hd hs he hF hag hm hfree) fun ex a' w' hq => ?_)
          cases ex with
          | goto l =>
            obtain ⟨_, _, _, _, g4⟩ := hq
            cases X with
            | norm => exact absurd g4.1 (by simp)
            | exit i => exact absurd g4.1 (by simp)
            | ret v => exact absurd g4.1 (by simp)
          | _ => exact hq
        · exact absurd rfl hne
      have hcc : ∃ c1 c2, c = .seq c1 c2 := by
        cases c with
        | seq c1 c2 => exact ⟨_, _, rfl⟩
        | scope c1 => exact absurd ⟨_, rfl⟩ hsc
        | _ => simp [chk] at hchk
      obtain ⟨c1, c2, rfl⟩ := hcc
      simp [chk] at hchk
      obtain ⟨X1, e1, m1, n1, r1, w1, h1, h2⟩ := crRec_ok h
      cases hc : chk P nt res ctx Γ c1 x with
      | none => rw [hc] at hchk; cases hchk
      | some Γ1 =>
        rw [hc] at hchk
        cases Γ1 with
        | none => cases hchk
        | some Γ1 =>
          replace hchk : chk P nt res ctx Γ1 c2 y = some Γo := hchk
          refine wp_seq ?_
          rcases onNorm_ok h2 with ⟨rfl, r2, w2, h3, rfl, rfl⟩ | ⟨hne, rfl, rfl, rfl, rfl, rfl, rfl⟩
          · have l1 := exec_loc (P := P) (E := E) (Y := Y) hY k _ _ _ _ _ _ _ _ _ _ h1
            have l2 := exec_loc (P := P) (E := E) (Y := Y) hY k _ _ _ _ _ _ _ _ _ _ h3
            have hwp := ih nt res x c1 ctx Γ (some Γ1) e m n .norm e1 m1 n1 r1 w1 hc h1 ρ V w B F a hd hs he (Sub.trans (Sub.lor (Sub.trans (Sub.left r1 r2) (Sub.left _ _)) (Sub.trans (Sub.left w1 w2) (Sub.right _ _))) hF) hag hm hfree
            refine wp_mono hwp fun ex a' w' hq => ?_
            obtain ⟨ρ', g1, g2, g3, rfl, Γ2, hΓ, g4⟩ := hq
            injection hΓ with hΓ; subst hΓ
            have hwp2 := ih nt res y c2 ctx Γ1 Γo e1 m1 n1 X e' m' n' r2 w2 hchk h3 ρ' (upd V w1 m1) w' B F a' g1 g2 g4 (Sub.trans (Sub.lor (Sub.trans (Sub.right r1 r2) (Sub.left _ _)) (Sub.trans (Sub.right w1 w2) (Sub.right _ _))) hF) (hag.step l1) g3.mrel (hfree.next g3)
            exact wp_mono hwp2 fun ex a'' w'' hq => Leaves.map g3 l2 hq fun _ h => h
          · have hwp := ih nt res x c1 ctx Γ (some Γ1) e m n X e' m' n' r wm hc h1 ρ V w B F a hd hs he hF hag hm hfree
            refine wp_mono hwp fun ex a' w' hq => ?_
            obtain ⟨ρ', g1, g2, g3, g4⟩ := hq
            obtain ⟨g5, g6⟩ := g4.exits (Γo := Γo) hne
            have hl : Leaves P res ctx Γo nt B ρ V w n m' n' wm X e' ex a' w' := ⟨ρ', g1, g2, g3, g5⟩
            cases ex <;> first | exact hl | exact absurd rfl g6
    | cond c0 x y =>
      cases c <;> simp [chk] at hchk
      rename_i o c1 c2
      cases ho : opdOk Γ o c0
      · rw [ho] at hchk; cases hchk
      rw [ho, cond_true] at hchk
      replace h : onCond (exec P E Y k x e m n) (exec P E Y k y e m n) (ev e c0) = .ok X e' m' n' r wm := h
      have hval := opd_sound he ho
      cases hc1 : chk P nt res ctx Γ c1 x with
      | none => rw [hc1] at hchk; cases hchk
      | some Γa =>
        cases hc2 : chk P nt res ctx Γ c2 y with
        | none => rw [hc1, hc2] at hchk; cases hchk
        | some Γb =>
          rw [hc1, hc2] at hchk
          injection hchk with hchk; subst hchk
          unfold onCond at h
          split at h
          · rename_i t ht
            rw [ht] at hval
            have hval := hval.flat_eq rfl
            cases t
            · refine wp_cond_false hval (wp_mono (ih nt res y c2 ctx Γ Γb e m n X e' m' n' r wm hc2 h ρ V w B F a hd hs he hF hag hm hfree) fun ex a' w' hq => ?_)
              obtain ⟨ρ', g1, g2, g3, g4⟩ := hq
              refine ⟨ρ', g1, g2, g3, ?_⟩
              cases X with
              | norm =>
                obtain ⟨rfl, Γ2, rfl, g5⟩ := g4
                refine ⟨rfl, ?_⟩
                cases Γa with
                | none => exact ⟨_, rfl, g5⟩
                | some Γa => exact ⟨_, rfl, fun i t hn => g5 i t (named_meet hn).2⟩
              | exit id => exact g4
              | ret v => exact g4
            · refine wp_cond_true hval (wp_mono (ih nt res x c1 ctx Γ Γa e m n X e' m' n' r wm hc1 h ρ V w B F a hd hs he hF hag hm hfree) fun ex a' w' hq => ?_)
              obtain ⟨ρ', g1, g2, g3, g4⟩ := hq
              refine ⟨ρ', g1, g2, g3, ?_⟩
              cases X with
              | norm =>
                obtain ⟨rfl, Γ2, rfl, g5⟩ := g4
                refine ⟨rfl, ?_⟩
                cases Γb with
                | none => exact ⟨_, rfl, g5⟩
                | some Γb => exact ⟨_, rfl, fun i t hn => g5 i t (named_meet hn).1⟩
              | exit id => exact g4
              | ret v => exact g4
          · cases h
    | block id Γt x =>
      cases c <;> simp [chk] at hchk
      rename_i id' c1
      cases hid : Nat.beq id' id
      · rw [hid] at hchk; cases hchk
      rw [hid, cond_true] at hchk
      have hid : id' = id := Nat.eq_of_beq_eq_true hid
      subst hid
      obtain ⟨X1, e1, m1, n1, r1, w1, h1, h2⟩ := crRec_ok h
      cases hc : chk P nt res ((id', Γt) :: ctx) Γ c1 x with
      | none => rw [hc] at hchk; cases hchk
      | some Γb =>
        rw [hc] at hchk
        have hle : Γo = some Γt ∧ ∀ Γ2, Γb = some Γ2 → leC Γt Γ2 = true := by
          cases Γb with
          | none => injection hchk with hchk; exact ⟨hchk.symm, fun _ h => by cases h⟩
          | some Γ2 =>
            replace hchk : cond (leC Γt Γ2) (some (some Γt)) none = some Γo := hchk
            cases hl : leC Γt Γ2
            · rw [hl] at hchk; cases hchk
            · rw [hl, cond_true] at hchk; injection hchk with hchk
              exact ⟨hchk.symm, fun _ h => by injection h with h; subst h; exact hl⟩
        obtain ⟨rfl, hle⟩ := hle
        have hmask : r = r1 ∧ wm = w1 ∧ m' = m1 ∧ n' = n1 ∧ e' = e1 ∧ ((X1 = .norm ∧ X = .norm) ∨ (X1 = .exit id' ∧ X = .norm) ∨ (∃ i, i ≠ id' ∧ X1 = .exit i ∧ X = .exit i) ∨ (∃ v, X1 = .ret v ∧ X = .ret v)) := by
          unfold onBlock at h2
          split at h2
          · rename_i i
            cases hi : Nat.beq i id'
            · rw [hi, cond_false] at h2; injection h2 with q1 q2 q3 q4 q5 q6
              exact ⟨q5.symm, q6.symm, q3.symm, q4.symm, q2.symm, .inr (.inr (.inl ⟨i, by intro e; subst e; simp at hi, rfl, q1.symm⟩))⟩
            · rw [hi, cond_true] at h2; injection h2 with q1 q2 q3 q4 q5 q6
              exact ⟨q5.symm, q6.symm, q3.symm, q4.symm, q2.symm, .inr (.inl ⟨by rw [Nat.eq_of_beq_eq_true hi], q1.symm⟩)⟩
          · rename_i hne
            injection h2 with q1 q2 q3 q4 q5 q6
            refine ⟨q5.symm, q6.symm, q3.symm, q4.symm, q2.symm, ?_⟩
            cases X1 with
            | norm => exact .inl ⟨rfl, q1.symm⟩
            | exit i => exact absurd rfl (hne i)
            | ret v => exact .inr (.inr (.inr ⟨v, rfl, q1.symm⟩))
        obtain ⟨rfl, rfl, rfl, rfl, rfl, hX⟩ := hmask
        refine wp_block (wp_mono (ih nt res x c1 ((id', Γt) :: ctx) Γ Γb e m n X1 e' m' n' r wm hc h1 ρ V w B F a hd hs he hF hag hm hfree) fun ex a' w' hq => ?_)
        obtain ⟨ρ', g1, g2, g3, g4⟩ := hq
        rcases hX with ⟨rfl, rfl⟩ | ⟨rfl, rfl⟩ | ⟨i, hi, rfl, rfl⟩ | ⟨v, rfl, rfl⟩
        · obtain ⟨rfl, Γ2, hΓ2, g5⟩ := g4
          exact ⟨ρ', g1, g2, g3, rfl, Γt, rfl, g5.le (hle Γ2 hΓ2)⟩
        · obtain ⟨rfl, Γ2, hΓ2, g5⟩ := g4
          have : some Γt = some Γ2 := by rw [← hΓ2]; simp [lookC]
          injection this with this; subst this
          show (if id' = id' then Leaves P res ctx (some Γt) nt B ρ V w n m' n' wm .norm e' .normal a' w' else _)
          rw [if_pos rfl]
          exact ⟨ρ', g1, g2, g3, rfl, Γt, rfl, g5⟩
        · obtain ⟨rfl, Γ2, hΓ2, g5⟩ := g4
          have hΓ2 : lookC ctx i = some Γ2 := by
            have hb : Nat.beq id' i = false := by
              cases hb : Nat.beq id' i
              · rfl
              · exact absurd (Nat.eq_of_beq_eq_true hb).symm hi
            simpa [lookC, hb] using hΓ2
          show (if i = id' then _ else Leaves P res ctx (some Γt) nt B ρ V w n m' n' wm (.exit i) e' (.exit i) a' w')
          rw [if_neg hi]
          exact ⟨ρ', g1, g2, g3, rfl, Γ2, hΓ2, g5⟩
        · obtain ⟨rfl, g5⟩ := g4
          exact ⟨ρ', g1, g2, g3, rfl, g5⟩
    | loop Γh x =>
      cases c <;> simp [chk] at hchk
      rename_i c1
      cases hle0 : leC Γh Γ
      · rw [hle0] at hchk; cases hchk
      rw [hle0, cond_true] at hchk
      cases hc : chk P nt res ctx Γh c1 x with
      | none => rw [hc] at hchk; cases hchk
      | some Γb =>
        rw [hc] at hchk
        have hle : ∀ Γ2, Γb = some Γ2 → leC Γh Γ2 = true := by
          intro Γ2 e2
          subst e2
          replace hchk : cond (leC Γh Γ2) (some none) none = some Γo := hchk
          cases hl : leC Γh Γ2
          · rw [hl] at hchk; cases hchk
          · rfl
        exact wp_of_round (hloop nt res x c1 ctx Γh Γb Γo e m n X e' m' n' r wm hc hle h ρ V w B F a hd hs (he.le hle0) hF hag hm hfree).2
    | exit id =>
      cases c <;> simp [chk] at hchk
      rename_i id'
      cases hid : Nat.beq id' id
      · rw [hid] at hchk; cases hchk
      rw [hid, cond_true] at hchk
      have hid : id' = id := Nat.eq_of_beq_eq_true hid
      subst hid
      injection h with q1 q2 q3 q4 q5 q6
      subst q1; subst q2; subst q3; subst q4; subst q6
      split at hchk
      · rename_i Γt hl
        cases hle : leC Γt Γ
        · rw [hle] at hchk; cases hchk
        · exact wp_exit ⟨ρ, hd, hs, Post.same hm n m, rfl, Γt, hl, he.le hle⟩
      · cases hchk
    | ret rs =>
      cases c <;> simp [chk] at hchk
      cases hres : resOk P Γ res.toList rs
      · rw [hres] at hchk; cases hchk
      replace h : onRet e m n (resA e m n rs) = .ok X e' m' n' r wm := h
      unfold onRet at h
      split at h
      · rename_i vs r' hra
        injection h with q1 q2 q3 q4 q5 q6
        subst q1; subst q2; subst q3; subst q4; subst q5; subst q6
        obtain ⟨v', hrun, hv⟩ := results_sound (P := P) he hm hag hres hra (Sub.trans (Sub.left _ _) hF)
        exact wp_ret ⟨ρ, hd, hs, Post.same hm n m, rfl, v', hrun, hv⟩
      · cases h
end
end Go.Am
namespace Go.Am
open Go Go.RowKit
section
variable {μ : Type} [AMem μ] {P : Program}

structure St (μ : Type) where
  Γ : Ctx
  e : List Value
  m : μ
  n : Nat

/-- what a temporary holds -/
def TRel (ρ : Ren) (Γ : Ctx) (e : List Value) (t : Nat) (oy : Option Value) : Prop := ∀ i, named Γ i t = true → ∃ x y, e[i]? = some x ∧ oy = some y ∧ VRel ρ x y
theorem TRel.mono {ρ ρ' : Ren} (hl : ρ.le ρ') {Γ : Ctx} {e : List Value} {t : Nat} {oy : Option Value} (h : TRel ρ Γ e t oy) : TRel ρ' Γ e t oy := fun i hn =>
  let ⟨x, y, a, b, c⟩ := h i hn; ⟨x, y, a, b, c.mono hl⟩

structure SStep (P : Program) (ops : Array Oper) (nt : Nat) (o : Oper) (s s' : St μ) (r wm : Nat) : Prop where
  loc : Loc s.m s.n s'.m s'.n wm
  keep : ∀ ρ t oy, o.dst ≠ some t → TRel ρ s.Γ s.e t oy → TRel ρ s'.Γ s'.e t oy
  sim : ∀ (ρ : Ren) (V : Nat → Option Blk) (w : World) (B F : Nat) (a : Act), a.tmps.size = nt → (∀ t ∈ looks ops o, TRel ρ s.Γ s.e t a.tmps[t]?) → Sub (Nat.lor r wm) F → Agree V s.m s.n F → MRel ρ V w B → Free ρ s.n →
    ∀ (K : Act → World → Prop) (Q : Exit → Act → World → Prop), (∀ v' ρ' w', (∀ d, o.dst = some d → d < nt ∧ TRel ρ' s'.Γ s'.e d (some v')) → Post ρ V w B s.n s'.m s'.n wm ρ' w' → K (a.put o.dst v') w') →
      if Region.wanted o (yielded ops a.tmps) then o.wp P a w K Q else K (a.put o.dst undef) w

/-- the names of the temporaries that are looked at -/
def onlyC (l : List Nat) (Γ : Ctx) : Ctx := Γ.map fun ts => ts.filter fun t => l.any (Nat.beq t)
theorem named_only {l : List Nat} {Γ : Ctx} {i t : Nat} : named (onlyC l Γ) i t = true ↔ named Γ i t = true ∧ t ∈ l := by
  rw [named_iff, named_iff]
  constructor
  · rintro ⟨x, h1, h2⟩
    simp only [onlyC, List.getElem?_map, Option.map_eq_some_iff] at h1
    obtain ⟨y, h1, rfl⟩ := h1
    rw [List.mem_filter, any_beq] at h2
    exact ⟨⟨y, h1, h2.1⟩, h2.2⟩
  · rintro ⟨⟨y, h1, h2⟩, h3⟩
    refine ⟨y.filter fun t => l.any (Nat.beq t), by simp [onlyC, h1], ?_⟩
    rw [List.mem_filter, any_beq]
    exact ⟨h2, h3⟩
theorem env_only {ρ : Ren} {l : List Nat} {Γ : Ctx} {e : List Value} {tmps : Array Value} (h : ∀ t ∈ l, TRel ρ Γ e t tmps[t]?) : EnvRel ρ (onlyC l Γ) e tmps := by
  intro i t hn
  obtain ⟨h1, h2⟩ := named_only.1 hn
  exact h t h2 i h1

/-! ### the check asks for the operands alone -/
section
variable {Γ Γ' : Ctx}
theorem opdOk_only {x : Operand} {y : Opd} (hs : ∀ t, x = .tmp t → ∀ i, named Γ i t = true → named Γ' i t = true) (h : opdOk Γ x y = true) : opdOk Γ' x y = true := by
  unfold opdOk at h ⊢
  split at h
  · exact hs _ rfl _ h
  · exact h
  · exact h
  · cases h
theorem opdsOk_only : ∀ {xs : List Operand} {ys : List Opd}, (∀ t, .tmp t ∈ xs → ∀ i, named Γ i t = true → named Γ' i t = true) → opdsOk Γ xs ys = true → opdsOk Γ' xs ys = true
  | [], [], _, _ => rfl
  | [], _ :: _, _, h => by cases h
  | _ :: _, [], _, h => by cases h
  | x :: xs, y :: ys, hs, h => by
    simp only [opdsOk, Bool.and_eq_true] at h ⊢
    exact ⟨opdOk_only (fun t e => hs t (e ▸ List.mem_cons_self ..)) h.1, opdsOk_only (fun t e => hs t (List.mem_cons_of_mem _ e)) h.2⟩
theorem optOk_only {x : Option Operand} {y : Option Opd} (hs : ∀ t, x = some (.tmp t) → ∀ i, named Γ i t = true → named Γ' i t = true) (h : optOk Γ x y = true) : optOk Γ' x y = true := by
  unfold optOk at h ⊢
  split at h
  · rfl
  · exact opdOk_only (fun t e => hs t (by rw [e])) h
  · cases h
theorem partsOk_only {place : Nat → Option (Nat × Nat)} : ∀ {xs : List (Nat × Operand)} {ys : List (Nat × Nat × Opd)}, (∀ t, .tmp t ∈ xs.map (·.2) → ∀ i, named Γ i t = true → named Γ' i t = true) → partsOk Γ place xs ys = true → partsOk Γ' place xs ys = true
  | [], [], _, _ => rfl
  | [], _ :: _, _, h => by cases h
  | _ :: _, [], _, h => by cases h
  | x :: xs, y :: ys, hs, h => by
    simp only [partsOk, Bool.and_eq_true] at h ⊢
    exact ⟨⟨h.1.1, opdOk_only (fun t e => hs t (by rw [List.map_cons, e]; exact List.mem_cons_self ..)) h.1.2⟩, partsOk_only (fun t e => hs t (by rw [List.map_cons]; exact List.mem_cons_of_mem _ e)) h.2⟩
theorem parts2Ok_only : ∀ {xs : List (Nat × Operand)} {ys : List (Nat × Opd)}, (∀ t, .tmp t ∈ xs.map (·.2) → ∀ i, named Γ i t = true → named Γ' i t = true) → parts2Ok Γ xs ys = true → parts2Ok Γ' xs ys = true
  | [], [], _, _ => rfl
  | [], _ :: _, _, h => by cases h
  | _ :: _, [], _, h => by cases h
  | x :: xs, y :: ys, hs, h => by
    simp only [parts2Ok, Bool.and_eq_true] at h ⊢
    exact ⟨⟨h.1.1, opdOk_only (fun t e => hs t (by rw [List.map_cons, e]; exact List.mem_cons_self ..)) h.1.2⟩, parts2Ok_only (fun t e => hs t (by rw [List.map_cons]; exact List.mem_cons_of_mem _ e)) h.2⟩

theorem chkOp_only {op : Op} {x : AOp} (hs : ∀ t, .tmp t ∈ op.operands.toList → ∀ i, named Γ i t = true → named Γ' i t = true) (h : chkOp P Γ op x = true) : chkOp P Γ' op x = true := by
  have one : ∀ {y : Operand} {z : Opd}, y ∈ op.operands.toList → opdOk Γ y z = true → opdOk Γ' y z = true := fun hy hz => opdOk_only (fun t e => hs t (e ▸ hy)) hz
  have many : ∀ {ys : List Operand} {zs : List Opd}, (∀ y ∈ ys, y ∈ op.operands.toList) → opdsOk Γ ys zs = true → opdsOk Γ' ys zs = true := fun hy hz => opdsOk_only (fun t e => hs t (hy _ e)) hz
  have opt : ∀ {y : Option Operand} {z : Option Opd}, (∀ y', y = some y' → y' ∈ op.operands.toList) → optOk Γ y z = true → optOk Γ' y z = true := fun hy hz => optOk_only (fun t e => hs t (hy _ e)) hz
  unfold chkOp at h ⊢
  split at h <;> simp only [Op.operands, Call.operands, Bool.and_eq_true] at *
  all_goals revert h
  all_goals repeat' (first | exact id | exact one (by simp) | exact many (fun y hy => by simp at hy; simp [hy]) | exact opt (fun y hy => by simp [hy]) | exact parts2Ok_only hs | refine And.imp ?_ ?_)
  · intro h
    split at h
    · rename_i hu
      simp only [hu, Bool.and_eq_true] at h ⊢
      exact ⟨h.1, partsOk_only hs h.2⟩
    · rename_i hu
      split at h
      · rename_i hi
        exact partsOk_only hs h
      · cases h
    · cases h
  · intro h
    split at h
    · rename_i hx ht
      simp only [hx, ht, Bool.and_eq_true] at h ⊢
      exact ⟨one (by simp [hx]) h.1, h.2⟩
    · cases h
  · intro h
    split at h
    · rename_i hx
      simp only [hx, Bool.and_eq_true] at h ⊢
      exact ⟨one (by simp [hx]) h.1, one (by simp [hx]) h.2⟩
    · cases h
  · intro h
    split at h
    · rename_i hx ht
      simp only [hx, ht, Bool.and_eq_true] at h ⊢
      exact ⟨⟨one (by simp [hx]) h.1.1, one (by simp [hx]) h.1.2⟩, h.2⟩
    · cases h
end

/-! ### the operations of a region, each by itself -/
theorem mem_looks {ops : Array Oper} {o : Oper} {t : Nat} (h : Operand.tmp t ∈ o.op.operands.toList) : t ∈ looks ops o :=
  List.mem_append_left _ (List.mem_filterMap.2 ⟨_, h, rfl⟩)
theorem guard_looks {ops : Array Oper} {o : Oper} {j g : Nat} {w : Bool} (h : o.guard = some (j, w)) (hj : (ops[j]?).bind (·.dst) = some g) : g ∈ looks ops o := by
  refine List.mem_append_right _ ?_
  rw [h]; simp [hj]
theorem TRel.push {ρ : Ren} {Γ : Ctx} {e : List Value} {d t : Nat} {v : Value} {oy : Option Value} (hne : t ≠ d) (h : TRel ρ Γ e t oy) : TRel ρ ([d] :: remN d Γ) (v :: e) t oy := by
  intro i hn
  cases i with
  | zero =>
    obtain ⟨l, h1, h2⟩ := named_iff.1 hn
    have h1 : some [d] = some l := h1
    injection h1 with h1; subst h1
    exact absurd (by simpa using h2) hne
  | succ i =>
    obtain ⟨h1, h2⟩ := named_rem (i := i) hn
    obtain ⟨x, y, a, b, c⟩ := h i h1
    exact ⟨x, y, by simpa using a, b, c⟩
theorem TRel.top {ρ : Ren} {Γ : Ctx} {e : List Value} {d : Nat} {v v' : Value} (hv : VRel ρ v v') : TRel ρ ([d] :: remN d Γ) (v :: e) d (some v') := by
  intro i hn
  cases i with
  | zero => exact ⟨v, v', rfl, rfl, hv⟩
  | succ i => exact absurd rfl (named_rem (i := i) hn).2
theorem TRel.aliasKeep {ρ : Ren} {Γ : Ctx} {e : List Value} {d t i : Nat} {oy : Option Value} (hne : t ≠ d) (h : TRel ρ Γ e t oy) : TRel ρ (addN d (remN d Γ) i) e t oy := by
  intro j hn
  rcases named_add hn with hn | ⟨_, h2⟩
  · exact h j (named_rem hn).1
  · exact absurd h2 hne
theorem TRel.aliasTop {ρ : Ren} {Γ : Ctx} {e : List Value} {d i : Nat} {x v' : Value} (hx : e[i]? = some x) (hv : VRel ρ x v') : TRel ρ (addN d (remN d Γ) i) e d (some v') := by
  intro j hn
  rcases named_add hn with hn | ⟨rfl, _⟩
  · exact absurd rfl (named_rem hn).2
  · exact ⟨x, v', hx, rfl, hv⟩

theorem sstep_loud {rec : Nat → List Value → μ → Nat → OR μ} {nt : Nat} {ops : Array Oper} (hcall : CallSim P rec) (hloc : CallLoc rec) {o : Oper} {x : AOp} {Γ Γ1 : Ctx} {e e1 : List Value} {m m1 : μ} {n n1 r1 w1 : Nat} {v : Value}
    (hx : chkOp P Γ o.op x = true) (h : stepA P rec e m n x = .ok v m1 n1 r1 w1) (hw : ∀ (ρ : Ren) (tmps : Array Value), (∀ t ∈ looks ops o, TRel ρ Γ e t tmps[t]?) → Region.wanted o (yielded ops tmps) = true)
    (hkeep : ∀ ρ t oy, o.dst ≠ some t → TRel ρ Γ e t oy → TRel ρ Γ1 e1 t oy) (hput : ∀ ρ v' d, VRel ρ v v' → o.dst = some d → d < nt ∧ TRel ρ Γ1 e1 d (some v')) :
    SStep P ops nt o ⟨Γ, e, m, n⟩ ⟨Γ1, e1, m1, n1⟩ r1 w1 := by
  refine ⟨step_loc (P := P) hloc h, hkeep, fun ρ V w B F a hs ht hF hag hm hfree K Q hK => ?_⟩
  rw [if_pos (hw ρ a.tmps ht)]
  refine oper_sound (Γ := onlyC (looks ops o) Γ) hcall (chkOp_only (fun t hm i hn => named_only.2 ⟨hn, mem_looks hm⟩) hx) (env_only ht) h hF hm hag hfree fun v' ρ' w' hv hp => ?_
  exact hK v' ρ' w' (fun d hd => hput ρ' v' d hv hd) hp

theorem sstep_quiet {nt : Nat} {ops : Array Oper} {o : Oper} {Γ Γ1 : Ctx} {e e1 : List Value} (m : μ) (n : Nat)
    (hkeep : ∀ ρ t oy, o.dst ≠ some t → TRel ρ Γ e t oy → TRel ρ Γ1 e1 t oy)
    (hsim : ∀ (ρ : Ren) (w : World) (a : Act), a.tmps.size = nt → (∀ t ∈ looks ops o, TRel ρ Γ e t a.tmps[t]?) → ∀ (K : Act → World → Prop) (Q : Exit → Act → World → Prop), (∀ v', (∀ d, o.dst = some d → d < nt ∧ TRel ρ Γ1 e1 d (some v')) → K (a.put o.dst v') w) →
      if Region.wanted o (yielded ops a.tmps) then o.wp P a w K Q else K (a.put o.dst undef) w) :
    SStep P ops nt o ⟨Γ, e, m, n⟩ ⟨Γ1, e1, m, n⟩ 0 0 :=
  ⟨Loc.refl _ _, hkeep, fun ρ V w B F a hs ht _ _ hm _ K Q hK => hsim ρ w a hs ht K Q fun v' hv => hK v' ρ w hv (Post.same hm n m)⟩
end
end Go.Am
namespace Go.Am
open Go Go.RowKit
section
variable {μ : Type} [AMem μ] {P : Program}

def Apart (bef r w : Nat) (x : Nat × Nat × Nat) : Prop := bef.testBit x.1 = true ∨ ∀ b, (w.testBit b = true → x.2.1.testBit b = false ∧ x.2.2.testBit b = false) ∧ (x.2.2.testBit b = true → r.testBit b = false)
theorem land_zero {a b : Nat} (h : Nat.beq (Nat.land a b) 0 = true) (k : Nat) (hk : a.testBit k = true) : b.testBit k = false := by
  have h := Nat.eq_of_beq_eq_true h
  have h2 : (a &&& b).testBit k = false := by
    have : a &&& b = 0 := h
    rw [this]; exact Nat.zero_testBit k
  rw [Nat.testBit_and, hk] at h2
  simpa using h2
theorem apart_spec {bef r w : Nat} : ∀ {done : List (Nat × Nat × Nat)}, apart bef r w done = true → ∀ x ∈ done, Apart bef r w x
  | [], _, x, hx => by cases hx
  | (i, r', w') :: l, h, x, hx => by
    simp only [apart, Bool.and_eq_true, Bool.or_eq_true] at h
    rcases List.mem_cons.1 hx with rfl | hx
    · rcases h.1 with h1 | ⟨h1, h2⟩
      · exact .inl h1
      · refine .inr fun b => ⟨fun hb => ?_, fun hb => land_zero h2 b hb⟩
        have := land_zero h1 b hb
        rw [lor_test, Bool.or_eq_false_iff] at this
        exact this
    · exact apart_spec h.2 x hx
theorem Apart.none {bef : Nat} (x : Nat × Nat × Nat) : Apart bef 0 0 x := .inr fun b => ⟨fun h => by simp at h, fun _ => by simp⟩
theorem Apart.none' {bef r w i : Nat} : Apart bef r w (i, 0, 0) := .inr fun b => ⟨fun _ => by simp, fun h => by simp at h⟩

def Traced (P : Program) (ops : Array Oper) (nt k len : Nat) (s s' : St μ) (done : List (Nat × Nat × Nat)) (bs : List Nat) (r0 w0 r wm : Nat) : Prop :=
  Sub r0 r ∧ Sub w0 wm ∧ ∃ (G : Nat → St μ) (R W : Nat → Nat), G k = s ∧ G (k + len) = s' ∧ (∀ b, wm.testBit b = true → w0.testBit b = true ∨ ∃ j, k ≤ j ∧ j < k + len ∧ (W j).testBit b = true) ∧
    ∀ j o, k ≤ j → j < k + len → ops[j]? = some o → SStep P ops nt o (G j) (G (j + 1)) (R j) (W j) ∧ Sub (R j) r ∧ Sub (W j) wm ∧ (∀ x ∈ done, Apart (bs.getD (j - k) 0) (R j) (W j) x) ∧ ∀ i, k ≤ i → i < j → Apart (bs.getD (j - k) 0) (R j) (W j) (i, R i, W i)

theorem Traced.nil {ops : Array Oper} {nt k : Nat} (s : St μ) (done : List (Nat × Nat × Nat)) (bs : List Nat) (r w : Nat) : Traced P ops nt k 0 s s done bs r w r w :=
  ⟨Sub.refl _, Sub.refl _, fun _ => s, fun _ => 0, fun _ => 0, rfl, rfl, fun b h => .inl h, fun j o h1 h2 => by omega⟩

def ins {α : Type} (k : Nat) (a : α) (f : Nat → α) : Nat → α := fun j => if j = k then a else f j
theorem ins_eq {α : Type} (k : Nat) (a : α) (f : Nat → α) : ins k a f k = a := if_pos rfl
theorem ins_ne {α : Type} {k j : Nat} (a : α) (f : Nat → α) (h : j ≠ k) : ins k a f j = f j := if_neg h

theorem Traced.cons {ops : Array Oper} {nt k len : Nat} {s0 s s' : St μ} {done done' : List (Nat × Nat × Nat)} {bs : List Nat} {r0 w0 r1 w1 r wm : Nat} {o : Oper} (ho : ops[k]? = some o) (hs : SStep P ops nt o s0 s r1 w1)
    (hap : ∀ x ∈ done, Apart (bs.headD 0) r1 w1 x) (hd : ∀ x ∈ done, x ∈ done') (hk : (r1 = 0 ∧ w1 = 0) ∨ (k, r1, w1) ∈ done')
    (h : Traced P ops nt (k + 1) len s s' done' bs.tail (Nat.lor r0 r1) (Nat.lor w0 w1) r wm) : Traced P ops nt k (len + 1) s0 s' done bs r0 w0 r wm := by
  obtain ⟨h1, h2, G, R, W, h3, h4, h5, h6⟩ := h
  have hget : ∀ j, k + 1 ≤ j → bs.tail.getD (j - (k + 1)) 0 = bs.getD (j - k) 0 := by
    intro j hj
    have : j - k = (j - (k + 1)) + 1 := by omega
    rw [this]
    cases bs <;> simp
  refine ⟨Sub.trans (Sub.left _ _) h1, Sub.trans (Sub.left _ _) h2, ins k s0 G, ins k r1 R, ins k w1 W, ins_eq .., ?_, fun b hb => ?_, fun j o' hj hlt ho' => ?_⟩
  · rw [ins_ne _ _ (by omega), ← h4]; congr 1; omega
  · rcases h5 b hb with h7 | ⟨j, h7, h8, h9⟩
    · rw [lor_test, Bool.or_eq_true] at h7
      rcases h7 with h7 | h7
      · exact .inl h7
      · exact .inr ⟨k, Nat.le_refl _, by omega, by rw [ins_eq]; exact h7⟩
    · exact .inr ⟨j, by omega, by omega, by rw [ins_ne _ _ (by omega)]; exact h9⟩
  · by_cases e : j = k
    · subst e
      rw [ho] at ho'; injection ho' with ho'; subst ho'
      rw [ins_eq, ins_eq, ins_eq, ins_ne _ _ (by omega), h3]
      refine ⟨hs, Sub.trans (Sub.right _ _) h1, Sub.trans (Sub.right _ _) h2, ?_, fun i hi hi2 => by omega⟩
      rw [Nat.sub_self]
      intro x hx
      have := hap x hx
      cases bs <;> exact this
    · obtain ⟨a1, a2, a3, a4, a5⟩ := h6 j o' (by omega) (by omega) ho'
      rw [hget j (by omega)] at a4 a5
      rw [ins_ne _ _ e, ins_ne _ _ e, ins_ne _ _ e, ins_ne _ _ (by omega)]
      refine ⟨a1, a2, a3, fun x hx => a4 x (hd x hx), fun i hi hi2 => ?_⟩
      by_cases e2 : i = k
      · subst e2
        rw [ins_eq, ins_eq]
        rcases hk with ⟨rfl, rfl⟩ | hk
        · exact Apart.none'
        · exact a4 _ hk
      · rw [ins_ne _ _ e2, ins_ne _ _ e2]
        exact a5 i (by omega) hi2

theorem traces {rec : Nat → List Value → μ → Nat → OR μ} {nt : Nat} {ops : Array Oper} (hcall : CallSim P rec) (hloc : CallLoc rec) {Γe : Ctx} :
    ∀ (l : List AI) (os : List Oper) (k : Nat) (done : List (Nat × Nat × Nat)) (bs : List Nat) (Γ : Ctx) (e : List Value) (m : μ) (n r0 w0 : Nat) (X : AX) (e' : List Value) (m' : μ) (n' r wm : Nat), ops.toList.drop k = os → chkOps P nt ops os Γ l = some Γe →
      opsD P rec l bs k done e m n r0 w0 = .ok X e' m' n' r wm → X = .norm ∧ Traced P ops nt k os.length ⟨Γ, e, m, n⟩ ⟨Γe, e', m', n'⟩ done bs r0 w0 r wm
  | [], os, k, done, bs, Γ, e, m, n, r0, w0, X, e', m', n', r, wm, hos, hchk, h => by
    obtain ⟨rfl, rfl, rfl, rfl, rfl, rfl⟩ := doneA_ok h
    cases os with
    | cons o os => cases hchk
    | nil =>
      injection hchk with hchk; subst hchk
      exact ⟨rfl, Traced.nil _ _ _ _ _⟩
  | i :: l, os, k, done, bs, Γ, e, m, n, r0, w0, X, e', m', n', r, wm, hos, hchk, h => by
    cases os with
    | nil => cases hchk
    | cons o os =>
      simp only [chkOps] at hchk
      cases hai : chkAI P nt ops Γ o i with
      | none => rw [hai] at hchk; cases hchk
      | some Γ1 =>
        rw [hai] at hchk
        simp only at hchk
        have hok : ops[k]? = some o := by
          have := congrArg (fun l : List Oper => l[0]?) hos
          simpa using this
        have hos' : ops.toList.drop (k + 1) = os := by
          have := congrArg List.tail hos
          simpa using this
        have ih := traces (nt := nt) (ops := ops) (Γe := Γe) hcall hloc l os (k + 1)
        have quiet : ∀ {e2 : List Value}, opsD P rec l bs.tail (Nat.succ k) done e2 m n r0 w0 = .ok X e' m' n' r wm → SStep P ops nt o (⟨Γ, e, m, n⟩ : St μ) ⟨Γ1, e2, m, n⟩ 0 0 →
            X = .norm ∧ Traced P ops nt k (o :: os).length ⟨Γ, e, m, n⟩ ⟨Γe, e', m', n'⟩ done bs r0 w0 r wm := by
          intro e2 h hs
          obtain ⟨hX, ht⟩ := ih _ _ _ _ _ _ _ _ _ _ _ _ _ _ hos' hchk h
          exact ⟨hX, Traced.cons hok hs (fun x _ => Apart.none x) (fun x hx => hx) (.inl ⟨rfl, rfl⟩) (by rw [lor_zero', lor_zero']; exact ht)⟩
        have loud : ∀ {x : AOp} {e2 : Value → List Value}, (okD (bs.headD 0) k done (stepD P rec e m n x) fun v m n r' w' done => opsD P rec l bs.tail (Nat.succ k) done (e2 v) m n (Nat.lor r0 r') (Nat.lor w0 w')) = .ok X e' m' n' r wm →
            (∀ v m1 n1 r1 w1, stepA P rec e m n x = .ok v m1 n1 r1 w1 → SStep P ops nt o (⟨Γ, e, m, n⟩ : St μ) ⟨Γ1, e2 v, m1, n1⟩ r1 w1) →
            X = .norm ∧ Traced P ops nt k (o :: os).length ⟨Γ, e, m, n⟩ ⟨Γe, e', m', n'⟩ done bs r0 w0 r wm := by
          intro x e2 h hs
          obtain ⟨v, m1, n1, r1, w1, h1, h2⟩ := okD_ok h
          have hst := hs _ _ _ _ _ (stepD_ok h1).2
          rcases h2 with ⟨h0, h2⟩ | ⟨ha, h2⟩
          · obtain ⟨hX, ht⟩ := ih _ _ _ _ _ _ _ _ _ _ _ _ _ _ hos' hchk h2
            have hz : r1 = 0 ∧ w1 = 0 := by
              constructor <;> refine Nat.eq_of_testBit_eq fun b => ?_
              · cases hb : r1.testBit b
                · simp
                · have := Sub.left r1 w1 b hb; rw [h0] at this; simp at this
              · cases hb : w1.testBit b
                · simp
                · have := Sub.right r1 w1 b hb; rw [h0] at this; simp at this
            refine ⟨hX, Traced.cons hok hst (fun x _ => ?_) (fun x hx => hx) (.inl hz) ht⟩
            obtain ⟨rfl, rfl⟩ := hz
            exact Apart.none x
          · obtain ⟨hX, ht⟩ := ih _ _ _ _ _ _ _ _ _ _ _ _ _ _ hos' hchk h2
            exact ⟨hX, Traced.cons hok hst (apart_spec ha) (fun x hx => List.mem_cons_of_mem _ hx) (.inr (List.mem_cons_self ..)) ht⟩
        have noguard : o.guard = none → ∀ tmps, Region.wanted o (yielded ops tmps) = true := by
          intro hg tmps; unfold Region.wanted; rw [hg]
        rcases chkAI_none hai with ⟨j, d, t, rfl, hg, hd, hop, hn, hlt, rfl⟩ | ⟨x, d, rfl, hg, hd, hx, hlt, rfl⟩ | ⟨x, gi, gw, j, ww, d, g, rfl, hg, hd, hj, hx, hlt, hw, hn, rfl⟩ | ⟨x, rfl, hg, hd, hx, rfl⟩ | ⟨x, gi, gw, j, ww, g, rfl, hg, hd, hj, hx, hw, hn, rfl⟩
        · refine quiet (e2 := e) h (sstep_quiet m n (fun ρ s oy hne hs => hs.aliasKeep (fun e => hne (e ▸ hd))) fun ρ w a hs ht K Q hK => ?_)
          rw [if_pos (noguard hg _)]
          have hr : (execOp a.eval o).run P w = .ok (.value (a.eval (.tmp t))) w := by
            unfold execOp
            rcases hop with hop | hop <;> rw [hop] <;> rfl
          unfold Oper.wp
          rw [hr, Oper.upon_value]
          have hl : t ∈ looks ops o := mem_looks (by rcases hop with hop | hop <;> rw [hop] <;> exact List.mem_cons_self ..)
          obtain ⟨y, y', e1, e2, hv⟩ := ht t hl _ hn
          have he : a.eval (.tmp t) = y' := by show a.tmps.getD t undef = y'; rw [Array.getD_eq_getD_getElem?, e2]; rfl
          rw [he]
          refine hK y' fun d' hd' => ?_
          rw [hd] at hd'; injection hd' with hd'; subst hd'
          exact ⟨hlt, TRel.aliasTop e1 hv⟩
        · refine loud (e2 := fun v => v :: e) h fun v m1 n1 r1 w1 h1 => ?_
          refine sstep_loud hcall hloc hx h1 (fun ρ tmps _ => noguard hg tmps) (fun ρ s oy hne hs => hs.push (fun e => hne (e ▸ hd))) fun ρ v' d' hv hd' => ?_
          rw [hd] at hd'; injection hd' with hd'; subst hd'
          exact ⟨hlt, TRel.top hv⟩
        · replace h : cond (wantB gw (lget e gi)) (okD (bs.headD 0) k done (stepD P rec e m n x) fun v m n r' w' done => opsD P rec l bs.tail (Nat.succ k) done (v :: e) m n (Nat.lor r0 r') (Nat.lor w0 w')) (opsD P rec l bs.tail (Nat.succ k) done (undef :: e) m n r0 w0) = .ok X e' m' n' r wm := h
          have hwant : ∀ (ρ : Ren) (tmps : Array Value), (∀ t ∈ looks ops o, TRel ρ Γ e t tmps[t]?) → Region.wanted o (yielded ops tmps) = wantB gw (lget e gi) := fun ρ tmps ht =>
            wanted_iff (env_only ht) hg hj (named_only.2 ⟨hn, guard_looks hg hj⟩) hw
          cases hwt : wantB gw (lget e gi)
          · rw [hwt, cond_false] at h
            refine quiet (e2 := undef :: e) h (sstep_quiet m n (fun ρ s oy hne hs => hs.push (fun e => hne (e ▸ hd))) fun ρ w a hs ht K Q hK => ?_)
            rw [if_neg (by rw [hwant ρ a.tmps ht, hwt]; simp)]
            refine hK undef fun d' hd' => ?_
            rw [hd] at hd'; injection hd' with hd'; subst hd'
            exact ⟨hlt, TRel.top (.undef ρ)⟩
          · rw [hwt, cond_true] at h
            refine loud (e2 := fun v => v :: e) h fun v m1 n1 r1 w1 h1 => ?_
            refine sstep_loud hcall hloc hx h1 (fun ρ tmps ht => by rw [hwant ρ tmps ht, hwt]) (fun ρ s oy hne hs => hs.push (fun e => hne (e ▸ hd))) fun ρ v' d' hv hd' => ?_
            rw [hd] at hd'; injection hd' with hd'; subst hd'
            exact ⟨hlt, TRel.top hv⟩
        · refine loud (e2 := fun _ => e) h fun v m1 n1 r1 w1 h1 => ?_
          exact sstep_loud hcall hloc hx h1 (fun ρ tmps _ => noguard hg tmps) (fun ρ s oy hne hs => hs) fun ρ v' d' hv hd' => by rw [hd] at hd'; cases hd'
        · replace h : cond (wantB gw (lget e gi)) (okD (bs.headD 0) k done (stepD P rec e m n x) fun v m n r' w' done => opsD P rec l bs.tail (Nat.succ k) done e m n (Nat.lor r0 r') (Nat.lor w0 w')) (opsD P rec l bs.tail (Nat.succ k) done e m n r0 w0) = .ok X e' m' n' r wm := h
          have hwant : ∀ (ρ : Ren) (tmps : Array Value), (∀ t ∈ looks ops o, TRel ρ Γ1 e t tmps[t]?) → Region.wanted o (yielded ops tmps) = wantB gw (lget e gi) := fun ρ tmps ht =>
            wanted_iff (env_only ht) hg hj (named_only.2 ⟨hn, guard_looks hg hj⟩) hw
          cases hwt : wantB gw (lget e gi)
          · rw [hwt, cond_false] at h
            refine quiet (e2 := e) h (sstep_quiet m n (fun ρ s oy hne hs => hs) fun ρ w a hs ht K Q hK => ?_)
            rw [if_neg (by rw [hwant ρ a.tmps ht, hwt]; simp)]
            exact hK undef fun d' hd' => by rw [hd] at hd'; cases hd'
          · rw [hwt, cond_true] at h
            refine loud (e2 := fun _ => e) h fun v m1 n1 r1 w1 h1 => ?_
            exact sstep_loud hcall hloc hx h1 (fun ρ tmps ht => by rw [hwant ρ tmps ht, hwt]) (fun ρ s oy hne hs => hs) fun ρ v' d' hv hd' => by rw [hd] at hd'; cases hd'
end
end Go.Am
namespace Go.Am
open Go Go.RowKit

/-! ### the edges -/
theorem eqNats_eq : ∀ {a b : List Nat}, eqNats a b = true → a = b
  | [], [], _ => rfl
  | [], _ :: _, h => by cases h
  | _ :: _, [], h => by cases h
  | a :: asl, b :: bs, h => by
    simp only [eqNats, Bool.and_eq_true] at h
    rw [Nat.eq_of_beq_eq_true h.1, eqNats_eq h.2]
theorem befOf_spec {acc : List Nat} {i : Nat} : ∀ {es : List Edge}, (befOf acc es).testBit i = true → ∃ e ∈ es, Region.binds .any e = true ∧ (i = e.on ∨ (acc.getD e.on 0).testBit i = true)
  | [], h => by simp [befOf] at h
  | e :: es, h => by
    simp only [befOf] at h
    cases hb : Region.binds .any e
    · rw [hb, cond_false] at h
      obtain ⟨e', h1, h2⟩ := befOf_spec h
      exact ⟨e', List.mem_cons_of_mem _ h1, h2⟩
    · rw [hb, cond_true, lor_test, lor_test, bit_test, Bool.or_eq_true, Bool.or_eq_true] at h
      rcases h with (h | h) | h
      · exact ⟨e, List.mem_cons_self .., hb, .inl (of_decide_eq_true h).symm⟩
      · exact ⟨e, List.mem_cons_self .., hb, .inr h⟩
      · obtain ⟨e', h1, h2⟩ := befOf_spec h
        exact ⟨e', List.mem_cons_of_mem _ h1, h2⟩
theorem befs_cons (acc : List Nat) (o : Oper) (os : List Oper) : befs acc (o :: os) = befs (acc ++ [befOf acc o.after.toList]) os := by
  simp only [befs, forceN_eq]
theorem befs_old : ∀ (os : List Oper) (acc : List Nat) (j : Nat), j < acc.length → (befs acc os).getD j 0 = acc.getD j 0
  | [], acc, j, _ => rfl
  | o :: os, acc, j, h => by
    rw [befs_cons, befs_old os _ j (by simp; omega)]
    simp only [List.getD_eq_getElem?_getD]
    rw [List.getElem?_append_left h]
theorem befs_spec : ∀ (os : List Oper) (acc : List Nat) (j i : Nat) (o : Oper), acc.length ≤ j → os[j - acc.length]? = some o → (∀ e ∈ o.after.toList, Region.binds .any e = true → e.on < j) → ((befs acc os).getD j 0).testBit i = true →
    ∃ e ∈ o.after.toList, Region.binds .any e = true ∧ (i = e.on ∨ ((befs acc os).getD e.on 0).testBit i = true)
  | [], acc, j, i, o, h, ho, _, _ => by simp at ho
  | o' :: os, acc, j, i, o, h, ho, hb, hi => by
    rw [befs_cons] at hi ⊢
    by_cases e : j = acc.length
    · subst e
      rw [Nat.sub_self] at ho
      have ho : o' = o := by simpa using ho
      subst ho
      rw [befs_old os _ _ (by simp)] at hi
      have hi : (befOf acc o'.after.toList).testBit i = true := by simpa using hi
      obtain ⟨e, h1, h2, h3⟩ := befOf_spec hi
      refine ⟨e, h1, h2, ?_⟩
      rcases h3 with h3 | h3
      · exact .inl h3
      · refine .inr ?_
        have hlt := hb e h1 h2
        rw [befs_old os _ _ (by simp; omega)]
        simp only [List.getD_eq_getElem?_getD] at h3 ⊢
        rw [List.getElem?_append_left hlt]
        exact h3
    · refine befs_spec os _ j i o (by simp; omega) ?_ hb hi
      have : j - acc.length = (j - (acc.length + 1)) + 1 := by omega
      rw [this] at ho
      simpa using ho

theorem pairsOk_spec {ops : Array Oper} {y : Oper} {b : Nat} : ∀ {xs : List Oper} {i : Nat}, pairsOk ops y b xs i = true → ∀ (j : Nat) x, xs[j]? = some x → b.testBit (i + j) = true ∨ tmpApart ops x y = true
  | [], i, _, j, x, hx => by simp at hx
  | x' :: xs, i, h, j, x, hx => by
    simp only [pairsOk, Bool.and_eq_true, Bool.or_eq_true] at h
    cases j with
    | zero =>
      have hx : x' = x := by simpa using hx
      subst hx; exact h.1
    | succ j =>
      have := pairsOk_spec h.2 j x (by simpa using hx)
      rwa [show i + 1 + j = i + (j + 1) by omega] at this
theorem ordersOk_spec {ops : Array Oper} : ∀ {os : List Oper} {done : List Oper} {bs : List Nat} {k : Nat}, done.length = k → ordersOk ops done os bs k = true → ∀ (j : Nat) y, os[j]? = some y →
    (∀ e ∈ y.after.toList, Region.binds .any e = true → e.on < k + j) ∧ ∀ (i : Nat) x, i < k + j → (done ++ os)[i]? = some x → (bs.getD j 0).testBit i = true ∨ tmpApart ops x y = true
  | [], done, bs, k, _, _, j, y, hy => by simp at hy
  | o :: os, done, [], k, _, h, j, y, hy => by simp [ordersOk] at h
  | o :: os, done, b :: bs, k, hk, h, j, y, hy => by
    simp only [ordersOk, Bool.and_eq_true, List.all_eq_true] at h
    cases j with
    | zero =>
      have hy : o = y := by simpa using hy
      subst hy
      refine ⟨fun e he hb => ?_, fun i x hi hx => ?_⟩
      · have := h.1.1.1 e he
        rw [hb] at this
        simpa using this
      · have hx : done[i]? = some x := by rwa [List.getElem?_append_left (by omega)] at hx
        have := pairsOk_spec h.1.2 i x hx
        rw [Nat.zero_add] at this
        simpa using this
    | succ j =>
      have := ordersOk_spec (done := done ++ [o]) (k := k + 1) (by simp [hk]) h.2 j y (by simpa using hy)
      rw [show k + 1 + j = k + (j + 1) by omega] at this
      refine ⟨this.1, fun i x hi hx => ?_⟩
      have := this.2 i x hi (by simpa using hx)
      simpa using this

/-- what 'orderOk' says -/
structure Ordered (ops : Array Oper) (bs : List Nat) : Prop where
  back : ∀ (j : Nat) o, ops[j]? = some o → ∀ e ∈ o.after.toList, Region.binds .any e = true → e.on < j
  tmp : ∀ (i j : Nat) x y, i < j → ops[i]? = some x → ops[j]? = some y → (bs.getD j 0).testBit i = true ∨ tmpApart ops x y = true
  bef : ∀ (j i : Nat) o, ops[j]? = some o → (bs.getD j 0).testBit i = true → ∃ e ∈ o.after.toList, Region.binds .any e = true ∧ (i = e.on ∨ (bs.getD e.on 0).testBit i = true)
theorem ordered_of {ops : Array Oper} {bs : List Nat} (h : orderOk ops bs = true) : Ordered ops bs := by
  unfold orderOk at h
  rw [Bool.and_eq_true] at h
  have e := eqNats_eq h.1
  have hs := ordersOk_spec (done := []) (k := 0) rfl h.2
  have hback : ∀ (j : Nat) o, ops[j]? = some o → ∀ e ∈ o.after.toList, Region.binds .any e = true → e.on < j := by
    intro j o ho e he hb
    have := (hs j o (by simpa using ho)).1 e he hb
    omega
  refine ⟨hback, fun i j x y hij hx hy => ?_, fun j i o ho hi => ?_⟩
  · exact (hs j y (by simpa using hy)).2 i x (by omega) (by simpa using hx)
  · subst e
    exact befs_spec ops.toList [] j i o (Nat.zero_le _) (by simpa using ho) (hback j o ho) hi
/-- what is closed under the edges is closed under all that stands before -/
theorem Ordered.closed {ops : Array Oper} {bs : List Nat} (h : Ordered ops bs) {S : Nat → Prop} (hS : ∀ (j : Nat) o, ops[j]? = some o → S j → ∀ e ∈ o.after.toList, Region.binds .any e = true → S e.on) :
    ∀ (j : Nat) o, ops[j]? = some o → (∀ e ∈ o.after.toList, Region.binds .any e = true → S e.on) → ∀ i, (bs.getD j 0).testBit i = true → S i := by
  intro j
  induction j using Nat.strongRecOn with
  | ind j ih =>
    intro o ho he i hi
    obtain ⟨e, h1, h2, h3⟩ := h.bef j i o ho hi
    have hlt := h.back j o ho e h1 h2
    rcases h3 with rfl | h3
    · exact he e h1 h2
    · have hj : j < ops.size := (Array.getElem?_eq_some_iff.1 ho).1
      have ho' : ops[e.on]? = some ops[e.on] := Array.getElem?_eq_getElem (by omega)
      exact ih e.on hlt _ ho' (hS e.on _ ho' (he e h1 h2)) i h3
theorem apart_tmp {ops : Array Oper} {x y : Oper} (h : tmpApart ops x y = true) : (∀ d, x.dst = some d → d ∉ looks ops y ∧ y.dst ≠ some d) ∧ ∀ d, y.dst = some d → d ∉ looks ops x := by
  unfold tmpApart at h
  rw [Bool.and_eq_true] at h
  refine ⟨fun d hd => ?_, fun d hd => ?_⟩
  · have h1 := h.1
    rw [hd] at h1
    simp only [Bool.and_eq_true] at h1
    refine ⟨fun hm => ?_, fun hy => ?_⟩
    · have := any_beq.2 hm
      rw [this] at h1; simp at h1
    · have h2 := h1.2
      rw [hy] at h2; simp at h2
  · have h1 := h.2
    rw [hd] at h1
    simp only at h1
    intro hm
    rw [any_beq.2 hm] at h1; simp at h1

/-! ### two renamings -/
def meet (ρ σ : Ren) : Ren := fun b => match σ b with | none => none | some _ => ρ b
theorem meet_some {ρ σ : Ren} {b : Nat} {p : Place} (h : meet ρ σ b = some p) : ρ b = some p ∧ ∃ q, σ b = some q := by
  unfold meet at h
  split at h
  · cases h
  · exact ⟨h, _, ‹_›⟩
theorem meet_of {ρ σ : Ren} {b : Nat} {p q : Place} (h : ρ b = some p) (k : σ b = some q) : meet ρ σ b = some p := by
  unfold meet; rw [k]; exact h
theorem VRel.meet {ρ σ : Ren} {x y : Value} (h : VRel ρ x y) : ∀ {z : Value}, VRel σ x z → VRel (meet ρ σ) x y := by
  induction h with
  | flat h => exact fun _ => .flat h
  | ptr h =>
    intro z k
    cases k with
    | flat k => simp [Am.flat] at k
    | ptr k => exact .ptr (meet_of h k)
  | slice h hn hu hk hv =>
    intro z k
    cases k with
    | flat k => simp [Am.flat] at k
    | slice k _ _ _ _ => exact .slice (meet_of h k) hn hu hk hv
    | vag => exact absurd rfl hv
  | vag =>
    intro z k
    cases k with
    | flat k => simp [Am.flat] at k
    | slice k _ _ _ hv => exact absurd rfl hv
    | vag => exact .vag
  | func h1 _ h3 _ i1 i2 =>
    intro z k
    cases k with
    | flat k => simp [Am.flat] at k
    | func k1 k2 k3 k4 =>
      refine .func h1 (fun i x y hx hy => ?_) h3 (fun i x y hx hy => ?_)
      · have hi := (Array.getElem?_eq_some_iff.1 hx).1
        exact i1 i x y hx hy (k2 i x _ hx (Array.getElem?_eq_getElem (k1 ▸ hi)))
      · have hi := (Array.getElem?_eq_some_iff.1 hx).1
        exact i2 i x y hx hy (k4 i x _ hx (Array.getElem?_eq_getElem (k3 ▸ hi)))
  | agg h1 _ ih =>
    intro z k
    cases k with
    | flat k => simp [Am.flat] at k
    | agg k1 k2 =>
      refine .agg h1 fun i x y hx hy => ?_
      have hi := (Array.getElem?_eq_some_iff.1 hx).1
      exact ih i x y hx hy (k2 i x _ hx (Array.getElem?_eq_getElem (k1 ▸ hi)))
  | tuple h1 _ ih =>
    intro z k
    cases k with
    | flat k => simp [Am.flat] at k
    | tuple k1 k2 =>
      refine .tuple h1 fun i x y hx hy => ?_
      have hi := (Array.getElem?_eq_some_iff.1 hx).1
      exact ih i x y hx hy (k2 i x _ hx (Array.getElem?_eq_getElem (k1 ▸ hi)))
theorem BRel.meet {ρ σ : Ren} {w w2 : World} {B : Nat} {p q : Place} {O : Blk} (h : BRel ρ w B p O) (k : BRel σ w2 B q O) : BRel (meet ρ σ) w B p O := by
  cases O with | cells c sz opn wr =>
  obtain ⟨h1, cc, e, fz, h2, h3, h4⟩ := h
  obtain ⟨_, cc2, _, _, _, k3, _⟩ := k
  exact ⟨h1, cc, e, fz, h2, fun i x hx => let ⟨y, a, b⟩ := h3 i x hx; let ⟨_, _, d⟩ := k3 i x hx; ⟨y, a, b.meet d⟩, h4⟩
theorem TRel.meet {ρ σ : Ren} {Γ : Ctx} {e : List Value} {t : Nat} {oy oz : Option Value} (h : TRel ρ Γ e t oy) (k : TRel σ Γ e t oz) : TRel (meet ρ σ) Γ e t oy := by
  intro i hn
  obtain ⟨x, y, a, b, c⟩ := h i hn
  obtain ⟨x', z, a', b', c'⟩ := k i hn
  rw [a] at a'; injection a' with a'; subst a'
  exact ⟨x, y, a, b, c.meet c'⟩
end Go.Am
namespace Go.Am
open Go Go.RowKit
section
variable {μ : Type} [AMem μ] {P : Program}

def VT (V : Nat → Option Blk) (G : Nat → St μ) (W : Nat → Nat) : Nat → Nat → Option Blk
  | 0 => V
  | k + 1 => upd (VT V G W k) (W k) (G (k + 1)).m
def WT (W : Nat → Nat) : Nat → Nat
  | 0 => 0
  | k + 1 => Nat.lor (WT W k) (W k)

structure Setting (P : Program) (ops : Array Oper) (nt : Nat) (bs : List Nat) (G : Nat → St μ) (R W : Nat → Nat) (F : Nat) : Prop where
  ord : Ordered ops bs
  st : ∀ (j : Nat) o, ops[j]? = some o → SStep P ops nt o (G j) (G (j + 1)) (R j) (W j)
  sub : ∀ j, j < ops.size → Sub (Nat.lor (R j) (W j)) F
  ap : ∀ i j, i < j → j < ops.size → Apart (bs.getD j 0) (R j) (W j) (i, R i, W i)

omit [AMem μ] in
theorem put_ne {a : Act} {dst : Option Tmp} {v : Value} {t : Nat} (h : dst ≠ some t) : (a.put dst v).tmps[t]? = a.tmps[t]? := by
  cases dst with
  | none => rfl
  | some d =>
    have hne : d ≠ t := fun e => h (by rw [e])
    simp [Act.put, Array.getElem?_setIfInBounds_ne hne]
omit [AMem μ] in
theorem put_eq {a : Act} {v : Value} {t : Nat} (h : t < a.tmps.size) : (a.put (some t) v).tmps[t]? = some v := by
  simp [Act.put, h]

omit [AMem μ] in
theorem wp_some {o : Oper} {a : Act} {w : World} {K : Act → World → Prop} (h : o.wp P a w K fun _ _ _ => False) : ∃ a' w', K a' w' := by
  unfold Oper.wp Oper.upon at h
  split at h
  · exact ⟨_, _, h⟩
  · exact ⟨_, _, h⟩
  · exact ⟨_, _, h⟩
  · obtain ⟨e, w', fr, hr, _⟩ := h []
    cases e with
    | returned v => exact ⟨_, _, hr⟩
    | panicked c => exact hr.elim
    | outgrown => obtain ⟨_, _, hr⟩ := hr; exact hr.elim
  · obtain ⟨v, w', hr, _⟩ := h default []
    exact ⟨_, _, hr⟩
  · exact h.elim
  · exact h.elim

section
variable {ops : Array Oper} {nt : Nat} {bs : List Nat} {G : Nat → St μ} {R W : Nat → Nat} {F : Nat} {ρ0 : Ren} {V : Nat → Option Blk} {w0 : World} {B : Nat}

theorem Setting.step (hs : Setting P ops nt bs G R W F) {j : Nat} (h : j < ops.size) : SStep P ops nt ops[j] (G j) (G (j + 1)) (R j) (W j) := hs.st j _ (Array.getElem?_eq_getElem h)
theorem Setting.num (hs : Setting P ops nt bs G R W F) {i j : Nat} (hij : i ≤ j) (hj : j ≤ ops.size) : (G i).n ≤ (G j).n := by
  induction j with
  | zero => have : i = 0 := by omega
            subst this; exact Nat.le_refl _
  | succ j ih =>
    by_cases e : i = j + 1
    · subst e; exact Nat.le_refl _
    · exact Nat.le_trans (ih (by omega) (by omega)) (hs.step (j := j) (by omega)).loc.num
theorem Setting.loc (hs : Setting P ops nt bs G R W F) : ∀ {k : Nat}, k ≤ ops.size → Loc (G 0).m (G 0).n (G k).m (G k).n (WT W k)
  | 0, _ => Loc.refl _ _
  | k + 1, h => (hs.loc (k := k) (by omega)).trans (hs.step (j := k) (by omega)).loc
theorem Setting.vt (hs : Setting P ops nt bs G R W F) (V : Nat → Option Blk) : ∀ {k : Nat}, k ≤ ops.size → VT V G W k = upd V (WT W k) (G k).m
  | 0, _ => (upd_zero V _).symm
  | k + 1, h => by
    have ih := hs.vt V (k := k) (by omega)
    show upd (VT V G W k) (W k) (G (k + 1)).m = _
    rw [ih]
    exact upd_upd (n1 := (G k).n) (hs.step (j := k) (by omega)).loc
theorem Setting.agree (hs : Setting P ops nt bs G R W F) (h : Agree V (G 0).m (G 0).n F) : ∀ {k : Nat}, k ≤ ops.size → Agree (VT V G W k) (G k).m (G k).n F
  | 0, _ => h
  | k + 1, hk => (hs.agree h (k := k) (by omega)).step (hs.step (j := k) (by omega)).loc

/-- the run in the text's order -/
def Text (nt : Nat) (G : Nat → St μ) (W : Nat → Nat) (ρ0 : Ren) (V : Nat → Option Blk) (w0 : World) (B k : Nat) : Prop :=
  ∃ (ρk : Ren) (wk : World) (ak : Act), ak.tmps.size = nt ∧ (∀ t, TRel ρk (G k).Γ (G k).e t ak.tmps[t]?) ∧ Post ρ0 V w0 B (G 0).n (G k).m (G k).n (WT W k) ρk wk ∧ Free ρk (G k).n
theorem Setting.text (hs : Setting P ops nt bs G R W F) {a : Act} (hsz : a.tmps.size = nt) (he : EnvRel ρ0 (G 0).Γ (G 0).e a.tmps) (hag : Agree V (G 0).m (G 0).n F) (hm : MRel ρ0 V w0 B) (hf : Free ρ0 (G 0).n) :
    ∀ {k : Nat}, k ≤ ops.size → Text nt G W ρ0 V w0 B k
  | 0, _ => ⟨ρ0, w0, a, hsz, fun t i hn => he i t hn, Post.same hm _ _, hf⟩
  | k + 1, hk => by
    obtain ⟨ρk, wk, ak, h1, h2, h3, h4⟩ := hs.text hsz he hag hm hf (k := k) (by omega)
    have hst := hs.step (j := k) (by omega)
    have hvt := hs.vt V (k := k) (by omega)
    have hmk := h3.mrel
    rw [← hvt] at hmk
    have key := hst.sim ρk (VT V G W k) wk B F ak h1 (fun t _ => h2 t) (hs.sub k (by omega)) (hs.agree hag (by omega)) hmk h4
      (fun a' w' => ∃ v' ρ', (∀ d, ops[k].dst = some d → d < nt ∧ TRel ρ' (G (k + 1)).Γ (G (k + 1)).e d (some v')) ∧ Post ρk (VT V G W k) wk B (G k).n (G (k + 1)).m (G (k + 1)).n (W k) ρ' w' ∧ a' = ak.put ops[k].dst v') (fun _ _ _ => False)
      (fun v' ρ' w' hd hp => ⟨v', ρ', hd, hp, rfl⟩)
    have ex : ∃ a' w' v' ρ', (∀ d, ops[k].dst = some d → d < nt ∧ TRel ρ' (G (k + 1)).Γ (G (k + 1)).e d (some v')) ∧ Post ρk (VT V G W k) wk B (G k).n (G (k + 1)).m (G (k + 1)).n (W k) ρ' w' ∧ a' = ak.put ops[k].dst v' := by
      split at key
      · exact wp_some key
      · exact ⟨_, _, key⟩
    obtain ⟨a', w', v', ρ', hd, hp, rfl⟩ := ex
    refine ⟨ρ', w', ak.put ops[k].dst v', by rw [put_size]; exact h1, fun t => ?_, ?_, h4.next hp⟩
    · by_cases e : ops[k].dst = some t
      · obtain ⟨hlt, ht⟩ := hd t e
        rw [e, put_eq (by rw [h1]; exact hlt)]; exact ht
      · rw [put_ne e]
        exact hst.keep _ _ _ e ((h2 t).mono hp.le)
    · rw [hvt] at hp
      exact h3.trans hp hst.loc

/-- what holds when the operations of 'S' are done -/
structure Inv (ops : Array Oper) (nt : Nat) (G : Nat → St μ) (W : Nat → Nat) (ρ0 : Ren) (V : Nat → Option Blk) (w0 : World) (B : Nat) (S : Nat → Prop) (ρ : Ren) (VS : Nat → Option Blk) (w : World) (a : Act) : Prop where
  defers : a.defers = []
  size : a.tmps.size = nt
  tmp : ∀ k t, k ≤ ops.size → (∀ (j : Nat) o, ops[j]? = some o → o.dst = some t → (S j ↔ j < k)) → TRel ρ (G k).Γ (G k).e t a.tmps[t]?
  view : ∀ k b, k ≤ ops.size → (∀ j, j < ops.size → (W j).testBit b = true → (S j ↔ j < k)) → VS b = VT V G W k b
  mrel : MRel ρ VS w B
  le : ρ0.le ρ
  dom : ∀ b p, ρ b = some p → ρ0 b = some p ∨ ∃ j, j < ops.size ∧ S j ∧ (G j).n ≤ b ∧ b < (G (j + 1)).n
  below : Below B w0 w
  frame : ∀ k, k < w0.heap.size → (∀ b p, ρ0 b = some p → (∃ j, j < ops.size ∧ S j ∧ (W j).testBit b = true) → p.blk ≠ k) → w.heap[k]? = w0.heap[k]?
  newp : ∀ b p, ρ b = some p → ρ0 b = some p ∨ w0.heap.size ≤ p.blk ∨ ∃ b0 p0, ρ0 b0 = some p0 ∧ (∃ j, j < ops.size ∧ S j ∧ (W j).testBit b0 = true) ∧ p0.blk = p.blk
  wdom : ∀ j b, j < ops.size → S j → (W j).testBit b = true → ∃ p, ρ b = some p

theorem keeps (hs : Setting P ops nt bs G R W F) {ρ : Ren} {t i : Nat} {oy : Option Value} (h : TRel ρ (G (i + 1)).Γ (G (i + 1)).e t oy) : ∀ k, i < k → k ≤ ops.size → (∀ (j : Nat) o, i < j → j < k → ops[j]? = some o → o.dst ≠ some t) → TRel ρ (G k).Γ (G k).e t oy := by
  intro k
  induction k with
  | zero => intro h1; omega
  | succ k ih =>
    intro h1 h2 h3
    by_cases e : i = k
    · subst e; exact h
    · have hk : k < ops.size := by omega
      exact (hs.step (j := k) hk).keep _ _ _ (h3 k _ (by omega) (by omega) (Array.getElem?_eq_getElem hk)) (ih (by omega) (by omega) fun j o h4 h5 => h3 j o h4 (by omega))
theorem views {i b : Nat} (V : Nat → Option Blk) (G : Nat → St μ) (W : Nat → Nat) : ∀ k, i < k → (∀ j, i < j → j < k → (W j).testBit b = false) → VT V G W k b = VT V G W (i + 1) b := by
  intro k
  induction k with
  | zero => intro h1; omega
  | succ k ih =>
    intro h1 h3
    by_cases e : i = k
    · subst e; rfl
    · rw [← ih (by omega) fun j h4 h5 => h3 j h4 (by omega)]
      show upd (VT V G W k) (W k) _ b = _
      unfold upd
      rw [h3 k (by omega) (by omega)]; simp

set_option maxHeartbeats 1000000 in
theorem Inv.step (hs : Setting P ops nt bs G R W F) (hag : Agree V (G 0).m (G 0).n F) (hf0 : Free ρ0 (G 0).n) (htext : ∀ k, k ≤ ops.size → Text nt G W ρ0 V w0 B k) {S : Nat → Prop} (hcl : ∀ j, j < ops.size → S j → ∀ i, (bs.getD j 0).testBit i = true → S i)
    {i : Nat} {o : Oper} (ho : ops[i]? = some o) (hni : ¬ S i) (hready : ∀ j, (bs.getD i 0).testBit j = true → S j) {ρ : Ren} {VS : Nat → Option Blk} {w : World} {a : Act} (h : Inv ops nt G W ρ0 V w0 B S ρ VS w a)
    {K : Act → World → Prop} {Q : Exit → Act → World → Prop} (hK : ∀ v' ρ' V' w', Inv ops nt G W ρ0 V w0 B (fun j => S j ∨ j = i) ρ' V' w' (a.put o.dst v') → K (a.put o.dst v') w') :
    if Region.wanted o (yielded ops a.tmps) then o.wp P a w K Q else K (a.put o.dst undef) w := by
  have hi : i < ops.size := (Array.getElem?_eq_some_iff.1 ho).1
  have hst := hs.st i o ho
  have hnum : (G i).n ≤ (G (i + 1)).n := hst.loc.num
  -- the temporaries that it looks at
  have condT : ∀ t ∈ looks ops o, ∀ (j : Nat) oj, ops[j]? = some oj → oj.dst = some t → (S j ↔ j < i) := by
    intro t ht j oj hj hd
    have hj' : j < ops.size := (Array.getElem?_eq_some_iff.1 hj).1
    rcases Nat.lt_trichotomy j i with hlt | rfl | hgt
    · refine ⟨fun _ => hlt, fun _ => ?_⟩
      rcases hs.ord.tmp j i oj o hlt hj ho with h1 | h1
      · exact hready j h1
      · exact absurd ht ((apart_tmp h1).1 t hd).1
    · exact ⟨fun h => absurd h hni, fun h => absurd h (Nat.lt_irrefl _)⟩
    · refine ⟨fun hSj => ?_, fun h => by omega⟩
      rcases hs.ord.tmp i j o oj hgt ho hj with h1 | h1
      · exact absurd (hcl j hj' hSj i h1) hni
      · exact absurd ht ((apart_tmp h1).2 t hd)
  have condW : ∀ b, (Nat.lor (R i) (W i)).testBit b = true → ∀ j, j < ops.size → (W j).testBit b = true → (S j ↔ j < i) := by
    intro b hb j hj hw
    rw [lor_test, Bool.or_eq_true] at hb
    rcases Nat.lt_trichotomy j i with hlt | rfl | hgt
    · refine ⟨fun _ => hlt, fun _ => ?_⟩
      rcases hs.ap j i hlt hi with h1 | h1
      · exact hready j h1
      · have h2 := h1 b
        rcases hb with hb | hb
        · rw [h2.2 hw] at hb; cases hb
        · have := (h2.1 hb).2
          rw [hw] at this; cases this
    · exact ⟨fun h => absurd h hni, fun h => absurd h (Nat.lt_irrefl _)⟩
    · refine ⟨fun hSj => ?_, fun h => by omega⟩
      rcases hs.ap i j hgt hj with h1 | h1
      · exact absurd (hcl j hj hSj i h1) hni
      · have h2 := (h1 b).1 hw
        rcases hb with hb | hb
        · rw [h2.1] at hb; cases hb
        · rw [h2.2] at hb; cases hb
  obtain ⟨ρk, wk, ak, _, htk, hpk, hfk⟩ := htext i (by omega)
  have hvk : VT V G W i = upd V (WT W i) (G i).m := hs.vt V (by omega)
  have hmk := hpk.mrel
  rw [← hvk] at hmk
  have hview : ∀ b, (Nat.lor (R i) (W i)).testBit b = true → VS b = VT V G W i b := fun b hb => h.view i b (by omega) (condW b hb)
  -- the part of the state that it sees
  generalize hV' : (fun b => if (Nat.lor (R i) (W i)).testBit b = true then VS b else none : Nat → Option Blk) = V'
  have hV1 : ∀ b, (Nat.lor (R i) (W i)).testBit b = true → V' b = VS b := by intro b hb; rw [← hV']; simp only; rw [if_pos hb]
  have hV2 : ∀ b O, V' b = some O → (Nat.lor (R i) (W i)).testBit b = true ∧ VS b = some O := by
    intro b O hb
    rw [← hV'] at hb
    simp only at hb
    split at hb
    · exact ⟨‹_›, hb⟩
    · cases hb
  have hm' : MRel (meet ρ ρk) V' w B := by
    refine ⟨fun b p O h1 h2 => ?_, fun b1 b2 p1 p2 O1 O2 h1 h2 h3 h4 => h.mrel.excl b1 b2 p1 p2 O1 O2 (meet_some h1).1 (meet_some h2).1 (hV2 _ _ h3).2 (hV2 _ _ h4).2, fun b p h1 => h.mrel.fresh b p (meet_some h1).1, h.mrel.le⟩
    obtain ⟨h3, q, h4⟩ := meet_some h1
    obtain ⟨h5, h6⟩ := hV2 b O h2
    exact (h.mrel.blk b p O h3 h6).meet (hmk.blk b q O h4 (by rw [← hview b h5]; exact h6))
  have hag' : Agree V' (G i).m (G i).n (Nat.lor (R i) (W i)) := by
    intro b hb hb2
    rw [hV1 b hb2, hview b hb2]
    exact hs.agree hag (by omega) b hb (hs.sub i hi b hb2)
  have hf' : Free (meet ρ ρk) (G i).n := by
    intro b hb
    unfold meet; rw [hfk b hb]
  refine hst.sim (meet ρ ρk) V' w B (Nat.lor (R i) (W i)) a h.size (fun t ht => ?_) (Sub.refl _) hag' hm' hf' K Q fun v' ρ2 w' hd hp => ?_
  · exact (h.tmp i t (by omega) (condT t ht)).meet (htk t)
  -- what it leaves
  have hlow : ∀ b p, meet ρ ρk b = some p → b < (G i).n := by
    intro b p hb
    rcases Nat.lt_or_ge b (G i).n with h1 | h1
    · exact h1
    · rw [hf' b h1] at hb; cases hb
  have hnone : ∀ b, (G i).n ≤ b → b < (G (i + 1)).n → ρ b = none := by
    intro b h1 h2
    cases hb : ρ b with
    | none => rfl
    | some p =>
      rcases h.dom b p hb with h3 | ⟨j, h3, h4, h5, h6⟩
      · rw [hf0 b (Nat.le_trans (hs.num (Nat.zero_le i) (by omega)) h1)] at h3; cases h3
      · rcases Nat.lt_trichotomy j i with hlt | rfl | hgt
        · have := hs.num (i := j + 1) (j := i) (by omega) (by omega); omega
        · exact absurd h4 hni
        · have := hs.num (i := i + 1) (j := j) (by omega) (by omega); omega
  generalize hρN : (fun b => if (G i).n ≤ b ∧ b < (G (i + 1)).n then ρ2 b else ρ b : Ren) = ρN
  have hN1 : ∀ b, (G i).n ≤ b → b < (G (i + 1)).n → ρN b = ρ2 b := by intro b h1 h2; rw [← hρN]; simp only; rw [if_pos ⟨h1, h2⟩]
  have hN2 : ∀ b, ¬ ((G i).n ≤ b ∧ b < (G (i + 1)).n) → ρN b = ρ b := by intro b h1; rw [← hρN]; simp only; rw [if_neg h1]
  have hle1 : ρ.le ρN := by
    intro b p hb
    by_cases hr : (G i).n ≤ b ∧ b < (G (i + 1)).n
    · rw [hnone b hr.1 hr.2] at hb; cases hb
    · rw [hN2 b hr]; exact hb
  have hle2 : ρ2.le ρN := by
    intro b p hb
    rcases hp.dom b p hb with h1 | h1
    · exact hle1 b p (meet_some h1).1
    · rw [hN1 b h1.1 h1.2]; exact hb
  have hw2 : ∀ b, (W i).testBit b = true → ∀ p, ρN b = some p → ρ2 b = some p := by
    intro b hb p hbp
    by_cases hr : (G i).n ≤ b ∧ b < (G (i + 1)).n
    · rwa [hN1 b hr.1 hr.2] at hbp
    · obtain ⟨⟨q, h1⟩, _⟩ := hp.wold b hb
      have := hle2 b q h1
      rw [this] at hbp
      rw [h1, hbp]
  have hold : ∀ b, (W i).testBit b = false → ∀ p, ρN b = some p → ρ b = some p := by
    intro b hb p hbp
    by_cases hr : (G i).n ≤ b ∧ b < (G (i + 1)).n
    · rw [hst.loc.made b hr.1 hr.2] at hb; cases hb
    · rwa [hN2 b hr] at hbp
  have hu1 : ∀ b, (W i).testBit b = true → upd VS (W i) (G (i + 1)).m b = upd V' (W i) (G (i + 1)).m b := by intro b hb; unfold upd; rw [hb]; simp
  have hu2 : ∀ b, (W i).testBit b = false → upd VS (W i) (G (i + 1)).m b = VS b := by intro b hb; unfold upd; rw [hb]; simp
  -- what was written before was the machine's own
  have hwr : ∀ b p, meet ρ ρk b = some p → (W i).testBit b = true → ρ b = some p ∧ ∃ O, VS b = some O ∧ O.wr = true := by
    intro b p h1 h2
    obtain ⟨_, h3⟩ := hp.wold b h2
    obtain ⟨O, h4, h5⟩ := h3 (hlow b p h1)
    exact ⟨(meet_some h1).1, O, (hV2 b O h4).2, h5⟩
  -- an old place that is not written is asl it was
  have hsame : ∀ b p O, (W i).testBit b = false → ρ b = some p → VS b = some O → w'.heap[p.blk]? = w.heap[p.blk]? := by
    intro b p O h1 h2 h3
    refine hp.frame p.blk (h.mrel.fresh b p h2) fun b2 p2 h4 h5 => ?_
    obtain ⟨h6, O2, h7, h8⟩ := hwr b2 p2 h4 h5
    exact h.mrel.excl b2 b p2 p O2 O h6 h2 h7 h3 (by intro e; subst e; rw [h1] at h5; cases h5) h8
  -- a written place is none of the old that are not written
  have hapart : ∀ b1 p1, (W i).testBit b1 = true → ρ2 b1 = some p1 → ∀ b2 p2 O2, (W i).testBit b2 = false → ρ b2 = some p2 → VS b2 = some O2 → p1.blk ≠ p2.blk := by
    intro b1 p1 h1 h2 b2 p2 O2 h3 h4 h5
    have old : ∀ b3 p3, meet ρ ρk b3 = some p3 → (W i).testBit b3 = true → p3.blk ≠ p2.blk := by
      intro b3 p3 h6 h7
      obtain ⟨h8, O3, h9, h10⟩ := hwr b3 p3 h6 h7
      exact h.mrel.excl b3 b2 p3 p2 O3 O2 h8 h4 h9 h5 (by intro e; subst e; rw [h3] at h7; cases h7) h10
    rcases hp.newp b1 p1 h2 with h6 | h6 | ⟨b0, p0, h6, h7, h8⟩
    · exact old b1 p1 h6 h1
    · have := h.mrel.fresh b2 p2 h4; omega
    · rw [← h8]; exact old b0 p0 h6 h7
  refine hK v' ρN (upd VS (W i) (G (i + 1)).m) w' ⟨by rw [put_defers]; exact h.defers, by rw [put_size]; exact h.size, ?_, ?_, ⟨?_, ?_, ?_, ?_⟩, Ren.le_trans h.le hle1, ?_, h.below.trans hp.below, ?_, ?_, ?_⟩
  · -- temporaries
    intro k t hk hc
    by_cases e : o.dst = some t
    · obtain ⟨hlt, ht⟩ := hd t e
      have hik : i < k := (hc i o ho e).1 (.inr rfl)
      rw [e, put_eq (by rw [h.size]; exact hlt)]
      refine keeps hs (ht.mono hle2) k hik hk fun j oj h1 h2 h3 h4 => ?_
      have hSj : S j := by
        rcases (hc j oj h3 h4).2 h2 with h5 | h5
        · exact h5
        · omega
      rcases hs.ord.tmp i j o oj h1 ho h3 with h5 | h5
      · exact hni (hcl j (by omega) hSj i h5)
      · exact ((apart_tmp h5).1 t e).2 h4
    · rw [put_ne e]
      refine (h.tmp k t hk fun j oj h1 h2 => ?_).mono hle1
      have hji : j ≠ i := by intro e2; subst e2; rw [ho] at h1; injection h1 with h1; subst h1; exact e h2
      rw [← hc j oj h1 h2]
      exact ⟨.inl, fun h3 => h3.resolve_right hji⟩
  · -- blocks
    intro k b hk hc
    cases hb : (W i).testBit b
    · rw [hu2 b hb]
      refine h.view k b hk fun j h1 h2 => ?_
      have hji : j ≠ i := by intro e2; subst e2; rw [hb] at h2; cases h2
      rw [← hc j h1 h2]
      exact ⟨.inl, fun h3 => h3.resolve_right hji⟩
    · have hik : i < k := (hc i hi hb).1 (.inr rfl)
      rw [views (i := i) V G W k hik fun j h1 h2 => ?_]
      · show upd VS (W i) _ b = upd (VT V G W i) (W i) _ b
        unfold upd; rw [hb]; simp
      · cases hj : (W j).testBit b
        · rfl
        · have hSj : S j := by
            rcases (hc j (by omega) hj).2 h2 with h5 | h5
            · exact h5
            · omega
          rcases hs.ap i j h1 (by omega) with h5 | h5
          · exact absurd (hcl j (by omega) hSj i h5) hni
          · have := ((h5 b).1 hj).2
            rw [hb] at this; cases this
  · -- a block and its place
    intro b p O h1 h2
    cases hb : (W i).testBit b
    · rw [hu2 b hb] at h2
      have h3 := hold b hb p h1
      exact (h.mrel.blk b p O h3 h2).mono hle1 (hsame b p O hb h3 h2)
    · rw [hu1 b hb] at h2
      exact (hp.mrel.blk b p O (hw2 b hb p h1) h2).mono hle2 rfl
  · -- places are apart
    intro b1 b2 p1 p2 O1 O2 h1 h2 h3 h4 hne hw
    cases hb1 : (W i).testBit b1
    · rw [hu2 b1 hb1] at h3
      have h5 := hold b1 hb1 p1 h1
      cases hb2 : (W i).testBit b2
      · rw [hu2 b2 hb2] at h4
        exact h.mrel.excl b1 b2 p1 p2 O1 O2 h5 (hold b2 hb2 p2 h2) h3 h4 hne hw
      · exact fun e => hapart b2 p2 hb2 (hw2 b2 hb2 p2 h2) b1 p1 O1 hb1 h5 h3 e.symm
    · rw [hu1 b1 hb1] at h3
      have h5 := hw2 b1 hb1 p1 h1
      cases hb2 : (W i).testBit b2
      · rw [hu2 b2 hb2] at h4
        exact hapart b1 p1 hb1 h5 b2 p2 O2 hb2 (hold b2 hb2 p2 h2) h4
      · rw [hu1 b2 hb2] at h4
        exact hp.mrel.excl b1 b2 p1 p2 O1 O2 h5 (hw2 b2 hb2 p2 h2) h3 h4 hne hw
  · intro b p h1
    by_cases hr : (G i).n ≤ b ∧ b < (G (i + 1)).n
    · rw [hN1 b hr.1 hr.2] at h1; exact hp.mrel.fresh b p h1
    · rw [hN2 b hr] at h1; exact Nat.lt_of_lt_of_le (h.mrel.fresh b p h1) hp.below.size
  · exact hp.mrel.le
  · intro b p h1
    by_cases hr : (G i).n ≤ b ∧ b < (G (i + 1)).n
    · exact .inr ⟨i, hi, .inr rfl, hr⟩
    · rw [hN2 b hr] at h1
      rcases h.dom b p h1 with h2 | ⟨j, h2, h3, h4⟩
      · exact .inl h2
      · exact .inr ⟨j, h2, .inl h3, h4⟩
  · -- old memory
    intro k hk hc
    rw [hp.frame k (Nat.lt_of_lt_of_le hk h.below.size) fun b p h1 h2 => ?_, h.frame k hk fun b p h1 ⟨j, h2, h3, h4⟩ => hc b p h1 ⟨j, h2, .inl h3, h4⟩]
    rcases h.newp b p (meet_some h1).1 with h3 | h3 | ⟨b0, p0, h3, ⟨j, h4, h5, h6⟩, h7⟩
    · exact hc b p h3 ⟨i, hi, .inr rfl, h2⟩
    · omega
    · rw [← h7]; exact hc b0 p0 h3 ⟨j, h4, .inl h5, h6⟩
  · -- new places
    intro b p h1
    have old : ∀ b p, ρ b = some p → ρ0 b = some p ∨ w0.heap.size ≤ p.blk ∨ ∃ b0 p0, ρ0 b0 = some p0 ∧ (∃ j, j < ops.size ∧ (S j ∨ j = i) ∧ (W j).testBit b0 = true) ∧ p0.blk = p.blk := by
      intro b p h1
      rcases h.newp b p h1 with h3 | h3 | ⟨b0, p0, h3, ⟨j, h4, h5, h6⟩, h7⟩
      · exact .inl h3
      · exact .inr (.inl h3)
      · exact .inr (.inr ⟨b0, p0, h3, ⟨j, h4, .inl h5, h6⟩, h7⟩)
    by_cases hr : (G i).n ≤ b ∧ b < (G (i + 1)).n
    · rw [hN1 b hr.1 hr.2] at h1
      rcases hp.newp b p h1 with h2 | h2 | ⟨b0, p0, h2, h3, h4⟩
      · exact old b p (meet_some h2).1
      · exact .inr (.inl (Nat.le_trans h.below.size h2))
      · rcases old b0 p0 (meet_some h2).1 with h5 | h5 | ⟨b1, p1, h5, h6, h7⟩
        · exact .inr (.inr ⟨b0, p0, h5, ⟨i, hi, .inr rfl, h3⟩, h4⟩)
        · exact .inr (.inl (by omega))
        · exact .inr (.inr ⟨b1, p1, h5, h6, h7.trans h4⟩)
    · rw [hN2 b hr] at h1
      exact old b p h1
  · intro j b hj hSj hb
    rcases hSj with hSj | rfl
    · obtain ⟨p, h1⟩ := h.wdom j b hj hSj hb
      exact ⟨p, hle1 b p h1⟩
    · obtain ⟨⟨p, h1⟩, _⟩ := hp.wold b hb
      exact ⟨p, hle2 b p h1⟩
end
end
end Go.Am
