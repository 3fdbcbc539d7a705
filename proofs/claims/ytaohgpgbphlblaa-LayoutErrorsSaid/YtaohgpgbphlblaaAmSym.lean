/- Stepping the abstract machine over symbolic values: equations for 'simp'. -/
import Derived.Test.YtaohgpgbphlblaaAmTree
set_option linter.unusedVariables false
set_option linter.unusedSimpArgs false
set_option linter.unusedSectionVars false
namespace Go.Am
open Go
/-- memories as functions -/
def FM := Nat → Option Blk
instance : AMem FM where
  get m b := m b
  put m b x := fun j => if j = b then x else m j
  lim _ _ := true
  get_put m i j x _ := rfl
  get_lim _ _ _ _ := rfl
  lim_put _ _ _ _ := rfl
section
variable {μ : Type} [AMem μ] {P : Program} {E : Nat → Option AFn} {Y : Nat → List Value → μ → Nat → OR μ} {k : Nat} {e : List Value} {m : μ} {n r w : Nat}
theorem x_skip : exec P E Y (k + 1) .skip e m n = .ok .norm e m n 0 0 := rfl
theorem x_reg (l : List AI) : exec P E Y (k + 1) (.reg l) e m n = opsA P (callA E Y (exec P E Y k)) l e m n 0 0 := rfl
theorem x_regD (l : List AI) (bs : List Nat) : exec P E Y (k + 1) (.regD l bs) e m n = opsD P (callA E Y (exec P E Y k)) l bs 0 [] e m n 0 0 := rfl
theorem x_seq (a b : AC) : exec P E Y (k + 1) (.seq a b) e m n = crRec (exec P E Y k a e m n) (onNorm (exec P E Y k b)) := rfl
theorem x_cond (x : Opd) (a b : AC) : exec P E Y (k + 1) (.cond x a b) e m n = onCond (exec P E Y k a e m n) (exec P E Y k b e m n) (ev e x) := rfl
theorem x_block (id : Nat) (sh : List (List Nat)) (b : AC) : exec P E Y (k + 1) (.block id sh b) e m n = crRec (exec P E Y k b e m n) (onBlock id) := rfl
theorem x_loop (sh : List (List Nat)) (b : AC) : exec P E Y (k + 1) (.loop sh b) e m n = crRec (exec P E Y k b e m n) (onNorm (exec P E Y k (.loop sh b))) := rfl
theorem x_pre (sel : List Nat) (d : Nat) (c : AC) : exec P E Y (k + 1) (.pre sel d c) e m n = exec P E Y k c (fixE sel d e) m n := rfl
theorem x_post (c : AC) (sel : List Nat) (d : Nat) : exec P E Y (k + 1) (.post c sel d) e m n = crRec (exec P E Y k c e m n) (onPost sel d) := rfl
theorem x_exit (id : Nat) : exec P E Y (k + 1) (.exit id) e m n = .ok (.exit id) e m n 0 0 := rfl
theorem x_ret (rs : List ROp) : exec P E Y (k + 1) (.ret rs) e m n = onRet e m n (resA e m n rs) := rfl
theorem crRec_mk (X : AX) (f : AX → List Value → μ → Nat → Nat → Nat → CR μ) : crRec (.ok X e m n r w) f = f X e m n r w := rfl
theorem orRec_mk (v : Value) (f : Value → μ → Nat → Nat → Nat → CR μ) : orRec (.ok v m n r w) f = f v m n r w := rfl
theorem onNorm_norm (f : List Value → μ → Nat → CR μ) : onNorm f .norm e m n r w = addRW r w (f e m n) := rfl
theorem onNorm_exit (f : List Value → μ → Nat → CR μ) (i : Nat) : onNorm f (.exit i) e m n r w = .ok (.exit i) e m n r w := rfl
theorem onNorm_ret (f : List Value → μ → Nat → CR μ) (v : Value) : onNorm f (.ret v) e m n r w = .ok (.ret v) e m n r w := rfl
theorem addRW_mk (X : AX) (r' w' : Nat) : addRW r w (.ok X e m n r' w') = .ok X e m n (Nat.lor r r') (Nat.lor w w') := rfl
theorem onCond_mk (a b : CR μ) (t : Bool) : onCond a b (.bool t) = cond t a b := rfl
theorem onBlock_norm (id : Nat) : onBlock id .norm e m n r w = .ok .norm e m n r w := rfl
theorem onBlock_ret (id : Nat) (v : Value) : onBlock id (.ret v) e m n r w = .ok (.ret v) e m n r w := rfl
theorem onBlock_exit (id i : Nat) : onBlock id (.exit i) e m n r w = cond (Nat.beq i id) (.ok .norm e m n r w) (.ok (.exit i) e m n r w) := rfl
theorem onPost_norm (sel : List Nat) (d : Nat) : onPost sel d .norm e m n r w = .ok .norm (fixE sel d e) m n r w := rfl
theorem onPost_exit (sel : List Nat) (d i : Nat) : onPost sel d (.exit i) e m n r w = .ok (.exit i) e m n r w := rfl
theorem onPost_ret (sel : List Nat) (d : Nat) (v : Value) : onPost sel d (.ret v) e m n r w = .ok (.ret v) e m n r w := rfl
theorem onRet_mk (vs : List Value) (r : Nat) : onRet e m n (some (vs, r)) = .ok (.ret (retV vs)) e m n r 0 := rfl
variable {rec : Nat → List Value → μ → Nat → OR μ}
theorem o_nil : opsA P rec [] e m n r w = .ok .norm e m n r w := by show doneA e m n r w = _; rw [doneA, forceN_eq, forceN_eq]
theorem o_nop (i : Nat) (l : List AI) : opsA P rec (.nop i :: l) e m n r w = opsA P rec l e m n r w := rfl
theorem o_op (o : AOp) (l : List AI) : opsA P rec (.op o :: l) e m n r w = orRec (stepA P rec e m n o) fun v m n r' w' => opsA P rec l (v :: e) m n (Nat.lor r r') (Nat.lor w w') := rfl
theorem o_eff (o : AOp) (l : List AI) : opsA P rec (.eff o :: l) e m n r w = orRec (stepA P rec e m n o) fun _ m n r' w' => opsA P rec l e m n (Nat.lor r r') (Nat.lor w w') := rfl
theorem o_opg (o : AOp) (gi : Nat) (gw : Bool) (l : List AI) : opsA P rec (.opg o gi gw :: l) e m n r w = cond (wantB gw (lget e gi)) (orRec (stepA P rec e m n o) fun v m n r' w' => opsA P rec l (v :: e) m n (Nat.lor r r') (Nat.lor w w')) (opsA P rec l (undef :: e) m n r w) := rfl
theorem o_effg (o : AOp) (gi : Nat) (gw : Bool) (l : List AI) : opsA P rec (.effg o gi gw :: l) e m n r w = cond (wantB gw (lget e gi)) (orRec (stepA P rec e m n o) fun _ m n r' w' => opsA P rec l e m n (Nat.lor r r') (Nat.lor w w')) (opsA P rec l e m n r w) := rfl
theorem s_mov (x : Opd) : stepA P rec e m n (.mov x) = .ok (ev e x) m n 0 0 := rfl
theorem s_pick (c a b : Opd) : stepA P rec e m n (.pick c a b) = valO m n (pickV (ev e a) (ev e b) (ev e c)) := rfl
theorem s_bin (op : BinOp) (t : Nat) (x y : Opd) : stepA P rec e m n (.bin op t x y) = valO m n (binV P op t (ev e x) (ev e y)) := rfl
theorem s_una (op : UnOp) (x : Opd) : stepA P rec e m n (.una op x) = valO m n (unaV op (ev e x)) := rfl
theorem s_conv (q : IntKind) (x : Opd) : stepA P rec e m n (.conv q x) = valO m n (convV q (ev e x)) := rfl
theorem s_fld (off : Nat) (x : Opd) : stepA P rec e m n (.fld off x) = valO m n (fldV off (ev e x)) := rfl
theorem s_idx (sz : Nat) (x i : Opd) : stepA P rec e m n (.idx sz x i) = valO m n (obind (fun i => idxV sz i (ev e x)) (natOf (ev e i))) := rfl
theorem s_ida (c sz : Nat) (x i : Opd) : stepA P rec e m n (.ida c sz x i) = valO m n (obind (fun i => idaV c sz i (ev e x)) (natOf (ev e i))) := rfl
theorem s_build (z : List Value) (ps : List (Nat × Nat × Opd)) : stepA P rec e m n (.build z ps) = valO m n (aggO (fillA (parts3 e ps) z)) := rfl
theorem s_extr (i : Nat) (x : Opd) : stepA P rec e m n (.extr i x) = valO m n (extrV i (ev e x)) := rfl
theorem s_nilck (x : Opd) : stepA P rec e m n (.nilck x) = valO m n (nilckV (ev e x)) := rfl
theorem s_func (f : Nat) (a c : List Opd) : stepA P rec e m n (.func f a c) = .ok (.func (.func f) (evs e a).toArray (evs e c).toArray) m n 0 0 := rfl
theorem s_len (s : Bool) (x : Opd) : stepA P rec e m n (.len s x) = valO m n (lenV s (ev e x)) := rfl
theorem s_mx (x y : Opd) : stepA P rec e m n (.mx x y) = valO m n (mxV (ev e x) (ev e y)) := rfl
theorem s_slc (sz : Nat) (x : Opd) (lo hi : Option Opd) : stepA P rec e m n (.slc sz x lo hi) = slcM m n sz (slcV sz (oev e lo) (oev e hi) (ev e x)) (ev e x) := rfl
theorem s_new (c : List Value) : stepA P rec e m n (.new c) = newb m n (.cells c 0 false true) ptrP := rfl
theorem s_box (x : Opd) : stepA P rec e m n (.box x) = newb m n (.cells (ev e x).cells.toList 0 false true) ptrP := rfl
theorem s_mkl (sz len : Nat) (z : List Value) (ps : List (Nat × Opd)) : stepA P rec e m n (.mkl sz len z ps) = mklC m n sz len (fillA (parts2 sz e ps) (reps z len)) := rfl
theorem s_make (sz bytes : Nat) (z : List Value) (l c : Opd) : stepA P rec e m n (.make sz bytes z l c) = makeV sz bytes z m n (natOf (ev e l)) (natOf (ev e c)) := rfl
theorem s_ld1 (x : Opd) : stepA P rec e m n (.ld1 x) = ld1V m n (ev e x) := rfl
theorem s_ldn (c : Nat) (x : Opd) : stepA P rec e m n (.ldn c x) = ldnV c m n (ev e x) := rfl
theorem s_st (c : Nat) (x y : Opd) : stepA P rec e m n (.st c x y) = stV c (ev e y).cells.toList m n (ev e x) := rfl
theorem s_app (sz bytes : Nat) (x y : Opd) : stepA P rec e m n (.app sz bytes x y) = appO sz bytes m n (ev e x) (ev e y) (shown m n sz (ev e x)) (shown m n sz (ev e y)) := rfl
theorem s_call (f : Nat) (args : List Opd) : stepA P rec e m n (.call f args) = rec f (evs e args) m n := rfl
theorem s_callv (x : Opd) (args : List Opd) : stepA P rec e m n (.callv x args) = callV rec (evs e args) m n (ev e x) := rfl
theorem ev_v (i : Nat) : ev e (.v i) = lget e i := rfl
theorem ev_c (x : Value) : ev e (.c x) = x := rfl
theorem lget_z (a : Value) (l : List Value) : lget (a :: l) 0 = a := rfl
theorem lget_s (a : Value) (l : List Value) (i : Nat) : lget (a :: l) (i + 1) = lget l i := rfl
theorem evs_nil : evs e [] = [] := rfl
theorem evs_cons (x : Opd) (l : List Opd) : evs e (x :: l) = ev e x :: evs e l := rfl
theorem lmap_nil (t : List Value) : lmap e [] t = t := rfl
theorem lmap_cons (i : Nat) (s : List Nat) (t : List Value) : lmap e (i :: s) t = lget e i :: lmap e s t := rfl
theorem ldrop_z (l : List Value) : ldrop l 0 = l := by cases l <;> rfl
theorem ldrop_s (a : Value) (l : List Value) (i : Nat) : ldrop (a :: l) (i + 1) = ldrop l i := rfl
theorem fixE_mk (sel : List Nat) (d : Nat) : fixE sel d e = lmap e sel (ldrop e d) := rfl
theorem valO_some (v : Value) : valO m n (some v) = .ok v m n 0 0 := rfl
theorem valR_some (b : Nat) (v : Value) : valR m n b (some v) = .ok v m n (bit b) 0 := rfl
theorem bin_int (op : BinOp) (t : Nat) (q : IntKind) (a b : Int) : binV P op t (.int q a) (.int q b) = intBin op q a b := by
  show cond (decide (q = q)) (intBin op q a b) none = _; simp
theorem i_add (q : IntKind) (a b : Int) : intBin .add q a b = some (.int q (q.wrap (a + b))) := by show some (Value.int q (wrapF q (Int.add a b))) = _; rw [wrapF_eq]; rfl
theorem i_sub (q : IntKind) (a b : Int) : intBin .sub q a b = some (.int q (q.wrap (a - b))) := by show some (Value.int q (wrapF q (Int.sub a b))) = _; rw [wrapF_eq]; rfl
theorem i_mul (q : IntKind) (a b : Int) : intBin .mul q a b = some (.int q (q.wrap (a * b))) := by show some (Value.int q (wrapF q (Int.mul a b))) = _; rw [wrapF_eq]; rfl
theorem i_quo (q : IntKind) (a b : Int) : intBin .quo q a b = if b = 0 then none else some (.int q (q.wrap (a.tdiv b))) := by show cond (eqB b 0) none (some (Value.int q (wrapF q (a.tdiv b)))) = _; rw [wrapF_eq, eqB_eq]; by_cases h : b = 0 <;> simp [h]
theorem i_rem (q : IntKind) (a b : Int) : intBin .rem q a b = if b = 0 then none else some (.int q (a.tmod b)) := by show cond (eqB b 0) none (some (Value.int q (a.tmod b))) = _; rw [eqB_eq]; by_cases h : b = 0 <;> simp [h]
theorem i_eql (q : IntKind) (a b : Int) : intBin .eql q a b = some (.bool (decide (a = b))) := by show some (Value.bool (eqB a b)) = _; rw [eqB_eq]
theorem i_neq (q : IntKind) (a b : Int) : intBin .neq q a b = some (.bool (!decide (a = b))) := by show some (Value.bool (!eqB a b)) = _; rw [eqB_eq]
theorem i_lss (q : IntKind) (a b : Int) : intBin .lss q a b = some (.bool (decide (a < b))) := by show some (Value.bool (ltB a b)) = _; rw [ltB_eq]
theorem i_gtr (q : IntKind) (a b : Int) : intBin .gtr q a b = some (.bool (decide (b < a))) := by show some (Value.bool (ltB b a)) = _; rw [ltB_eq]
theorem i_leq (q : IntKind) (a b : Int) : intBin .leq q a b = some (.bool (decide (a ≤ b))) := by show some (Value.bool (!ltB b a)) = _; rw [ltB_eq, dec_le]
theorem i_geq (q : IntKind) (a b : Int) : intBin .geq q a b = some (.bool (decide (b ≤ a))) := by show some (Value.bool (!ltB a b)) = _; rw [ltB_eq, dec_le]
theorem pick_mk (a b : Value) (t : Bool) : pickV a b (.bool t) = some (cond t a b) := rfl
theorem wantB_mk (w t : Bool) : wantB w (.bool t) = cond w t (!t) := rfl
theorem fld_mk (off b o : Nat) : fldV off (.pointer (some ⟨b, o, none⟩)) = some (.pointer (some ⟨b, o + off, none⟩)) := rfl
theorem nilck_mk (a : Addr) : nilckV (.pointer (some a)) = some (.pointer (some a)) := rfl
theorem una_not (t : Bool) : unaV .not (.bool t) = some (.bool (!t)) := rfl
theorem res_nil : resA e m n [] = some ([], 0) := rfl
theorem res_cons (x : ROp) (l : List ROp) : resA e m n (x :: l) = Option.rec (motive := fun _ => Option (List Value × Nat)) none (fun p => resO e m n p.1 p.2 x) (resA e m n l) := rfl
theorem resO_v (vs : List Value) (r i : Nat) : resO e m n vs r (.v i) = some (lget e i :: vs, r) := rfl
theorem retV_one (v : Value) : retV [v] = v := rfl
end
end Go.Am
