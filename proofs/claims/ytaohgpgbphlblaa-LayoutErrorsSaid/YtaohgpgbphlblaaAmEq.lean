/- Equations for 'simp' over the machine without fuel: regions as folds. -/
import Derived.Test.YtaohgpgbphlblaaAmOmega
set_option linter.unusedVariables false
set_option linter.unusedSimpArgs false
set_option linter.unusedSectionVars false
namespace Go.Am
open Go
section
variable {μ : Type} [AMem μ] {P : Program} {rec : Nat → List Value → μ → Nat → OR μ}
/-- the state of a region -/
inductive OS (μ : Type) where
  | no
  | ok (e : List Value) (m : μ) (n r w : Nat)
noncomputable def keep (e : List Value) (r w : Nat) : OR μ → OS μ
  | .no => .no
  | .ok v m n r' w' => .ok (v :: e) m n (Nat.lor r r') (Nat.lor w w')
noncomputable def drop1 (e : List Value) (r w : Nat) : OR μ → OS μ
  | .no => .no
  | .ok _ m n r' w' => .ok e m n (Nat.lor r r') (Nat.lor w w')
noncomputable def stepS (P : Program) (rec : Nat → List Value → μ → Nat → OR μ) : OS μ → AI → OS μ
  | .no, _ => .no
  | .ok e m n r w, .nop _ => .ok e m n r w
  | .ok e m n r w, .op o => keep e r w (stepA P rec e m n o)
  | .ok e m n r w, .eff o => drop1 e r w (stepA P rec e m n o)
  | .ok e m n r w, .opg o gi gw => cond (wantB gw (lget e gi)) (keep e r w (stepA P rec e m n o)) (.ok (undef :: e) m n r w)
  | .ok e m n r w, .effg o gi gw => cond (wantB gw (lget e gi)) (drop1 e r w (stepA P rec e m n o)) (.ok e m n r w)
noncomputable def runS (P : Program) (rec : Nat → List Value → μ → Nat → OR μ) (l : List AI) (s : OS μ) : OS μ := l.foldl (stepS P rec) s
def outS : OS μ → CR μ
  | .no => .no
  | .ok e m n r w => .ok .norm e m n r w
theorem runS_no (l : List AI) : runS P rec l .no = .no := by
  induction l with
  | nil => rfl
  | cons i l ih => show runS P rec l (stepS P rec .no i) = _; cases i <;> exact ih
theorem ops_run : ∀ (l : List AI) (e : List Value) (m : μ) (n r w : Nat), opsA P rec l e m n r w = outS (runS P rec l (.ok e m n r w))
  | [], e, m, n, r, w => o_nil
  | i :: l, e, m, n, r, w => by
    have ih := ops_run l
    have hk : ∀ x : OR μ, orRec x (fun v m n r' w' => opsA P rec l (v :: e) m n (Nat.lor r r') (Nat.lor w w')) = outS (runS P rec l (keep e r w x)) := fun x => by
      cases x with
      | no => show CR.no = outS (runS P rec l .no); rw [runS_no]; rfl
      | ok v m1 n1 r1 w1 => exact ih _ m1 n1 _ _
    have hd : ∀ x : OR μ, orRec x (fun _ m n r' w' => opsA P rec l e m n (Nat.lor r r') (Nat.lor w w')) = outS (runS P rec l (drop1 e r w x)) := fun x => by
      cases x with
      | no => show CR.no = outS (runS P rec l .no); rw [runS_no]; rfl
      | ok v m1 n1 r1 w1 => exact ih _ m1 n1 _ _
    cases i with
    | nop i => exact ih e m n r w
    | op o => exact hk _
    | eff o => exact hd _
    | opg o gi gw =>
      show cond (wantB gw (lget e gi)) (orRec (stepA P rec e m n o) fun v m n r' w' => opsA P rec l (v :: e) m n (Nat.lor r r') (Nat.lor w w')) (opsA P rec l (undef :: e) m n r w) = outS (runS P rec l (cond (wantB gw (lget e gi)) (keep e r w (stepA P rec e m n o)) (.ok (undef :: e) m n r w)))
      cases wantB gw (lget e gi)
      · exact ih _ m n r w
      · exact hk _
    | effg o gi gw =>
      show cond (wantB gw (lget e gi)) (orRec (stepA P rec e m n o) fun _ m n r' w' => opsA P rec l e m n (Nat.lor r r') (Nat.lor w w')) (opsA P rec l e m n r w) = outS (runS P rec l (cond (wantB gw (lget e gi)) (drop1 e r w (stepA P rec e m n o)) (.ok e m n r w)))
      cases wantB gw (lget e gi)
      · exact ih e m n r w
      · exact hd _
theorem q_nil (s : OS μ) : runS P rec [] s = s := rfl
theorem q_cons (i : AI) (l : List AI) (s : OS μ) : runS P rec (i :: l) s = runS P rec l (stepS P rec s i) := rfl
theorem q_nop (e : List Value) (m : μ) (n r w i : Nat) : stepS P rec (.ok e m n r w) (.nop i) = .ok e m n r w := rfl
theorem q_op (e : List Value) (m : μ) (n r w : Nat) (o : AOp) : stepS P rec (.ok e m n r w) (.op o) = keep e r w (stepA P rec e m n o) := rfl
theorem q_eff (e : List Value) (m : μ) (n r w : Nat) (o : AOp) : stepS P rec (.ok e m n r w) (.eff o) = drop1 e r w (stepA P rec e m n o) := rfl
theorem q_opg (e : List Value) (m : μ) (n r w gi : Nat) (gw : Bool) (o : AOp) : stepS P rec (.ok e m n r w) (.opg o gi gw) = cond (wantB gw (lget e gi)) (keep e r w (stepA P rec e m n o)) (.ok (undef :: e) m n r w) := rfl
theorem q_effg (e : List Value) (m : μ) (n r w gi : Nat) (gw : Bool) (o : AOp) : stepS P rec (.ok e m n r w) (.effg o gi gw) = cond (wantB gw (lget e gi)) (drop1 e r w (stepA P rec e m n o)) (.ok e m n r w) := rfl
theorem keep_ok (e : List Value) (m : μ) (v : Value) (n r w r' w' : Nat) : keep e r w (.ok v m n r' w') = .ok (v :: e) m n (Nat.lor r r') (Nat.lor w w') := rfl
theorem drop1_ok (e : List Value) (m : μ) (v : Value) (n r w r' w' : Nat) : drop1 e r w (.ok v m n r' w') = .ok e m n (Nat.lor r r') (Nat.lor w w') := rfl
theorem out_ok (e : List Value) (m : μ) (n r w : Nat) : outS (.ok e m n r w) = .ok .norm e m n r w := rfl
end
section
variable {μ : Type} [AMem μ] {P : Program} {E : Nat → Option AFn} {Y : Nat → List Value → μ → Nat → OR μ} {e : List Value} {m : μ} {n : Nat}
/-- calls, without fuel -/
noncomputable def callW (P : Program) (E : Nat → Option AFn) (Y : Nat → List Value → μ → Nat → OR μ) : Nat → List Value → μ → Nat → OR μ := callA E Y (execW P E Y)
theorem v_reg (l : List AI) : execW P E Y (.reg l) e m n = outS (runS P (callW P E Y) l (.ok e m n 0 0)) := by rw [w_reg, ops_run]; rfl
/-- the end of a call -/
noncomputable def leaveC (fn : AFn) (m0 : μ) (n0 : Nat) : CR μ → OR μ
  | .no => .no
  | .ok X e m n r w => leaveX fn m0 n0 e m n r w X
theorem callW_fn {f : Nat} {fn : AFn} {args : List Value} (hE : E f = some fn) (ha : llen args = fn.na) : callW P E Y f args m n = leaveC fn m n (execW P E Y fn.code args m n) := by
  show Option.rec (motive := fun _ => OR μ) (Y f args m n) (callF (execW P E Y) args m n) (E f) = _
  rw [hE]
  show cond (Nat.beq (llen args) fn.na) (CR.rec (motive := fun _ => OR μ) .no (fun x e m' n' r w => leaveX fn m n e m' n' r w x) (execW P E Y fn.code args m n)) .no = _
  rw [ha, Nat.beq_refl]
  cases execW P E Y fn.code args m n <;> rfl
theorem callW_Y {f : Nat} {args : List Value} (hE : E f = none) : callW P E Y f args m n = Y f args m n := by
  show Option.rec (motive := fun _ => OR μ) (Y f args m n) (callF (execW P E Y) args m n) (E f) = _
  rw [hE]
theorem callW_some {f : Nat} {args : List Value} {v : Value} {m' : μ} {n' r w : Nat} (h : callW P E Y f args m n = .ok v m' n' r w) : ∃ k, callA E Y (exec P E Y k) f args m n = .ok v m' n' r w := by
  obtain ⟨k, hk⟩ := call_rch (P := P) f args m n v m' n' r w h
  exact ⟨k, hk k (Nat.le_refl _)⟩
/-- a closed run, by the machine with fuel -/
theorem callW_of {f k : Nat} {args : List Value} {v : Value} {m' : μ} {n' r w : Nat} (h : callA E Y (exec P E Y k) f args m n = .ok v m' n' r w) : callW P E Y f args m n = .ok v m' n' r w :=
  call_le (exec_leW k) f args m n _ _ _ _ _ h
theorem leave_ret {fn : AFn} {m0 : μ} {n0 : Nat} (e : List Value) (v : Value) (n r w : Nat) : leaveC fn m0 n0 (.ok (.ret v) e m n r w) = leaveA m0 n0 v m n r w := rfl
/-- a plain value is handed back, and nothing that was there was written -/
theorem leaveA_free {m0 : μ} {n0 : Nat} {v : Value} {n r w : Nat} (hv : addrFree v = true) (hw : Nat.mod w (bit n0) = 0) : leaveA m0 n0 v m n r w = .ok v m0 n0 (Nat.mod r (bit n0)) 0 := by
  unfold leaveA
  rw [hv, hw]
  show cond (true && Nat.beq 0 0) _ _ = _
  rw [forceN_eq]; rfl
theorem leaveA_keep {m0 : μ} {n0 : Nat} {v : Value} {n r w : Nat} (hv : addrFree v = false) : leaveA m0 n0 v m n r w = .ok v m n r w := by
  unfold leaveA
  rw [hv]; rfl
theorem mod_zero (n : Nat) : Nat.mod 0 (bit n) = 0 := Nat.zero_mod _
end
end Go.Am
namespace Go.Am
open Go
/-! ### slices of plain cells -/
theorem wantB_undef (w : Bool) : wantB w undef = false := rfl
theorem natOf_zero (k : IntKind) : natOf (.int k 0) = some 0 := rfl
theorem natOf_one (k : IntKind) : natOf (.int k 1) = some 1 := rfl
theorem natOf_mk (k : IntKind) (i : Nat) : natOf (.int k (i : Int)) = some i := rfl
theorem obind_some (f : Nat → Option Value) (i : Nat) : obind f (some i) = f i := rfl
/-- the slice value v shows the cells vs, one each, in memory m -/
def Sl (m : FM) (n : Nat) (v : Value) (vs : List Value) : Prop :=
  (v = .slice none 0 0 ∧ vs = []) ∨ (∃ b o cap c opn wr, v = .slice (some ⟨b, o, none⟩) vs.length cap ∧ b < n ∧ m b = some (.cells c 1 opn wr) ∧ ∀ (i : Nat) x, vs[i]? = some x → c[o + i]? = some x) ∨
  (v = .slice (some ⟨0, 0, none⟩) 0 VAG ∧ vs = [] ∧ 0 < n)
theorem Sl.len {m : FM} {n : Nat} {v : Value} {vs : List Value} (h : Sl m n v vs) : lenV false v = some (.int .i64 (vs.length : Int)) := by
  rcases h with ⟨rfl, rfl⟩ | ⟨b, o, cap, c, opn, wr, rfl, _⟩ | ⟨rfl, rfl, _⟩ <;> rfl
theorem getb_lt {m : FM} {n b : Nat} (h : b < n) : getb m n b = m b := by
  show cond (Nat.blt b n) (m b) none = m b
  rw [show Nat.blt b n = true from Nat.ble_eq_true_of_le h]; rfl
/-- a slice's cell: its address, and what is there -/
theorem Sl.at {m : FM} {n : Nat} {v : Value} {vs : List Value} (h : Sl m n v vs) {i : Nat} {x : Value} (hx : vs[i]? = some x) : ∃ a b, idxV 1 i v = some (.pointer (some a)) ∧ ld1V m n (.pointer (some a)) = .ok x m n (bit b) 0 ∧ b < n := by
  rcases h with ⟨rfl, rfl⟩ | ⟨b, o, cap, c, opn, wr, rfl, hb, hm, hc⟩ | ⟨rfl, rfl, _⟩
  · simp at hx
  · have hi : i < vs.length := (List.getElem?_eq_some_iff.1 hx).1
    refine ⟨⟨b, o + i * 1, none⟩, b, ?_, ?_, hb⟩
    · show cond (Nat.blt i vs.length) _ none = _
      rw [show Nat.blt i vs.length = true from Nat.ble_eq_true_of_le hi]; rfl
    · show withCells (getb m n b) (fun c => valR m n b (cget c (o + i * 1))) = _
      rw [getb_lt hb, hm, Nat.mul_one]
      show valR m n b (cget c (o + i)) = _
      rw [cget_eq, hc i x hx]; rfl
  · simp at hx
def Ints (m : FM) (n : Nat) (v : Value) (xs : List Int) : Prop := Sl m n v (xs.map (Value.int .i64))
theorem Ints.len {m : FM} {n : Nat} {v : Value} {xs : List Int} (h : Ints m n v xs) : lenV false v = some (.int .i64 (xs.length : Int)) := by
  have := Sl.len h; rwa [List.length_map] at this
theorem Ints.at {m : FM} {n : Nat} {v : Value} {xs : List Int} (h : Ints m n v xs) {i : Nat} (hi : i < xs.length) : ∃ a b, idxV 1 i v = some (.pointer (some a)) ∧ ld1V m n (.pointer (some a)) = .ok (.int .i64 xs[i]) m n (bit b) 0 ∧ b < n :=
  Sl.at h (by rw [List.getElem?_map, List.getElem?_eq_getElem hi]; rfl)
theorem wrap_small {z : Int} (h : -9223372036854775808 ≤ z) (h' : z < 9223372036854775808) : IntKind.i64.wrap z = z := wrap_id_i64 h h'
end Go.Am
namespace Go.Am
open Go
/-- x gives what Q says (what was read is not told) -/
def Gv (x : CR FM) (Q : AX → List Value → FM → Nat → Nat → Prop) : Prop :=
  match x with
  | .no => False
  | .ok X e m n _ w => Q X e m n w
theorem Gv_ok (X : AX) (e : List Value) (m : FM) (n r w : Nat) (Q : AX → List Value → FM → Nat → Nat → Prop) : Gv (.ok X e m n r w) Q = Q X e m n w := rfl
theorem Gv.mono {x : CR FM} {Q Q' : AX → List Value → FM → Nat → Nat → Prop} (h : Gv x Q) (hq : ∀ X e m n w, Q X e m n w → Q' X e m n w) : Gv x Q' := by
  cases x with
  | no => exact h
  | ok X e m n r w => exact hq _ _ _ _ _ h
theorem Gv_add (r w : Nat) (x : CR FM) (Q : AX → List Value → FM → Nat → Nat → Prop) : Gv (addRW r w x) Q = Gv x (fun X e m n w' => Q X e m n (Nat.lor w w')) := by cases x <;> rfl
theorem Gv_some {x : CR FM} {Q : AX → List Value → FM → Nat → Nat → Prop} (h : Gv x Q) : ∃ X e m n r w, x = .ok X e m n r w ∧ Q X e m n w := by
  cases x with
  | no => exact h.elim
  | ok X e m n r w => exact ⟨X, e, m, n, r, w, rfl, h⟩
/-- a call gives a value and changes no memory -/
def Pure (x : OR FM) (m : FM) (n : Nat) (v : Value) : Prop := ∃ r, x = .ok v m n r 0
theorem pure_of {fn : AFn} {m0 : FM} {n0 : Nat} {x : CR FM} {v : Value} (hv : addrFree v = true) (h : Gv x fun X _ _ _ w => X = .ret v ∧ Nat.mod w (bit n0) = 0) : Pure (leaveC fn m0 n0 x) m0 n0 v := by
  obtain ⟨X, e, m, n, r, w, rfl, rfl, hw⟩ := Gv_some h
  rw [leave_ret]
  exact ⟨_, leaveA_free hv hw⟩
end Go.Am
