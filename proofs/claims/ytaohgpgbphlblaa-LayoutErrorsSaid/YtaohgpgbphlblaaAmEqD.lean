/- Equations for 'simp': drawn regions as folds; memory. -/
import Derived.Test.YtaohgpgbphlblaaAmEq
set_option linter.unusedVariables false
set_option linter.unusedSimpArgs false
set_option linter.unusedSectionVars false
namespace Go.Am
open Go
section
variable {μ : Type} [AMem μ] {P : Program} {rec : Nat → List Value → μ → Nat → OR μ}
/-- the state of a drawn region -/
inductive OD (μ : Type) where
  | no
  | ok (k : Nat) (done : List (Nat × Nat × Nat)) (e : List Value) (m : μ) (n r w : Nat)
noncomputable def keepD (b : Nat) (keepV : Bool) (k : Nat) (done : List (Nat × Nat × Nat)) (e : List Value) (r w : Nat) : OR μ → OD μ
  | .no => .no
  | .ok v m n r' w' => cond (apart b r' w' done) (.ok (k + 1) ((k, r', w') :: done) (cond keepV (v :: e) e) m n (Nat.lor r r') (Nat.lor w w')) .no
noncomputable def stepX (P : Program) (rec : Nat → List Value → μ → Nat → OR μ) : OD μ → AI × Nat → OD μ
  | .no, _ => .no
  | .ok k done e m n r w, (.nop _, _) => .ok (k + 1) done e m n r w
  | .ok k done e m n r w, (.op o, b) => keepD b true k done e r w (stepD P rec e m n o)
  | .ok k done e m n r w, (.eff o, b) => keepD b false k done e r w (stepD P rec e m n o)
  | .ok k done e m n r w, (.opg o gi gw, b) => cond (wantB gw (lget e gi)) (keepD b true k done e r w (stepD P rec e m n o)) (.ok (k + 1) done (undef :: e) m n r w)
  | .ok k done e m n r w, (.effg o gi gw, b) => cond (wantB gw (lget e gi)) (keepD b false k done e r w (stepD P rec e m n o)) (.ok (k + 1) done e m n r w)
noncomputable def runX (P : Program) (rec : Nat → List Value → μ → Nat → OR μ) (l : List (AI × Nat)) (s : OD μ) : OD μ := l.foldl (stepX P rec) s
def outX : OD μ → CR μ
  | .no => .no
  | .ok _ _ e m n r w => .ok .norm e m n r w
def zipB : List AI → List Nat → List (AI × Nat)
  | [], _ => []
  | i :: l, bs => (i, bs.headD 0) :: zipB l bs.tail
theorem runX_no (l : List (AI × Nat)) : runX P rec l .no = .no := by
  induction l with
  | nil => rfl
  | cons i l ih => exact ih
theorem apart_sub {b r w : Nat} : ∀ {d d' : List (Nat × Nat × Nat)}, (∀ x ∈ d', x ∈ d) → apart b r w d = true → apart b r w d' = true := by
  intro d d' hs h
  have key : ∀ (l : List (Nat × Nat × Nat)), apart b r w l = l.all fun x => (Nat.testBit b x.1 || (Nat.beq (Nat.land w (Nat.lor x.2.1 x.2.2)) 0 && Nat.beq (Nat.land x.2.2 r) 0)) := by
    intro l
    induction l with
    | nil => rfl
    | cons x l ih => obtain ⟨i, r', w'⟩ := x; show (_ && apart b r w l) = _; rw [ih]; rfl
  rw [key, List.all_eq_true] at h
  rw [key, List.all_eq_true]
  exact fun x hx => h x (hs x hx)
theorem opsD_run : ∀ (l : List AI) (bs : List Nat) (k : Nat) (d d' : List (Nat × Nat × Nat)) (e : List Value) (m : μ) (n r w : Nat), (∀ x ∈ d', x ∈ d) → CLe (outX (runX P rec (zipB l bs) (.ok k d e m n r w))) (opsD P rec l bs k d' e m n r w)
  | [], bs, k, d, d', e, m, n, r, w, _ => by
    intro X e' m' n' r' w' h
    show doneA e m n r w = _
    rw [doneA, forceN_eq, forceN_eq]; exact h
  | i :: l, bs, k, d, d', e, m, n, r, w, hs => by
    have ih := opsD_run l bs.tail (k + 1)
    have hmem : ∀ (y : Nat × Nat × Nat), ∀ x ∈ (y :: d'), x ∈ (y :: d) := fun y x hx => by
      rcases List.mem_cons.1 hx with rfl | hx
      · exact List.mem_cons_self ..
      · exact List.mem_cons_of_mem _ (hs x hx)
    have hone : ∀ (o : AOp) (kv : Bool), CLe (outX (runX P rec (zipB l bs.tail) (keepD (bs.headD 0) kv k d e r w (stepD P rec e m n o))))
        (okD (bs.headD 0) k d' (stepD P rec e m n o) fun v m n r' w' done => opsD P rec l bs.tail (Nat.succ k) done (cond kv (v :: e) e) m n (Nat.lor r r') (Nat.lor w w')) := by
      intro o kv
      cases stepD P rec e m n o with
      | no => show CLe (outX (runX P rec (zipB l bs.tail) .no)) _; rw [runX_no]; exact CLe.no _
      | ok v m1 n1 r1 w1 =>
        show CLe (outX (runX P rec (zipB l bs.tail) (cond (apart (bs.headD 0) r1 w1 d) _ .no))) (forceN r1 fun r1 => forceN w1 fun w1 => cond (Nat.beq (Nat.lor r1 w1) 0) (opsD P rec l bs.tail (Nat.succ k) d' (cond kv (v :: e) e) m1 n1 (Nat.lor r r1) (Nat.lor w w1)) (cond (apart (bs.headD 0) r1 w1 d') (opsD P rec l bs.tail (Nat.succ k) ((k, r1, w1) :: d') (cond kv (v :: e) e) m1 n1 (Nat.lor r r1) (Nat.lor w w1)) .no))
        rw [forceN_eq, forceN_eq]
        cases ha : apart (bs.headD 0) r1 w1 d
        · rw [cond_false, runX_no]; exact CLe.no _
        · rw [apart_sub hs ha, cond_true, cond_true]
          cases Nat.beq (Nat.lor r1 w1) 0
          · exact ih _ _ _ _ _ _ _ (hmem _)
          · exact ih _ _ _ _ _ _ _ fun x hx => List.mem_cons_of_mem _ (hs x hx)
    cases i with
    | nop i => exact ih _ _ _ _ _ _ _ hs
    | op o => exact hone o true
    | eff o => exact hone o false
    | opg o gi gw =>
      show CLe (outX (runX P rec (zipB l bs.tail) (cond (wantB gw (lget e gi)) (keepD (bs.headD 0) true k d e r w (stepD P rec e m n o)) (.ok (k + 1) d (undef :: e) m n r w)))) (cond (wantB gw (lget e gi)) (okD (bs.headD 0) k d' (stepD P rec e m n o) fun v m n r' w' done => opsD P rec l bs.tail (Nat.succ k) done (v :: e) m n (Nat.lor r r') (Nat.lor w w')) (opsD P rec l bs.tail (Nat.succ k) d' (undef :: e) m n r w))
      cases wantB gw (lget e gi)
      · exact ih _ _ _ _ _ _ _ hs
      · exact hone o true
    | effg o gi gw =>
      show CLe (outX (runX P rec (zipB l bs.tail) (cond (wantB gw (lget e gi)) (keepD (bs.headD 0) false k d e r w (stepD P rec e m n o)) (.ok (k + 1) d e m n r w)))) (cond (wantB gw (lget e gi)) (okD (bs.headD 0) k d' (stepD P rec e m n o) fun _ m n r' w' done => opsD P rec l bs.tail (Nat.succ k) done e m n (Nat.lor r r') (Nat.lor w w')) (opsD P rec l bs.tail (Nat.succ k) d' e m n r w))
      cases wantB gw (lget e gi)
      · exact ih _ _ _ _ _ _ _ hs
      · exact hone o false
theorem z_nil (bs : List Nat) : zipB [] bs = [] := rfl
theorem z_cons (i : AI) (l : List AI) (b : Nat) (bs : List Nat) : zipB (i :: l) (b :: bs) = (i, b) :: zipB l bs := rfl
theorem y_nil (s : OD μ) : runX P rec [] s = s := rfl
theorem y_cons (i : AI × Nat) (l : List (AI × Nat)) (s : OD μ) : runX P rec (i :: l) s = runX P rec l (stepX P rec s i) := rfl
variable (k : Nat) (done : List (Nat × Nat × Nat)) (e : List Value) (m : μ) (n r w b : Nat)
theorem y_nop (i : Nat) : stepX P rec (.ok k done e m n r w) (.nop i, b) = .ok (k + 1) done e m n r w := rfl
theorem y_op (o : AOp) : stepX P rec (.ok k done e m n r w) (.op o, b) = keepD b true k done e r w (stepD P rec e m n o) := rfl
theorem y_eff (o : AOp) : stepX P rec (.ok k done e m n r w) (.eff o, b) = keepD b false k done e r w (stepD P rec e m n o) := rfl
theorem y_opg (o : AOp) (gi : Nat) (gw : Bool) : stepX P rec (.ok k done e m n r w) (.opg o gi gw, b) = cond (wantB gw (lget e gi)) (keepD b true k done e r w (stepD P rec e m n o)) (.ok (k + 1) done (undef :: e) m n r w) := rfl
theorem y_effg (o : AOp) (gi : Nat) (gw : Bool) : stepX P rec (.ok k done e m n r w) (.effg o gi gw, b) = cond (wantB gw (lget e gi)) (keepD b false k done e r w (stepD P rec e m n o)) (.ok (k + 1) done e m n r w) := rfl
theorem keepD_ok (kv : Bool) (v : Value) (r' w' : Nat) (h : apart b r' w' done = true) : keepD b kv k done e r w (.ok v m n r' w') = .ok (k + 1) ((k, r', w') :: done) (cond kv (v :: e) e) m n (Nat.lor r r') (Nat.lor w w') := by
  show cond (apart b r' w' done) (OD.ok (k + 1) ((k, r', w') :: done) (cond kv (v :: e) e) m n (Nat.lor r r') (Nat.lor w w')) OD.no = _
  rw [h]; rfl
theorem outX_ok : outX (.ok k done e m n r w) = .ok .norm e m n r w := rfl
theorem apart_nil (r w : Nat) : apart b r w [] = true := rfl
theorem apart_cons (r w i r' w' : Nat) (l : List (Nat × Nat × Nat)) : apart b r w ((i, r', w') :: l) = ((Nat.testBit b i || (Nat.beq (Nat.land w (Nat.lor r' w')) 0 && Nat.beq (Nat.land w' r) 0)) && apart b r w l) := rfl
theorem zero_land' (a : Nat) : Nat.land 0 a = 0 := Nat.zero_and a
theorem land_zero' (a : Nat) : Nat.land a 0 = 0 := Nat.and_zero a
theorem stepD_ok' {o : AOp} (h : belowOps n e o = true) : stepD P rec e m n o = stepA P rec e m n o := by unfold stepD; rw [h]; rfl
end
section
variable {P : Program} {E : Nat → Option AFn} {Y : Nat → List Value → FM → Nat → OR FM} {e : List Value} {m : FM} {n : Nat}
theorem v_regD {l : List AI} {bs : List Nat} {X : AX} {e' : List Value} {m' : FM} {n' r w : Nat} (h : outX (runX P (callW P E Y) (zipB l bs) (.ok 0 [] e m n 0 0)) = .ok X e' m' n' r w) : execW P E Y (.regD l bs) e m n = .ok X e' m' n' r w := by
  rw [w_regD]
  exact opsD_run l bs 0 [] [] e m n 0 0 (fun x hx => hx) _ _ _ _ _ _ h
end
/-! ### memory -/
theorem newb_fm (m : FM) (n : Nat) (B : Blk) (v : Nat → Value) : newb m n B v = .ok (v n) (AMem.put m n (some B)) (n + 1) 0 (bit n) := rfl
theorem ptrP_mk (n : Nat) : ptrP n = .pointer (some ⟨n, 0, none⟩) := rfl
theorem slcP_mk (o l c n : Nat) : slcP o l c n = .slice (some ⟨n, o, none⟩) l c := rfl
theorem cells_agg (l : List Value) : (Value.agg l.toArray).cells.toList = l := rfl
theorem fput_put (m : FM) (b : Nat) (x y : Option Blk) : AMem.put (AMem.put m b x) b y = AMem.put m b y := by
  funext j
  show (if j = b then y else if j = b then x else m j) = if j = b then y else m j
  by_cases h : j = b <;> simp [h]
theorem fput_same (m : FM) (b : Nat) (x : Option Blk) : (AMem.put m b x : FM) b = x := by show (if b = b then x else m b) = x; simp
theorem fput_ne (m : FM) (b j : Nat) (x : Option Blk) (h : j ≠ b) : (AMem.put m b x : FM) j = m j := by show (if j = b then x else m j) = m j; simp [h]
theorem Sl.frame {m m' : FM} {n n' : Nat} {v : Value} {vs : List Value} (h : Sl m n v vs) (hn : n ≤ n') (hf : ∀ b, b < n → m' b = m b) : Sl m' n' v vs := by
  rcases h with h | ⟨b, o, cap, c, opn, wr, h1, h2, h3, h4⟩ | ⟨h1, h2, h3⟩
  · exact .inl h
  · exact .inr <| .inl ⟨b, o, cap, c, opn, wr, h1, Nat.lt_of_lt_of_le h2 hn, by rw [hf b h2]; exact h3, h4⟩
  · exact .inr <| .inr ⟨h1, h2, by omega⟩
theorem Ints.frame {m m' : FM} {n n' : Nat} {v : Value} {xs : List Int} (h : Ints m n v xs) (hn : n ≤ n') (hf : ∀ b, b < n → m' b = m b) : Ints m' n' v xs := Sl.frame h hn hf
/-- rows of integers -/
def Rows (m : FM) (n : Nat) (v : Value) (gs : List (List Int)) : Prop :=
  ∃ vs, Sl m n v vs ∧ vs.length = gs.length ∧ ∀ (i : Nat) x g, vs[i]? = some x → gs[i]? = some g → Ints m n x g
theorem Rows.frame {m m' : FM} {n n' : Nat} {v : Value} {gs : List (List Int)} (h : Rows m n v gs) (hn : n ≤ n') (hf : ∀ b, b < n → m' b = m b) : Rows m' n' v gs := by
  obtain ⟨vs, h1, h2, h3⟩ := h
  exact ⟨vs, h1.frame hn hf, h2, fun i x g hx hg => (h3 i x g hx hg).frame hn hf⟩
theorem Rows.len {m : FM} {n : Nat} {v : Value} {gs : List (List Int)} (h : Rows m n v gs) : lenV false v = some (.int .i64 (gs.length : Int)) := by
  obtain ⟨vs, h1, h2, _⟩ := h
  rw [h1.len, h2]
theorem Rows.at {m : FM} {n : Nat} {v : Value} {gs : List (List Int)} (h : Rows m n v gs) {i : Nat} (hi : i < gs.length) : ∃ a b x, idxV 1 i v = some (.pointer (some a)) ∧ ld1V m n (.pointer (some a)) = .ok x m n (bit b) 0 ∧ b < n ∧ Ints m n x gs[i] := by
  obtain ⟨vs, h1, h2, h3⟩ := h
  have hv : vs[i]? = some vs[i] := List.getElem?_eq_getElem (by omega)
  obtain ⟨a, b, k1, k2, k3⟩ := h1.at hv
  exact ⟨a, b, _, k1, k2, k3, h3 i _ _ hv (List.getElem?_eq_getElem hi)⟩
/-- a cell of a block -/
theorem ld1_at {m : FM} {n b o : Nat} {c : List Value} {sz : Nat} {opn wr : Bool} {x : Value} (hb : b < n) (hm : m b = some (.cells c sz opn wr)) (hx : c[o]? = some x) : ld1V m n (.pointer (some ⟨b, o, none⟩)) = .ok x m n (bit b) 0 := by
  show withCells (getb m n b) (fun c => valR m n b (cget c o)) = _
  rw [getb_lt hb, hm]
  show valR m n b (cget c o) = _
  rw [cget_eq, hx]; rfl
theorem ldn_at {m : FM} {n b o k : Nat} {c l : List Value} {sz : Nat} {opn wr : Bool} (hb : b < n) (hm : m b = some (.cells c sz opn wr)) (hx : cellsAt c o k = some l) : ldnV k m n (.pointer (some ⟨b, o, none⟩)) = .ok (.agg l.toArray) m n (bit b) 0 := by
  show withCells (getb m n b) (fun c => valR m n b (aggO (cellsAt c o k))) = _
  rw [getb_lt hb, hm]
  show valR m n b (aggO (cellsAt c o k)) = _
  rw [hx]; rfl
theorem st1_at {m : FM} {n b o : Nat} {c : List Value} {sz : Nat} {opn : Bool} {x : Value} (hb : b < n) (hm : m b = some (.cells c sz opn true)) (ho : o < c.length) (h1 : one x = true) : stV 1 [x] m n (.pointer (some ⟨b, o, none⟩)) = .ok undef (AMem.put m b (some (.cells (c.set o x) sz opn true))) n (bit b) (bit b) := by
  show cond (Nat.beq (llen [x]) 1 && [x].all one) (stC m n b o [x] (getb m n b)) .no = _
  have h2 : (Nat.beq (llen [x]) 1 && [x].all one) = true := by simp [llen_eq, h1]
  rw [h2, getb_lt hb, hm]
  show putC m n b sz opn undef (bit b) (setCells c o [x]) = _
  rw [setCells_eq, if_pos (by simp; omega)]
  show OR.ok undef _ n (bit b) (bit b) = _
  congr 1
  congr 2
  rw [List.set_eq_take_append_cons_drop, if_pos ho]
  simp
theorem mod_bit_ge {n k : Nat} (h : n ≤ k) : Nat.mod (bit k) (bit n) = 0 := by
  rw [bit_pow, bit_pow]
  exact Nat.mod_eq_zero_of_dvd (Nat.pow_dvd_pow 2 h)
theorem mod_lor' {a b n : Nat} (ha : Nat.mod a (bit n) = 0) (hb : Nat.mod b (bit n) = 0) : Nat.mod (Nat.lor a b) (bit n) = 0 := by
  apply Nat.eq_of_testBit_eq
  intro i
  rw [mod_test, lor_test, Nat.zero_testBit]
  by_cases hi : i < n
  · rw [mod_bit ha i hi, mod_bit hb i hi]; simp
  · simp [hi]
end Go.Am
namespace Go.Am
open Go
def rOf : CR FM → Nat
  | .no => 0
  | .ok _ _ _ _ r _ => r
def eOf : CR FM → List Value
  | .no => []
  | .ok _ e _ _ _ _ => e
theorem gv_norm {x : CR FM} {X : AX} {e : List Value} {m : FM} {n w : Nat} (h : Gv x fun X' e' m' n' w' => X' = X ∧ e' = e ∧ m' = m ∧ n' = n ∧ w' = w) : x = .ok X e m n (rOf x) w := by
  obtain ⟨X', e', m', n', r, w', rfl, rfl, rfl, rfl, rfl, rfl⟩ := Gv_some h
  rfl
theorem gv_ret {x : CR FM} {X : AX} {m : FM} {n w : Nat} (h : Gv x fun X' _ m' n' w' => X' = X ∧ m' = m ∧ n' = n ∧ w' = w) : x = .ok X (eOf x) m n (rOf x) w := by
  obtain ⟨X', e', m', n', r, w', rfl, rfl, rfl, rfl, rfl⟩ := Gv_some h
  rfl
/-- a name for a number that nobody asks for -/
theorem named_r (f : List Value → CR FM) : ∃ (rf : List Value → Nat) (ef : List Value → List Value), ∀ l, rf l = rOf (f l) ∧ ef l = eOf (f l) := ⟨fun l => rOf (f l), fun l => eOf (f l), fun _ => ⟨rfl, rfl⟩⟩
end Go.Am
namespace Go.Am
open Go
def isOkC : CR FM → Bool
  | .no => false
  | .ok .. => true
theorem isOkC_ok (X : AX) (e : List Value) (m : FM) (n r w : Nat) : isOkC (.ok X e m n r w) = true := rfl
section
variable {P : Program} {E : Nat → Option AFn} {Y : Nat → List Value → FM → Nat → OR FM} {e : List Value} {m : FM} {n : Nat}
theorem u_regD {l : List AI} {bs : List Nat} (h : isOkC (outX (runX P (callW P E Y) (zipB l bs) (.ok 0 [] e m n 0 0))) = true) : execW P E Y (.regD l bs) e m n = outX (runX P (callW P E Y) (zipB l bs) (.ok 0 [] e m n 0 0)) := by
  cases hx : outX (runX P (callW P E Y) (zipB l bs) (.ok 0 [] e m n 0 0)) with
  | no => rw [hx] at h; cases h
  | ok X e' m' n' r w => exact v_regD hx
end
theorem below_all (n : Nat) (e : List Value) (o : AOp) : belowOps n e o = (opds o).all fun x => belowV n (ev e x) := rfl
theorem belowV_int (n : Nat) (k : IntKind) (z : Int) : belowV n (.int k z) = true := rfl
theorem belowV_bool (n : Nat) (b : Bool) : belowV n (.bool b) = true := rfl
theorem belowV_ptr (n b o : Nat) : belowV n (.pointer (some ⟨b, o, none⟩)) = Nat.blt b n := rfl
theorem belowV_nils (n : Nat) : belowV n (.slice none 0 0) = true := rfl
theorem blt_true {a b : Nat} (h : a < b) : Nat.blt a b = true := Nat.ble_eq_true_of_le h
theorem Sl.below {m : FM} {n : Nat} {v : Value} {vs : List Value} (h : Sl m n v vs) : belowV n v = true := by
  rcases h with ⟨rfl, _⟩ | ⟨b, o, cap, c, opn, wr, rfl, hb, _⟩ | ⟨rfl, _, hb⟩
  · rfl
  · exact blt_true hb
  · exact blt_true hb
/-- an element of an array -/
theorem ida_ok {k sz i b o : Nat} (h : i < k) : idaV k sz i (.pointer (some ⟨b, o, none⟩)) = some (.pointer (some ⟨b, o + i * sz, none⟩)) := by
  show cond (Nat.blt i k) _ none = _
  rw [blt_true h]; rfl
theorem cells_int (k : IntKind) (z : Int) : (Value.int k z).cells.toList = [.int k z] := rfl
theorem st_run {P : Program} {rec : Nat → List Value → FM → Nat → OR FM} (x y : Opd) (e : List Value) (m : FM) (n : Nat) : stepA P rec e m n (.st 1 x y) = stV 1 (ev e y).cells.toList m n (ev e x) := rfl
end Go.Am
namespace Go.Am
open Go
theorem ld1_frame {m m' : FM} {n n' : Nat} {a : Addr} {x : Value} {b : Nat} (h : ld1V m n (.pointer (some a)) = .ok x m n (bit b) 0) (hb : b < n) (hn : n ≤ n') (hf : ∀ b, b < n → m' b = m b) : ld1V m' n' (.pointer (some a)) = .ok x m' n' (bit b) 0 := by
  obtain ⟨bl, o, sp⟩ := a
  cases sp with
  | some s => cases h
  | none =>
    replace h : withCells (getb m n bl) (fun c => valR m n bl (cget c o)) = _ := h
    by_cases hbl : bl < n
    · rw [getb_lt hbl] at h
      show withCells (getb m' n' bl) (fun c => valR m' n' bl (cget c o)) = _
      rw [getb_lt (Nat.lt_of_lt_of_le hbl hn), hf bl hbl]
      cases hm : m bl with
      | none => rw [hm] at h; cases h
      | some B =>
        obtain ⟨c, sz, opn, wr⟩ := B
        rw [hm] at h
        replace h : valR m n bl (cget c o) = _ := h
        show valR m' n' bl (cget c o) = _
        cases hc : cget c o with
        | none => rw [hc] at h; cases h
        | some y =>
          rw [hc] at h
          injection h with h1 h2 h3 h4 h5
          show OR.ok y m' n' (bit bl) 0 = _
          rw [h1, h4]
    · have : getb m n bl = none := by
        show cond (Nat.blt bl n) (m bl) none = none
        cases hc : Nat.blt bl n
        · rfl
        · exact absurd (Nat.le_of_ble_eq_true hc) hbl
      rw [this] at h; cases h
theorem Rows.at2 {m : FM} {n : Nat} {v : Value} {gs : List (List Int)} (h : Rows m n v gs) {i : Nat} (hi : i < gs.length) {m' : FM} {n' : Nat} (hn : n ≤ n') (hf : ∀ b, b < n → m' b = m b) : ∃ a b x, idxV 1 i v = some (.pointer (some a)) ∧ ld1V m' n' (.pointer (some a)) = .ok x m' n' (bit b) 0 ∧ Ints m n x gs[i] := by
  obtain ⟨a, b, x, h1, h2, h3, h4⟩ := h.at hi
  exact ⟨a, b, x, h1, ld1_frame h2 h3 hn hf, h4⟩
end Go.Am
namespace Go.Am
open Go
theorem belowV_undef (n : Nat) : belowV n undef = true := rfl
theorem belowV_addr (n : Nat) (a : Addr) : belowV n (.pointer (some a)) = Nat.blt a.block n := rfl
theorem idx_block {i : Nat} {v : Value} {a : Addr} {n : Nat} (h : idxV 1 i v = some (.pointer (some a))) (hb : belowV n v = true) : Nat.blt a.block n = true := by
  cases v with
  | slice q l c =>
    cases q with
    | none => cases l <;> simp [idxV] at h
    | some q =>
      obtain ⟨b, o, sp⟩ := q
      cases sp with
      | some s => cases h
      | none =>
        replace h : cond (Nat.blt i l) (some (Value.pointer (some ⟨b, Nat.add o (Nat.mul i 1), none⟩))) none = some (.pointer (some a)) := h
        cases hc : Nat.blt i l
        · rw [hc] at h; cases h
        · rw [hc] at h
          injection h with h; injection h with h; injection h with h
          subst h
          exact hb
  | _ => cases h
theorem ld1_below {m : FM} {n : Nat} {v : Value} {gs : List (List Int)} (h : Rows m n v gs) : belowV n v = true := by
  obtain ⟨vs, h1, _⟩ := h
  exact h1.below
end Go.Am
