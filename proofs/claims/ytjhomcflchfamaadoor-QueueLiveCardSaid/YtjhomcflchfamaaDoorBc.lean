/- The machine and its runs, part Bc: Am41pc. -/
import Derived.Test.YtjhomcflchfamaaDoorBb
set_option linter.unusedVariables false
set_option linter.unusedSimpArgs false
set_option linter.unusedSectionVars false
namespace Go.Am.C41
open Go Go.Am
variable {E : Nat → Option AFn} {Y : Nat → List Value → FM → Nat → OR FM}
theorem add_u8 (z : Int) : ∃ z' : Int, intBin .add .u8 z 1 = some (.int .u8 z') := ⟨_, rfl⟩
theorem copy_L0 (M0 : FM) (N b len : Nat) (hbN : b < N) (hs : len ≤ 1000) (y3 y4 y5 : Value) (ys : List Value) {Q : AX → List Value → FM → Nat → Nat → Prop}
    (hQ : ∀ (M : FM) w, (∀ k, k ≠ b → M k = M0 k) → (∀ i, i ≤ b → Nat.mod w (bit i) = 0) → ∀ x1, Q (.exit 0) (x1 :: .int .i64 (len : Int) :: y3 :: y4 :: y5 :: .slice (some ⟨b, 0, none⟩) len UNK :: ys) M N w) :
    ∀ d j, j + d = len → ∀ (M : FM) (w0 : Nat) (zs : List Int) (x1 : Value), (∀ k, k ≠ b → M k = M0 k) → M b = some (.cells (zs.map (Value.int .u8)) 8 true true) → zs.length = len * 8 → (∀ i, i ≤ b → Nat.mod w0 (bit i) = 0) →
    Gv (execW PG E Y ac6L0 (.int .i64 (j : Int) :: x1 :: .int .i64 (len : Int) :: y3 :: y4 :: y5 :: .slice (some ⟨b, 0, none⟩) len UNK :: ys) M N) fun X e m n w => Q X e m n (Nat.lor w0 w) := by
  intro d
  induction d with
  | zero =>
    intro j hj M w0 zs x1 hM hb hz hw
    obtain rfl : j = len := by omega
    refine wr_loopN (L := ac6L0) (b := ac6L0b) rfl ?_
    simp only [ac6L0b]
    simp (implicitDefEqProofs := false) (disch := omega) only [WPs, opds, List.all_cons, List.all_nil, List.cons_append, List.nil_append, cond_true, cond_false, eq_self, List.map_cons, List.map_nil, Nat.reduceAdd, Nat.testBit, Nat.reduceShiftRight, Nat.reduceAnd, Nat.reduceBNe, Nat.reduceMul]
    exact hQ M w0 hM hw _
  | succ d ih =>
    intro j hj M w0 zs x1 hM hb hz hw
    have hjl : j * 8 < zs.length := by omega
    have c0 : cget (zs.map (Value.int .u8)) (j * 8) = some (.int .u8 zs[j * 8]) := by
      rw [cget_eq, List.getElem?_map, List.getElem?_eq_getElem hjl]; rfl
    obtain ⟨z', hz'⟩ := add_u8 zs[j * 8]
    have hst : setCells (zs.map (Value.int .u8)) (j * 8) [.int .u8 z'] = some ((zs.set (j * 8) z').map (Value.int .u8)) := by
      rw [Go.Am.set_one (by rw [List.length_map]; exact hjl), List.map_set]
    refine wr_loopN (L := ac6L0) (b := ac6L0b) rfl ?_
    simp only [ac6L0b]
    simp (implicitDefEqProofs := false) (disch := omega) only [WPs, opds, List.all_cons, List.all_nil, List.cons_append, List.nil_append, cond_true, cond_false, eq_self, List.map_cons, List.map_nil, Nat.reduceAdd, Nat.testBit, Nat.reduceShiftRight, Nat.reduceAnd, Nat.reduceBNe, Nat.reduceMul, hb, c0, hz', hst]
    refine wr_end (ih (j + 1) (by omega) _ (Nat.lor w0 (bit b)) _ _ (fun k hk => by rw [fput_ne _ _ _ _ hk]; exact hM k hk) (fput_same _ _ _) (by rw [List.length_set]; exact hz) (fun i hi => by rw [frz_iff]; exact ⟨hw i hi, frz_bit (by omega)⟩)) fun X e m n w hq => ?_
    rw [← lor_assoc']; exact hq
theorem copy_L1 (M0 : FM) (N b ab len : Nat) (c : Cmd) (hbN : b < N) (haN : ab < N) (hab : ab ≠ b) (ha : M0 ab = some (.cells (c.cells (.slice (some ⟨b, 0, none⟩) len UNK)) 0 false true)) (hs : len ≤ 1000) (y3 : Value) (ys : List Value) {Q : AX → List Value → FM → Nat → Nat → Prop}
    (hQ : ∀ (M : FM) w, (∀ k, k ≠ b → M k = M0 k) → (∀ i, i ≤ b → Nat.mod w (bit i) = 0) → ∀ x1, Q (.exit 2) (x1 :: .int .i64 (len : Int) :: y3 :: .pointer (some ⟨ab, 0, none⟩) :: ys) M N w) :
    ∀ d j, j + d = len → ∀ (M : FM) (w0 : Nat) (zs : List Int) (x1 : Value), (∀ k, k ≠ b → M k = M0 k) → M b = some (.cells (zs.map (Value.int .u8)) 8 true true) → zs.length = len * 8 → (∀ i, i ≤ b → Nat.mod w0 (bit i) = 0) →
    Gv (execW PG E Y ac6L1 (.int .i64 (j : Int) :: x1 :: .int .i64 (len : Int) :: y3 :: .pointer (some ⟨ab, 0, none⟩) :: ys) M N) fun X e m n w => Q X e m n (Nat.lor w0 w) := by
  intro d
  induction d with
  | zero =>
    intro j hj M w0 zs x1 hM hb hz hw
    obtain rfl : j = len := by omega
    refine wr_loopN (L := ac6L1) (b := ac6L1b) rfl ?_
    simp only [ac6L1b]
    simp (implicitDefEqProofs := false) (disch := omega) only [WPs, opds, List.all_cons, List.all_nil, List.cons_append, List.nil_append, cond_true, cond_false, eq_self, List.map_cons, List.map_nil, Nat.reduceAdd, Nat.testBit, Nat.reduceShiftRight, Nat.reduceAnd, Nat.reduceBNe, Nat.reduceMul]
    exact hQ M w0 hM hw _
  | succ d ih =>
    intro j hj M w0 zs x1 hM hb hz hw
    have hjl : j * 8 < zs.length := by omega
    have c0 : cget (zs.map (Value.int .u8)) (j * 8) = some (.int .u8 zs[j * 8]) := by
      rw [cget_eq, List.getElem?_map, List.getElem?_eq_getElem hjl]; rfl
    obtain ⟨z', hz'⟩ := add_u8 zs[j * 8]
    have hst : setCells (zs.map (Value.int .u8)) (j * 8) [.int .u8 z'] = some ((zs.set (j * 8) z').map (Value.int .u8)) := by
      rw [Go.Am.set_one (by rw [List.length_map]; exact hjl), List.map_set]
    have ha1 := (hM ab hab).trans ha
    simp only [Cmd.cells] at ha1
    refine wr_loopN (L := ac6L1) (b := ac6L1b) rfl ?_
    simp only [ac6L1b]
    simp (implicitDefEqProofs := false) (disch := omega) only [WPs, opds, List.all_cons, List.all_nil, List.cons_append, List.nil_append, cond_true, cond_false, eq_self, List.map_cons, List.map_nil, Nat.reduceAdd, Nat.testBit, Nat.reduceShiftRight, Nat.reduceAnd, Nat.reduceBNe, Nat.reduceMul, hb, c0, hz', hst, ha1]
    refine wr_end (ih (j + 1) (by omega) _ (Nat.lor w0 (bit b)) _ _ (fun k hk => by rw [fput_ne _ _ _ _ hk]; exact hM k hk) (fput_same _ _ _) (by rw [List.length_set]; exact hz) (fun i hi => by rw [frz_iff]; exact ⟨hw i hi, frz_bit (by omega)⟩)) fun X e m n w hq => ?_
    rw [← lor_assoc']; exact hq
theorem u8all_flat (ds : List (List Int)) : u8all ds = ds.flatten.map (Value.int .u8) := by rw [u8all, List.map_flatten]
theorem flat8 : ∀ {ds : List (List Int)}, (∀ d ∈ ds, d.length = 8) → ds.flatten.length = ds.length * 8
  | [], _ => rfl
  | d :: ds, h => by
    rw [List.flatten_cons, List.length_append, flat8 fun e he => h e (List.mem_cons_of_mem _ he), h d (List.mem_cons_self ..), List.length_cons]; omega
theorem copy_any {M0 : FM} {N lo hi : Nat} {dv : Value} {ds : List (List Int)} (h : DatF M0 (fun k => lo ≤ k ∧ k < hi) dv ds) (hN : hi ≤ N) (hs : ds.length ≤ 1000) (y3 y4 y5 : Value) (ys : List Value) {Q : AX → List Value → FM → Nat → Nat → Prop}
    (hQ : ∀ (M : FM) w, (∀ k, k < lo ∨ hi ≤ k → M k = M0 k) → (∀ i, i ≤ lo → Nat.mod w (bit i) = 0) → ∀ x1, Q (.exit 0) (x1 :: .int .i64 (ds.length : Int) :: y3 :: y4 :: y5 :: dv :: ys) M N w) (x1 : Value) :
    Gv (execW PG E Y ac6L0 (.int .i64 0 :: x1 :: .int .i64 (ds.length : Int) :: y3 :: y4 :: y5 :: dv :: ys) M0 N) fun X e m n w => Q X e m n (Nat.lor 0 w) := by
  have emp : ds = [] → Gv (execW PG E Y ac6L0 (.int .i64 0 :: x1 :: .int .i64 (ds.length : Int) :: y3 :: y4 :: y5 :: dv :: ys) M0 N) (fun X e m n w => Q X e m n (Nat.lor 0 w)) := fun e => by
    have hz : ds.length = 0 := by rw [e]; rfl
    rw [hz] at hQ ⊢
    refine wr_loopN (L := ac6L0) (b := ac6L0b) rfl ?_
    simp only [ac6L0b]
    simp (implicitDefEqProofs := false) (disch := omega) only [WPs, opds, List.all_cons, List.all_nil, List.cons_append, List.nil_append, cond_true, cond_false, eq_self, List.map_cons, List.map_nil, Nat.reduceAdd, Nat.testBit, Nat.reduceShiftRight, Nat.reduceAnd, Nat.reduceBNe, Nat.reduceMul]
    exact hQ M0 0 (fun _ _ => rfl) (fun _ _ => Nat.zero_mod _) _
  rcases h with ⟨_, h⟩ | ⟨_, _, _, _, h⟩ | ⟨b, rfl, hp, ⟨b1, b2⟩, hm, h8⟩
  · exact emp h
  · exact emp h
  · rw [u8all_flat] at hm
    have := copy_L0 (E := E) (Y := Y) M0 N b ds.length (by omega) hs y3 y4 y5 ys (Q := Q) (fun M w hM hw x1 => hQ M w (fun k hk => hM k (by omega)) (fun i hi => hw i (by omega)) x1) ds.length 0 (by omega) M0 0 ds.flatten x1 (fun _ _ => rfl) hm (flat8 h8) (fun _ _ => Nat.zero_mod _)
    exact this
theorem copy_any1 {M0 : FM} {N lo hi ab : Nat} {dv : Value} {c : Cmd} (h : DatF M0 (fun k => lo ≤ k ∧ k < hi) dv c.data) (hN : hi ≤ N) (hs : c.data.length ≤ 1000) (haN : ab < N) (hab : ab < lo ∨ hi ≤ ab) (ha : M0 ab = some (.cells (c.cells dv) 0 false true)) (y3 : Value) (ys : List Value) {Q : AX → List Value → FM → Nat → Nat → Prop}
    (hQ : ∀ (M : FM) w, (∀ k, k < lo ∨ hi ≤ k → M k = M0 k) → (∀ i, i ≤ lo → Nat.mod w (bit i) = 0) → ∀ x1, Q (.exit 2) (x1 :: .int .i64 (c.data.length : Int) :: y3 :: .pointer (some ⟨ab, 0, none⟩) :: ys) M N w) (x1 : Value) :
    Gv (execW PG E Y ac6L1 (.int .i64 0 :: x1 :: .int .i64 (c.data.length : Int) :: y3 :: .pointer (some ⟨ab, 0, none⟩) :: ys) M0 N) fun X e m n w => Q X e m n (Nat.lor 0 w) := by
  have emp : c.data.length = 0 → Gv (execW PG E Y ac6L1 (.int .i64 0 :: x1 :: .int .i64 (c.data.length : Int) :: y3 :: .pointer (some ⟨ab, 0, none⟩) :: ys) M0 N) (fun X e m n w => Q X e m n (Nat.lor 0 w)) := fun e => by
    rw [e] at hQ ⊢
    refine wr_loopN (L := ac6L1) (b := ac6L1b) rfl ?_
    simp only [ac6L1b]
    simp (implicitDefEqProofs := false) (disch := omega) only [WPs, opds, List.all_cons, List.all_nil, List.cons_append, List.nil_append, cond_true, cond_false, eq_self, List.map_cons, List.map_nil, Nat.reduceAdd, Nat.testBit, Nat.reduceShiftRight, Nat.reduceAnd, Nat.reduceBNe, Nat.reduceMul]
    exact hQ M0 0 (fun _ _ => rfl) (fun _ _ => Nat.zero_mod _) _
  rcases h with ⟨_, h⟩ | ⟨_, _, _, _, h⟩ | ⟨b, rfl, hp, ⟨b1, b2⟩, hm, h8⟩
  · exact emp (by rw [h]; rfl)
  · exact emp (by rw [h]; rfl)
  · rw [u8all_flat] at hm
    have := copy_L1 (E := E) (Y := Y) M0 N b ab c.data.length c (by omega) haN (by omega) ha hs y3 ys (Q := Q) (fun M w hM hw x1 => hQ M w (fun k hk => hM k (by omega)) (fun i hi => hw i (by omega)) x1) c.data.length 0 (by omega) M0 0 c.data.flatten x1 (fun _ _ => rfl) hm (flat8 h8) (fun _ _ => Nat.zero_mod _)
    exact this
theorem get_z (T : Tq E) {M : FM} {n0 N : Nat} {tag : Tags} {q : Nat} {v : QV} (h : QIv M n0 N tag q v) {y : Cmd × Bool} (hy : y ∈ v) : Rt (callW PG E Y 24 [.pointer (some ⟨q, 0, none⟩), .int .i64 y.1.tag] M N) fun x M' N' w => N ≤ N' ∧ (∀ b, b < N → M' b = M b) ∧ (∀ j, j ≤ N → Nat.mod w (bit j) = 0) ∧ ∃ d, x = .tuple #[cmdV y.1 d, .bool true] ∧ DatF M' (fun k => N ≤ k ∧ k < N') d y.1.data := by
  have hnd := h.nd
  obtain ⟨its, S, tv, cb, sb, h, rfl⟩ := h
  refine (get_spec T h y.1.tag).mono fun x M' N' w ⟨h1, h2, h3, h4⟩ => ⟨h1, h2, h3, ?_⟩
  rcases h4 with ⟨h5, h6⟩ | ⟨it, hit, ht, d, hx, hd⟩
  · exact absurd (by rw [← vI_tags its S]; exact List.mem_map.2 ⟨y, hy, rfl⟩) h5
  · have e := nd_view hnd (List.mem_map.2 ⟨it, hit, rfl⟩ : (it.1, decide (it.1.tag ∈ S)) ∈ vI its S) hy ht
    have e1 : it.1 = y.1 := congrArg Prod.fst e
    rw [e1] at hx hd
    exact ⟨d, hx, hd⟩
theorem copyLaw (H : Hy E Y) (T : Tq E) (R : Tr E) (hE : E 6 = some ac6) (m : FM) (n : Nat) (c : Cmd) (d : Value) (hF : c.Fit) (hd : DatS m n d c.data) : Pure (callW PG E Y 6 [cmdV c d] m n) m n (.bool true) := by
  refine pure_spec hE rfl rfl ?_
  simp only [ac6, cmdV]
  have od := hd.v.one
  have ld := hd.v.len
  have cd := cells_of_one od
  have z1 := hF.vol
  have z2 := hF.oth
  have bd : ∀ k, n ≤ k → belowF k d = true := fun k hk => by
    have hb := hd.v.bel k hk
    obtain ⟨a, cc, e, _⟩ := hd.v
    rw [e] at hb ⊢; exact hb
  have bv := fun k hk => hd.v.bel k hk
  simp (implicitDefEqProofs := false) (disch := omega) only [WPs, opds, List.all_cons, List.all_nil, List.cons_append, List.nil_append, cond_true, cond_false, eq_self, List.map_cons, List.map_nil, Nat.reduceAdd, Nat.testBit, Nat.reduceShiftRight, Nat.reduceAnd, Nat.reduceBNe, Nat.reduceMul, od]
  refine use_pure (awake_spec H T R _ _) fun _ => ?_
  by_cases c1 : 100 < c.data.length
  · simp (implicitDefEqProofs := false) (disch := omega) only [WPs, opds, List.all_cons, List.all_nil, List.cons_append, List.nil_append, cond_true, cond_false, eq_self, List.map_cons, List.map_nil, Nat.reduceAdd, Nat.testBit, Nat.reduceShiftRight, Nat.reduceAnd, Nat.reduceBNe, Nat.reduceMul, od, ld, decide_eq_true (show (100 : Int) < (c.data.length : Int) by omega)]
  by_cases c2 : 100 < c.vol.size
  · simp (implicitDefEqProofs := false) (disch := omega) only [WPs, opds, List.all_cons, List.all_nil, List.cons_append, List.nil_append, cond_true, cond_false, eq_self, List.map_cons, List.map_nil, Nat.reduceAdd, Nat.testBit, Nat.reduceShiftRight, Nat.reduceAnd, Nat.reduceBNe, Nat.reduceMul, od, ld, decide_eq_false (show ¬ (100 : Int) < (c.data.length : Int) by omega), decide_eq_true (show (100 : Int) < (c.vol.size : Int) by omega)]
  by_cases c3 : 100 < c.oth.size
  · simp (implicitDefEqProofs := false) (disch := omega) only [WPs, opds, List.all_cons, List.all_nil, List.cons_append, List.nil_append, cond_true, cond_false, eq_self, List.map_cons, List.map_nil, Nat.reduceAdd, Nat.testBit, Nat.reduceShiftRight, Nat.reduceAnd, Nat.reduceBNe, Nat.reduceMul, od, ld, decide_eq_false (show ¬ (100 : Int) < (c.data.length : Int) by omega), decide_eq_false (show ¬ (100 : Int) < (c.vol.size : Int) by omega), decide_eq_true (show (100 : Int) < (c.oth.size : Int) by omega)]
  simp (implicitDefEqProofs := false) (disch := omega) only [WPs, opds, List.all_cons, List.all_nil, List.cons_append, List.nil_append, cond_true, cond_false, eq_self, List.map_cons, List.map_nil, Nat.reduceAdd, Nat.testBit, Nat.reduceShiftRight, Nat.reduceAnd, Nat.reduceBNe, Nat.reduceMul, od, ld, decide_eq_false (show ¬ (100 : Int) < (c.data.length : Int) by omega), decide_eq_false (show ¬ (100 : Int) < (c.vol.size : Int) by omega), decide_eq_false (show ¬ (100 : Int) < (c.oth.size : Int) by omega)]
  refine use_pure (H.v23 _ _ c d hF ((hd.frame (by omega : n ≤ n + 1) fun b hb => by simp (implicitDefEqProofs := false) (disch := omega) only [WPs, opds, List.all_cons, List.all_nil, List.cons_append, List.nil_append, cond_true, cond_false, eq_self, List.map_cons, List.map_nil, Nat.reduceAdd, Nat.testBit, Nat.reduceShiftRight, Nat.reduceAnd, Nat.reduceBNe, Nat.reduceMul]).v)) fun _ => ?_
  cases hval : validB c
  · simp (implicitDefEqProofs := false) (disch := omega) only [WPs, opds, List.all_cons, List.all_nil, List.cons_append, List.nil_append, cond_true, cond_false, eq_self, List.map_cons, List.map_nil, Nat.reduceAdd, Nat.testBit, Nat.reduceShiftRight, Nat.reduceAnd, Nat.reduceBNe, Nat.reduceMul]
  simp (implicitDefEqProofs := false) (disch := omega) only [WPs, opds, List.all_cons, List.all_nil, List.cons_append, List.nil_append, cond_true, cond_false, eq_self, List.map_cons, List.map_nil, Nat.reduceAdd, Nat.testBit, Nat.reduceShiftRight, Nat.reduceAnd, Nat.reduceBNe, Nat.reduceMul, od]
  generalize hM0 : (AMem.put m n (some (.cells (c.cells d) 0 false true)) : FM) = M0
  have m0 : ∀ b, b < n → M0 b = m b := fun b hb => by rw [← hM0]; exact fput_ne _ _ _ _ (by omega)
  have bx0 : M0 n = some (.cells (c.cells d) 0 false true) := by rw [← hM0]; exact fput_same _ _ _
  simp only [Cmd.cells] at hM0 bx0
  rw [hM0]
  refine use_rt (app_dat (n := n + 1) ((hd.frame (by omega : n ≤ n + 1) m0).frame (m' := AMem.put M0 (n + 1) (some (.cells [] 8 false true))) (n' := n + 1) (Nat.le_refl _) (fun b hb => fput_ne _ _ _ _ (by omega))) (by omega) (n + 1) (n + 2) (by omega) (by omega) (fput_same _ _ _) (by omega)) fun dv M1 N1 rr w1 ⟨a1, a2, a3, a4, a5⟩ => ?_
  have bx1 : M1 n = _ := ((a2 n (by omega)).trans (fput_ne _ _ _ _ (by omega))).trans bx0
  have m1 : ∀ b, b < n → M1 b = m b := fun b hb => ((a2 b (by omega)).trans (fput_ne _ _ _ _ (by omega))).trans (m0 b hb)
  have odv := a4.one
  have cdv := cells_of_one odv
  have fz1 := a3 n (by omega)
  simp (implicitDefEqProofs := false) (disch := omega) only [WPs, opds, List.all_cons, List.all_nil, List.cons_append, List.nil_append, cond_true, cond_false, eq_self, List.map_cons, List.map_nil, Nat.reduceAdd, Nat.testBit, Nat.reduceShiftRight, Nat.reduceAnd, Nat.reduceBNe, Nat.reduceMul, bx1, od, odv, cdv]
  generalize hM2 : (AMem.put M1 N1 (some (.cells (c.cells dv) 0 false true)) : FM) = M2
  have m2 : ∀ b, b < N1 → M2 b = M1 b := fun b hb => by rw [← hM2]; exact fput_ne _ _ _ _ (by omega)
  have bm2 : M2 N1 = some (.cells (c.cells dv) 0 false true) := by rw [← hM2]; exact fput_same _ _ _
  simp only [Cmd.cells] at hM2 bm2
  rw [hM2]
  refine use_rt (new_spec T M2 (N1 + 1)) fun x M3 N3 r3 w3 ⟨b1, b2, b3, ex, eN, b4⟩ => ?_
  subst ex eN
  have fz3 := b3 n (by omega)
  have hq := b4 (fun b => if b = N1 + 1 then 2 else if b = N1 + 1 + 1 then 3 else if b = N1 + 1 + 2 then 1 else 0) (if_pos rfl) (by rw [if_neg (by omega), if_pos rfl]) (by rw [if_neg (by omega), if_neg (by omega), if_pos rfl])
  have hq : QIv M3 (N1 + 1) (N1 + 1 + 3) _ (N1 + 1 + 2) [] := ⟨[], [], _, _, _, hq, rfl⟩
  have bm3 := (b2 N1 (by omega)).trans bm2
  have sdv3 : DatS M3 (N1 + 1) dv c.data := (((a4.s (fun b hb => hb.2) : DatS M1 N1 dv c.data).frame (Nat.le_refl _) m2).frame (by omega : N1 ≤ N1 + 1) fun b hb => b2 b (by omega))
  have sub0 : subEV [] c = 0 := by rw [subEV, hval]; rfl
  simp (implicitDefEqProofs := false) (disch := omega) only [WPs, opds, List.all_cons, List.all_nil, List.cons_append, List.nil_append, cond_true, cond_false, eq_self, List.map_cons, List.map_nil, Nat.reduceAdd, Nat.testBit, Nat.reduceShiftRight, Nat.reduceAnd, Nat.reduceBNe, Nat.reduceMul, bm3, odv]
  refine use_rt (submit_v H T hq c dv hF (sdv3.q (by omega)) (by omega)) fun x M4 N4 r4 w4 ⟨hm, _⟩ => ?_
  obtain ⟨rfl, tag4, c4, q4⟩ := hm.ok sub0
  have n4 := c4.n
  have fz4 := c4.w n (by omega)
  have hlow4 : ∀ b, b < N1 → M4 b = M1 b := fun b hb => by rw [c4.fr b (by omega) (.inl (by omega)), b2 b (by omega), m2 b hb]
  have fd4 := a4.frame (T' := fun k => n + 1 ≤ k ∧ k < N1) (M' := M4) fun b hb => ⟨hb, hlow4 b hb.2⟩
  have ldv := sdv3.v.len
  simp (implicitDefEqProofs := false) (disch := omega) only [WPs, opds, List.all_cons, List.all_nil, List.cons_append, List.nil_append, cond_true, cond_false, eq_self, List.map_cons, List.map_nil, Nat.reduceAdd, Nat.testBit, Nat.reduceShiftRight, Nat.reduceAnd, Nat.reduceBNe, Nat.reduceMul, ldv]
  refine wr_kont (copy_any fd4 (by omega : N1 ≤ N4) (by omega) _ _ _ _ (fun M5 w5 hM5 hw5 x1 rr5 => ?_) _)
  have fz5 := hw5 n (by omega)
  have q5 : QIv M5 (N1 + 1) N4 tag4 (N1 + 1 + 2) [(c, false)] := q4.frame (Nat.le_refl _) (fun _ _ _ => rfl) fun b hb _ _ _ => hM5 b (.inr (by omega))
  have m5 : ∀ b, b < n + 1 → M5 b = M1 b := fun b hb => by rw [hM5 b (.inl hb), hlow4 b (by omega)]
  have bx5 := (m5 n (by omega)).trans bx1
  simp (implicitDefEqProofs := false) (disch := omega) only [WPs, opds, List.all_cons, List.all_nil, List.cons_append, List.nil_append, cond_true, cond_false, eq_self, List.map_cons, List.map_nil, Nat.reduceAdd, Nat.testBit, Nat.reduceShiftRight, Nat.reduceAnd, Nat.reduceBNe, Nat.reduceMul, bx5]
  refine use_rt (get_z T q5 (y := (c, false)) (by simp)) fun x M6 N6 r6 w6 ⟨n6, m6, f6, d6, ex6, hd6⟩ => ?_
  have ex6 : x = .tuple #[cmdV c d6, .bool true] := ex6
  have hd6 : DatF M6 (fun k => N4 ≤ k ∧ k < N6) d6 c.data := hd6
  subst ex6
  have fz6 := f6 n (by omega)
  have q6 := q5.stay n6 m6
  have od6 := hd6.one
  have cd6 := cells_of_one od6
  have bx6 := (m6 n (by omega)).trans bx5
  have sd6 := (hd6.s (fun b hb => hb.2) : DatS M6 N6 d6 c.data)
  have hd6' := (hd.frame (m' := M6) (by omega : n ≤ N6) fun b hb => by rw [m6 b (by omega), m5 b (by omega), m1 b hb])
  have ld6 := sd6.v.len
  simp (implicitDefEqProofs := false) (disch := omega) only [WPs, opds, List.all_cons, List.all_nil, List.cons_append, List.nil_append, cond_true, cond_false, eq_self, List.map_cons, List.map_nil, Nat.reduceAdd, Nat.testBit, Nat.reduceShiftRight, Nat.reduceAnd, Nat.reduceBNe, Nat.reduceMul, cmdV, od6, e_tup0, e_tup1, bx6, od]
  refine use_pure (sameC_spec R c ((sd6.frame (by omega : N6 ≤ N6 + 1) (fun b hb => fput_ne _ _ _ _ (by omega))).v) ((hd6'.frame (by omega : N6 ≤ N6 + 1) (fun b hb => fput_ne _ _ _ _ (by omega))).v) (by omega)) fun _ => ?_
  simp (implicitDefEqProofs := false) (disch := omega) only [WPs, opds, List.all_cons, List.all_nil, List.cons_append, List.nil_append, cond_true, cond_false, eq_self, List.map_cons, List.map_nil, Nat.reduceAdd, Nat.testBit, Nat.reduceShiftRight, Nat.reduceAnd, Nat.reduceBNe, Nat.reduceMul, ld6]
  generalize hM7 : (AMem.put M6 N6 (some (.cells (c.cells d6) 0 false true)) : FM) = M7
  have m7 : ∀ b, b < N6 → M7 b = M6 b := fun b hb => by rw [← hM7]; exact fput_ne _ _ _ _ (by omega)
  have ba7 : M7 N6 = some (.cells (c.cells d6) 0 false true) := by rw [← hM7]; exact fput_same _ _ _
  simp only [Cmd.cells] at hM7
  rw [hM7]
  have fd7 := hd6.frame (T' := fun k => N4 ≤ k ∧ k < N6) (M' := M7) fun b hb => ⟨hb, m7 b hb.2⟩
  refine wr_kont (copy_any1 fd7 (by omega : N6 ≤ N6 + 1) (by omega) (by omega : N6 < N6 + 1) (.inr (Nat.le_refl _)) ba7 _ _ (fun M8 w8 hM8 hw8 x8 rr8 => ?_) _)
  have fz8 := hw8 n (by omega)
  have q8 : QIv M8 (N1 + 1) (N6 + 1) tag4 (N1 + 1 + 2) [(c, false)] := q5.frame (by omega) (fun _ _ _ => rfl) fun b hb hb2 _ _ => by rw [hM8 b (.inl hb2), m7 b (by omega), m6 b hb2]
  have m8 : ∀ b, b < n + 1 → M8 b = M1 b := fun b hb => by rw [hM8 b (.inl (by omega)), m7 b (by omega), m6 b (by omega), m5 b hb]
  have bx8 := (m8 n (by omega)).trans bx1
  simp (implicitDefEqProofs := false) (disch := omega) only [WPs, opds, List.all_cons, List.all_nil, List.cons_append, List.nil_append, cond_true, cond_false, eq_self, List.map_cons, List.map_nil, Nat.reduceAdd, Nat.testBit, Nat.reduceShiftRight, Nat.reduceAnd, Nat.reduceBNe, Nat.reduceMul, bx8]
  refine use_rt (get_z T q8 (y := (c, false)) (by simp)) fun x M9 N9 r9 w9 ⟨n9, m9, f9, d9, ex9, hd9⟩ => ?_
  have ex9 : x = .tuple #[cmdV c d9, .bool true] := ex9
  have hd9 : DatF M9 (fun k => N6 + 1 ≤ k ∧ k < N9) d9 c.data := hd9
  subst ex9
  have fz9 := f9 n (by omega)
  have od9 := hd9.one
  have cd9 := cells_of_one od9
  have bx9 := (m9 n (by omega)).trans bx8
  have sd9 := (hd9.s (fun b hb => hb.2) : DatS M9 N9 d9 c.data)
  have hd9' := (hd.frame (m' := M9) (by omega : n ≤ N9) fun b hb => by rw [m9 b (by omega), m8 b (by omega), m1 b hb])
  simp (implicitDefEqProofs := false) (disch := omega) only [WPs, opds, List.all_cons, List.all_nil, List.cons_append, List.nil_append, cond_true, cond_false, eq_self, List.map_cons, List.map_nil, Nat.reduceAdd, Nat.testBit, Nat.reduceShiftRight, Nat.reduceAnd, Nat.reduceBNe, Nat.reduceMul, cmdV, od9, e_tup0, e_tup1, bx9, od]
  refine use_pure (sameC_spec R c ((sd9.frame (by omega : N9 ≤ N9 + 1) (fun b hb => fput_ne _ _ _ _ (by omega))).v) ((hd9'.frame (by omega : N9 ≤ N9 + 1) (fun b hb => fput_ne _ _ _ _ (by omega))).v) (by omega)) fun _ => ?_
  simp (implicitDefEqProofs := false) (disch := omega) only [WPs, opds, List.all_cons, List.all_nil, List.cons_append, List.nil_append, cond_true, cond_false, eq_self, List.map_cons, List.map_nil, Nat.reduceAdd, Nat.testBit, Nat.reduceShiftRight, Nat.reduceAnd, Nat.reduceBNe, Nat.reduceMul, fz1, fz3, fz4, fz5, fz6, fz8, fz9]
end Go.Am.C41
