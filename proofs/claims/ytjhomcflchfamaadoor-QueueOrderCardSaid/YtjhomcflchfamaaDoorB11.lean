/- The machine and its runs, part 11: Am41s Am41c Am41d Am41d0 Am41d1 Am41d2 Am41d3 Am41d4 Am41e Am41r0 Am41r1 Am41r2. -/
import Derived.Test.YtjhomcflchfamaaDoorB10
set_option linter.unusedVariables false
set_option linter.unusedSimpArgs false
set_option linter.unusedSectionVars false
namespace Go.Am.C41
open Go Go.Am
variable {E : Nat → Option AFn} {Y : Nat → List Value → FM → Nat → OR FM}
def pick (p : Nat → Bool) (l : List Int) : Nat → List Int
  | 0 => []
  | j + 1 => pick p l j ++ (if p j then (l[j]?).toList else [])
theorem pick_le (p : Nat → Bool) (l : List Int) : ∀ j, (pick p l j).length ≤ j
  | 0 => Nat.le_refl _
  | j + 1 => by
    have := pick_le p l j
    simp only [pick, List.length_append]
    split
    · cases l[j]? <;> simp <;> omega
    · simp; omega
theorem pick_congr {p p' : Nat → Bool} {l : List Int} : ∀ {j}, (∀ i, i < j → p i = p' i) → pick p l j = pick p' l j
  | 0, _ => rfl
  | j + 1, h => by simp only [pick]; rw [pick_congr fun i hi => h i (by omega), h j (by omega)]
def CloS (E : Nat → Option AFn) (Y : Nat → List Value → FM → Nat → OR FM) (M : FM) (N : Nat) (F : Value) (l : List Int) (p : Nat → Bool) : Prop :=
  ∀ (M' : FM) (N' : Nat), N ≤ N' → (∀ b, b < N → M' b = M b) → ∀ i (hi : i < l.length), Pure (callV (callW PG E Y) [.int .i64 (i : Int), .int .i64 l[i]] M' N' F) M' N' (.bool (p i))
theorem filter_L0 {M : FM} {N : Nat} {tv q F : Value} {l : List Int} (hl : Ints M N tv l) (hs : l.length ≤ 1000) (p : Nat → Bool) (hF : CloS E Y M N F l p) {Q : AX → List Value → FM → Nat → Nat → Prop}
    (hQ : ∀ M' N' w ov, N ≤ N' → (∀ b, b < N → M' b = M b) → (∀ j, j ≤ N → Nat.mod w (bit j) = 0) → IntZ M' N N' ov (pick p l l.length) → ∀ e', Q (.exit 0) (ov :: e') M' N' w) :
    ∀ d j, j + d = l.length → ∀ (M' : FM) (N' w0 : Nat) (x2 x5 x6 x7 ov : Value), N ≤ N' → (∀ b, b < N → M' b = M b) → (∀ j, j ≤ N → Nat.mod w0 (bit j) = 0) → IntZ M' N N' ov (pick p l j) →
    Gv (execW PG E Y ac32L0 [ov, .int .i64 (j : Int), x2, .int .i64 (l.length : Int), tv, x5, x6, x7, q, F] M' N') fun X e m n w => Q X e m n (Nat.lor w0 w) := by
  intro d
  induction d with
  | zero =>
    intro j hj M' N' w0 x2 x5 x6 x7 ov hN hM hw ho
    obtain rfl : j = l.length := by omega
    refine wr_loopN (L := ac32L0) (b := ac32L0b) rfl ?_
    simp only [ac32L0b]
    simp (implicitDefEqProofs := false) (disch := omega) only [WPs, opds, List.all_cons, List.all_nil, List.cons_append, List.nil_append, cond_true, cond_false, eq_self, List.map_cons, List.map_nil, Nat.reduceAdd, Nat.testBit, Nat.reduceShiftRight, Nat.reduceAnd, Nat.reduceBNe, Nat.reduceMul]
    exact hQ _ _ _ _ hN hM hw ho _
  | succ d ih =>
    intro j hj M' N' w0 x2 x5 x6 x7 ov hN hM hw ho
    have hjl : j < l.length := by omega
    obtain ⟨b, o, c, opn, wr, i1, i2, i3, i4⟩ := (hl.frame hN hM).cell hjl
    refine wr_loopN (L := ac32L0) (b := ac32L0b) rfl ?_
    simp only [ac32L0b]
    simp (implicitDefEqProofs := false) (disch := omega) only [WPs, opds, List.all_cons, List.all_nil, List.cons_append, List.nil_append, cond_true, cond_false, eq_self, List.map_cons, List.map_nil, Nat.reduceAdd, Nat.testBit, Nat.reduceShiftRight, Nat.reduceAnd, Nat.reduceBNe, Nat.reduceMul, i1, i3, i4, s_callv]
    refine use_pure (hF M' N' hN hM j hjl) fun r1 => ?_
    have hle := pick_le p l j
    cases hp : p j
    · have hsucc : pick p l (j + 1) = pick p l j := by simp only [pick, hp]; simp
      simp (implicitDefEqProofs := false) (disch := omega) only [WPs, opds, List.all_cons, List.all_nil, List.cons_append, List.nil_append, cond_true, cond_false, eq_self, List.map_cons, List.map_nil, Nat.reduceAdd, Nat.testBit, Nat.reduceShiftRight, Nat.reduceAnd, Nat.reduceBNe, Nat.reduceMul]
      exact wr_end' ((ih (j + 1) (by omega) M' N' w0 _ _ _ _ _ hN hM hw (by rw [hsucc]; exact ho)).mono fun X e m n w hq => by simpa only [zero_lor'] using hq)
    · have hsucc : pick p l (j + 1) = pick p l j ++ [l[j]] := by simp only [pick, hp, if_true, List.getElem?_eq_getElem hjl, Option.toList_some]
      simp (implicitDefEqProofs := false) (disch := omega) only [WPs, opds, List.all_cons, List.all_nil, List.cons_append, List.nil_append, cond_true, cond_false, eq_self, List.map_cons, List.map_nil, Nat.reduceAdd, Nat.testBit, Nat.reduceShiftRight, Nat.reduceAnd, Nat.reduceBNe, Nat.reduceMul, ho.len, ho.one]
      refine use_rt (app_intZ (n0 := N) (N := N' + 1) (ho.frame (N' := N' + 1) (by omega) (fun b h1 h2 => fput_ne _ _ _ _ (by omega))) l[j] _ _ _ (by omega) (by omega)) fun v' M2 N2 r' w' hA => ?_
      obtain ⟨rfl, ha, hlow, hw'⟩ := hA
      simp (implicitDefEqProofs := false) (disch := omega) only [WPs, opds, List.all_cons, List.all_nil, List.cons_append, List.nil_append, cond_true, cond_false, eq_self, List.map_cons, List.map_nil, Nat.reduceAdd, Nat.testBit, Nat.reduceShiftRight, Nat.reduceAnd, Nat.reduceBNe, Nat.reduceMul]
      refine wr_end' ((ih (j + 1) (by omega) M2 (N' + 1 + 1) (Nat.lor w0 (Nat.lor (bit N') w')) _ _ _ _ _ (by omega) (fun b hb => by rw [hlow b (by omega), fput_ne _ _ _ _ (by omega)]; exact hM b hb) (fun i hi => by rw [frz_iff, frz_iff]; exact ⟨hw i hi, frz_bit (by omega), hw' i (by omega)⟩) (by rw [hsucc]; exact ha)).mono fun X e m n w hq => ?_)
      rw [← lor_assoc']; exact hq
theorem intZ_any {M M' : FM} {n0 n1 N N' : Nat} {v : Value} {xs : List Int} (h : IntZ M n0 N v xs) (hv : addrFree v = true) : IntZ M' n1 N' v xs := by
  rcases h with ⟨h0, h1, rfl⟩ | ⟨h0, hl, b, rfl, h1, h2, h3⟩
  · exact .inl ⟨h0, h1, rfl⟩
  · cases hv
theorem filter_spec (hE : E 32 = some ac32) {M : FM} {n0 N : Nat} {tag : Tags} {q : Nat} {its : List (Cmd × Value)} {S : List Int} {tv : Value} {cb sb : Nat} (h : QI M n0 N tag q its S tv cb sb) (F : Value) (p : Nat → Bool) (hF : CloS E Y M N F (tagsL its) p) :
    Rt (callW PG E Y 32 [.pointer (some ⟨q, 0, none⟩), F] M N) fun v m' n' w => N ≤ n' ∧ (∀ b, b < N → m' b = M b) ∧ (∀ j, j ≤ N → Nat.mod w (bit j) = 0) ∧ IntZ m' N n' v (pick p (tagsL its) (tagsL its).length) := by
  refine kept_specA hE rfl fun Q hQ => ?_
  have h1 := h.q1
  have h3 := h.q3
  have hl := h.tg.ints.len
  have hs : (tagsL its).length ≤ 1000 := by rw [tagsL, List.length_map]; have := h.len; omega
  simp only [ac32]
  simp (implicitDefEqProofs := false) (disch := omega) only [WPs, opds, List.all_cons, List.all_nil, List.cons_append, List.nil_append, cond_true, cond_false, eq_self, List.map_cons, List.map_nil, Nat.reduceAdd, Nat.testBit, Nat.reduceShiftRight, Nat.reduceAnd, Nat.reduceBNe, Nat.reduceMul, eqlnil_ptr pt25, isNone_some, h3, hl]
  refine wr_kont (filter_L0 h.tg.ints hs p hF ?_ (tagsL its).length 0 (by omega) M N 0 _ _ _ _ _ (Nat.le_refl _) (fun _ _ => rfl) (fun j _ => Nat.zero_mod _) (IntZ.nil _ _ _))
  intro M' N' w ov hN hM hw ho e' r
  simp (implicitDefEqProofs := false) (disch := omega) only [WPs, opds, List.all_cons, List.all_nil, List.cons_append, List.nil_append, cond_true, cond_false, eq_self, List.map_cons, List.map_nil, Nat.reduceAdd, Nat.testBit, Nat.reduceShiftRight, Nat.reduceAnd, Nat.reduceBNe, Nat.reduceMul]
  exact hQ _ _ _ _ _ hN hM (hw N (Nat.le_refl _)) (fun _ => ho) (fun hv => intZ_any ho hv)
theorem clo_nil (rec : Nat → List Value → FM → Nat → OR FM) (args : List Value) (m : FM) (n f : Nat) : callV rec args m n (.func (.func f) #[] #[]) = rec f args m n := by
  show rec f ([] ++ args ++ []) m n = _
  rw [List.nil_append, List.append_nil]
theorem clo_cap (rec : Nat → List Value → FM → Nat → OR FM) (args : List Value) (m : FM) (n f : Nat) (x : Value) : callV rec args m n (.func (.func f) #[] #[x]) = rec f (args ++ [x]) m n := by
  show rec f ([] ++ args ++ [x]) m n = _
  rw [List.nil_append]
theorem pick_true (l : List Int) : ∀ {j}, j ≤ l.length → pick (fun _ => true) l j = l.take j
  | 0, _ => by simp [pick]
  | j + 1, h => by
    have hj : j < l.length := by omega
    simp only [pick, if_true]
    rw [pick_true l (by omega), List.take_add_one, List.getElem?_eq_getElem hj]
theorem qtags_specZ (hE : E 18 = some ac18) (h32 : E 32 = some ac32) (h43 : E 43 = some ac43) {M : FM} {n0 N : Nat} {tag : Tags} {q : Nat} {its : List (Cmd × Value)} {S : List Int} {tv : Value} {cb sb : Nat} (h : QI M n0 N tag q its S tv cb sb) :
    Rt (callW PG E Y 18 [.pointer (some ⟨q, 0, none⟩)] M N) fun v m' n' w => N ≤ n' ∧ (∀ b, b < N → m' b = M b) ∧ (∀ j, j ≤ N → Nat.mod w (bit j) = 0) ∧ IntZ m' N n' v (tagsL its) := by
  refine kept_specA hE rfl fun Q hQ => ?_
  simp only [ac18]
  simp (implicitDefEqProofs := false) (disch := omega) only [WPs, opds, List.all_cons, List.all_nil, List.cons_append, List.nil_append, cond_true, cond_false, eq_self, List.map_cons, List.map_nil, Nat.reduceAdd, Nat.testBit, Nat.reduceShiftRight, Nat.reduceAnd, Nat.reduceBNe, Nat.reduceMul]
  refine use_rt (filter_spec h32 h _ (fun _ => true) (fun M' N' hN hM i hi => ?_)) fun v m' n' r w ⟨a1, a2, a3, a4⟩ => ?_
  · rw [clo_nil]
    refine pure_spec h43 rfl rfl ?_
    simp only [ac43]
    simp (implicitDefEqProofs := false) (disch := omega) only [WPs, opds, List.all_cons, List.all_nil, List.cons_append, List.nil_append, cond_true, cond_false, eq_self, List.map_cons, List.map_nil, Nat.reduceAdd, Nat.testBit, Nat.reduceShiftRight, Nat.reduceAnd, Nat.reduceBNe, Nat.reduceMul]
  · rw [pick_true _ (Nat.le_refl _), List.take_length] at a4
    simp (implicitDefEqProofs := false) (disch := omega) only [WPs, opds, List.all_cons, List.all_nil, List.cons_append, List.nil_append, cond_true, cond_false, eq_self, List.map_cons, List.map_nil, Nat.reduceAdd, Nat.testBit, Nat.reduceShiftRight, Nat.reduceAnd, Nat.reduceBNe, Nat.reduceMul]
    exact hQ _ _ _ _ _ a1 a2 (a3 N (Nat.le_refl _)) (fun _ => a4.low (by omega)) (fun hv => intZ_any a4 hv)
theorem qtags_spec (hE : E 18 = some ac18) (h32 : E 32 = some ac32) (h43 : E 43 = some ac43) {M : FM} {n0 N : Nat} {tag : Tags} {q : Nat} {its : List (Cmd × Value)} {S : List Int} {tv : Value} {cb sb : Nat} (h : QI M n0 N tag q its S tv cb sb) :
    Rt (callW PG E Y 18 [.pointer (some ⟨q, 0, none⟩)] M N) fun v m' n' w => N ≤ n' ∧ (∀ b, b < N → m' b = M b) ∧ (∀ j, j ≤ N → Nat.mod w (bit j) = 0) ∧ Ints m' n' v (tagsL its) :=
  (qtags_specZ hE h32 h43 h).mono fun v m' n' w ⟨h1, h2, h3, h4⟩ => ⟨h1, h2, h3, h4.ints⟩
theorem qstarted_specZ (hE : E 14 = some ac14) (h32 : E 32 = some ac32) (h37 : E 37 = some ac37) {M : FM} {n0 N : Nat} {tag : Tags} {q : Nat} {its : List (Cmd × Value)} {S : List Int} {tv : Value} {cb sb : Nat} (h : QI M n0 N tag q its S tv cb sb) :
    Rt (callW PG E Y 14 [.pointer (some ⟨q, 0, none⟩)] M N) fun v m' n' w => N ≤ n' ∧ (∀ b, b < N → m' b = M b) ∧ (∀ j, j ≤ N → Nat.mod w (bit j) = 0) ∧ IntZ m' N n' v (pick (fun i => decide ((tagsL its).getD i 0 ∈ S)) (tagsL its) (tagsL its).length) := by
  refine kept_specA hE rfl fun Q hQ => ?_
  simp only [ac14]
  simp (implicitDefEqProofs := false) (disch := omega) only [WPs, opds, List.all_cons, List.all_nil, List.cons_append, List.nil_append, cond_true, cond_false, eq_self, List.map_cons, List.map_nil, Nat.reduceAdd, Nat.testBit, Nat.reduceShiftRight, Nat.reduceAnd, Nat.reduceBNe, Nat.reduceMul, s_func]
  have h' := h.stay (M' := AMem.put M N (some (.cells [.pointer (some ⟨q, 0, none⟩)] 0 false true))) (N' := N + 1) (by omega) (fun b hb => fput_ne _ _ _ _ (by omega))
  refine use_rt (filter_spec h32 h' _ (fun i => decide ((tagsL its).getD i 0 ∈ S)) (fun M' N' hN hM i hi => ?_)) fun v m' n' r w ⟨a1, a2, a3, a4⟩ => ?_
  · show Pure (callV _ _ M' N' (.func (.func 37) #[] #[.pointer (some ⟨N, 0, none⟩)])) _ _ _
    rw [clo_cap]
    refine pure_spec h37 rfl rfl ?_
    have h2 := h'.stay hN hM
    have hb := (hM N (by omega)).trans (fput_same _ _ _)
    have hlk := map_look (n := N') u3 h2.s1 h2.s3 (.bool false) false (tagsL its)[i]
    rw [lookS] at hlk
    have hg : (tagsL its).getD i 0 = (tagsL its)[i] := by simp [hi]
    have q1 := h2.q1
    have q3 := h2.q3
    simp only [ac37]
    by_cases hS : (tagsL its)[i] ∈ S
    · rw [if_pos hS, lookV_some1] at hlk
      rw [hg, decide_eq_true hS]
      simp (implicitDefEqProofs := false) (disch := omega) only [WPs, opds, List.all_cons, List.all_nil, List.cons_append, List.nil_append, cond_true, cond_false, eq_self, List.map_cons, List.map_nil, Nat.reduceAdd, Nat.testBit, Nat.reduceShiftRight, Nat.reduceAnd, Nat.reduceBNe, Nat.reduceMul, hb, q3, s_mp, hlk]
    · rw [if_neg hS, lookV_none1] at hlk
      rw [hg, decide_eq_false hS]
      simp (implicitDefEqProofs := false) (disch := omega) only [WPs, opds, List.all_cons, List.all_nil, List.cons_append, List.nil_append, cond_true, cond_false, eq_self, List.map_cons, List.map_nil, Nat.reduceAdd, Nat.testBit, Nat.reduceShiftRight, Nat.reduceAnd, Nat.reduceBNe, Nat.reduceMul, hb, q3, s_mp, hlk]
  · simp (implicitDefEqProofs := false) (disch := omega) only [WPs, opds, List.all_cons, List.all_nil, List.cons_append, List.nil_append, cond_true, cond_false, eq_self, List.map_cons, List.map_nil, Nat.reduceAdd, Nat.testBit, Nat.reduceShiftRight, Nat.reduceAnd, Nat.reduceBNe, Nat.reduceMul]
    exact hQ _ _ _ _ _ (by omega) (fun b hb => by rw [a2 b (by omega)]; exact fput_ne _ _ _ _ (by omega)) (by rw [frz_iff]; exact ⟨frz_bit (by omega), a3 N (by omega)⟩) (fun _ => a4.low (by omega)) (fun hv => intZ_any a4 hv)
theorem qstarted_spec (hE : E 14 = some ac14) (h32 : E 32 = some ac32) (h37 : E 37 = some ac37) {M : FM} {n0 N : Nat} {tag : Tags} {q : Nat} {its : List (Cmd × Value)} {S : List Int} {tv : Value} {cb sb : Nat} (h : QI M n0 N tag q its S tv cb sb) :
    Rt (callW PG E Y 14 [.pointer (some ⟨q, 0, none⟩)] M N) fun v m' n' w => N ≤ n' ∧ (∀ b, b < N → m' b = M b) ∧ (∀ j, j ≤ N → Nat.mod w (bit j) = 0) ∧ Ints m' n' v (pick (fun i => decide ((tagsL its).getD i 0 ∈ S)) (tagsL its) (tagsL its).length) :=
  (qstarted_specZ hE h32 h37 h).mono fun v m' n' w ⟨h1, h2, h3, h4⟩ => ⟨h1, h2, h3, h4.ints⟩
end Go.Am.C41
namespace Go.Am.C41
open Go Go.Am
variable {E : Nat → Option AFn} {Y : Nat → List Value → FM → Nat → OR FM}
def HeadP (c : Cmd) : Prop := 0 ≤ c.tag ∧ c.tag ≤ 2147483647 ∧ (c.ord = 0 ∨ c.ord = 1)
def K1 (c : Cmd) : Prop := NameP c.vol ∧ c.oth = ⟨#[]⟩ ∧ c.data = [] ∧ c.force = false ∧ insideP c.at_ c.len ∧ c.len ≤ 16
def K2 (c : Cmd) : Prop := NameP c.vol ∧ c.oth = ⟨#[]⟩ ∧ insideP c.at_ c.len ∧ c.len ≤ 16 ∧ (c.data.length : Int) = c.len
def K3 (c : Cmd) : Prop := NameP c.vol ∧ c.oth = ⟨#[]⟩ ∧ c.data = [] ∧ insideP c.at_ c.len
def K4 (c : Cmd) : Prop := c.vol = ⟨#[]⟩ ∧ c.oth = ⟨#[]⟩ ∧ c.data = [] ∧ c.force = false ∧ c.at_ = 0 ∧ c.len = 0
def K5 (c : Cmd) : Prop := NameP c.vol ∧ c.oth = ⟨#[]⟩ ∧ c.data = [] ∧ c.force = false ∧ 1 ≤ c.len ∧ c.len ≤ 65536 ∧ 0 ≤ c.at_ ∧ c.at_ ≤ c.len
def K6 (c : Cmd) : Prop := NameP c.vol ∧ NameP c.oth ∧ c.oth ≠ c.vol ∧ c.data = [] ∧ c.force = false ∧ c.at_ = 0 ∧ c.len = 0
def K7 (c : Cmd) : Prop := NameP c.vol ∧ c.oth = ⟨#[]⟩ ∧ c.data = [] ∧ c.force = false ∧ c.at_ = 0 ∧ c.len = 0
def ValidP (c : Cmd) : Prop := HeadP c ∧ ((c.kind = 1 ∧ K1 c) ∨ (c.kind = 2 ∧ K2 c) ∨ (c.kind = 3 ∧ K3 c) ∨ (c.kind = 4 ∧ K4 c) ∨ (c.kind = 5 ∧ K5 c) ∨ (c.kind = 6 ∧ K6 c) ∨ (c.kind = 7 ∧ K7 c))
open Classical in
noncomputable def validB (c : Cmd) : Bool := decide (ValidP c)
open Classical in
theorem validB_t {c : Cmd} (h : ValidP c) : validB c = true := by unfold validB; exact decide_eq_true h
open Classical in
theorem validB_f {c : Cmd} (h : ¬ ValidP c) : validB c = false := by unfold validB; exact decide_eq_false h
theorem valid_1 {c : Cmd} (hk : c.kind = 1) : ValidP c ↔ HeadP c ∧ K1 c := by
  unfold ValidP
  refine and_congr_right fun _ => ⟨fun h => ?_, fun h => .inl ⟨hk, h⟩⟩
  rcases h with ⟨h1, h2⟩ | ⟨h1, h2⟩ | ⟨h1, h2⟩ | ⟨h1, h2⟩ | ⟨h1, h2⟩ | ⟨h1, h2⟩ | ⟨h1, h2⟩
  · exact h2
  · omega
  · omega
  · omega
  · omega
  · omega
  · omega
theorem valid_2 {c : Cmd} (hk : c.kind = 2) : ValidP c ↔ HeadP c ∧ K2 c := by
  unfold ValidP
  refine and_congr_right fun _ => ⟨fun h => ?_, fun h => .inr (.inl ⟨hk, h⟩)⟩
  rcases h with ⟨h1, h2⟩ | ⟨h1, h2⟩ | ⟨h1, h2⟩ | ⟨h1, h2⟩ | ⟨h1, h2⟩ | ⟨h1, h2⟩ | ⟨h1, h2⟩
  · omega
  · exact h2
  · omega
  · omega
  · omega
  · omega
  · omega
theorem valid_3 {c : Cmd} (hk : c.kind = 3) : ValidP c ↔ HeadP c ∧ K3 c := by
  unfold ValidP
  refine and_congr_right fun _ => ⟨fun h => ?_, fun h => .inr (.inr (.inl ⟨hk, h⟩))⟩
  rcases h with ⟨h1, h2⟩ | ⟨h1, h2⟩ | ⟨h1, h2⟩ | ⟨h1, h2⟩ | ⟨h1, h2⟩ | ⟨h1, h2⟩ | ⟨h1, h2⟩
  · omega
  · omega
  · exact h2
  · omega
  · omega
  · omega
  · omega
theorem valid_4 {c : Cmd} (hk : c.kind = 4) : ValidP c ↔ HeadP c ∧ K4 c := by
  unfold ValidP
  refine and_congr_right fun _ => ⟨fun h => ?_, fun h => .inr (.inr (.inr (.inl ⟨hk, h⟩)))⟩
  rcases h with ⟨h1, h2⟩ | ⟨h1, h2⟩ | ⟨h1, h2⟩ | ⟨h1, h2⟩ | ⟨h1, h2⟩ | ⟨h1, h2⟩ | ⟨h1, h2⟩
  · omega
  · omega
  · omega
  · exact h2
  · omega
  · omega
  · omega
theorem valid_5 {c : Cmd} (hk : c.kind = 5) : ValidP c ↔ HeadP c ∧ K5 c := by
  unfold ValidP
  refine and_congr_right fun _ => ⟨fun h => ?_, fun h => .inr (.inr (.inr (.inr (.inl ⟨hk, h⟩))))⟩
  rcases h with ⟨h1, h2⟩ | ⟨h1, h2⟩ | ⟨h1, h2⟩ | ⟨h1, h2⟩ | ⟨h1, h2⟩ | ⟨h1, h2⟩ | ⟨h1, h2⟩
  · omega
  · omega
  · omega
  · omega
  · exact h2
  · omega
  · omega
theorem valid_6 {c : Cmd} (hk : c.kind = 6) : ValidP c ↔ HeadP c ∧ K6 c := by
  unfold ValidP
  refine and_congr_right fun _ => ⟨fun h => ?_, fun h => .inr (.inr (.inr (.inr (.inr (.inl ⟨hk, h⟩)))))⟩
  rcases h with ⟨h1, h2⟩ | ⟨h1, h2⟩ | ⟨h1, h2⟩ | ⟨h1, h2⟩ | ⟨h1, h2⟩ | ⟨h1, h2⟩ | ⟨h1, h2⟩
  · omega
  · omega
  · omega
  · omega
  · omega
  · exact h2
  · omega
theorem valid_7 {c : Cmd} (hk : c.kind = 7) : ValidP c ↔ HeadP c ∧ K7 c := by
  unfold ValidP
  refine and_congr_right fun _ => ⟨fun h => ?_, fun h => .inr (.inr (.inr (.inr (.inr (.inr (⟨hk, h⟩))))))⟩
  rcases h with ⟨h1, h2⟩ | ⟨h1, h2⟩ | ⟨h1, h2⟩ | ⟨h1, h2⟩ | ⟨h1, h2⟩ | ⟨h1, h2⟩ | ⟨h1, h2⟩
  · omega
  · omega
  · omega
  · omega
  · omega
  · omega
  · exact h2
theorem valid_x {c : Cmd} (h : ¬ (1 ≤ c.kind ∧ c.kind ≤ 7)) : ¬ ValidP c := fun hv => by
  rcases hv.2 with ⟨h1, _⟩ | ⟨h1, _⟩ | ⟨h1, _⟩ | ⟨h1, _⟩ | ⟨h1, _⟩ | ⟨h1, _⟩ | ⟨h1, _⟩ <;> omega
end Go.Am.C41
namespace Go.Am.C41
open Go Go.Am
variable {E : Nat → Option AFn} {Y : Nat → List Value → FM → Nat → OR FM}
theorem sameB_iff {c d : Cmd} : sameB c d = true ↔ c = d := by
  cases c; cases d
  simp only [sameB, Bool.and_eq_true, decide_eq_true_eq, Cmd.mk.injEq]
  exact ⟨fun ⟨a, b, c, d, e, f, g, h, i⟩ => ⟨b, c, d, e, f, g, h, i, a⟩, fun ⟨b, c, d, e, f, g, h, i, a⟩ => ⟨a, b, c, d, e, f, g, h, i⟩⟩
theorem validB_iff {c : Cmd} : validB c = true ↔ ValidP c := by
  by_cases h : ValidP c
  · rw [validB_t h]; simp [h]
  · rw [validB_f h]; simp [h]
def used1 (c : Cmd) : Cmd := { tag := c.tag, kind := c.kind, ord := c.ord, force := false, vol := c.vol, oth := ⟨#[]⟩, at_ := c.at_, len := c.len, data := [] }
theorem vs_1 {c : Cmd} (hh : HeadP c) (hk : c.kind = 1) (h0 : NameP c.vol) (h1 : insideP c.at_ c.len) (h2 : c.len ≤ 16) : validB c = sameB c (used1 c) := by
  rw [Bool.eq_iff_iff, sameB_iff, validB_iff, valid_1 hk]
  constructor
  · rintro ⟨_, _, r1, r2, r3, _, _⟩
    cases c
    simp_all [used1]
  · intro h
    exact ⟨hh, h0, congrArg Cmd.oth h, congrArg Cmd.data h, congrArg Cmd.force h, h1, h2⟩
def used2 (c : Cmd) : Cmd := { tag := c.tag, kind := c.kind, ord := c.ord, force := c.force, vol := c.vol, oth := ⟨#[]⟩, at_ := c.at_, len := c.len, data := c.data }
theorem vs_2 {c : Cmd} (hh : HeadP c) (hk : c.kind = 2) (h0 : NameP c.vol) (h1 : insideP c.at_ c.len) (h2 : c.len ≤ 16) (h3 : (c.data.length : Int) = c.len) : validB c = sameB c (used2 c) := by
  rw [Bool.eq_iff_iff, sameB_iff, validB_iff, valid_2 hk]
  constructor
  · rintro ⟨_, _, r1, _, _, _⟩
    cases c
    simp_all [used2]
  · intro h
    exact ⟨hh, h0, congrArg Cmd.oth h, h1, h2, h3⟩
def used3 (c : Cmd) : Cmd := { tag := c.tag, kind := c.kind, ord := c.ord, force := c.force, vol := c.vol, oth := ⟨#[]⟩, at_ := c.at_, len := c.len, data := [] }
theorem vs_3 {c : Cmd} (hh : HeadP c) (hk : c.kind = 3) (h0 : NameP c.vol) (h1 : insideP c.at_ c.len) : validB c = sameB c (used3 c) := by
  rw [Bool.eq_iff_iff, sameB_iff, validB_iff, valid_3 hk]
  constructor
  · rintro ⟨_, _, r1, r2, _⟩
    cases c
    simp_all [used3]
  · intro h
    exact ⟨hh, h0, congrArg Cmd.oth h, congrArg Cmd.data h, h1⟩
def used4 (c : Cmd) : Cmd := { tag := c.tag, kind := c.kind, ord := c.ord, force := false, vol := c.vol, oth := ⟨#[]⟩, at_ := 0, len := 0, data := [] }
theorem vs_4 {c : Cmd} (hh : HeadP c) (hk : c.kind = 4) (h0 : c.vol = ⟨#[]⟩) : validB c = sameB c (used4 c) := by
  rw [Bool.eq_iff_iff, sameB_iff, validB_iff, valid_4 hk]
  constructor
  · rintro ⟨_, _, r1, r2, r3, r4, r5⟩
    cases c
    simp_all [used4]
  · intro h
    exact ⟨hh, h0, congrArg Cmd.oth h, congrArg Cmd.data h, congrArg Cmd.force h, congrArg Cmd.at_ h, congrArg Cmd.len h⟩
def used5 (c : Cmd) : Cmd := { tag := c.tag, kind := c.kind, ord := c.ord, force := false, vol := c.vol, oth := ⟨#[]⟩, at_ := c.at_, len := c.len, data := [] }
theorem vs_5 {c : Cmd} (hh : HeadP c) (hk : c.kind = 5) (h0 : NameP c.vol) (h1 : 1 ≤ c.len) (h2 : c.len ≤ 65536) (h3 : 0 ≤ c.at_) (h4 : c.at_ ≤ c.len) : validB c = sameB c (used5 c) := by
  rw [Bool.eq_iff_iff, sameB_iff, validB_iff, valid_5 hk]
  constructor
  · rintro ⟨_, _, r1, r2, r3, _, _, _, _⟩
    cases c
    simp_all [used5]
  · intro h
    exact ⟨hh, h0, congrArg Cmd.oth h, congrArg Cmd.data h, congrArg Cmd.force h, h1, h2, h3, h4⟩
def used6 (c : Cmd) : Cmd := { tag := c.tag, kind := c.kind, ord := c.ord, force := false, vol := c.vol, oth := c.oth, at_ := 0, len := 0, data := [] }
theorem vs_6 {c : Cmd} (hh : HeadP c) (hk : c.kind = 6) (h0 : NameP c.vol) (h1 : NameP c.oth) (h2 : c.oth ≠ c.vol) : validB c = sameB c (used6 c) := by
  rw [Bool.eq_iff_iff, sameB_iff, validB_iff, valid_6 hk]
  constructor
  · rintro ⟨_, _, _, _, r3, r4, r5, r6⟩
    cases c
    simp_all [used6]
  · intro h
    exact ⟨hh, h0, h1, h2, congrArg Cmd.data h, congrArg Cmd.force h, congrArg Cmd.at_ h, congrArg Cmd.len h⟩
def used7 (c : Cmd) : Cmd := { tag := c.tag, kind := c.kind, ord := c.ord, force := false, vol := c.vol, oth := ⟨#[]⟩, at_ := 0, len := 0, data := [] }
theorem vs_7 {c : Cmd} (hh : HeadP c) (hk : c.kind = 7) (h0 : NameP c.vol) : validB c = sameB c (used7 c) := by
  rw [Bool.eq_iff_iff, sameB_iff, validB_iff, valid_7 hk]
  constructor
  · rintro ⟨_, _, r1, r2, r3, r4, r5⟩
    cases c
    simp_all [used7]
  · intro h
    exact ⟨hh, h0, congrArg Cmd.oth h, congrArg Cmd.data h, congrArg Cmd.force h, congrArg Cmd.at_ h, congrArg Cmd.len h⟩
end Go.Am.C41
namespace Go.Am.C41
open Go Go.Am
variable {E : Nat → Option AFn} {Y : Nat → List Value → FM → Nat → OR FM}
set_option maxHeartbeats 8000000 in
theorem cmdValid_1 (hE : E 30 = some ac30) (hN : E 52 = some ac52) (hT : Trims E Y) (hI : E 53 = some ac53) (hO : E 51 = some ac51) (hS : E 54 = some ac54) (m : FM) (n : Nat) (c : Cmd) (d : Value) (hF : c.Fit) (hc : DatV m n d c.data) (hh : HeadP c) (hk : c.kind = 1) :
    Pure (callW PG E Y 30 [cmdV c d] m n) m n (.bool (validB c)) := by
  obtain ⟨f1, f2, f3, f4, f5, f6, f7, f8⟩ := hF
  have hNv : ∀ m n, Pure (callW PG E Y 52 [.string c.vol] m n) m n (.bool (nameB c.vol)) := fun m n => name_spec hN hT m n _ f6
  have hNo : ∀ m n, Pure (callW PG E Y 52 [.string c.oth] m n) m n (.bool (nameB c.oth)) := fun m n => name_spec hN hT m n _ f7
  have hIn : ∀ m n, Pure (callW PG E Y 53 [.int .i64 c.at_, .int .i64 c.len] m n) m n (.bool (decide (insideP c.at_ c.len))) := fun m n => inside_spec hI m n _ _ f4 f5
  have hOn : ∀ m n, Pure (callW PG E Y 51 [cmdV c d] m n) m n (.agg #[.int .i64 c.tag, .int .i64 c.kind, .int .i64 c.ord, .bool false, .string ⟨#[]⟩, .string ⟨#[]⟩, .int .i64 0, .int .i64 0, .slice none 0 0]) := fun m n => only_spec hO m n c d hc.one
  clear f1 f2 f3 f4 f5 f6 f7
  refine pure_spec hE rfl rfl ?_
  simp only [ac30, cmdV]
  rcases hh.2.2 with t4 | t4
  all_goals
    have t1 := hh.1
    have t2 := hh.2.1
    by_cases nv : NameP c.vol
    case neg =>
      rw [validB_f fun h => nv ((valid_1 hk).1 h).2.1]
      repeat (first | refine use_pure (hOn _ _) fun _ => ?_ | refine use_pure (hNv _ _) fun _ => ?_ | refine use_pure (hNo _ _) fun _ => ?_ | refine use_pure (hIn _ _) fun _ => ?_ | simp (implicitDefEqProofs := false) (disch := omega) only [WPs, opds, List.all_cons, List.all_nil, List.cons_append, List.nil_append, cond_true, cond_false, eq_self, List.map_cons, List.map_nil, Nat.reduceAdd, Nat.testBit, Nat.reduceShiftRight, Nat.reduceAnd, Nat.reduceBNe, Nat.reduceMul, hc.one, cells_of_one hc.one, hc.len, hc.bel, STs, Bool.not_true, Bool.not_false, nameB_f nv])
    by_cases hi : insideP c.at_ c.len
    case neg =>
      rw [validB_f fun h => hi ((valid_1 hk).1 h).2.2.2.2.2.1]
      repeat (first | refine use_pure (hOn _ _) fun _ => ?_ | refine use_pure (hNv _ _) fun _ => ?_ | refine use_pure (hNo _ _) fun _ => ?_ | refine use_pure (hIn _ _) fun _ => ?_ | simp (implicitDefEqProofs := false) (disch := omega) only [WPs, opds, List.all_cons, List.all_nil, List.cons_append, List.nil_append, cond_true, cond_false, eq_self, List.map_cons, List.map_nil, Nat.reduceAdd, Nat.testBit, Nat.reduceShiftRight, Nat.reduceAnd, Nat.reduceBNe, Nat.reduceMul, hc.one, cells_of_one hc.one, hc.len, hc.bel, STs, Bool.not_true, Bool.not_false, nameB_t nv, decide_eq_false hi])
    by_cases g5 : c.len ≤ 16
    case neg =>
      rw [validB_f fun h => g5 ((valid_1 hk).1 h).2.2.2.2.2.2]
      repeat (first | refine use_pure (hOn _ _) fun _ => ?_ | refine use_pure (hNv _ _) fun _ => ?_ | refine use_pure (hNo _ _) fun _ => ?_ | refine use_pure (hIn _ _) fun _ => ?_ | simp (implicitDefEqProofs := false) (disch := omega) only [WPs, opds, List.all_cons, List.all_nil, List.cons_append, List.nil_append, cond_true, cond_false, eq_self, List.map_cons, List.map_nil, Nat.reduceAdd, Nat.testBit, Nat.reduceShiftRight, Nat.reduceAnd, Nat.reduceBNe, Nat.reduceMul, hc.one, cells_of_one hc.one, hc.len, hc.bel, STs, Bool.not_true, Bool.not_false, nameB_t nv, decide_eq_true hi])
    rw [vs_1 hh hk nv hi g5]
    repeat (first | refine use_pure (hOn _ _) fun _ => ?_ | refine use_pure (hNv _ _) fun _ => ?_ | refine use_pure (hNo _ _) fun _ => ?_ | refine use_pure (hIn _ _) fun _ => ?_ | simp (implicitDefEqProofs := false) (disch := omega) only [WPs, opds, List.all_cons, List.all_nil, List.cons_append, List.nil_append, cond_true, cond_false, eq_self, List.map_cons, List.map_nil, Nat.reduceAdd, Nat.testBit, Nat.reduceShiftRight, Nat.reduceAnd, Nat.reduceBNe, Nat.reduceMul, hc.one, cells_of_one hc.one, hc.len, hc.bel, STs, Bool.not_true, Bool.not_false, nameB_t nv, decide_eq_true hi])
    refine use_pure (same_spec hS _ _ c (used1 c) d (.slice none 0 0) (hc.frame (by omega) fun b hb => by simp (implicitDefEqProofs := false) (disch := omega) only [WPs, opds, List.all_cons, List.all_nil, List.cons_append, List.nil_append, cond_true, cond_false, eq_self, List.map_cons, List.map_nil, Nat.reduceAdd, Nat.testBit, Nat.reduceShiftRight, Nat.reduceAnd, Nat.reduceBNe, Nat.reduceMul]) (DatV.nil _ _) f8 (Nat.zero_le _)) fun _ => ?_
    repeat (first | refine use_pure (hOn _ _) fun _ => ?_ | refine use_pure (hNv _ _) fun _ => ?_ | refine use_pure (hNo _ _) fun _ => ?_ | refine use_pure (hIn _ _) fun _ => ?_ | simp (implicitDefEqProofs := false) (disch := omega) only [WPs, opds, List.all_cons, List.all_nil, List.cons_append, List.nil_append, cond_true, cond_false, eq_self, List.map_cons, List.map_nil, Nat.reduceAdd, Nat.testBit, Nat.reduceShiftRight, Nat.reduceAnd, Nat.reduceBNe, Nat.reduceMul, hc.one, cells_of_one hc.one, hc.len, hc.bel, STs, Bool.not_true, Bool.not_false, nameB_t nv, decide_eq_true hi])
set_option maxHeartbeats 8000000 in
theorem cmdValid_2 (hE : E 30 = some ac30) (hN : E 52 = some ac52) (hT : Trims E Y) (hI : E 53 = some ac53) (hO : E 51 = some ac51) (hS : E 54 = some ac54) (m : FM) (n : Nat) (c : Cmd) (d : Value) (hF : c.Fit) (hc : DatV m n d c.data) (hh : HeadP c) (hk : c.kind = 2) :
    Pure (callW PG E Y 30 [cmdV c d] m n) m n (.bool (validB c)) := by
  obtain ⟨f1, f2, f3, f4, f5, f6, f7, f8⟩ := hF
  have hNv : ∀ m n, Pure (callW PG E Y 52 [.string c.vol] m n) m n (.bool (nameB c.vol)) := fun m n => name_spec hN hT m n _ f6
  have hNo : ∀ m n, Pure (callW PG E Y 52 [.string c.oth] m n) m n (.bool (nameB c.oth)) := fun m n => name_spec hN hT m n _ f7
  have hIn : ∀ m n, Pure (callW PG E Y 53 [.int .i64 c.at_, .int .i64 c.len] m n) m n (.bool (decide (insideP c.at_ c.len))) := fun m n => inside_spec hI m n _ _ f4 f5
  have hOn : ∀ m n, Pure (callW PG E Y 51 [cmdV c d] m n) m n (.agg #[.int .i64 c.tag, .int .i64 c.kind, .int .i64 c.ord, .bool false, .string ⟨#[]⟩, .string ⟨#[]⟩, .int .i64 0, .int .i64 0, .slice none 0 0]) := fun m n => only_spec hO m n c d hc.one
  clear f1 f2 f3 f4 f5 f6 f7
  refine pure_spec hE rfl rfl ?_
  simp only [ac30, cmdV]
  rcases hh.2.2 with t4 | t4
  all_goals
    have t1 := hh.1
    have t2 := hh.2.1
    by_cases nv : NameP c.vol
    case neg =>
      rw [validB_f fun h => nv ((valid_2 hk).1 h).2.1]
      repeat (first | refine use_pure (hOn _ _) fun _ => ?_ | refine use_pure (hNv _ _) fun _ => ?_ | refine use_pure (hNo _ _) fun _ => ?_ | refine use_pure (hIn _ _) fun _ => ?_ | simp (implicitDefEqProofs := false) (disch := omega) only [WPs, opds, List.all_cons, List.all_nil, List.cons_append, List.nil_append, cond_true, cond_false, eq_self, List.map_cons, List.map_nil, Nat.reduceAdd, Nat.testBit, Nat.reduceShiftRight, Nat.reduceAnd, Nat.reduceBNe, Nat.reduceMul, hc.one, cells_of_one hc.one, hc.len, hc.bel, STs, Bool.not_true, Bool.not_false, nameB_f nv])
    by_cases hi : insideP c.at_ c.len
    case neg =>
      rw [validB_f fun h => hi ((valid_2 hk).1 h).2.2.2.1]
      repeat (first | refine use_pure (hOn _ _) fun _ => ?_ | refine use_pure (hNv _ _) fun _ => ?_ | refine use_pure (hNo _ _) fun _ => ?_ | refine use_pure (hIn _ _) fun _ => ?_ | simp (implicitDefEqProofs := false) (disch := omega) only [WPs, opds, List.all_cons, List.all_nil, List.cons_append, List.nil_append, cond_true, cond_false, eq_self, List.map_cons, List.map_nil, Nat.reduceAdd, Nat.testBit, Nat.reduceShiftRight, Nat.reduceAnd, Nat.reduceBNe, Nat.reduceMul, hc.one, cells_of_one hc.one, hc.len, hc.bel, STs, Bool.not_true, Bool.not_false, nameB_t nv, decide_eq_false hi])
    by_cases g3 : c.len ≤ 16
    case neg =>
      rw [validB_f fun h => g3 ((valid_2 hk).1 h).2.2.2.2.1]
      repeat (first | refine use_pure (hOn _ _) fun _ => ?_ | refine use_pure (hNv _ _) fun _ => ?_ | refine use_pure (hNo _ _) fun _ => ?_ | refine use_pure (hIn _ _) fun _ => ?_ | simp (implicitDefEqProofs := false) (disch := omega) only [WPs, opds, List.all_cons, List.all_nil, List.cons_append, List.nil_append, cond_true, cond_false, eq_self, List.map_cons, List.map_nil, Nat.reduceAdd, Nat.testBit, Nat.reduceShiftRight, Nat.reduceAnd, Nat.reduceBNe, Nat.reduceMul, hc.one, cells_of_one hc.one, hc.len, hc.bel, STs, Bool.not_true, Bool.not_false, nameB_t nv, decide_eq_true hi])
    by_cases g4 : (c.data.length : Int) = c.len
    case neg =>
      rw [validB_f fun h => g4 ((valid_2 hk).1 h).2.2.2.2.2]
      repeat (first | refine use_pure (hOn _ _) fun _ => ?_ | refine use_pure (hNv _ _) fun _ => ?_ | refine use_pure (hNo _ _) fun _ => ?_ | refine use_pure (hIn _ _) fun _ => ?_ | simp (implicitDefEqProofs := false) (disch := omega) only [WPs, opds, List.all_cons, List.all_nil, List.cons_append, List.nil_append, cond_true, cond_false, eq_self, List.map_cons, List.map_nil, Nat.reduceAdd, Nat.testBit, Nat.reduceShiftRight, Nat.reduceAnd, Nat.reduceBNe, Nat.reduceMul, hc.one, cells_of_one hc.one, hc.len, hc.bel, STs, Bool.not_true, Bool.not_false, nameB_t nv, decide_eq_true hi])
    rw [vs_2 hh hk nv hi g3 g4]
    repeat (first | refine use_pure (hOn _ _) fun _ => ?_ | refine use_pure (hNv _ _) fun _ => ?_ | refine use_pure (hNo _ _) fun _ => ?_ | refine use_pure (hIn _ _) fun _ => ?_ | simp (implicitDefEqProofs := false) (disch := omega) only [WPs, opds, List.all_cons, List.all_nil, List.cons_append, List.nil_append, cond_true, cond_false, eq_self, List.map_cons, List.map_nil, Nat.reduceAdd, Nat.testBit, Nat.reduceShiftRight, Nat.reduceAnd, Nat.reduceBNe, Nat.reduceMul, hc.one, cells_of_one hc.one, hc.len, hc.bel, STs, Bool.not_true, Bool.not_false, nameB_t nv, decide_eq_true hi])
    refine use_pure (same_spec hS _ _ c (used2 c) d d (hc.frame (by omega) fun b hb => by simp (implicitDefEqProofs := false) (disch := omega) only [WPs, opds, List.all_cons, List.all_nil, List.cons_append, List.nil_append, cond_true, cond_false, eq_self, List.map_cons, List.map_nil, Nat.reduceAdd, Nat.testBit, Nat.reduceShiftRight, Nat.reduceAnd, Nat.reduceBNe, Nat.reduceMul]) (hc.frame (by omega) fun b hb => by simp (implicitDefEqProofs := false) (disch := omega) only [WPs, opds, List.all_cons, List.all_nil, List.cons_append, List.nil_append, cond_true, cond_false, eq_self, List.map_cons, List.map_nil, Nat.reduceAdd, Nat.testBit, Nat.reduceShiftRight, Nat.reduceAnd, Nat.reduceBNe, Nat.reduceMul]) f8 f8) fun _ => ?_
    repeat (first | refine use_pure (hOn _ _) fun _ => ?_ | refine use_pure (hNv _ _) fun _ => ?_ | refine use_pure (hNo _ _) fun _ => ?_ | refine use_pure (hIn _ _) fun _ => ?_ | simp (implicitDefEqProofs := false) (disch := omega) only [WPs, opds, List.all_cons, List.all_nil, List.cons_append, List.nil_append, cond_true, cond_false, eq_self, List.map_cons, List.map_nil, Nat.reduceAdd, Nat.testBit, Nat.reduceShiftRight, Nat.reduceAnd, Nat.reduceBNe, Nat.reduceMul, hc.one, cells_of_one hc.one, hc.len, hc.bel, STs, Bool.not_true, Bool.not_false, nameB_t nv, decide_eq_true hi])
end Go.Am.C41
namespace Go.Am.C41
open Go Go.Am
variable {E : Nat → Option AFn} {Y : Nat → List Value → FM → Nat → OR FM}
set_option maxHeartbeats 8000000 in
theorem cmdValid_3 (hE : E 30 = some ac30) (hN : E 52 = some ac52) (hT : Trims E Y) (hI : E 53 = some ac53) (hO : E 51 = some ac51) (hS : E 54 = some ac54) (m : FM) (n : Nat) (c : Cmd) (d : Value) (hF : c.Fit) (hc : DatV m n d c.data) (hh : HeadP c) (hk : c.kind = 3) :
    Pure (callW PG E Y 30 [cmdV c d] m n) m n (.bool (validB c)) := by
  obtain ⟨f1, f2, f3, f4, f5, f6, f7, f8⟩ := hF
  have hNv : ∀ m n, Pure (callW PG E Y 52 [.string c.vol] m n) m n (.bool (nameB c.vol)) := fun m n => name_spec hN hT m n _ f6
  have hNo : ∀ m n, Pure (callW PG E Y 52 [.string c.oth] m n) m n (.bool (nameB c.oth)) := fun m n => name_spec hN hT m n _ f7
  have hIn : ∀ m n, Pure (callW PG E Y 53 [.int .i64 c.at_, .int .i64 c.len] m n) m n (.bool (decide (insideP c.at_ c.len))) := fun m n => inside_spec hI m n _ _ f4 f5
  have hOn : ∀ m n, Pure (callW PG E Y 51 [cmdV c d] m n) m n (.agg #[.int .i64 c.tag, .int .i64 c.kind, .int .i64 c.ord, .bool false, .string ⟨#[]⟩, .string ⟨#[]⟩, .int .i64 0, .int .i64 0, .slice none 0 0]) := fun m n => only_spec hO m n c d hc.one
  clear f1 f2 f3 f4 f5 f6 f7
  refine pure_spec hE rfl rfl ?_
  simp only [ac30, cmdV]
  rcases hh.2.2 with t4 | t4
  all_goals
    have t1 := hh.1
    have t2 := hh.2.1
    by_cases nv : NameP c.vol
    case neg =>
      rw [validB_f fun h => nv ((valid_3 hk).1 h).2.1]
      repeat (first | refine use_pure (hOn _ _) fun _ => ?_ | refine use_pure (hNv _ _) fun _ => ?_ | refine use_pure (hNo _ _) fun _ => ?_ | refine use_pure (hIn _ _) fun _ => ?_ | simp (implicitDefEqProofs := false) (disch := omega) only [WPs, opds, List.all_cons, List.all_nil, List.cons_append, List.nil_append, cond_true, cond_false, eq_self, List.map_cons, List.map_nil, Nat.reduceAdd, Nat.testBit, Nat.reduceShiftRight, Nat.reduceAnd, Nat.reduceBNe, Nat.reduceMul, hc.one, hc.len, hc.bel, STs, Bool.not_true, Bool.not_false, nameB_f nv])
    by_cases hi : insideP c.at_ c.len
    case neg =>
      rw [validB_f fun h => hi ((valid_3 hk).1 h).2.2.2.2]
      repeat (first | refine use_pure (hOn _ _) fun _ => ?_ | refine use_pure (hNv _ _) fun _ => ?_ | refine use_pure (hNo _ _) fun _ => ?_ | refine use_pure (hIn _ _) fun _ => ?_ | simp (implicitDefEqProofs := false) (disch := omega) only [WPs, opds, List.all_cons, List.all_nil, List.cons_append, List.nil_append, cond_true, cond_false, eq_self, List.map_cons, List.map_nil, Nat.reduceAdd, Nat.testBit, Nat.reduceShiftRight, Nat.reduceAnd, Nat.reduceBNe, Nat.reduceMul, hc.one, hc.len, hc.bel, STs, Bool.not_true, Bool.not_false, nameB_t nv, decide_eq_false hi])
    rw [vs_3 hh hk nv hi]
    repeat (first | refine use_pure (hOn _ _) fun _ => ?_ | refine use_pure (hNv _ _) fun _ => ?_ | refine use_pure (hNo _ _) fun _ => ?_ | refine use_pure (hIn _ _) fun _ => ?_ | simp (implicitDefEqProofs := false) (disch := omega) only [WPs, opds, List.all_cons, List.all_nil, List.cons_append, List.nil_append, cond_true, cond_false, eq_self, List.map_cons, List.map_nil, Nat.reduceAdd, Nat.testBit, Nat.reduceShiftRight, Nat.reduceAnd, Nat.reduceBNe, Nat.reduceMul, hc.one, hc.len, hc.bel, STs, Bool.not_true, Bool.not_false, nameB_t nv, decide_eq_true hi])
    refine use_pure (same_spec hS _ _ c (used3 c) d (.slice none 0 0) (hc.frame (by omega) fun b hb => by simp (implicitDefEqProofs := false) (disch := omega) only [WPs, opds, List.all_cons, List.all_nil, List.cons_append, List.nil_append, cond_true, cond_false, eq_self, List.map_cons, List.map_nil, Nat.reduceAdd, Nat.testBit, Nat.reduceShiftRight, Nat.reduceAnd, Nat.reduceBNe, Nat.reduceMul]) (DatV.nil _ _) f8 (Nat.zero_le _)) fun _ => ?_
    repeat (first | refine use_pure (hOn _ _) fun _ => ?_ | refine use_pure (hNv _ _) fun _ => ?_ | refine use_pure (hNo _ _) fun _ => ?_ | refine use_pure (hIn _ _) fun _ => ?_ | simp (implicitDefEqProofs := false) (disch := omega) only [WPs, opds, List.all_cons, List.all_nil, List.cons_append, List.nil_append, cond_true, cond_false, eq_self, List.map_cons, List.map_nil, Nat.reduceAdd, Nat.testBit, Nat.reduceShiftRight, Nat.reduceAnd, Nat.reduceBNe, Nat.reduceMul, hc.one, hc.len, hc.bel, STs, Bool.not_true, Bool.not_false, nameB_t nv, decide_eq_true hi])
set_option maxHeartbeats 8000000 in
theorem cmdValid_4 (hE : E 30 = some ac30) (hN : E 52 = some ac52) (hT : Trims E Y) (hI : E 53 = some ac53) (hO : E 51 = some ac51) (hS : E 54 = some ac54) (m : FM) (n : Nat) (c : Cmd) (d : Value) (hF : c.Fit) (hc : DatV m n d c.data) (hh : HeadP c) (hk : c.kind = 4) :
    Pure (callW PG E Y 30 [cmdV c d] m n) m n (.bool (validB c)) := by
  obtain ⟨f1, f2, f3, f4, f5, f6, f7, f8⟩ := hF
  have hNv : ∀ m n, Pure (callW PG E Y 52 [.string c.vol] m n) m n (.bool (nameB c.vol)) := fun m n => name_spec hN hT m n _ f6
  have hNo : ∀ m n, Pure (callW PG E Y 52 [.string c.oth] m n) m n (.bool (nameB c.oth)) := fun m n => name_spec hN hT m n _ f7
  have hIn : ∀ m n, Pure (callW PG E Y 53 [.int .i64 c.at_, .int .i64 c.len] m n) m n (.bool (decide (insideP c.at_ c.len))) := fun m n => inside_spec hI m n _ _ f4 f5
  have hOn : ∀ m n, Pure (callW PG E Y 51 [cmdV c d] m n) m n (.agg #[.int .i64 c.tag, .int .i64 c.kind, .int .i64 c.ord, .bool false, .string ⟨#[]⟩, .string ⟨#[]⟩, .int .i64 0, .int .i64 0, .slice none 0 0]) := fun m n => only_spec hO m n c d hc.one
  clear f1 f2 f3 f4 f5 f6 f7
  refine pure_spec hE rfl rfl ?_
  simp only [ac30, cmdV]
  rcases hh.2.2 with t4 | t4
  all_goals
    have t1 := hh.1
    have t2 := hh.2.1
    by_cases hv : c.vol = ⟨#[]⟩
    case neg =>
      rw [validB_f fun h => hv ((valid_4 hk).1 h).2.1]
      repeat (first | refine use_pure (hOn _ _) fun _ => ?_ | refine use_pure (hNv _ _) fun _ => ?_ | refine use_pure (hNo _ _) fun _ => ?_ | refine use_pure (hIn _ _) fun _ => ?_ | simp (implicitDefEqProofs := false) (disch := omega) only [WPs, opds, List.all_cons, List.all_nil, List.cons_append, List.nil_append, cond_true, cond_false, eq_self, List.map_cons, List.map_nil, Nat.reduceAdd, Nat.testBit, Nat.reduceShiftRight, Nat.reduceAnd, Nat.reduceBNe, Nat.reduceMul, hc.one, hc.len, hc.bel, STs, Bool.not_true, Bool.not_false, decide_eq_false hv])
    rw [vs_4 hh hk hv]
    repeat (first | refine use_pure (hOn _ _) fun _ => ?_ | refine use_pure (hNv _ _) fun _ => ?_ | refine use_pure (hNo _ _) fun _ => ?_ | refine use_pure (hIn _ _) fun _ => ?_ | simp (implicitDefEqProofs := false) (disch := omega) only [WPs, opds, List.all_cons, List.all_nil, List.cons_append, List.nil_append, cond_true, cond_false, eq_self, List.map_cons, List.map_nil, Nat.reduceAdd, Nat.testBit, Nat.reduceShiftRight, Nat.reduceAnd, Nat.reduceBNe, Nat.reduceMul, hc.one, hc.len, hc.bel, STs, Bool.not_true, Bool.not_false, decide_eq_true hv])
    refine use_pure (same_spec hS _ _ c (used4 c) d (.slice none 0 0) (hc.frame (by omega) fun b hb => by simp (implicitDefEqProofs := false) (disch := omega) only [WPs, opds, List.all_cons, List.all_nil, List.cons_append, List.nil_append, cond_true, cond_false, eq_self, List.map_cons, List.map_nil, Nat.reduceAdd, Nat.testBit, Nat.reduceShiftRight, Nat.reduceAnd, Nat.reduceBNe, Nat.reduceMul]) (DatV.nil _ _) f8 (Nat.zero_le _)) fun _ => ?_
    repeat (first | refine use_pure (hOn _ _) fun _ => ?_ | refine use_pure (hNv _ _) fun _ => ?_ | refine use_pure (hNo _ _) fun _ => ?_ | refine use_pure (hIn _ _) fun _ => ?_ | simp (implicitDefEqProofs := false) (disch := omega) only [WPs, opds, List.all_cons, List.all_nil, List.cons_append, List.nil_append, cond_true, cond_false, eq_self, List.map_cons, List.map_nil, Nat.reduceAdd, Nat.testBit, Nat.reduceShiftRight, Nat.reduceAnd, Nat.reduceBNe, Nat.reduceMul, hc.one, hc.len, hc.bel, STs, Bool.not_true, Bool.not_false, decide_eq_true hv])
end Go.Am.C41
namespace Go.Am.C41
open Go Go.Am
variable {E : Nat → Option AFn} {Y : Nat → List Value → FM → Nat → OR FM}
set_option maxHeartbeats 8000000 in
theorem cmdValid_5 (hE : E 30 = some ac30) (hN : E 52 = some ac52) (hT : Trims E Y) (hI : E 53 = some ac53) (hO : E 51 = some ac51) (hS : E 54 = some ac54) (m : FM) (n : Nat) (c : Cmd) (d : Value) (hF : c.Fit) (hc : DatV m n d c.data) (hh : HeadP c) (hk : c.kind = 5) :
    Pure (callW PG E Y 30 [cmdV c d] m n) m n (.bool (validB c)) := by
  obtain ⟨f1, f2, f3, f4, f5, f6, f7, f8⟩ := hF
  have hNv : ∀ m n, Pure (callW PG E Y 52 [.string c.vol] m n) m n (.bool (nameB c.vol)) := fun m n => name_spec hN hT m n _ f6
  have hNo : ∀ m n, Pure (callW PG E Y 52 [.string c.oth] m n) m n (.bool (nameB c.oth)) := fun m n => name_spec hN hT m n _ f7
  have hIn : ∀ m n, Pure (callW PG E Y 53 [.int .i64 c.at_, .int .i64 c.len] m n) m n (.bool (decide (insideP c.at_ c.len))) := fun m n => inside_spec hI m n _ _ f4 f5
  have hOn : ∀ m n, Pure (callW PG E Y 51 [cmdV c d] m n) m n (.agg #[.int .i64 c.tag, .int .i64 c.kind, .int .i64 c.ord, .bool false, .string ⟨#[]⟩, .string ⟨#[]⟩, .int .i64 0, .int .i64 0, .slice none 0 0]) := fun m n => only_spec hO m n c d hc.one
  clear f1 f2 f3 f4 f5 f6 f7
  refine pure_spec hE rfl rfl ?_
  simp only [ac30, cmdV]
  rcases hh.2.2 with t4 | t4
  all_goals
    have t1 := hh.1
    have t2 := hh.2.1
    by_cases nv : NameP c.vol
    case neg =>
      rw [validB_f fun h => nv ((valid_5 hk).1 h).2.1]
      repeat (first | refine use_pure (hOn _ _) fun _ => ?_ | refine use_pure (hNv _ _) fun _ => ?_ | refine use_pure (hNo _ _) fun _ => ?_ | refine use_pure (hIn _ _) fun _ => ?_ | simp (implicitDefEqProofs := false) (disch := omega) only [WPs, opds, List.all_cons, List.all_nil, List.cons_append, List.nil_append, cond_true, cond_false, eq_self, List.map_cons, List.map_nil, Nat.reduceAdd, Nat.testBit, Nat.reduceShiftRight, Nat.reduceAnd, Nat.reduceBNe, Nat.reduceMul, hc.one, hc.len, hc.bel, STs, Bool.not_true, Bool.not_false, nameB_f nv])
    by_cases g4 : 1 ≤ c.len
    case neg =>
      rw [validB_f fun h => g4 ((valid_5 hk).1 h).2.2.2.2.2.1]
      repeat (first | refine use_pure (hOn _ _) fun _ => ?_ | refine use_pure (hNv _ _) fun _ => ?_ | refine use_pure (hNo _ _) fun _ => ?_ | refine use_pure (hIn _ _) fun _ => ?_ | simp (implicitDefEqProofs := false) (disch := omega) only [WPs, opds, List.all_cons, List.all_nil, List.cons_append, List.nil_append, cond_true, cond_false, eq_self, List.map_cons, List.map_nil, Nat.reduceAdd, Nat.testBit, Nat.reduceShiftRight, Nat.reduceAnd, Nat.reduceBNe, Nat.reduceMul, hc.one, hc.len, hc.bel, STs, Bool.not_true, Bool.not_false, nameB_t nv])
    by_cases g5 : c.len ≤ 65536
    case neg =>
      rw [validB_f fun h => g5 ((valid_5 hk).1 h).2.2.2.2.2.2.1]
      repeat (first | refine use_pure (hOn _ _) fun _ => ?_ | refine use_pure (hNv _ _) fun _ => ?_ | refine use_pure (hNo _ _) fun _ => ?_ | refine use_pure (hIn _ _) fun _ => ?_ | simp (implicitDefEqProofs := false) (disch := omega) only [WPs, opds, List.all_cons, List.all_nil, List.cons_append, List.nil_append, cond_true, cond_false, eq_self, List.map_cons, List.map_nil, Nat.reduceAdd, Nat.testBit, Nat.reduceShiftRight, Nat.reduceAnd, Nat.reduceBNe, Nat.reduceMul, hc.one, hc.len, hc.bel, STs, Bool.not_true, Bool.not_false, nameB_t nv])
    by_cases g6 : 0 ≤ c.at_
    case neg =>
      rw [validB_f fun h => g6 ((valid_5 hk).1 h).2.2.2.2.2.2.2.1]
      repeat (first | refine use_pure (hOn _ _) fun _ => ?_ | refine use_pure (hNv _ _) fun _ => ?_ | refine use_pure (hNo _ _) fun _ => ?_ | refine use_pure (hIn _ _) fun _ => ?_ | simp (implicitDefEqProofs := false) (disch := omega) only [WPs, opds, List.all_cons, List.all_nil, List.cons_append, List.nil_append, cond_true, cond_false, eq_self, List.map_cons, List.map_nil, Nat.reduceAdd, Nat.testBit, Nat.reduceShiftRight, Nat.reduceAnd, Nat.reduceBNe, Nat.reduceMul, hc.one, hc.len, hc.bel, STs, Bool.not_true, Bool.not_false, nameB_t nv])
    by_cases g7 : c.at_ ≤ c.len
    case neg =>
      rw [validB_f fun h => g7 ((valid_5 hk).1 h).2.2.2.2.2.2.2.2]
      repeat (first | refine use_pure (hOn _ _) fun _ => ?_ | refine use_pure (hNv _ _) fun _ => ?_ | refine use_pure (hNo _ _) fun _ => ?_ | refine use_pure (hIn _ _) fun _ => ?_ | simp (implicitDefEqProofs := false) (disch := omega) only [WPs, opds, List.all_cons, List.all_nil, List.cons_append, List.nil_append, cond_true, cond_false, eq_self, List.map_cons, List.map_nil, Nat.reduceAdd, Nat.testBit, Nat.reduceShiftRight, Nat.reduceAnd, Nat.reduceBNe, Nat.reduceMul, hc.one, hc.len, hc.bel, STs, Bool.not_true, Bool.not_false, nameB_t nv])
    rw [vs_5 hh hk nv g4 g5 g6 g7]
    repeat (first | refine use_pure (hOn _ _) fun _ => ?_ | refine use_pure (hNv _ _) fun _ => ?_ | refine use_pure (hNo _ _) fun _ => ?_ | refine use_pure (hIn _ _) fun _ => ?_ | simp (implicitDefEqProofs := false) (disch := omega) only [WPs, opds, List.all_cons, List.all_nil, List.cons_append, List.nil_append, cond_true, cond_false, eq_self, List.map_cons, List.map_nil, Nat.reduceAdd, Nat.testBit, Nat.reduceShiftRight, Nat.reduceAnd, Nat.reduceBNe, Nat.reduceMul, hc.one, hc.len, hc.bel, STs, Bool.not_true, Bool.not_false, nameB_t nv])
    refine use_pure (same_spec hS _ _ c (used5 c) d (.slice none 0 0) (hc.frame (by omega) fun b hb => by simp (implicitDefEqProofs := false) (disch := omega) only [WPs, opds, List.all_cons, List.all_nil, List.cons_append, List.nil_append, cond_true, cond_false, eq_self, List.map_cons, List.map_nil, Nat.reduceAdd, Nat.testBit, Nat.reduceShiftRight, Nat.reduceAnd, Nat.reduceBNe, Nat.reduceMul]) (DatV.nil _ _) f8 (Nat.zero_le _)) fun _ => ?_
    repeat (first | refine use_pure (hOn _ _) fun _ => ?_ | refine use_pure (hNv _ _) fun _ => ?_ | refine use_pure (hNo _ _) fun _ => ?_ | refine use_pure (hIn _ _) fun _ => ?_ | simp (implicitDefEqProofs := false) (disch := omega) only [WPs, opds, List.all_cons, List.all_nil, List.cons_append, List.nil_append, cond_true, cond_false, eq_self, List.map_cons, List.map_nil, Nat.reduceAdd, Nat.testBit, Nat.reduceShiftRight, Nat.reduceAnd, Nat.reduceBNe, Nat.reduceMul, hc.one, hc.len, hc.bel, STs, Bool.not_true, Bool.not_false, nameB_t nv])
end Go.Am.C41
namespace Go.Am.C41
open Go Go.Am
variable {E : Nat → Option AFn} {Y : Nat → List Value → FM → Nat → OR FM}
set_option maxHeartbeats 8000000 in
theorem cmdValid_6 (hE : E 30 = some ac30) (hN : E 52 = some ac52) (hT : Trims E Y) (hI : E 53 = some ac53) (hO : E 51 = some ac51) (hS : E 54 = some ac54) (m : FM) (n : Nat) (c : Cmd) (d : Value) (hF : c.Fit) (hc : DatV m n d c.data) (hh : HeadP c) (hk : c.kind = 6) :
    Pure (callW PG E Y 30 [cmdV c d] m n) m n (.bool (validB c)) := by
  obtain ⟨f1, f2, f3, f4, f5, f6, f7, f8⟩ := hF
  have hNv : ∀ m n, Pure (callW PG E Y 52 [.string c.vol] m n) m n (.bool (nameB c.vol)) := fun m n => name_spec hN hT m n _ f6
  have hNo : ∀ m n, Pure (callW PG E Y 52 [.string c.oth] m n) m n (.bool (nameB c.oth)) := fun m n => name_spec hN hT m n _ f7
  have hIn : ∀ m n, Pure (callW PG E Y 53 [.int .i64 c.at_, .int .i64 c.len] m n) m n (.bool (decide (insideP c.at_ c.len))) := fun m n => inside_spec hI m n _ _ f4 f5
  have hOn : ∀ m n, Pure (callW PG E Y 51 [cmdV c d] m n) m n (.agg #[.int .i64 c.tag, .int .i64 c.kind, .int .i64 c.ord, .bool false, .string ⟨#[]⟩, .string ⟨#[]⟩, .int .i64 0, .int .i64 0, .slice none 0 0]) := fun m n => only_spec hO m n c d hc.one
  clear f1 f2 f3 f4 f5 f6 f7
  refine pure_spec hE rfl rfl ?_
  simp only [ac30, cmdV]
  rcases hh.2.2 with t4 | t4
  all_goals
    have t1 := hh.1
    have t2 := hh.2.1
    by_cases nv : NameP c.vol
    case neg =>
      rw [validB_f fun h => nv ((valid_6 hk).1 h).2.1]
      repeat (first | refine use_pure (hOn _ _) fun _ => ?_ | refine use_pure (hNv _ _) fun _ => ?_ | refine use_pure (hNo _ _) fun _ => ?_ | refine use_pure (hIn _ _) fun _ => ?_ | simp (implicitDefEqProofs := false) (disch := omega) only [WPs, opds, List.all_cons, List.all_nil, List.cons_append, List.nil_append, cond_true, cond_false, eq_self, List.map_cons, List.map_nil, Nat.reduceAdd, Nat.testBit, Nat.reduceShiftRight, Nat.reduceAnd, Nat.reduceBNe, Nat.reduceMul, hc.one, hc.len, hc.bel, STs, Bool.not_true, Bool.not_false, nameB_f nv])
    by_cases nq : NameP c.oth
    case neg =>
      rw [validB_f fun h => nq ((valid_6 hk).1 h).2.2.1]
      repeat (first | refine use_pure (hOn _ _) fun _ => ?_ | refine use_pure (hNv _ _) fun _ => ?_ | refine use_pure (hNo _ _) fun _ => ?_ | refine use_pure (hIn _ _) fun _ => ?_ | simp (implicitDefEqProofs := false) (disch := omega) only [WPs, opds, List.all_cons, List.all_nil, List.cons_append, List.nil_append, cond_true, cond_false, eq_self, List.map_cons, List.map_nil, Nat.reduceAdd, Nat.testBit, Nat.reduceShiftRight, Nat.reduceAnd, Nat.reduceBNe, Nat.reduceMul, hc.one, hc.len, hc.bel, STs, Bool.not_true, Bool.not_false, nameB_t nv, nameB_f nq])
    by_cases hne : c.oth ≠ c.vol
    case neg =>
      rw [validB_f fun h => hne ((valid_6 hk).1 h).2.2.2.1]
      repeat (first | refine use_pure (hOn _ _) fun _ => ?_ | refine use_pure (hNv _ _) fun _ => ?_ | refine use_pure (hNo _ _) fun _ => ?_ | refine use_pure (hIn _ _) fun _ => ?_ | simp (implicitDefEqProofs := false) (disch := omega) only [WPs, opds, List.all_cons, List.all_nil, List.cons_append, List.nil_append, cond_true, cond_false, eq_self, List.map_cons, List.map_nil, Nat.reduceAdd, Nat.testBit, Nat.reduceShiftRight, Nat.reduceAnd, Nat.reduceBNe, Nat.reduceMul, hc.one, hc.len, hc.bel, STs, Bool.not_true, Bool.not_false, nameB_t nv, nameB_t nq, decide_eq_true (Classical.not_not.1 hne)])
    rw [vs_6 hh hk nv nq hne]
    repeat (first | refine use_pure (hOn _ _) fun _ => ?_ | refine use_pure (hNv _ _) fun _ => ?_ | refine use_pure (hNo _ _) fun _ => ?_ | refine use_pure (hIn _ _) fun _ => ?_ | simp (implicitDefEqProofs := false) (disch := omega) only [WPs, opds, List.all_cons, List.all_nil, List.cons_append, List.nil_append, cond_true, cond_false, eq_self, List.map_cons, List.map_nil, Nat.reduceAdd, Nat.testBit, Nat.reduceShiftRight, Nat.reduceAnd, Nat.reduceBNe, Nat.reduceMul, hc.one, hc.len, hc.bel, STs, Bool.not_true, Bool.not_false, nameB_t nv, nameB_t nq, decide_eq_false hne])
    refine use_pure (same_spec hS _ _ c (used6 c) d (.slice none 0 0) (hc.frame (by omega) fun b hb => by simp (implicitDefEqProofs := false) (disch := omega) only [WPs, opds, List.all_cons, List.all_nil, List.cons_append, List.nil_append, cond_true, cond_false, eq_self, List.map_cons, List.map_nil, Nat.reduceAdd, Nat.testBit, Nat.reduceShiftRight, Nat.reduceAnd, Nat.reduceBNe, Nat.reduceMul]) (DatV.nil _ _) f8 (Nat.zero_le _)) fun _ => ?_
    repeat (first | refine use_pure (hOn _ _) fun _ => ?_ | refine use_pure (hNv _ _) fun _ => ?_ | refine use_pure (hNo _ _) fun _ => ?_ | refine use_pure (hIn _ _) fun _ => ?_ | simp (implicitDefEqProofs := false) (disch := omega) only [WPs, opds, List.all_cons, List.all_nil, List.cons_append, List.nil_append, cond_true, cond_false, eq_self, List.map_cons, List.map_nil, Nat.reduceAdd, Nat.testBit, Nat.reduceShiftRight, Nat.reduceAnd, Nat.reduceBNe, Nat.reduceMul, hc.one, hc.len, hc.bel, STs, Bool.not_true, Bool.not_false, nameB_t nv, nameB_t nq, decide_eq_false hne])
end Go.Am.C41
namespace Go.Am.C41
open Go Go.Am
variable {E : Nat → Option AFn} {Y : Nat → List Value → FM → Nat → OR FM}
set_option maxHeartbeats 8000000 in
theorem cmdValid_7 (hE : E 30 = some ac30) (hN : E 52 = some ac52) (hT : Trims E Y) (hI : E 53 = some ac53) (hO : E 51 = some ac51) (hS : E 54 = some ac54) (m : FM) (n : Nat) (c : Cmd) (d : Value) (hF : c.Fit) (hc : DatV m n d c.data) (hh : HeadP c) (hk : c.kind = 7) :
    Pure (callW PG E Y 30 [cmdV c d] m n) m n (.bool (validB c)) := by
  obtain ⟨f1, f2, f3, f4, f5, f6, f7, f8⟩ := hF
  have hNv : ∀ m n, Pure (callW PG E Y 52 [.string c.vol] m n) m n (.bool (nameB c.vol)) := fun m n => name_spec hN hT m n _ f6
  have hNo : ∀ m n, Pure (callW PG E Y 52 [.string c.oth] m n) m n (.bool (nameB c.oth)) := fun m n => name_spec hN hT m n _ f7
  have hIn : ∀ m n, Pure (callW PG E Y 53 [.int .i64 c.at_, .int .i64 c.len] m n) m n (.bool (decide (insideP c.at_ c.len))) := fun m n => inside_spec hI m n _ _ f4 f5
  have hOn : ∀ m n, Pure (callW PG E Y 51 [cmdV c d] m n) m n (.agg #[.int .i64 c.tag, .int .i64 c.kind, .int .i64 c.ord, .bool false, .string ⟨#[]⟩, .string ⟨#[]⟩, .int .i64 0, .int .i64 0, .slice none 0 0]) := fun m n => only_spec hO m n c d hc.one
  clear f1 f2 f3 f4 f5 f6 f7
  refine pure_spec hE rfl rfl ?_
  simp only [ac30, cmdV]
  rcases hh.2.2 with t4 | t4
  all_goals
    have t1 := hh.1
    have t2 := hh.2.1
    by_cases nv : NameP c.vol
    case neg =>
      rw [validB_f fun h => nv ((valid_7 hk).1 h).2.1]
      repeat (first | refine use_pure (hOn _ _) fun _ => ?_ | refine use_pure (hNv _ _) fun _ => ?_ | refine use_pure (hNo _ _) fun _ => ?_ | refine use_pure (hIn _ _) fun _ => ?_ | simp (implicitDefEqProofs := false) (disch := omega) only [WPs, opds, List.all_cons, List.all_nil, List.cons_append, List.nil_append, cond_true, cond_false, eq_self, List.map_cons, List.map_nil, Nat.reduceAdd, Nat.testBit, Nat.reduceShiftRight, Nat.reduceAnd, Nat.reduceBNe, Nat.reduceMul, hc.one, hc.len, hc.bel, STs, Bool.not_true, Bool.not_false, nameB_f nv])
    rw [vs_7 hh hk nv]
    repeat (first | refine use_pure (hOn _ _) fun _ => ?_ | refine use_pure (hNv _ _) fun _ => ?_ | refine use_pure (hNo _ _) fun _ => ?_ | refine use_pure (hIn _ _) fun _ => ?_ | simp (implicitDefEqProofs := false) (disch := omega) only [WPs, opds, List.all_cons, List.all_nil, List.cons_append, List.nil_append, cond_true, cond_false, eq_self, List.map_cons, List.map_nil, Nat.reduceAdd, Nat.testBit, Nat.reduceShiftRight, Nat.reduceAnd, Nat.reduceBNe, Nat.reduceMul, hc.one, hc.len, hc.bel, STs, Bool.not_true, Bool.not_false, nameB_t nv])
    refine use_pure (same_spec hS _ _ c (used7 c) d (.slice none 0 0) (hc.frame (by omega) fun b hb => by simp (implicitDefEqProofs := false) (disch := omega) only [WPs, opds, List.all_cons, List.all_nil, List.cons_append, List.nil_append, cond_true, cond_false, eq_self, List.map_cons, List.map_nil, Nat.reduceAdd, Nat.testBit, Nat.reduceShiftRight, Nat.reduceAnd, Nat.reduceBNe, Nat.reduceMul]) (DatV.nil _ _) f8 (Nat.zero_le _)) fun _ => ?_
    repeat (first | refine use_pure (hOn _ _) fun _ => ?_ | refine use_pure (hNv _ _) fun _ => ?_ | refine use_pure (hNo _ _) fun _ => ?_ | refine use_pure (hIn _ _) fun _ => ?_ | simp (implicitDefEqProofs := false) (disch := omega) only [WPs, opds, List.all_cons, List.all_nil, List.cons_append, List.nil_append, cond_true, cond_false, eq_self, List.map_cons, List.map_nil, Nat.reduceAdd, Nat.testBit, Nat.reduceShiftRight, Nat.reduceAnd, Nat.reduceBNe, Nat.reduceMul, hc.one, hc.len, hc.bel, STs, Bool.not_true, Bool.not_false, nameB_t nv])
set_option maxHeartbeats 8000000 in
theorem cmdValid_x (hE : E 30 = some ac30) (hN : E 52 = some ac52) (hT : Trims E Y) (hI : E 53 = some ac53) (hO : E 51 = some ac51) (hS : E 54 = some ac54) (m : FM) (n : Nat) (c : Cmd) (d : Value) (hF : c.Fit) (hc : DatV m n d c.data) (hh : HeadP c) (hk : ¬ (1 ≤ c.kind ∧ c.kind ≤ 7)) :
    Pure (callW PG E Y 30 [cmdV c d] m n) m n (.bool (validB c)) := by
  obtain ⟨f1, f2, f3, f4, f5, f6, f7, f8⟩ := hF
  have hNv : ∀ m n, Pure (callW PG E Y 52 [.string c.vol] m n) m n (.bool (nameB c.vol)) := fun m n => name_spec hN hT m n _ f6
  have hNo : ∀ m n, Pure (callW PG E Y 52 [.string c.oth] m n) m n (.bool (nameB c.oth)) := fun m n => name_spec hN hT m n _ f7
  have hIn : ∀ m n, Pure (callW PG E Y 53 [.int .i64 c.at_, .int .i64 c.len] m n) m n (.bool (decide (insideP c.at_ c.len))) := fun m n => inside_spec hI m n _ _ f4 f5
  have hOn : ∀ m n, Pure (callW PG E Y 51 [cmdV c d] m n) m n (.agg #[.int .i64 c.tag, .int .i64 c.kind, .int .i64 c.ord, .bool false, .string ⟨#[]⟩, .string ⟨#[]⟩, .int .i64 0, .int .i64 0, .slice none 0 0]) := fun m n => only_spec hO m n c d hc.one
  clear f1 f2 f3 f4 f5 f6 f7
  refine pure_spec hE rfl rfl ?_
  simp only [ac30, cmdV]
  rcases hh.2.2 with t4 | t4
  all_goals
    have t1 := hh.1
    have t2 := hh.2.1
    rw [validB_f (valid_x hk)]
    repeat (first | refine use_pure (hOn _ _) fun _ => ?_ | refine use_pure (hNv _ _) fun _ => ?_ | refine use_pure (hNo _ _) fun _ => ?_ | refine use_pure (hIn _ _) fun _ => ?_ | simp (implicitDefEqProofs := false) (disch := omega) only [WPs, opds, List.all_cons, List.all_nil, List.cons_append, List.nil_append, cond_true, cond_false, eq_self, List.map_cons, List.map_nil, Nat.reduceAdd, Nat.testBit, Nat.reduceShiftRight, Nat.reduceAnd, Nat.reduceBNe, Nat.reduceMul, hc.one, hc.len, hc.bel, STs, Bool.not_true, Bool.not_false])
end Go.Am.C41
namespace Go.Am.C41
open Go Go.Am
variable {E : Nat → Option AFn} {Y : Nat → List Value → FM → Nat → OR FM}
set_option maxHeartbeats 8000000 in
theorem cmdValid_spec (hE : E 30 = some ac30) (hN : E 52 = some ac52) (hT : Trims E Y) (hI : E 53 = some ac53) (hO : E 51 = some ac51) (hS : E 54 = some ac54) (m : FM) (n : Nat) (c : Cmd) (d : Value) (hF : c.Fit) (hc : DatV m n d c.data) :
    Pure (callW PG E Y 30 [cmdV c d] m n) m n (.bool (validB c)) := by
  by_cases hh : HeadP c
  case pos =>
    by_cases k1 : c.kind = 1
    · exact cmdValid_1 hE hN hT hI hO hS m n c d hF hc hh k1
    by_cases k2 : c.kind = 2
    · exact cmdValid_2 hE hN hT hI hO hS m n c d hF hc hh k2
    by_cases k3 : c.kind = 3
    · exact cmdValid_3 hE hN hT hI hO hS m n c d hF hc hh k3
    by_cases k4 : c.kind = 4
    · exact cmdValid_4 hE hN hT hI hO hS m n c d hF hc hh k4
    by_cases k5 : c.kind = 5
    · exact cmdValid_5 hE hN hT hI hO hS m n c d hF hc hh k5
    by_cases k6 : c.kind = 6
    · exact cmdValid_6 hE hN hT hI hO hS m n c d hF hc hh k6
    by_cases k7 : c.kind = 7
    · exact cmdValid_7 hE hN hT hI hO hS m n c d hF hc hh k7
    exact cmdValid_x hE hN hT hI hO hS m n c d hF hc hh (by omega)
  obtain ⟨f1, f2, f3, f4, f5, f6, f7, f8⟩ := hF
  have hNv : ∀ m n, Pure (callW PG E Y 52 [.string c.vol] m n) m n (.bool (nameB c.vol)) := fun m n => name_spec hN hT m n _ f6
  have hNo : ∀ m n, Pure (callW PG E Y 52 [.string c.oth] m n) m n (.bool (nameB c.oth)) := fun m n => name_spec hN hT m n _ f7
  have hIn : ∀ m n, Pure (callW PG E Y 53 [.int .i64 c.at_, .int .i64 c.len] m n) m n (.bool (decide (insideP c.at_ c.len))) := fun m n => inside_spec hI m n _ _ f4 f5
  have hOn : ∀ m n, Pure (callW PG E Y 51 [cmdV c d] m n) m n (.agg #[.int .i64 c.tag, .int .i64 c.kind, .int .i64 c.ord, .bool false, .string ⟨#[]⟩, .string ⟨#[]⟩, .int .i64 0, .int .i64 0, .slice none 0 0]) := fun m n => only_spec hO m n c d hc.one
  clear f1 f2 f3 f4 f5 f6 f7
  refine pure_spec hE rfl rfl ?_
  simp only [ac30, cmdV]
  rw [validB_f fun h => hh h.1]
  by_cases t1 : c.tag < 0
  case pos =>
    repeat (first | refine use_pure (hOn _ _) fun _ => ?_ | refine use_pure (hNv _ _) fun _ => ?_ | refine use_pure (hNo _ _) fun _ => ?_ | refine use_pure (hIn _ _) fun _ => ?_ | simp (implicitDefEqProofs := false) (disch := omega) only [WPs, opds, List.all_cons, List.all_nil, List.cons_append, List.nil_append, cond_true, cond_false, eq_self, List.map_cons, List.map_nil, Nat.reduceAdd, Nat.testBit, Nat.reduceShiftRight, Nat.reduceAnd, Nat.reduceBNe, Nat.reduceMul, hc.one, cells_of_one hc.one, hc.len, hc.bel, STs, Bool.not_true, Bool.not_false])
  by_cases t2 : 2147483647 < c.tag
  case pos =>
    repeat (first | refine use_pure (hOn _ _) fun _ => ?_ | refine use_pure (hNv _ _) fun _ => ?_ | refine use_pure (hNo _ _) fun _ => ?_ | refine use_pure (hIn _ _) fun _ => ?_ | simp (implicitDefEqProofs := false) (disch := omega) only [WPs, opds, List.all_cons, List.all_nil, List.cons_append, List.nil_append, cond_true, cond_false, eq_self, List.map_cons, List.map_nil, Nat.reduceAdd, Nat.testBit, Nat.reduceShiftRight, Nat.reduceAnd, Nat.reduceBNe, Nat.reduceMul, hc.one, cells_of_one hc.one, hc.len, hc.bel, STs, Bool.not_true, Bool.not_false])
  have t3 : ¬ (c.ord = 0 ∨ c.ord = 1) := fun h => hh ⟨by omega, by omega, h⟩
  repeat (first | refine use_pure (hOn _ _) fun _ => ?_ | refine use_pure (hNv _ _) fun _ => ?_ | refine use_pure (hNo _ _) fun _ => ?_ | refine use_pure (hIn _ _) fun _ => ?_ | simp (implicitDefEqProofs := false) (disch := omega) only [WPs, opds, List.all_cons, List.all_nil, List.cons_append, List.nil_append, cond_true, cond_false, eq_self, List.map_cons, List.map_nil, Nat.reduceAdd, Nat.testBit, Nat.reduceShiftRight, Nat.reduceAnd, Nat.reduceBNe, Nat.reduceMul, hc.one, cells_of_one hc.one, hc.len, hc.bel, STs, Bool.not_true, Bool.not_false])
end Go.Am.C41
namespace Go.Am.C41
open Go Go.Am
variable {E : Nat → Option AFn} {Y : Nat → List Value → FM → Nat → OR FM}
set_option maxHeartbeats 8000000 in
theorem refValid_1 (hE : E 23 = some ac23) (hN : E 47 = some ac47) (hI : E 48 = some ac48) (m : FM) (n : Nat) (c : Cmd) (d : Value) (hF : c.Fit) (hc : DatV m n d c.data) (hh : HeadP c) (hk : c.kind = 1) :
    Pure (callW PG E Y 23 [cmdV c d] m n) m n (.bool (validB c)) := by
  obtain ⟨f1, f2, f3, f4, f5, f6, f7, f8⟩ := hF
  have hNm : ∀ m n s, Pure (callW PG E Y 47 [.string s] m n) m n (.bool (nameB s)) := fun m n s => Name_spec hN m n s
  have hIn : ∀ m n, Pure (callW PG E Y 48 [.int .i64 c.at_, .int .i64 c.len] m n) m n (.bool (decide (insideP c.at_ c.len))) := fun m n => within_spec hI m n _ _ f4 f5
  clear f1 f2 f3 f4 f5 f6 f7 f8
  refine pure_spec hE rfl rfl ?_
  simp only [ac23, cmdV]
  rcases hh.2.2 with t4 | t4
  all_goals
    have t1 := hh.1
    have t2 := hh.2.1
    by_cases ho : c.oth = ⟨#[]⟩
    case neg =>
      by_cases nv : NameP c.vol
      case neg =>
        rw [validB_f fun h => nv ((valid_1 hk).1 h).2.1]
        repeat (first | refine use_pure (hNm _ _ _) fun _ => ?_ | refine use_pure (hIn _ _) fun _ => ?_ | simp (implicitDefEqProofs := false) (disch := omega) only [WPs, opds, List.all_cons, List.all_nil, List.cons_append, List.nil_append, cond_true, cond_false, eq_self, List.map_cons, List.map_nil, Nat.reduceAdd, Nat.testBit, Nat.reduceShiftRight, Nat.reduceAnd, Nat.reduceBNe, Nat.reduceMul, hc.one, hc.len, hc.bel, STs, Bool.not_true, Bool.not_false, decide_eq_false ho, nameB_f nv])
      rw [validB_f fun h => ho ((valid_1 hk).1 h).2.2.1]
      repeat (first | refine use_pure (hNm _ _ _) fun _ => ?_ | refine use_pure (hIn _ _) fun _ => ?_ | simp (implicitDefEqProofs := false) (disch := omega) only [WPs, opds, List.all_cons, List.all_nil, List.cons_append, List.nil_append, cond_true, cond_false, eq_self, List.map_cons, List.map_nil, Nat.reduceAdd, Nat.testBit, Nat.reduceShiftRight, Nat.reduceAnd, Nat.reduceBNe, Nat.reduceMul, hc.one, hc.len, hc.bel, STs, Bool.not_true, Bool.not_false, decide_eq_false ho, nameB_t nv])
    by_cases hd : c.data = []
    case neg =>
      have hdl : c.data.length ≠ 0 := fun h => hd (List.eq_nil_of_length_eq_zero h)
      by_cases nv : NameP c.vol
      case neg =>
        rw [validB_f fun h => nv ((valid_1 hk).1 h).2.1]
        repeat (first | refine use_pure (hNm _ _ _) fun _ => ?_ | refine use_pure (hIn _ _) fun _ => ?_ | simp (implicitDefEqProofs := false) (disch := omega) only [WPs, opds, List.all_cons, List.all_nil, List.cons_append, List.nil_append, cond_true, cond_false, eq_self, List.map_cons, List.map_nil, Nat.reduceAdd, Nat.testBit, Nat.reduceShiftRight, Nat.reduceAnd, Nat.reduceBNe, Nat.reduceMul, hc.one, hc.len, hc.bel, STs, Bool.not_true, Bool.not_false, decide_eq_true ho, nameB_f nv])
      rw [validB_f fun h => hd ((valid_1 hk).1 h).2.2.2.1]
      repeat (first | refine use_pure (hNm _ _ _) fun _ => ?_ | refine use_pure (hIn _ _) fun _ => ?_ | simp (implicitDefEqProofs := false) (disch := omega) only [WPs, opds, List.all_cons, List.all_nil, List.cons_append, List.nil_append, cond_true, cond_false, eq_self, List.map_cons, List.map_nil, Nat.reduceAdd, Nat.testBit, Nat.reduceShiftRight, Nat.reduceAnd, Nat.reduceBNe, Nat.reduceMul, hc.one, hc.len, hc.bel, STs, Bool.not_true, Bool.not_false, decide_eq_true ho, nameB_t nv])
    have hdl : c.data.length = 0 := by rw [hd]; rfl
    by_cases nv : NameP c.vol
    case neg =>
      rw [validB_f fun h => nv ((valid_1 hk).1 h).2.1]
      repeat (first | refine use_pure (hNm _ _ _) fun _ => ?_ | refine use_pure (hIn _ _) fun _ => ?_ | simp (implicitDefEqProofs := false) (disch := omega) only [WPs, opds, List.all_cons, List.all_nil, List.cons_append, List.nil_append, cond_true, cond_false, eq_self, List.map_cons, List.map_nil, Nat.reduceAdd, Nat.testBit, Nat.reduceShiftRight, Nat.reduceAnd, Nat.reduceBNe, Nat.reduceMul, hc.one, hc.len, hc.bel, STs, Bool.not_true, Bool.not_false, decide_eq_true ho, nameB_f nv])
    by_cases hf : c.force = false
    case neg =>
      have hf1 : c.force = true := by simpa using hf
      rw [validB_f fun h => hf ((valid_1 hk).1 h).2.2.2.2.1]
      repeat (first | refine use_pure (hNm _ _ _) fun _ => ?_ | refine use_pure (hIn _ _) fun _ => ?_ | simp (implicitDefEqProofs := false) (disch := omega) only [WPs, opds, List.all_cons, List.all_nil, List.cons_append, List.nil_append, cond_true, cond_false, eq_self, List.map_cons, List.map_nil, Nat.reduceAdd, Nat.testBit, Nat.reduceShiftRight, Nat.reduceAnd, Nat.reduceBNe, Nat.reduceMul, hc.one, hc.len, hc.bel, STs, Bool.not_true, Bool.not_false, decide_eq_true ho, nameB_t nv, hf1])
    by_cases hi : insideP c.at_ c.len
    case neg =>
      rw [validB_f fun h => hi ((valid_1 hk).1 h).2.2.2.2.2.1]
      repeat (first | refine use_pure (hNm _ _ _) fun _ => ?_ | refine use_pure (hIn _ _) fun _ => ?_ | simp (implicitDefEqProofs := false) (disch := omega) only [WPs, opds, List.all_cons, List.all_nil, List.cons_append, List.nil_append, cond_true, cond_false, eq_self, List.map_cons, List.map_nil, Nat.reduceAdd, Nat.testBit, Nat.reduceShiftRight, Nat.reduceAnd, Nat.reduceBNe, Nat.reduceMul, hc.one, hc.len, hc.bel, STs, Bool.not_true, Bool.not_false, decide_eq_true ho, nameB_t nv, hf, decide_eq_false hi])
    by_cases g5 : c.len ≤ 16
    case neg =>
      rw [validB_f fun h => g5 ((valid_1 hk).1 h).2.2.2.2.2.2]
      repeat (first | refine use_pure (hNm _ _ _) fun _ => ?_ | refine use_pure (hIn _ _) fun _ => ?_ | simp (implicitDefEqProofs := false) (disch := omega) only [WPs, opds, List.all_cons, List.all_nil, List.cons_append, List.nil_append, cond_true, cond_false, eq_self, List.map_cons, List.map_nil, Nat.reduceAdd, Nat.testBit, Nat.reduceShiftRight, Nat.reduceAnd, Nat.reduceBNe, Nat.reduceMul, hc.one, hc.len, hc.bel, STs, Bool.not_true, Bool.not_false, decide_eq_true ho, nameB_t nv, hf, decide_eq_true hi])
    rw [validB_t ((valid_1 hk).2 ⟨hh, nv, ho, hd, hf, hi, g5⟩)]
    repeat (first | refine use_pure (hNm _ _ _) fun _ => ?_ | refine use_pure (hIn _ _) fun _ => ?_ | simp (implicitDefEqProofs := false) (disch := omega) only [WPs, opds, List.all_cons, List.all_nil, List.cons_append, List.nil_append, cond_true, cond_false, eq_self, List.map_cons, List.map_nil, Nat.reduceAdd, Nat.testBit, Nat.reduceShiftRight, Nat.reduceAnd, Nat.reduceBNe, Nat.reduceMul, hc.one, hc.len, hc.bel, STs, Bool.not_true, Bool.not_false, decide_eq_true ho, nameB_t nv, hf, decide_eq_true hi])
set_option maxHeartbeats 8000000 in
theorem refValid_2 (hE : E 23 = some ac23) (hN : E 47 = some ac47) (hI : E 48 = some ac48) (m : FM) (n : Nat) (c : Cmd) (d : Value) (hF : c.Fit) (hc : DatV m n d c.data) (hh : HeadP c) (hk : c.kind = 2) :
    Pure (callW PG E Y 23 [cmdV c d] m n) m n (.bool (validB c)) := by
  obtain ⟨f1, f2, f3, f4, f5, f6, f7, f8⟩ := hF
  have hNm : ∀ m n s, Pure (callW PG E Y 47 [.string s] m n) m n (.bool (nameB s)) := fun m n s => Name_spec hN m n s
  have hIn : ∀ m n, Pure (callW PG E Y 48 [.int .i64 c.at_, .int .i64 c.len] m n) m n (.bool (decide (insideP c.at_ c.len))) := fun m n => within_spec hI m n _ _ f4 f5
  clear f1 f2 f3 f4 f5 f6 f7 f8
  refine pure_spec hE rfl rfl ?_
  simp only [ac23, cmdV]
  rcases hh.2.2 with t4 | t4
  all_goals
    have t1 := hh.1
    have t2 := hh.2.1
    by_cases ho : c.oth = ⟨#[]⟩
    case neg =>
      by_cases nv : NameP c.vol
      case neg =>
        rw [validB_f fun h => nv ((valid_2 hk).1 h).2.1]
        repeat (first | refine use_pure (hNm _ _ _) fun _ => ?_ | refine use_pure (hIn _ _) fun _ => ?_ | simp (implicitDefEqProofs := false) (disch := omega) only [WPs, opds, List.all_cons, List.all_nil, List.cons_append, List.nil_append, cond_true, cond_false, eq_self, List.map_cons, List.map_nil, Nat.reduceAdd, Nat.testBit, Nat.reduceShiftRight, Nat.reduceAnd, Nat.reduceBNe, Nat.reduceMul, hc.one, hc.len, hc.bel, STs, Bool.not_true, Bool.not_false, decide_eq_false ho, nameB_f nv])
      rw [validB_f fun h => ho ((valid_2 hk).1 h).2.2.1]
      repeat (first | refine use_pure (hNm _ _ _) fun _ => ?_ | refine use_pure (hIn _ _) fun _ => ?_ | simp (implicitDefEqProofs := false) (disch := omega) only [WPs, opds, List.all_cons, List.all_nil, List.cons_append, List.nil_append, cond_true, cond_false, eq_self, List.map_cons, List.map_nil, Nat.reduceAdd, Nat.testBit, Nat.reduceShiftRight, Nat.reduceAnd, Nat.reduceBNe, Nat.reduceMul, hc.one, hc.len, hc.bel, STs, Bool.not_true, Bool.not_false, decide_eq_false ho, nameB_t nv])
    by_cases hd : c.data = []
    case neg =>
      have hdl : c.data.length ≠ 0 := fun h => hd (List.eq_nil_of_length_eq_zero h)
      by_cases nv : NameP c.vol
      case neg =>
        rw [validB_f fun h => nv ((valid_2 hk).1 h).2.1]
        repeat (first | refine use_pure (hNm _ _ _) fun _ => ?_ | refine use_pure (hIn _ _) fun _ => ?_ | simp (implicitDefEqProofs := false) (disch := omega) only [WPs, opds, List.all_cons, List.all_nil, List.cons_append, List.nil_append, cond_true, cond_false, eq_self, List.map_cons, List.map_nil, Nat.reduceAdd, Nat.testBit, Nat.reduceShiftRight, Nat.reduceAnd, Nat.reduceBNe, Nat.reduceMul, hc.one, hc.len, hc.bel, STs, Bool.not_true, Bool.not_false, decide_eq_true ho, nameB_f nv])
      by_cases hi : insideP c.at_ c.len
      case neg =>
        rw [validB_f fun h => hi ((valid_2 hk).1 h).2.2.2.1]
        repeat (first | refine use_pure (hNm _ _ _) fun _ => ?_ | refine use_pure (hIn _ _) fun _ => ?_ | simp (implicitDefEqProofs := false) (disch := omega) only [WPs, opds, List.all_cons, List.all_nil, List.cons_append, List.nil_append, cond_true, cond_false, eq_self, List.map_cons, List.map_nil, Nat.reduceAdd, Nat.testBit, Nat.reduceShiftRight, Nat.reduceAnd, Nat.reduceBNe, Nat.reduceMul, hc.one, hc.len, hc.bel, STs, Bool.not_true, Bool.not_false, decide_eq_true ho, nameB_t nv, decide_eq_false hi])
      by_cases g3 : c.len ≤ 16
      case neg =>
        rw [validB_f fun h => g3 ((valid_2 hk).1 h).2.2.2.2.1]
        repeat (first | refine use_pure (hNm _ _ _) fun _ => ?_ | refine use_pure (hIn _ _) fun _ => ?_ | simp (implicitDefEqProofs := false) (disch := omega) only [WPs, opds, List.all_cons, List.all_nil, List.cons_append, List.nil_append, cond_true, cond_false, eq_self, List.map_cons, List.map_nil, Nat.reduceAdd, Nat.testBit, Nat.reduceShiftRight, Nat.reduceAnd, Nat.reduceBNe, Nat.reduceMul, hc.one, hc.len, hc.bel, STs, Bool.not_true, Bool.not_false, decide_eq_true ho, nameB_t nv, decide_eq_true hi])
      by_cases g4 : (c.data.length : Int) = c.len
      case neg =>
        rw [validB_f fun h => g4 ((valid_2 hk).1 h).2.2.2.2.2]
        repeat (first | refine use_pure (hNm _ _ _) fun _ => ?_ | refine use_pure (hIn _ _) fun _ => ?_ | simp (implicitDefEqProofs := false) (disch := omega) only [WPs, opds, List.all_cons, List.all_nil, List.cons_append, List.nil_append, cond_true, cond_false, eq_self, List.map_cons, List.map_nil, Nat.reduceAdd, Nat.testBit, Nat.reduceShiftRight, Nat.reduceAnd, Nat.reduceBNe, Nat.reduceMul, hc.one, hc.len, hc.bel, STs, Bool.not_true, Bool.not_false, decide_eq_true ho, nameB_t nv, decide_eq_true hi])
      rw [validB_t ((valid_2 hk).2 ⟨hh, nv, ho, hi, g3, g4⟩)]
      repeat (first | refine use_pure (hNm _ _ _) fun _ => ?_ | refine use_pure (hIn _ _) fun _ => ?_ | simp (implicitDefEqProofs := false) (disch := omega) only [WPs, opds, List.all_cons, List.all_nil, List.cons_append, List.nil_append, cond_true, cond_false, eq_self, List.map_cons, List.map_nil, Nat.reduceAdd, Nat.testBit, Nat.reduceShiftRight, Nat.reduceAnd, Nat.reduceBNe, Nat.reduceMul, hc.one, hc.len, hc.bel, STs, Bool.not_true, Bool.not_false, decide_eq_true ho, nameB_t nv, decide_eq_true hi])
    have hdl : c.data.length = 0 := by rw [hd]; rfl
    by_cases nv : NameP c.vol
    case neg =>
      rw [validB_f fun h => nv ((valid_2 hk).1 h).2.1]
      repeat (first | refine use_pure (hNm _ _ _) fun _ => ?_ | refine use_pure (hIn _ _) fun _ => ?_ | simp (implicitDefEqProofs := false) (disch := omega) only [WPs, opds, List.all_cons, List.all_nil, List.cons_append, List.nil_append, cond_true, cond_false, eq_self, List.map_cons, List.map_nil, Nat.reduceAdd, Nat.testBit, Nat.reduceShiftRight, Nat.reduceAnd, Nat.reduceBNe, Nat.reduceMul, hc.one, hc.len, hc.bel, STs, Bool.not_true, Bool.not_false, decide_eq_true ho, nameB_f nv])
    by_cases hi : insideP c.at_ c.len
    case neg =>
      rw [validB_f fun h => hi ((valid_2 hk).1 h).2.2.2.1]
      repeat (first | refine use_pure (hNm _ _ _) fun _ => ?_ | refine use_pure (hIn _ _) fun _ => ?_ | simp (implicitDefEqProofs := false) (disch := omega) only [WPs, opds, List.all_cons, List.all_nil, List.cons_append, List.nil_append, cond_true, cond_false, eq_self, List.map_cons, List.map_nil, Nat.reduceAdd, Nat.testBit, Nat.reduceShiftRight, Nat.reduceAnd, Nat.reduceBNe, Nat.reduceMul, hc.one, hc.len, hc.bel, STs, Bool.not_true, Bool.not_false, decide_eq_true ho, nameB_t nv, decide_eq_false hi])
    by_cases g3 : c.len ≤ 16
    case neg =>
      rw [validB_f fun h => g3 ((valid_2 hk).1 h).2.2.2.2.1]
      repeat (first | refine use_pure (hNm _ _ _) fun _ => ?_ | refine use_pure (hIn _ _) fun _ => ?_ | simp (implicitDefEqProofs := false) (disch := omega) only [WPs, opds, List.all_cons, List.all_nil, List.cons_append, List.nil_append, cond_true, cond_false, eq_self, List.map_cons, List.map_nil, Nat.reduceAdd, Nat.testBit, Nat.reduceShiftRight, Nat.reduceAnd, Nat.reduceBNe, Nat.reduceMul, hc.one, hc.len, hc.bel, STs, Bool.not_true, Bool.not_false, decide_eq_true ho, nameB_t nv, decide_eq_true hi])
    by_cases g4 : (c.data.length : Int) = c.len
    case neg =>
      rw [validB_f fun h => g4 ((valid_2 hk).1 h).2.2.2.2.2]
      repeat (first | refine use_pure (hNm _ _ _) fun _ => ?_ | refine use_pure (hIn _ _) fun _ => ?_ | simp (implicitDefEqProofs := false) (disch := omega) only [WPs, opds, List.all_cons, List.all_nil, List.cons_append, List.nil_append, cond_true, cond_false, eq_self, List.map_cons, List.map_nil, Nat.reduceAdd, Nat.testBit, Nat.reduceShiftRight, Nat.reduceAnd, Nat.reduceBNe, Nat.reduceMul, hc.one, hc.len, hc.bel, STs, Bool.not_true, Bool.not_false, decide_eq_true ho, nameB_t nv, decide_eq_true hi])
    rw [validB_t ((valid_2 hk).2 ⟨hh, nv, ho, hi, g3, g4⟩)]
    repeat (first | refine use_pure (hNm _ _ _) fun _ => ?_ | refine use_pure (hIn _ _) fun _ => ?_ | simp (implicitDefEqProofs := false) (disch := omega) only [WPs, opds, List.all_cons, List.all_nil, List.cons_append, List.nil_append, cond_true, cond_false, eq_self, List.map_cons, List.map_nil, Nat.reduceAdd, Nat.testBit, Nat.reduceShiftRight, Nat.reduceAnd, Nat.reduceBNe, Nat.reduceMul, hc.one, hc.len, hc.bel, STs, Bool.not_true, Bool.not_false, decide_eq_true ho, nameB_t nv, decide_eq_true hi])
end Go.Am.C41
namespace Go.Am.C41
open Go Go.Am
variable {E : Nat → Option AFn} {Y : Nat → List Value → FM → Nat → OR FM}
set_option maxHeartbeats 8000000 in
theorem refValid_3 (hE : E 23 = some ac23) (hN : E 47 = some ac47) (hI : E 48 = some ac48) (m : FM) (n : Nat) (c : Cmd) (d : Value) (hF : c.Fit) (hc : DatV m n d c.data) (hh : HeadP c) (hk : c.kind = 3) :
    Pure (callW PG E Y 23 [cmdV c d] m n) m n (.bool (validB c)) := by
  obtain ⟨f1, f2, f3, f4, f5, f6, f7, f8⟩ := hF
  have hNm : ∀ m n s, Pure (callW PG E Y 47 [.string s] m n) m n (.bool (nameB s)) := fun m n s => Name_spec hN m n s
  have hIn : ∀ m n, Pure (callW PG E Y 48 [.int .i64 c.at_, .int .i64 c.len] m n) m n (.bool (decide (insideP c.at_ c.len))) := fun m n => within_spec hI m n _ _ f4 f5
  clear f1 f2 f3 f4 f5 f6 f7 f8
  refine pure_spec hE rfl rfl ?_
  simp only [ac23, cmdV]
  rcases hh.2.2 with t4 | t4
  all_goals
    have t1 := hh.1
    have t2 := hh.2.1
    by_cases ho : c.oth = ⟨#[]⟩
    case neg =>
      by_cases nv : NameP c.vol
      case neg =>
        rw [validB_f fun h => nv ((valid_3 hk).1 h).2.1]
        repeat (first | refine use_pure (hNm _ _ _) fun _ => ?_ | refine use_pure (hIn _ _) fun _ => ?_ | simp (implicitDefEqProofs := false) (disch := omega) only [WPs, opds, List.all_cons, List.all_nil, List.cons_append, List.nil_append, cond_true, cond_false, eq_self, List.map_cons, List.map_nil, Nat.reduceAdd, Nat.testBit, Nat.reduceShiftRight, Nat.reduceAnd, Nat.reduceBNe, Nat.reduceMul, hc.one, hc.len, hc.bel, STs, Bool.not_true, Bool.not_false, decide_eq_false ho, nameB_f nv])
      rw [validB_f fun h => ho ((valid_3 hk).1 h).2.2.1]
      repeat (first | refine use_pure (hNm _ _ _) fun _ => ?_ | refine use_pure (hIn _ _) fun _ => ?_ | simp (implicitDefEqProofs := false) (disch := omega) only [WPs, opds, List.all_cons, List.all_nil, List.cons_append, List.nil_append, cond_true, cond_false, eq_self, List.map_cons, List.map_nil, Nat.reduceAdd, Nat.testBit, Nat.reduceShiftRight, Nat.reduceAnd, Nat.reduceBNe, Nat.reduceMul, hc.one, hc.len, hc.bel, STs, Bool.not_true, Bool.not_false, decide_eq_false ho, nameB_t nv])
    by_cases hd : c.data = []
    case neg =>
      have hdl : c.data.length ≠ 0 := fun h => hd (List.eq_nil_of_length_eq_zero h)
      by_cases nv : NameP c.vol
      case neg =>
        rw [validB_f fun h => nv ((valid_3 hk).1 h).2.1]
        repeat (first | refine use_pure (hNm _ _ _) fun _ => ?_ | refine use_pure (hIn _ _) fun _ => ?_ | simp (implicitDefEqProofs := false) (disch := omega) only [WPs, opds, List.all_cons, List.all_nil, List.cons_append, List.nil_append, cond_true, cond_false, eq_self, List.map_cons, List.map_nil, Nat.reduceAdd, Nat.testBit, Nat.reduceShiftRight, Nat.reduceAnd, Nat.reduceBNe, Nat.reduceMul, hc.one, hc.len, hc.bel, STs, Bool.not_true, Bool.not_false, decide_eq_true ho, nameB_f nv])
      rw [validB_f fun h => hd ((valid_3 hk).1 h).2.2.2.1]
      repeat (first | refine use_pure (hNm _ _ _) fun _ => ?_ | refine use_pure (hIn _ _) fun _ => ?_ | simp (implicitDefEqProofs := false) (disch := omega) only [WPs, opds, List.all_cons, List.all_nil, List.cons_append, List.nil_append, cond_true, cond_false, eq_self, List.map_cons, List.map_nil, Nat.reduceAdd, Nat.testBit, Nat.reduceShiftRight, Nat.reduceAnd, Nat.reduceBNe, Nat.reduceMul, hc.one, hc.len, hc.bel, STs, Bool.not_true, Bool.not_false, decide_eq_true ho, nameB_t nv])
    have hdl : c.data.length = 0 := by rw [hd]; rfl
    by_cases nv : NameP c.vol
    case neg =>
      rw [validB_f fun h => nv ((valid_3 hk).1 h).2.1]
      repeat (first | refine use_pure (hNm _ _ _) fun _ => ?_ | refine use_pure (hIn _ _) fun _ => ?_ | simp (implicitDefEqProofs := false) (disch := omega) only [WPs, opds, List.all_cons, List.all_nil, List.cons_append, List.nil_append, cond_true, cond_false, eq_self, List.map_cons, List.map_nil, Nat.reduceAdd, Nat.testBit, Nat.reduceShiftRight, Nat.reduceAnd, Nat.reduceBNe, Nat.reduceMul, hc.one, hc.len, hc.bel, STs, Bool.not_true, Bool.not_false, decide_eq_true ho, nameB_f nv])
    by_cases hi : insideP c.at_ c.len
    case neg =>
      rw [validB_f fun h => hi ((valid_3 hk).1 h).2.2.2.2]
      repeat (first | refine use_pure (hNm _ _ _) fun _ => ?_ | refine use_pure (hIn _ _) fun _ => ?_ | simp (implicitDefEqProofs := false) (disch := omega) only [WPs, opds, List.all_cons, List.all_nil, List.cons_append, List.nil_append, cond_true, cond_false, eq_self, List.map_cons, List.map_nil, Nat.reduceAdd, Nat.testBit, Nat.reduceShiftRight, Nat.reduceAnd, Nat.reduceBNe, Nat.reduceMul, hc.one, hc.len, hc.bel, STs, Bool.not_true, Bool.not_false, decide_eq_true ho, nameB_t nv, decide_eq_false hi])
    rw [validB_t ((valid_3 hk).2 ⟨hh, nv, ho, hd, hi⟩)]
    repeat (first | refine use_pure (hNm _ _ _) fun _ => ?_ | refine use_pure (hIn _ _) fun _ => ?_ | simp (implicitDefEqProofs := false) (disch := omega) only [WPs, opds, List.all_cons, List.all_nil, List.cons_append, List.nil_append, cond_true, cond_false, eq_self, List.map_cons, List.map_nil, Nat.reduceAdd, Nat.testBit, Nat.reduceShiftRight, Nat.reduceAnd, Nat.reduceBNe, Nat.reduceMul, hc.one, hc.len, hc.bel, STs, Bool.not_true, Bool.not_false, decide_eq_true ho, nameB_t nv, decide_eq_true hi])
set_option maxHeartbeats 8000000 in
theorem refValid_4 (hE : E 23 = some ac23) (hN : E 47 = some ac47) (hI : E 48 = some ac48) (m : FM) (n : Nat) (c : Cmd) (d : Value) (hF : c.Fit) (hc : DatV m n d c.data) (hh : HeadP c) (hk : c.kind = 4) :
    Pure (callW PG E Y 23 [cmdV c d] m n) m n (.bool (validB c)) := by
  obtain ⟨f1, f2, f3, f4, f5, f6, f7, f8⟩ := hF
  have hNm : ∀ m n s, Pure (callW PG E Y 47 [.string s] m n) m n (.bool (nameB s)) := fun m n s => Name_spec hN m n s
  have hIn : ∀ m n, Pure (callW PG E Y 48 [.int .i64 c.at_, .int .i64 c.len] m n) m n (.bool (decide (insideP c.at_ c.len))) := fun m n => within_spec hI m n _ _ f4 f5
  clear f1 f2 f3 f4 f5 f6 f7 f8
  refine pure_spec hE rfl rfl ?_
  simp only [ac23, cmdV]
  rcases hh.2.2 with t4 | t4
  all_goals
    have t1 := hh.1
    have t2 := hh.2.1
    by_cases ho : c.oth = ⟨#[]⟩
    case neg =>
      by_cases hv : c.vol = ⟨#[]⟩
      case neg =>
        rw [validB_f fun h => hv ((valid_4 hk).1 h).2.1]
        repeat (first | refine use_pure (hNm _ _ _) fun _ => ?_ | refine use_pure (hIn _ _) fun _ => ?_ | simp (implicitDefEqProofs := false) (disch := omega) only [WPs, opds, List.all_cons, List.all_nil, List.cons_append, List.nil_append, cond_true, cond_false, eq_self, List.map_cons, List.map_nil, Nat.reduceAdd, Nat.testBit, Nat.reduceShiftRight, Nat.reduceAnd, Nat.reduceBNe, Nat.reduceMul, hc.one, hc.len, hc.bel, STs, Bool.not_true, Bool.not_false, decide_eq_false ho, decide_eq_false hv])
      rw [validB_f fun h => ho ((valid_4 hk).1 h).2.2.1]
      repeat (first | refine use_pure (hNm _ _ _) fun _ => ?_ | refine use_pure (hIn _ _) fun _ => ?_ | simp (implicitDefEqProofs := false) (disch := omega) only [WPs, opds, List.all_cons, List.all_nil, List.cons_append, List.nil_append, cond_true, cond_false, eq_self, List.map_cons, List.map_nil, Nat.reduceAdd, Nat.testBit, Nat.reduceShiftRight, Nat.reduceAnd, Nat.reduceBNe, Nat.reduceMul, hc.one, hc.len, hc.bel, STs, Bool.not_true, Bool.not_false, decide_eq_false ho, decide_eq_true hv])
    by_cases hd : c.data = []
    case neg =>
      have hdl : c.data.length ≠ 0 := fun h => hd (List.eq_nil_of_length_eq_zero h)
      by_cases hv : c.vol = ⟨#[]⟩
      case neg =>
        rw [validB_f fun h => hv ((valid_4 hk).1 h).2.1]
        repeat (first | refine use_pure (hNm _ _ _) fun _ => ?_ | refine use_pure (hIn _ _) fun _ => ?_ | simp (implicitDefEqProofs := false) (disch := omega) only [WPs, opds, List.all_cons, List.all_nil, List.cons_append, List.nil_append, cond_true, cond_false, eq_self, List.map_cons, List.map_nil, Nat.reduceAdd, Nat.testBit, Nat.reduceShiftRight, Nat.reduceAnd, Nat.reduceBNe, Nat.reduceMul, hc.one, hc.len, hc.bel, STs, Bool.not_true, Bool.not_false, decide_eq_true ho, decide_eq_false hv])
      rw [validB_f fun h => hd ((valid_4 hk).1 h).2.2.2.1]
      repeat (first | refine use_pure (hNm _ _ _) fun _ => ?_ | refine use_pure (hIn _ _) fun _ => ?_ | simp (implicitDefEqProofs := false) (disch := omega) only [WPs, opds, List.all_cons, List.all_nil, List.cons_append, List.nil_append, cond_true, cond_false, eq_self, List.map_cons, List.map_nil, Nat.reduceAdd, Nat.testBit, Nat.reduceShiftRight, Nat.reduceAnd, Nat.reduceBNe, Nat.reduceMul, hc.one, hc.len, hc.bel, STs, Bool.not_true, Bool.not_false, decide_eq_true ho, decide_eq_true hv])
    have hdl : c.data.length = 0 := by rw [hd]; rfl
    by_cases hv : c.vol = ⟨#[]⟩
    case neg =>
      rw [validB_f fun h => hv ((valid_4 hk).1 h).2.1]
      repeat (first | refine use_pure (hNm _ _ _) fun _ => ?_ | refine use_pure (hIn _ _) fun _ => ?_ | simp (implicitDefEqProofs := false) (disch := omega) only [WPs, opds, List.all_cons, List.all_nil, List.cons_append, List.nil_append, cond_true, cond_false, eq_self, List.map_cons, List.map_nil, Nat.reduceAdd, Nat.testBit, Nat.reduceShiftRight, Nat.reduceAnd, Nat.reduceBNe, Nat.reduceMul, hc.one, hc.len, hc.bel, STs, Bool.not_true, Bool.not_false, decide_eq_true ho, decide_eq_false hv])
    by_cases hf : c.force = false
    case neg =>
      have hf1 : c.force = true := by simpa using hf
      rw [validB_f fun h => hf ((valid_4 hk).1 h).2.2.2.2.1]
      repeat (first | refine use_pure (hNm _ _ _) fun _ => ?_ | refine use_pure (hIn _ _) fun _ => ?_ | simp (implicitDefEqProofs := false) (disch := omega) only [WPs, opds, List.all_cons, List.all_nil, List.cons_append, List.nil_append, cond_true, cond_false, eq_self, List.map_cons, List.map_nil, Nat.reduceAdd, Nat.testBit, Nat.reduceShiftRight, Nat.reduceAnd, Nat.reduceBNe, Nat.reduceMul, hc.one, hc.len, hc.bel, STs, Bool.not_true, Bool.not_false, decide_eq_true ho, decide_eq_true hv, hf1])
    by_cases g4 : c.at_ = 0
    case neg =>
      rw [validB_f fun h => g4 ((valid_4 hk).1 h).2.2.2.2.2.1]
      repeat (first | refine use_pure (hNm _ _ _) fun _ => ?_ | refine use_pure (hIn _ _) fun _ => ?_ | simp (implicitDefEqProofs := false) (disch := omega) only [WPs, opds, List.all_cons, List.all_nil, List.cons_append, List.nil_append, cond_true, cond_false, eq_self, List.map_cons, List.map_nil, Nat.reduceAdd, Nat.testBit, Nat.reduceShiftRight, Nat.reduceAnd, Nat.reduceBNe, Nat.reduceMul, hc.one, hc.len, hc.bel, STs, Bool.not_true, Bool.not_false, decide_eq_true ho, decide_eq_true hv, hf])
    by_cases g5 : c.len = 0
    case neg =>
      rw [validB_f fun h => g5 ((valid_4 hk).1 h).2.2.2.2.2.2]
      repeat (first | refine use_pure (hNm _ _ _) fun _ => ?_ | refine use_pure (hIn _ _) fun _ => ?_ | simp (implicitDefEqProofs := false) (disch := omega) only [WPs, opds, List.all_cons, List.all_nil, List.cons_append, List.nil_append, cond_true, cond_false, eq_self, List.map_cons, List.map_nil, Nat.reduceAdd, Nat.testBit, Nat.reduceShiftRight, Nat.reduceAnd, Nat.reduceBNe, Nat.reduceMul, hc.one, hc.len, hc.bel, STs, Bool.not_true, Bool.not_false, decide_eq_true ho, decide_eq_true hv, hf])
    rw [validB_t ((valid_4 hk).2 ⟨hh, hv, ho, hd, hf, g4, g5⟩)]
    repeat (first | refine use_pure (hNm _ _ _) fun _ => ?_ | refine use_pure (hIn _ _) fun _ => ?_ | simp (implicitDefEqProofs := false) (disch := omega) only [WPs, opds, List.all_cons, List.all_nil, List.cons_append, List.nil_append, cond_true, cond_false, eq_self, List.map_cons, List.map_nil, Nat.reduceAdd, Nat.testBit, Nat.reduceShiftRight, Nat.reduceAnd, Nat.reduceBNe, Nat.reduceMul, hc.one, hc.len, hc.bel, STs, Bool.not_true, Bool.not_false, decide_eq_true ho, decide_eq_true hv, hf])
end Go.Am.C41
namespace Go.Am.C41
open Go Go.Am
variable {E : Nat → Option AFn} {Y : Nat → List Value → FM → Nat → OR FM}
set_option maxHeartbeats 8000000 in
theorem refValid_5 (hE : E 23 = some ac23) (hN : E 47 = some ac47) (hI : E 48 = some ac48) (m : FM) (n : Nat) (c : Cmd) (d : Value) (hF : c.Fit) (hc : DatV m n d c.data) (hh : HeadP c) (hk : c.kind = 5) :
    Pure (callW PG E Y 23 [cmdV c d] m n) m n (.bool (validB c)) := by
  obtain ⟨f1, f2, f3, f4, f5, f6, f7, f8⟩ := hF
  have hNm : ∀ m n s, Pure (callW PG E Y 47 [.string s] m n) m n (.bool (nameB s)) := fun m n s => Name_spec hN m n s
  have hIn : ∀ m n, Pure (callW PG E Y 48 [.int .i64 c.at_, .int .i64 c.len] m n) m n (.bool (decide (insideP c.at_ c.len))) := fun m n => within_spec hI m n _ _ f4 f5
  clear f1 f2 f3 f4 f5 f6 f7 f8
  refine pure_spec hE rfl rfl ?_
  simp only [ac23, cmdV]
  rcases hh.2.2 with t4 | t4
  all_goals
    have t1 := hh.1
    have t2 := hh.2.1
    by_cases ho : c.oth = ⟨#[]⟩
    case neg =>
      by_cases nv : NameP c.vol
      case neg =>
        rw [validB_f fun h => nv ((valid_5 hk).1 h).2.1]
        repeat (first | refine use_pure (hNm _ _ _) fun _ => ?_ | refine use_pure (hIn _ _) fun _ => ?_ | simp (implicitDefEqProofs := false) (disch := omega) only [WPs, opds, List.all_cons, List.all_nil, List.cons_append, List.nil_append, cond_true, cond_false, eq_self, List.map_cons, List.map_nil, Nat.reduceAdd, Nat.testBit, Nat.reduceShiftRight, Nat.reduceAnd, Nat.reduceBNe, Nat.reduceMul, hc.one, hc.len, hc.bel, STs, Bool.not_true, Bool.not_false, decide_eq_false ho, nameB_f nv])
      rw [validB_f fun h => ho ((valid_5 hk).1 h).2.2.1]
      repeat (first | refine use_pure (hNm _ _ _) fun _ => ?_ | refine use_pure (hIn _ _) fun _ => ?_ | simp (implicitDefEqProofs := false) (disch := omega) only [WPs, opds, List.all_cons, List.all_nil, List.cons_append, List.nil_append, cond_true, cond_false, eq_self, List.map_cons, List.map_nil, Nat.reduceAdd, Nat.testBit, Nat.reduceShiftRight, Nat.reduceAnd, Nat.reduceBNe, Nat.reduceMul, hc.one, hc.len, hc.bel, STs, Bool.not_true, Bool.not_false, decide_eq_false ho, nameB_t nv])
    by_cases hd : c.data = []
    case neg =>
      have hdl : c.data.length ≠ 0 := fun h => hd (List.eq_nil_of_length_eq_zero h)
      by_cases nv : NameP c.vol
      case neg =>
        rw [validB_f fun h => nv ((valid_5 hk).1 h).2.1]
        repeat (first | refine use_pure (hNm _ _ _) fun _ => ?_ | refine use_pure (hIn _ _) fun _ => ?_ | simp (implicitDefEqProofs := false) (disch := omega) only [WPs, opds, List.all_cons, List.all_nil, List.cons_append, List.nil_append, cond_true, cond_false, eq_self, List.map_cons, List.map_nil, Nat.reduceAdd, Nat.testBit, Nat.reduceShiftRight, Nat.reduceAnd, Nat.reduceBNe, Nat.reduceMul, hc.one, hc.len, hc.bel, STs, Bool.not_true, Bool.not_false, decide_eq_true ho, nameB_f nv])
      rw [validB_f fun h => hd ((valid_5 hk).1 h).2.2.2.1]
      repeat (first | refine use_pure (hNm _ _ _) fun _ => ?_ | refine use_pure (hIn _ _) fun _ => ?_ | simp (implicitDefEqProofs := false) (disch := omega) only [WPs, opds, List.all_cons, List.all_nil, List.cons_append, List.nil_append, cond_true, cond_false, eq_self, List.map_cons, List.map_nil, Nat.reduceAdd, Nat.testBit, Nat.reduceShiftRight, Nat.reduceAnd, Nat.reduceBNe, Nat.reduceMul, hc.one, hc.len, hc.bel, STs, Bool.not_true, Bool.not_false, decide_eq_true ho, nameB_t nv])
    have hdl : c.data.length = 0 := by rw [hd]; rfl
    by_cases nv : NameP c.vol
    case neg =>
      rw [validB_f fun h => nv ((valid_5 hk).1 h).2.1]
      repeat (first | refine use_pure (hNm _ _ _) fun _ => ?_ | refine use_pure (hIn _ _) fun _ => ?_ | simp (implicitDefEqProofs := false) (disch := omega) only [WPs, opds, List.all_cons, List.all_nil, List.cons_append, List.nil_append, cond_true, cond_false, eq_self, List.map_cons, List.map_nil, Nat.reduceAdd, Nat.testBit, Nat.reduceShiftRight, Nat.reduceAnd, Nat.reduceBNe, Nat.reduceMul, hc.one, hc.len, hc.bel, STs, Bool.not_true, Bool.not_false, decide_eq_true ho, nameB_f nv])
    by_cases hf : c.force = false
    case neg =>
      have hf1 : c.force = true := by simpa using hf
      rw [validB_f fun h => hf ((valid_5 hk).1 h).2.2.2.2.1]
      repeat (first | refine use_pure (hNm _ _ _) fun _ => ?_ | refine use_pure (hIn _ _) fun _ => ?_ | simp (implicitDefEqProofs := false) (disch := omega) only [WPs, opds, List.all_cons, List.all_nil, List.cons_append, List.nil_append, cond_true, cond_false, eq_self, List.map_cons, List.map_nil, Nat.reduceAdd, Nat.testBit, Nat.reduceShiftRight, Nat.reduceAnd, Nat.reduceBNe, Nat.reduceMul, hc.one, hc.len, hc.bel, STs, Bool.not_true, Bool.not_false, decide_eq_true ho, nameB_t nv, hf1])
    by_cases g4 : 1 ≤ c.len
    case neg =>
      rw [validB_f fun h => g4 ((valid_5 hk).1 h).2.2.2.2.2.1]
      repeat (first | refine use_pure (hNm _ _ _) fun _ => ?_ | refine use_pure (hIn _ _) fun _ => ?_ | simp (implicitDefEqProofs := false) (disch := omega) only [WPs, opds, List.all_cons, List.all_nil, List.cons_append, List.nil_append, cond_true, cond_false, eq_self, List.map_cons, List.map_nil, Nat.reduceAdd, Nat.testBit, Nat.reduceShiftRight, Nat.reduceAnd, Nat.reduceBNe, Nat.reduceMul, hc.one, hc.len, hc.bel, STs, Bool.not_true, Bool.not_false, decide_eq_true ho, nameB_t nv, hf])
    by_cases g5 : c.len ≤ 65536
    case neg =>
      rw [validB_f fun h => g5 ((valid_5 hk).1 h).2.2.2.2.2.2.1]
      repeat (first | refine use_pure (hNm _ _ _) fun _ => ?_ | refine use_pure (hIn _ _) fun _ => ?_ | simp (implicitDefEqProofs := false) (disch := omega) only [WPs, opds, List.all_cons, List.all_nil, List.cons_append, List.nil_append, cond_true, cond_false, eq_self, List.map_cons, List.map_nil, Nat.reduceAdd, Nat.testBit, Nat.reduceShiftRight, Nat.reduceAnd, Nat.reduceBNe, Nat.reduceMul, hc.one, hc.len, hc.bel, STs, Bool.not_true, Bool.not_false, decide_eq_true ho, nameB_t nv, hf])
    by_cases g6 : 0 ≤ c.at_
    case neg =>
      rw [validB_f fun h => g6 ((valid_5 hk).1 h).2.2.2.2.2.2.2.1]
      repeat (first | refine use_pure (hNm _ _ _) fun _ => ?_ | refine use_pure (hIn _ _) fun _ => ?_ | simp (implicitDefEqProofs := false) (disch := omega) only [WPs, opds, List.all_cons, List.all_nil, List.cons_append, List.nil_append, cond_true, cond_false, eq_self, List.map_cons, List.map_nil, Nat.reduceAdd, Nat.testBit, Nat.reduceShiftRight, Nat.reduceAnd, Nat.reduceBNe, Nat.reduceMul, hc.one, hc.len, hc.bel, STs, Bool.not_true, Bool.not_false, decide_eq_true ho, nameB_t nv, hf])
    by_cases g7 : c.at_ ≤ c.len
    case neg =>
      rw [validB_f fun h => g7 ((valid_5 hk).1 h).2.2.2.2.2.2.2.2]
      repeat (first | refine use_pure (hNm _ _ _) fun _ => ?_ | refine use_pure (hIn _ _) fun _ => ?_ | simp (implicitDefEqProofs := false) (disch := omega) only [WPs, opds, List.all_cons, List.all_nil, List.cons_append, List.nil_append, cond_true, cond_false, eq_self, List.map_cons, List.map_nil, Nat.reduceAdd, Nat.testBit, Nat.reduceShiftRight, Nat.reduceAnd, Nat.reduceBNe, Nat.reduceMul, hc.one, hc.len, hc.bel, STs, Bool.not_true, Bool.not_false, decide_eq_true ho, nameB_t nv, hf])
    rw [validB_t ((valid_5 hk).2 ⟨hh, nv, ho, hd, hf, g4, g5, g6, g7⟩)]
    repeat (first | refine use_pure (hNm _ _ _) fun _ => ?_ | refine use_pure (hIn _ _) fun _ => ?_ | simp (implicitDefEqProofs := false) (disch := omega) only [WPs, opds, List.all_cons, List.all_nil, List.cons_append, List.nil_append, cond_true, cond_false, eq_self, List.map_cons, List.map_nil, Nat.reduceAdd, Nat.testBit, Nat.reduceShiftRight, Nat.reduceAnd, Nat.reduceBNe, Nat.reduceMul, hc.one, hc.len, hc.bel, STs, Bool.not_true, Bool.not_false, decide_eq_true ho, nameB_t nv, hf])
end Go.Am.C41
