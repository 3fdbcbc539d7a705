/- The machine and its runs, part 14: Am41kb Am41kc Am41kd Am41ke AmArr Am41ma Am41mb Am41mc. -/
import Derived.Test.YtjhomcflchfamaaDoorB13
set_option linter.unusedVariables false
set_option linter.unusedSimpArgs false
set_option linter.unusedSectionVars false
namespace Go.Am.C41
open Go Go.Am
variable {E : Nat → Option AFn} {Y : Nat → List Value → FM → Nat → OR FM}
theorem QR.at {M : FM} {n0 N : Nat} {tag : Tags} {r : Nat} {l : List It} {iv : Value} (h : QR M n0 N tag r l iv) {i : Nat} (hi : i < l.length) : l[i].c.Fit ∧ DatV M N l[i].d l[i].c.data ∧ belowF N l[i].d = true ∧ Am.one l[i].d = true := by
  have d := h.dat _ (List.getElem_mem hi)
  have v := (d.2.1.s fun b hb => hb.2.1 : DatS M N l[i].d l[i].c.data).v
  exact ⟨d.1, v, by obtain ⟨a, c, e, hb, _⟩ := v; rw [e] at hb ⊢; exact hb, v.one⟩
def cmR (l : List It) (i : Nat) : Cmd := (l[i]?.map (·.c)).getD ⟨0, 0, 0, false, ⟨#[]⟩, ⟨#[]⟩, 0, 0, []⟩
theorem cmR_eq {l : List It} {i : Nat} (h : i < l.length) : cmR l i = l[i].c := by simp [cmR, h]
def flR (l : List It) (i : Nat) : Bool := (l[i]?.map (·.f)).getD false
theorem flR_eq {l : List It} {i : Nat} (h : i < l.length) : flR l i = l[i].f := by simp [flR, h]
noncomputable def eligR (l : List It) (i : Nat) : Bool := !flR l i && !(List.range i).any fun k => befB (cmR l k) (cmR l i)
theorem item_agg (c : Cmd) (d : Value) (hd : Am.one d = true) : aggO (some (c.cells d)) = some (cmdV c d) := by
  simp only [Cmd.cells, cmdV]
  rfl
theorem bel_cmd {k : Nat} (c : Cmd) {d : Value} (h : belowF k d = true) : belowV k (cmdV c d) = true := by
  simp only [cmdV]
  rw [belowV_agg]
  simp only [List.all_cons, List.all_nil, h, Bool.and_true]
  rfl
theorem elig_L0 (H : Hy E Y) {M : FM} {n0 N : Nat} {tag : Tags} {r : Nat} {l : List It} {iv : Value} (h : QR M n0 N tag r l iv) {i : Nat} (hi : i < l.length) {Q : AX → List Value → FM → Nat → Nat → Prop} (hQ1 : ∀ k, k < i → befB (cmR l k) (cmR l i) = true → ∀ e', Q (.ret (.bool false)) e' M N 0) (hQ2 : (∀ k, k < i → befB (cmR l k) (cmR l i) = false) → ∀ x0 x2 x3, Q (.exit 0) [x0, x2, x3, .pointer (some ⟨r, 0, none⟩), .int .i64 (i : Int)] M N 0) :
    ∀ d j, j + d = i → (∀ k, k < j → befB (cmR l k) (cmR l i) = false) → ∀ (x0 x2 x3 : Value), Gv (execW PG E Y ac49L0 [x0, .int .i64 (j : Int), x2, x3, .pointer (some ⟨r, 0, none⟩), .int .i64 (i : Int)] M N) Q := by
  have r1 := h.r1
  have r3 := h.r3
  have hlen := h.len
  obtain ⟨fi, vi, bi, oi⟩ := h.at hi
  obtain ⟨b, i1, b0, b1, b2, b3⟩ := h.it.at hi
  have c1 := items_ctake hi
  have g1 := item_agg l[i].c l[i].d oi
  have hb1 := h.it.bel N (Nat.le_refl _)
  have hc1 := bel_cmd l[i].c bi
  intro d
  induction d with
  | zero =>
    intro j hj ha x0 x2 x3
    refine wr_loopN (L := ac49L0) (b := ac49L0b) rfl ?_
    simp only [ac49L0b]
    simp (implicitDefEqProofs := false) (disch := omega) only [WPs, opds, List.all_cons, List.all_nil, List.cons_append, List.nil_append, cond_true, cond_false, eq_self, List.map_cons, List.map_nil, Nat.reduceAdd, Nat.testBit, Nat.reduceShiftRight, Nat.reduceAnd, Nat.reduceBNe, Nat.reduceMul]
    exact hQ2 (fun k hk => ha k (by omega)) _ _ _
  | succ d ih =>
    intro j hj ha x0 x2 x3
    have hjl : j < l.length := by omega
    obtain ⟨fj, vj, bj, oj⟩ := h.at hjl
    obtain ⟨b', i1', b0', b1', b2', b3'⟩ := h.it.at hjl
    have hc2 := bel_cmd l[j].c bj
    have c2 := items_ctake hjl
    have g2 := item_agg l[j].c l[j].d oj
    refine wr_loopN (L := ac49L0) (b := ac49L0b) rfl ?_
    simp only [ac49L0b]
    simp (implicitDefEqProofs := false) (disch := omega) only [WPs, opds, List.all_cons, List.all_nil, List.cons_append, List.nil_append, cond_true, cond_false, eq_self, List.map_cons, List.map_nil, Nat.reduceAdd, Nat.testBit, Nat.reduceShiftRight, Nat.reduceAnd, Nat.reduceBNe, Nat.reduceMul, r3, h.it.len, i1, b3, i1', b3', c1, c2, g1, g2, hb1, hc1, hc2]
    refine use_pureX (H.b17 M N l[j].c l[i].c _ _ fj fi vj vi) fun r1 => ?_
    have hcj := cmR_eq hjl
    have hci := cmR_eq hi
    cases hbf : befB l[j].c l[i].c with
    | true =>
      simp (implicitDefEqProofs := false) (disch := omega) only [WPs, opds, List.all_cons, List.all_nil, List.cons_append, List.nil_append, cond_true, cond_false, eq_self, List.map_cons, List.map_nil, Nat.reduceAdd, Nat.testBit, Nat.reduceShiftRight, Nat.reduceAnd, Nat.reduceBNe, Nat.reduceMul]
      exact hQ1 j (by omega) (by rw [hcj, hci]; exact hbf) _
    | false =>
      simp (implicitDefEqProofs := false) (disch := omega) only [WPs, opds, List.all_cons, List.all_nil, List.cons_append, List.nil_append, cond_true, cond_false, eq_self, List.map_cons, List.map_nil, Nat.reduceAdd, Nat.testBit, Nat.reduceShiftRight, Nat.reduceAnd, Nat.reduceBNe, Nat.reduceMul]
      refine wr_end (ih (j + 1) (by omega) (fun k hk => ?_) _ _ _) fun X e m n w hq => ?_
      · rcases Nat.lt_or_ge k j with h1 | h1
        · exact ha k h1
        · have e1 : k = j := by omega
          subst e1; rw [hcj, hci]; exact hbf
      · simpa only [zero_lor'] using hq
theorem eligible_spec (H : Hy E Y) (hE : E 49 = some ac49) {M : FM} {n0 N : Nat} {tag : Tags} {r : Nat} {l : List It} {iv : Value} (h : QR M n0 N tag r l iv) {i : Nat} (hi : i < l.length) :
    Pure (callW PG E Y 49 [.pointer (some ⟨r, 0, none⟩), .int .i64 (i : Int)] M N) M N (.bool (eligR l i)) := by
  refine pure_spec hE rfl rfl ?_
  have r1 := h.r1
  have r3 := h.r3
  obtain ⟨b, i1, b0, b1, b2, b3⟩ := h.it.at hi
  have c0 := items_cget (k := 9) hi (by omega) (show (itemC l[i])[9]? = some (.bool l[i].f) from rfl)
  have hb1 := h.it.bel N (Nat.le_refl _)
  simp only [ac49]
  simp (implicitDefEqProofs := false) (disch := omega) only [WPs, opds, List.all_cons, List.all_nil, List.cons_append, List.nil_append, cond_true, cond_false, eq_self, List.map_cons, List.map_nil, Nat.reduceAdd, Nat.testBit, Nat.reduceShiftRight, Nat.reduceAnd, Nat.reduceBNe, Nat.reduceMul]
  refine wr_cps (elig_L0 H h hi (fun k hk hb e' r => ?_) (fun hn x0 x2 x3 r => ?_) i 0 (by omega) (fun k hk => by omega) _ _ _)
  · have : eligR l i = false := by
      rw [eligR, show ((List.range i).any fun k => befB (cmR l k) (cmR l i)) = true from List.any_eq_true.2 ⟨k, List.mem_range.2 hk, hb⟩, Bool.not_true, Bool.and_false]
    rw [this]
    simp (implicitDefEqProofs := false) (disch := omega) only [WPs, opds, List.all_cons, List.all_nil, List.cons_append, List.nil_append, cond_true, cond_false, eq_self, List.map_cons, List.map_nil, Nat.reduceAdd, Nat.testBit, Nat.reduceShiftRight, Nat.reduceAnd, Nat.reduceBNe, Nat.reduceMul]
  · have hany : ((List.range i).any fun k => befB (cmR l k) (cmR l i)) = false := by
      rw [← Bool.not_eq_true, List.any_eq_true]
      rintro ⟨k, hk, hp⟩
      rw [hn k (List.mem_range.1 hk)] at hp
      cases hp
    have : eligR l i = !l[i].f := by
      rw [eligR, flR_eq hi, hany, Bool.not_false, Bool.and_true]
    rw [this]
    simp (implicitDefEqProofs := false) (disch := omega) only [WPs, opds, List.all_cons, List.all_nil, List.cons_append, List.nil_append, cond_true, cond_false, eq_self, List.map_cons, List.map_nil, Nat.reduceAdd, Nat.testBit, Nat.reduceShiftRight, Nat.reduceAnd, Nat.reduceBNe, Nat.reduceMul, r3, i1, b3, c0, hb1]
theorem rtags_at {l : List It} {j : Nat} (h : j < l.length) : (rtags l)[j]? = some l[j].c.tag := by
  rw [rtags, List.getElem?_map, List.getElem?_eq_getElem h]; rfl
theorem relig_L0 (H : Hy E Y) (h49 : E 49 = some ac49) {M : FM} {n0 N : Nat} {tag : Tags} {r : Nat} {l : List It} {iv : Value} (h : QR M n0 N tag r l iv) {Q : AX → List Value → FM → Nat → Nat → Prop}
    (hQ : ∀ M' N' w ov, N ≤ N' → (∀ b, b < N → M' b = M b) → (∀ j, j ≤ N → Nat.mod w (bit j) = 0) → IntZ M' N N' ov (pick (eligR l) (rtags l) l.length) → ∀ e', Q (.exit 0) (ov :: e') M' N' w) :
    ∀ d j, j + d = l.length → ∀ (M' : FM) (N' w0 : Nat) (x2 x3 x4 ov : Value), N ≤ N' → (∀ b, b < N → M' b = M b) → (∀ j, j ≤ N → Nat.mod w0 (bit j) = 0) → IntZ M' N N' ov (pick (eligR l) (rtags l) j) →
    Gv (execW PG E Y ac27L0 [ov, .int .i64 (j : Int), x2, x3, x4, .pointer (some ⟨r, 0, none⟩)] M' N') fun X e m n w => Q X e m n (Nat.lor w0 w) := by
  have r1 := h.r1
  have hlen := h.len
  intro d
  induction d with
  | zero =>
    intro j hj M' N' w0 x2 x3 x4 ov hN hM hw ho
    obtain rfl : j = l.length := by omega
    have h' := h.stay hN hM
    refine wr_loopN (L := ac27L0) (b := ac27L0b) rfl ?_
    simp only [ac27L0b]
    simp (implicitDefEqProofs := false) (disch := omega) only [WPs, opds, List.all_cons, List.all_nil, List.cons_append, List.nil_append, cond_true, cond_false, eq_self, List.map_cons, List.map_nil, Nat.reduceAdd, Nat.testBit, Nat.reduceShiftRight, Nat.reduceAnd, Nat.reduceBNe, Nat.reduceMul, h'.r3, h'.it.len]
    exact hQ _ _ _ _ hN hM hw ho _
  | succ d ih =>
    intro j hj M' N' w0 x2 x3 x4 ov hN hM hw ho
    have hjl : j < l.length := by omega
    have h' := h.stay hN hM
    have r3 := h'.r3
    obtain ⟨b, i1, b0, b1, b2, b3⟩ := h'.it.at hjl
    have c0 := items_cget (k := 0) hjl (by omega) (show (itemC l[j])[0]? = some (.int .i64 l[j].c.tag) from rfl)
    rw [Nat.add_zero] at c0
    refine wr_loopN (L := ac27L0) (b := ac27L0b) rfl ?_
    simp only [ac27L0b]
    simp (implicitDefEqProofs := false) (disch := omega) only [WPs, opds, List.all_cons, List.all_nil, List.cons_append, List.nil_append, cond_true, cond_false, eq_self, List.map_cons, List.map_nil, Nat.reduceAdd, Nat.testBit, Nat.reduceShiftRight, Nat.reduceAnd, Nat.reduceBNe, Nat.reduceMul, r3, h'.it.len]
    refine use_pure (eligible_spec H h49 h' hjl) fun r1 => ?_
    have hle := pick_le (eligR l) (rtags l) j
    cases hp : eligR l j
    · have hsucc : pick (eligR l) (rtags l) (j + 1) = pick (eligR l) (rtags l) j := by simp only [pick, hp]; simp
      simp (implicitDefEqProofs := false) (disch := omega) only [WPs, opds, List.all_cons, List.all_nil, List.cons_append, List.nil_append, cond_true, cond_false, eq_self, List.map_cons, List.map_nil, Nat.reduceAdd, Nat.testBit, Nat.reduceShiftRight, Nat.reduceAnd, Nat.reduceBNe, Nat.reduceMul]
      exact wr_end' ((ih (j + 1) (by omega) M' N' w0 _ _ _ _ hN hM hw (by rw [hsucc]; exact ho)).mono fun X e m n w hq => by simpa only [zero_lor'] using hq)
    · have hsucc : pick (eligR l) (rtags l) (j + 1) = pick (eligR l) (rtags l) j ++ [l[j].c.tag] := by simp only [pick, hp, if_true, rtags_at hjl, Option.toList_some]
      simp (implicitDefEqProofs := false) (disch := omega) only [WPs, opds, List.all_cons, List.all_nil, List.cons_append, List.nil_append, cond_true, cond_false, eq_self, List.map_cons, List.map_nil, Nat.reduceAdd, Nat.testBit, Nat.reduceShiftRight, Nat.reduceAnd, Nat.reduceBNe, Nat.reduceMul, r3, i1, b3, c0, ho.len, ho.one]
      refine use_rt (app_intZ (n0 := N) (N := N' + 1) (ho.frame (N' := N' + 1) (by omega) (fun b h1 h2 => fput_ne _ _ _ _ (by omega))) l[j].c.tag _ _ _ (by omega) (by omega)) fun v' M2 N2 r' w' hA => ?_
      obtain ⟨rfl, ha, hlow, hw'⟩ := hA
      simp (implicitDefEqProofs := false) (disch := omega) only [WPs, opds, List.all_cons, List.all_nil, List.cons_append, List.nil_append, cond_true, cond_false, eq_self, List.map_cons, List.map_nil, Nat.reduceAdd, Nat.testBit, Nat.reduceShiftRight, Nat.reduceAnd, Nat.reduceBNe, Nat.reduceMul]
      refine wr_end' ((ih (j + 1) (by omega) M2 (N' + 1 + 1) (Nat.lor w0 (Nat.lor (bit N') w')) _ _ _ _ (by omega) (fun b hb => by rw [hlow b (by omega), fput_ne _ _ _ _ (by omega)]; exact hM b hb) (fun i hi => by rw [frz_iff, frz_iff]; exact ⟨hw i hi, frz_bit (by omega), hw' i (by omega)⟩) (by rw [hsucc]; exact ha)).mono fun X e m n w hq => ?_)
      rw [← lor_assoc']; exact hq
theorem relig_spec (H : Hy E Y) (hE : E 27 = some ac27) (h49 : E 49 = some ac49) {M : FM} {n0 N : Nat} {tag : Tags} {r : Nat} {l : List It} {iv : Value} (h : QR M n0 N tag r l iv) :
    Rt (callW PG E Y 27 [.pointer (some ⟨r, 0, none⟩)] M N) fun v m' n' w => N ≤ n' ∧ (∀ b, b < N → m' b = M b) ∧ (∀ j, j ≤ N → Nat.mod w (bit j) = 0) ∧ Ints m' n' v (pick (eligR l) (rtags l) l.length) := by
  refine kept_specA hE rfl fun Q hQ => ?_
  simp only [ac27]
  simp (implicitDefEqProofs := false) (disch := omega) only [WPs, opds, List.all_cons, List.all_nil, List.cons_append, List.nil_append, cond_true, cond_false, eq_self, List.map_cons, List.map_nil, Nat.reduceAdd, Nat.testBit, Nat.reduceShiftRight, Nat.reduceAnd, Nat.reduceBNe, Nat.reduceMul]
  refine wr_kont (relig_L0 H h49 h ?_ l.length 0 (by omega) M N 0 _ _ _ _ (Nat.le_refl _) (fun _ _ => rfl) (fun j _ => Nat.zero_mod _) (IntZ.nil _ _ _))
  intro M' N' w ov hN hM hw ho e' r
  simp (implicitDefEqProofs := false) (disch := omega) only [WPs, opds, List.all_cons, List.all_nil, List.cons_append, List.nil_append, cond_true, cond_false, eq_self, List.map_cons, List.map_nil, Nat.reduceAdd, Nat.testBit, Nat.reduceShiftRight, Nat.reduceAnd, Nat.reduceBNe, Nat.reduceMul]
  exact hQ _ _ _ _ _ hN hM (hw N (Nat.le_refl _)) (fun _ => ho.ints) (fun hv => ho.free hv)
def tagP (st : Bool) (l : List It) (i : Nat) : Bool := !st || flR l i
theorem rtags_L0 (st : Bool) {M : FM} {n0 N : Nat} {tag : Tags} {r : Nat} {l : List It} {iv : Value} (h : QR M n0 N tag r l iv) {Q : AX → List Value → FM → Nat → Nat → Prop}
    (hQ : ∀ M' N' w ov, N ≤ N' → (∀ b, b < N → M' b = M b) → (∀ j, j ≤ N → Nat.mod w (bit j) = 0) → IntZ M' N N' ov (pick (tagP st l) (rtags l) l.length) → ∀ e', Q (.exit 0) (ov :: e') M' N' w) :
    ∀ d j, j + d = l.length → ∀ (M' : FM) (N' w0 : Nat) (x2 x3 x4 ov : Value), N ≤ N' → (∀ b, b < N → M' b = M b) → (∀ j, j ≤ N → Nat.mod w0 (bit j) = 0) → IntZ M' N N' ov (pick (tagP st l) (rtags l) j) →
    Gv (execW PG E Y ac26L0 [ov, .int .i64 (j : Int), x2, x3, x4, .pointer (some ⟨r, 0, none⟩), .bool st] M' N') fun X e m n w => Q X e m n (Nat.lor w0 w) := by
  have r1 := h.r1
  have hlen := h.len
  intro d
  induction d with
  | zero =>
    intro j hj M' N' w0 x2 x3 x4 ov hN hM hw ho
    obtain rfl : j = l.length := by omega
    have h' := h.stay hN hM
    refine wr_loopN (L := ac26L0) (b := ac26L0b) rfl ?_
    simp only [ac26L0b]
    simp (implicitDefEqProofs := false) (disch := omega) only [WPs, opds, List.all_cons, List.all_nil, List.cons_append, List.nil_append, cond_true, cond_false, eq_self, List.map_cons, List.map_nil, Nat.reduceAdd, Nat.testBit, Nat.reduceShiftRight, Nat.reduceAnd, Nat.reduceBNe, Nat.reduceMul, h'.r3, h'.it.len]
    exact hQ _ _ _ _ hN hM hw ho _
  | succ d ih =>
    intro j hj M' N' w0 x2 x3 x4 ov hN hM hw ho
    have hjl : j < l.length := by omega
    have h' := h.stay hN hM
    have r3 := h'.r3
    obtain ⟨b, i1, b0, b1, b2, b3⟩ := h'.it.at hjl
    have c0 := items_cget (k := 0) hjl (by omega) (show (itemC l[j])[0]? = some (.int .i64 l[j].c.tag) from rfl)
    rw [Nat.add_zero] at c0
    refine wr_loopN (L := ac26L0) (b := ac26L0b) rfl ?_
    simp only [ac26L0b]
    have c9 := items_cget (k := 9) hjl (by omega) (show (itemC l[j])[9]? = some (.bool l[j].f) from rfl)
    have hle := pick_le (tagP st l) (rtags l) j
    have hfl := flR_eq hjl
    cases hp : tagP st l j
    · have hsucc : pick (tagP st l) (rtags l) (j + 1) = pick (tagP st l) (rtags l) j := by simp only [pick, hp]; simp
      have h1 : st = true := by cases st; cases hp; rfl
      have h2 : l[j].f = false := by rw [tagP, hfl, h1] at hp; exact hp
      subst h1
      rw [h2] at c9
      simp (implicitDefEqProofs := false) (disch := omega) only [WPs, opds, List.all_cons, List.all_nil, List.cons_append, List.nil_append, cond_true, cond_false, eq_self, List.map_cons, List.map_nil, Nat.reduceAdd, Nat.testBit, Nat.reduceShiftRight, Nat.reduceAnd, Nat.reduceBNe, Nat.reduceMul, r3, h'.it.len, i1, b3, c9]
      exact wr_end' ((ih (j + 1) (by omega) M' N' w0 _ _ _ _ hN hM hw (by rw [hsucc]; exact ho)).mono fun X e m n w hq => by simpa only [zero_lor'] using hq)
    · have hsucc : pick (tagP st l) (rtags l) (j + 1) = pick (tagP st l) (rtags l) j ++ [l[j].c.tag] := by simp only [pick, hp, if_true, rtags_at hjl, Option.toList_some]
      cases st
      · simp (implicitDefEqProofs := false) (disch := omega) only [WPs, opds, List.all_cons, List.all_nil, List.cons_append, List.nil_append, cond_true, cond_false, eq_self, List.map_cons, List.map_nil, Nat.reduceAdd, Nat.testBit, Nat.reduceShiftRight, Nat.reduceAnd, Nat.reduceBNe, Nat.reduceMul, r3, h'.it.len, i1, b3, c0, ho.len, ho.one]
        refine use_rt (app_intZ (n0 := N) (N := N' + 1) (ho.frame (N' := N' + 1) (by omega) (fun b h1 h2 => fput_ne _ _ _ _ (by omega))) l[j].c.tag _ _ _ (by omega) (by omega)) fun v' M2 N2 r' w' hA => ?_
        obtain ⟨rfl, ha, hlow, hw'⟩ := hA
        simp (implicitDefEqProofs := false) (disch := omega) only [WPs, opds, List.all_cons, List.all_nil, List.cons_append, List.nil_append, cond_true, cond_false, eq_self, List.map_cons, List.map_nil, Nat.reduceAdd, Nat.testBit, Nat.reduceShiftRight, Nat.reduceAnd, Nat.reduceBNe, Nat.reduceMul]
        refine wr_end' ((ih (j + 1) (by omega) M2 (N' + 1 + 1) (Nat.lor w0 (Nat.lor (bit N') w')) _ _ _ _ (by omega) (fun b hb => by rw [hlow b (by omega), fput_ne _ _ _ _ (by omega)]; exact hM b hb) (fun i hi => by rw [frz_iff, frz_iff]; exact ⟨hw i hi, frz_bit (by omega), hw' i (by omega)⟩) (by rw [hsucc]; exact ha)).mono fun X e m n w hq => ?_)
        rw [← lor_assoc']; exact hq
      · have h2 : l[j].f = true := by rw [tagP, hfl] at hp; exact hp
        rw [h2] at c9
        simp (implicitDefEqProofs := false) (disch := omega) only [WPs, opds, List.all_cons, List.all_nil, List.cons_append, List.nil_append, cond_true, cond_false, eq_self, List.map_cons, List.map_nil, Nat.reduceAdd, Nat.testBit, Nat.reduceShiftRight, Nat.reduceAnd, Nat.reduceBNe, Nat.reduceMul, r3, h'.it.len, i1, b3, c0, c9, ho.len, ho.one]
        refine use_rt (app_intZ (n0 := N) (N := N' + 1) (ho.frame (N' := N' + 1) (by omega) (fun b h1 h2 => fput_ne _ _ _ _ (by omega))) l[j].c.tag _ _ _ (by omega) (by omega)) fun v' M2 N2 r' w' hA => ?_
        obtain ⟨rfl, ha, hlow, hw'⟩ := hA
        simp (implicitDefEqProofs := false) (disch := omega) only [WPs, opds, List.all_cons, List.all_nil, List.cons_append, List.nil_append, cond_true, cond_false, eq_self, List.map_cons, List.map_nil, Nat.reduceAdd, Nat.testBit, Nat.reduceShiftRight, Nat.reduceAnd, Nat.reduceBNe, Nat.reduceMul]
        refine wr_end' ((ih (j + 1) (by omega) M2 (N' + 1 + 1) (Nat.lor w0 (Nat.lor (bit N') w')) _ _ _ _ (by omega) (fun b hb => by rw [hlow b (by omega), fput_ne _ _ _ _ (by omega)]; exact hM b hb) (fun i hi => by rw [frz_iff, frz_iff]; exact ⟨hw i hi, frz_bit (by omega), hw' i (by omega)⟩) (by rw [hsucc]; exact ha)).mono fun X e m n w hq => ?_)
        rw [← lor_assoc']; exact hq
theorem rtags_spec (hE : E 26 = some ac26) (st : Bool) {M : FM} {n0 N : Nat} {tag : Tags} {r : Nat} {l : List It} {iv : Value} (h : QR M n0 N tag r l iv) :
    Rt (callW PG E Y 26 [.pointer (some ⟨r, 0, none⟩), .bool st] M N) fun v m' n' w => N ≤ n' ∧ (∀ b, b < N → m' b = M b) ∧ (∀ j, j ≤ N → Nat.mod w (bit j) = 0) ∧ Ints m' n' v (pick (tagP st l) (rtags l) l.length) := by
  refine kept_specA hE rfl fun Q hQ => ?_
  simp only [ac26]
  simp (implicitDefEqProofs := false) (disch := omega) only [WPs, opds, List.all_cons, List.all_nil, List.cons_append, List.nil_append, cond_true, cond_false, eq_self, List.map_cons, List.map_nil, Nat.reduceAdd, Nat.testBit, Nat.reduceShiftRight, Nat.reduceAnd, Nat.reduceBNe, Nat.reduceMul]
  refine wr_kont (rtags_L0 st h ?_ l.length 0 (by omega) M N 0 _ _ _ _ (Nat.le_refl _) (fun _ _ => rfl) (fun j _ => Nat.zero_mod _) (IntZ.nil _ _ _))
  intro M' N' w ov hN hM hw ho e' r
  simp (implicitDefEqProofs := false) (disch := omega) only [WPs, opds, List.all_cons, List.all_nil, List.cons_append, List.nil_append, cond_true, cond_false, eq_self, List.map_cons, List.map_nil, Nat.reduceAdd, Nat.testBit, Nat.reduceShiftRight, Nat.reduceAnd, Nat.reduceBNe, Nat.reduceMul]
  exact hQ _ _ _ _ _ hN hM (hw N (Nat.le_refl _)) (fun _ => ho.ints) (fun hv => ho.free hv)
end Go.Am.C41
namespace Go.Am.C41
open Go Go.Am
variable {E : Nat → Option AFn} {Y : Nat → List Value → FM → Nat → OR FM}
structure Tr (E : Nat → Option AFn) : Prop where
  e10 : E 10 = some ac10
  e19 : E 19 = some ac19
  e20 : E 20 = some ac20
  e22 : E 22 = some ac22
  e25 : E 25 = some ac25
  e26 : E 26 = some ac26
  e27 : E 27 = some ac27
  e28 : E 28 = some ac28
  e29 : E 29 = some ac29
  e44 : E 44 = some ac44
  e45 : E 45 = some ac45
  e46 : E 46 = some ac46
  e49 : E 49 = some ac49
  e50 : E 50 = some ac50
  e63 : E 63 = some ac63
structure Act where
  kind : Int
  k : Int
  c : Cmd
def Act.cells (a : Act) (d : Value) : List Value := [.int .i64 a.kind, .int .i64 a.k, .int .i64 a.c.tag, .int .i64 a.c.kind, .int .i64 a.c.ord, .bool a.c.force, .string a.c.vol, .string a.c.oth, .int .i64 a.c.at_, .int .i64 a.c.len, d]
def actV (a : Act) (d : Value) : Value := .agg #[.int .i64 a.kind, .int .i64 a.k, .int .i64 a.c.tag, .int .i64 a.c.kind, .int .i64 a.c.ord, .bool a.c.force, .string a.c.vol, .string a.c.oth, .int .i64 a.c.at_, .int .i64 a.c.len, d]
def tagZ (T : List Int) (k : Int) : Int := if k < 0 ∨ T = [] then k else T.getD (k.toNat % T.length) 0
theorem tag_spec (T : Tr E) {M : FM} {n0 N : Nat} {tag : Tags} {r : Nat} {l : List It} {iv : Value} (h : QR M n0 N tag r l iv) (a : Act) (d : Value) (hd : Am.one d = true) :
    Pure (callW PG E Y 28 [.pointer (some ⟨r, 0, none⟩), actV a d] M N) M N (.int .i64 (tagZ (rtags l) a.k)) := by
  refine pure_spec T.e28 rfl rfl ?_
  have r1 := h.r1
  have r3 := h.r3
  have hb1 := h.it.bel (N + 1) (by omega)
  have hlen := h.len
  simp only [ac28, actV]
  have hrl : (rtags l).length = l.length := List.length_map ..
  by_cases hk : a.k < 0
  · rw [tagZ, if_pos (.inl hk)]
    simp (implicitDefEqProofs := false) (disch := omega) only [WPs, opds, List.all_cons, List.all_nil, List.cons_append, List.nil_append, cond_true, cond_false, eq_self, List.map_cons, List.map_nil, Nat.reduceAdd, Nat.testBit, Nat.reduceShiftRight, Nat.reduceAnd, Nat.reduceBNe, Nat.reduceMul, hd, decide_eq_true hk]
  · obtain ⟨k, hkk⟩ : ∃ k : Nat, a.k = (k : Int) := ⟨a.k.toNat, by omega⟩
    have hkf : decide ((k : Int) < 0) = false := decide_eq_false (by omega)
    by_cases hl : l.length = 0
    · have : l = [] := List.length_eq_zero_iff.1 hl
      subst this
      rw [tagZ, if_pos (.inr rfl), hkk]
      simp (implicitDefEqProofs := false) (disch := omega) only [WPs, opds, List.all_cons, List.all_nil, List.cons_append, List.nil_append, cond_true, cond_false, eq_self, List.map_cons, List.map_nil, Nat.reduceAdd, Nat.testBit, Nat.reduceShiftRight, Nat.reduceAnd, Nat.reduceBNe, Nat.reduceMul, hd, hkf, r3, h.it.len]
    · have hne : rtags l ≠ [] := fun e => hl (by rw [← hrl, e]; rfl)
      have hi : k % l.length < l.length := Nat.mod_lt _ (by omega)
      obtain ⟨b, i1, b0, b1, b2, b3⟩ := h.it.at hi
      have c0 := items_cget (k := 0) hi (by omega) (show (itemC l[k % l.length])[0]? = some (.int .i64 l[k % l.length].c.tag) from rfl)
      rw [Nat.add_zero] at c0
      rw [tagZ, if_neg (by rintro (h | h); exact hk h; exact hne h), hkk, Int.toNat_natCast, hrl]
      have hg : (rtags l).getD (k % l.length) 0 = l[k % l.length].c.tag := by rw [List.getD_eq_getElem?_getD, rtags_at hi]; rfl
      rw [hg]
      simp (implicitDefEqProofs := false) (disch := omega) only [WPs, opds, List.all_cons, List.all_nil, List.cons_append, List.nil_append, cond_true, cond_false, eq_self, List.map_cons, List.map_nil, Nat.reduceAdd, Nat.testBit, Nat.reduceShiftRight, Nat.reduceAnd, Nat.reduceBNe, Nat.reduceMul, hd, hkf, r3, h.it.len, hb1, decide_eq_false (show ¬ ((l.length : Int) = 0) by omega), i1, b3, c0]
theorem rget_spec (T : Tr E) {M : FM} {n0 N : Nat} {tag : Tags} {r : Nat} {l : List It} {iv : Value} (h : QR M n0 N tag r l iv) (t : Int) :
    Rt (callW PG E Y 29 [.pointer (some ⟨r, 0, none⟩), .int .i64 t] M N) fun v M' N' w => N ≤ N' ∧ (∀ b, b < N → M' b = M b) ∧ (∀ j, j ≤ N → Nat.mod w (bit j) = 0) ∧ ((findR t l = none ∧ v = .tuple [cmdV zeroC (.slice none 0 0), .bool false].toArray) ∨ (∃ i, findR t l = some i ∧ ∃ hi : i < l.length, v = .tuple [cmdV l[i].c l[i].d, .bool true].toArray)) := by
  have r1 := h.r1
  have r3 := h.r3
  have hlen := h.len
  refine kept_specQ T.e29 rfl fun Q hQ => ?_
  simp only [ac29]
  have h' := fun (M' : FM) (hM : ∀ b, b < N → M' b = M b) => h.stay (M' := M') (N' := N + 1) (by omega) hM
  simp (implicitDefEqProofs := false) (disch := omega) only [WPs, opds, List.all_cons, List.all_nil, List.cons_append, List.nil_append, cond_true, cond_false, eq_self, List.map_cons, List.map_nil, Nat.reduceAdd, Nat.testBit, Nat.reduceShiftRight, Nat.reduceAnd, Nat.reduceBNe, Nat.reduceMul]
  refine use_pure (find_spec T.e50 (h' _ fun b hb => by simp (implicitDefEqProofs := false) (disch := omega) only [WPs, opds, List.all_cons, List.all_nil, List.cons_append, List.nil_append, cond_true, cond_false, eq_self, List.map_cons, List.map_nil, Nat.reduceAdd, Nat.testBit, Nat.reduceShiftRight, Nat.reduceAnd, Nat.reduceBNe, Nat.reduceMul]) t) fun r1 => ?_
  cases hf : findR t l with
  | none =>
    rw [findZ, hf]
    simp (implicitDefEqProofs := false) (disch := omega) only [WPs, opds, List.all_cons, List.all_nil, List.cons_append, List.nil_append, cond_true, cond_false, eq_self, List.map_cons, List.map_nil, Nat.reduceAdd, Nat.testBit, Nat.reduceShiftRight, Nat.reduceAnd, Nat.reduceBNe, Nat.reduceMul]
    exact hQ _ _ _ _ _ (by omega) (fun b hb => by simp (implicitDefEqProofs := false) (disch := omega) only [WPs, opds, List.all_cons, List.all_nil, List.cons_append, List.nil_append, cond_true, cond_false, eq_self, List.map_cons, List.map_nil, Nat.reduceAdd, Nat.testBit, Nat.reduceShiftRight, Nat.reduceAnd, Nat.reduceBNe, Nat.reduceMul]) (by simp only [frz_iff]; exact ⟨frz_bit (by omega), frz_bit (by omega)⟩) rfl (.inl ⟨hf, rfl⟩)
  | some i =>
    obtain ⟨hi, he, _⟩ := List.findIdx?_eq_some_iff_getElem.mp hf
    rw [findZ, hf]
    obtain ⟨b, i1, b0, b1, b2, b3⟩ := h.it.at hi
    obtain ⟨fi, vi, bi, oi⟩ := h.at hi
    have c1 := items_ctake hi
    have g1 := item_agg l[i].c l[i].d oi
    have hlt : decide ((i : Int) < 0) = false := decide_eq_false (by omega)
    simp (implicitDefEqProofs := false) (disch := omega) only [WPs, opds, List.all_cons, List.all_nil, List.cons_append, List.nil_append, cond_true, cond_false, eq_self, List.map_cons, List.map_nil, Nat.reduceAdd, Nat.testBit, Nat.reduceShiftRight, Nat.reduceAnd, Nat.reduceBNe, Nat.reduceMul, hlt, r3, i1, b3, c1, g1, cmdV, oi]
    exact hQ _ _ _ _ _ (by omega) (fun b hb => by simp (implicitDefEqProofs := false) (disch := omega) only [WPs, opds, List.all_cons, List.all_nil, List.cons_append, List.nil_append, cond_true, cond_false, eq_self, List.map_cons, List.map_nil, Nat.reduceAdd, Nat.testBit, Nat.reduceShiftRight, Nat.reduceAnd, Nat.reduceBNe, Nat.reduceMul]) (by simp only [frz_iff]; exact ⟨frz_bit (by omega), frz_bit (by omega)⟩) rfl (.inr ⟨i, hf, hi, rfl⟩)
end Go.Am.C41
namespace Go.Am.C41
open Go Go.Am
variable {E : Nat → Option AFn} {Y : Nat → List Value → FM → Nat → OR FM}
noncomputable def rsubE (l : List It) (c : Cmd) : Int := if validB c = true then (if c.tag ∈ rtags l then 10 else if 64 ≤ l.length then 7 else 0) else 1
theorem findZ_lt {t : Int} {l : List It} (h : t ∉ rtags l) : findZ t l = -1 := by
  rw [findZ, findR_none fun i hi _ e => h (by rw [← e]; exact List.mem_map.2 ⟨_, List.getElem_mem hi, rfl⟩)]
theorem findR_mem {t : Int} {l : List It} (h : t ∈ rtags l) : ∃ i, findR t l = some i ∧ ∃ hi : i < l.length, l[i].c.tag = t ∧ ∀ j (hj : j < i), l[j].c.tag ≠ t := by
  cases hf : findR t l with
  | none =>
    obtain ⟨x, hx, rfl⟩ := List.mem_map.1 h
    have := List.findIdx?_eq_none_iff.mp hf x hx
    simp at this
  | some i =>
    obtain ⟨hi, he, hm⟩ := List.findIdx?_eq_some_iff_getElem.mp hf
    exact ⟨i, rfl, hi, of_decide_eq_true he, fun j hj e => hm j hj (decide_eq_true e)⟩
theorem rsubmit_spec (H : Hy E Y) (T : Tr E) {M : FM} {n0 N : Nat} {tag : Tags} {r : Nat} {l : List It} {iv : Value} (h : QR M n0 N tag r l iv) (c : Cmd) (v : Value) (hF : c.Fit) (hv : DatS M n0 v c.data) (hs : c.data.length ≤ 1000000) :
    Rt (callW PG E Y 44 [.pointer (some ⟨r, 0, none⟩), cmdV c v] M N) fun x M' N' w => x = .int .i64 (rsubE l c) ∧ ((rsubE l c ≠ 0 ∧ M' = M ∧ N' = N ∧ w = 0) ∨ (rsubE l c = 0 ∧ Wrt N tag 11 15 w ∧ ∃ tag' iv' d, Chg M n0 N tag 11 15 M' N' w tag' ∧ QR M' n0 N' tag' r (l ++ [⟨c, d, false⟩]) iv')) := by
  have r0 := h.r0
  have r1 := h.r1
  have r2 := h.r2
  have r3 := h.r3
  have hlen := h.len
  have hvN := hv.frame (by omega : n0 ≤ N) (fun _ _ => rfl)
  refine chg_spec T.e44 rfl fun Q hQ => ?_
  simp only [ac44, cmdV]
  have hbox : ∀ {M' : FM}, (∀ b, b < N → M' b = M b) → DatV M' (N + 1) v c.data := fun hM => hvN.v.frame (by omega) hM
  have fv : ∀ k, N ≤ k → belowF k v = true := fun k hk => by
    have hb := hvN.v.bel k hk
    obtain ⟨a, cc, e, _⟩ := hvN.v
    rw [e] at hb ⊢; exact hb
  simp (implicitDefEqProofs := false) (disch := omega) only [WPs, opds, List.all_cons, List.all_nil, List.cons_append, List.nil_append, cond_true, cond_false, eq_self, List.map_cons, List.map_nil, Nat.reduceAdd, Nat.testBit, Nat.reduceShiftRight, Nat.reduceAnd, Nat.reduceBNe, Nat.reduceMul, hvN.v.one]
  refine use_pure (H.v23 _ _ c v hF (hbox fun b hb => by simp (implicitDefEqProofs := false) (disch := omega) only [WPs, opds, List.all_cons, List.all_nil, List.cons_append, List.nil_append, cond_true, cond_false, eq_self, List.map_cons, List.map_nil, Nat.reduceAdd, Nat.testBit, Nat.reduceShiftRight, Nat.reduceAnd, Nat.reduceBNe, Nat.reduceMul])) fun _ => ?_
  cases hval : validB c
  · have hE1 : rsubE l c = 1 := by rw [rsubE, hval]; rfl
    simp (implicitDefEqProofs := false) (disch := omega) only [WPs, opds, List.all_cons, List.all_nil, List.cons_append, List.nil_append, cond_true, cond_false, eq_self, List.map_cons, List.map_nil, Nat.reduceAdd, Nat.testBit, Nat.reduceShiftRight, Nat.reduceAnd, Nat.reduceBNe, Nat.reduceMul]
    exact hQ _ _ _ _ _ (fun _ _ => ⟨by rw [hE1], .inl ⟨by rw [hE1]; decide, rfl, rfl, rfl⟩⟩) (fun hn => absurd ⟨rfl, frz_bit (by omega)⟩ hn)
  · have h' := fun (M' : FM) (hM : ∀ b, b < N → M' b = M b) => h.stay (M' := M') (N' := N + 1) (by omega) hM
    simp (implicitDefEqProofs := false) (disch := omega) only [WPs, opds, List.all_cons, List.all_nil, List.cons_append, List.nil_append, cond_true, cond_false, eq_self, List.map_cons, List.map_nil, Nat.reduceAdd, Nat.testBit, Nat.reduceShiftRight, Nat.reduceAnd, Nat.reduceBNe, Nat.reduceMul]
    refine use_pure (find_spec T.e50 (h' _ fun b hb => by simp (implicitDefEqProofs := false) (disch := omega) only [WPs, opds, List.all_cons, List.all_nil, List.cons_append, List.nil_append, cond_true, cond_false, eq_self, List.map_cons, List.map_nil, Nat.reduceAdd, Nat.testBit, Nat.reduceShiftRight, Nat.reduceAnd, Nat.reduceBNe, Nat.reduceMul]) c.tag) fun _ => ?_
    by_cases hin : c.tag ∈ rtags l
    · have hE1 : rsubE l c = 10 := by rw [rsubE, hval, if_pos rfl, if_pos hin]
      obtain ⟨i, hf, _⟩ := findR_mem hin
      rw [findZ, hf]
      simp (implicitDefEqProofs := false) (disch := omega) only [WPs, opds, List.all_cons, List.all_nil, List.cons_append, List.nil_append, cond_true, cond_false, eq_self, List.map_cons, List.map_nil, Nat.reduceAdd, Nat.testBit, Nat.reduceShiftRight, Nat.reduceAnd, Nat.reduceBNe, Nat.reduceMul, decide_eq_true (show (0 : Int) ≤ (i : Int) by omega)]
      exact hQ _ _ _ _ _ (fun _ _ => ⟨by rw [hE1], .inl ⟨by rw [hE1]; decide, rfl, rfl, rfl⟩⟩) (fun hn => absurd ⟨rfl, frz_bit (by omega)⟩ hn)
    · rw [findZ_lt hin]
      by_cases h64 : 64 ≤ l.length
      · have hE1 : rsubE l c = 7 := by rw [rsubE, hval, if_pos rfl, if_neg hin, if_pos h64]
        simp (implicitDefEqProofs := false) (disch := omega) only [WPs, opds, List.all_cons, List.all_nil, List.cons_append, List.nil_append, cond_true, cond_false, eq_self, List.map_cons, List.map_nil, Nat.reduceAdd, Nat.testBit, Nat.reduceShiftRight, Nat.reduceAnd, Nat.reduceBNe, Nat.reduceMul, r3, h.it.len, decide_eq_true (show (64 : Int) ≤ (l.length : Int) by omega)]
        exact hQ _ _ _ _ _ (fun _ _ => ⟨by rw [hE1], .inl ⟨by rw [hE1]; decide, rfl, rfl, rfl⟩⟩) (fun hn => absurd ⟨rfl, frz_bit (by omega)⟩ hn)
      · have hE1 : rsubE l c = 0 := by rw [rsubE, hval, if_pos rfl, if_neg hin, if_neg h64]
        simp (implicitDefEqProofs := false) (disch := omega) only [WPs, opds, List.all_cons, List.all_nil, List.cons_append, List.nil_append, cond_true, cond_false, eq_self, List.map_cons, List.map_nil, Nat.reduceAdd, Nat.testBit, Nat.reduceShiftRight, Nat.reduceAnd, Nat.reduceBNe, Nat.reduceMul, r3, h.it.len, decide_eq_false (show ¬ (64 : Int) ≤ (l.length : Int) by omega)]
        refine use_rt (app_dat (n := N + 1) (hvN.frame (by omega) (fun b hb => by simp (implicitDefEqProofs := false) (disch := omega) only [WPs, opds, List.all_cons, List.all_nil, List.cons_append, List.nil_append, cond_true, cond_false, eq_self, List.map_cons, List.map_nil, Nat.reduceAdd, Nat.testBit, Nat.reduceShiftRight, Nat.reduceAnd, Nat.reduceBNe, Nat.reduceMul])) hs (N + 1) (N + 2) (by omega) (by omega) (fput_same _ _ _) (by omega)) fun d M1 N1 rr w1 ⟨a1, a2, a3, a4, a5⟩ => ?_
        have hb1 := (a2 N (by omega)).trans (show _ = some (Blk.cells [.int .i64 c.tag, .int .i64 c.kind, .int .i64 c.ord, .bool c.force, .string c.vol, .string c.oth, .int .i64 c.at_, .int .i64 c.len, v] 0 false true) from by simp (implicitDefEqProofs := false) (disch := omega) only [WPs, opds, List.all_cons, List.all_nil, List.cons_append, List.nil_append, cond_true, cond_false, eq_self, List.map_cons, List.map_nil, Nat.reduceAdd, Nat.testBit, Nat.reduceShiftRight, Nat.reduceAnd, Nat.reduceBNe, Nat.reduceMul])
        have hr1 := (a2 r (by omega)).trans (show _ = some (Blk.cells [iv] 0 false true) from by simp (implicitDefEqProofs := false) (disch := omega) only [WPs, opds, List.all_cons, List.all_nil, List.cons_append, List.nil_append, cond_true, cond_false, eq_self, List.map_cons, List.map_nil, Nat.reduceAdd, Nat.testBit, Nat.reduceShiftRight, Nat.reduceAnd, Nat.reduceBNe, Nat.reduceMul, r3])
        have od := a4.one
        have cd := cells_of_one od
        have hm2 : ∀ b, b < N → M1 b = M b := fun b hb => by rw [a2 b (by omega)]; simp (implicitDefEqProofs := false) (disch := omega) only [WPs, opds, List.all_cons, List.all_nil, List.cons_append, List.nil_append, cond_true, cond_false, eq_self, List.map_cons, List.map_nil, Nat.reduceAdd, Nat.testBit, Nat.reduceShiftRight, Nat.reduceAnd, Nat.reduceBNe, Nat.reduceMul]
        have hI := (h.stay (by omega : N ≤ N1) hm2).it
        have hb1v := h.it.bel (N1 + 1) (by omega)
        have hb2v := h.it.bel N1 (by omega)
        have fd : belowF N1 d = true := by
          have hb := (a4.s (fun b hb => hb.2) : DatS M1 N1 d c.data).v
          obtain ⟨a, cc, e, hb, _⟩ := hb
          rw [e] at hb ⊢; exact hb
        simp (implicitDefEqProofs := false) (disch := omega) only [WPs, opds, List.all_cons, List.all_nil, List.cons_append, List.nil_append, cond_true, cond_false, eq_self, List.map_cons, List.map_nil, Nat.reduceAdd, Nat.testBit, Nat.reduceShiftRight, Nat.reduceAnd, Nat.reduceBNe, Nat.reduceMul, hb1, hr1, od, cd, hb1v, hb2v, fd]
        have hfr : ∀ b, b < N → (AMem.put (AMem.put M1 N (some (.cells [.int .i64 c.tag, .int .i64 c.kind, .int .i64 c.ord, .bool c.force, .string c.vol, .string c.oth, .int .i64 c.at_, .int .i64 c.len, d] 0 false true))) N1 (some (.cells [.int .i64 c.tag, .int .i64 c.kind, .int .i64 c.ord, .bool c.force, .string c.vol, .string c.oth, .int .i64 c.at_, .int .i64 c.len, d, .bool false] 10 false true)) : FM) b = M b := fun b hb => by
          rw [fput_ne _ _ _ _ (by omega), fput_ne _ _ _ _ (by omega), hm2 b hb]
        refine use_rtX (app_own (N := N1 + 1) (P := fun b => n0 ≤ b ∧ b < N ∧ tag b = 12) (l := l) (l2 := [⟨c, d, false⟩]) (OwnT.frame h.it fun b hb => ⟨hb, hfr b hb.2.1⟩) (fun b hb => by omega) _ _ _ (by
          show ((c.cells d ++ [Value.bool false]) ++ []).all Am.one = true
          simp [Cmd.cells, od, one_int, one_bool, one_str]) (by simp; omega)) fun iv' M2 N2 r2' w2 ⟨u1, u2, u3', u4, u5⟩ => ?_
        have hr2 := (u4 r (by omega) (fun hh => by omega)).trans ((hfr r r1).trans r3)
        have oiv := OwnT.one u3'
        have civ := cells_of_one oiv
        have biv := OwnT.bel u3' N2 (fun b hb => hb.2)
        simp (implicitDefEqProofs := false) (disch := omega) only [WPs, opds, List.all_cons, List.all_nil, List.cons_append, List.nil_append, cond_true, cond_false, eq_self, List.map_cons, List.map_nil, Nat.reduceAdd, Nat.testBit, Nat.reduceShiftRight, Nat.reduceAnd, Nat.reduceBNe, Nat.reduceMul, hr2, oiv, civ, biv]
        have hst : ∀ b, b < N → b ≠ r → (b < n0 ∨ tag b ≠ 12) → (AMem.put M2 r (some (.cells [iv'] 0 false true)) : FM) b = M b := fun b hb h1 h2 => by
          rw [fput_ne _ _ _ _ h1, u4 b (by omega) (fun hh => by omega), hfr b hb]
        have tl : ∀ b, b < N → (fun b => if b < N then tag b else if b = N1 + 1 then 12 else 15) b = tag b := fun b hb => if_pos hb
        have hnz : ¬ Nat.mod (Nat.lor (Nat.lor (bit N) (Nat.lor (Nat.lor (bit (N + 1)) w1) (bit N))) (Nat.lor (Nat.lor (bit N1) w2) (bit r))) (bit N) = 0 := fun hw => by
          simp only [frz_iff] at hw
          have := mod_bit hw.2.2 r r1
          rw [bit_test] at this; simp at this
        refine hQ _ _ _ _ _ (fun _ hw => absurd hw hnz) (fun _ => ⟨by rw [hE1], .inr ⟨hE1, ⟨r, r1, by omega, by omega, by simp only [lor_test, bit_test]; simp⟩, fun b => if b < N then tag b else if b = N1 + 1 then 12 else 15, iv', d, ⟨by omega, fun j hj => ?_, tl, fun b hb h3 => hst b hb (by rintro rfl; omega) (by omega)⟩, ?_⟩⟩)
        · simp only [frz_iff]
          exact ⟨⟨frz_bit (by omega), ⟨frz_bit (by omega), a3 j (by omega)⟩, frz_bit (by omega)⟩, ⟨frz_bit (by omega), u5 j (by omega) (fun b hb => by omega)⟩, frz_bit (by omega)⟩
        · exact {
            r0 := r0
            r1 := by omega
            r2 := (tl r r1).trans r2
            r3 := fput_same _ _ _
            it := OwnT.frame u3' fun b ⟨h1, h2⟩ => by
              rcases h1 with ⟨k1, k2, k3⟩ | rfl
              · exact ⟨⟨k1, h2, (tl b k2).trans k3⟩, fput_ne _ _ _ _ (by rintro rfl; omega)⟩
              · exact ⟨⟨by omega, h2, by show (if N1 + 1 < N then tag (N1 + 1) else if N1 + 1 = N1 + 1 then 12 else 15) = 12; rw [if_neg (by omega), if_pos rfl]⟩, fput_ne _ _ _ _ (by omega)⟩
            dat := fun x hx => by
              rcases List.mem_append.1 hx with hx | hx
              · obtain ⟨d1, d2, d3⟩ := h.dat x hx
                exact ⟨d1, d2.frame fun b ⟨b1, b2, b3⟩ => ⟨⟨b1, by omega, (tl b b2).trans b3⟩, hst b b2 (by rintro rfl; omega) (by omega)⟩, d3⟩
              · obtain rfl := List.mem_singleton.1 hx
                exact ⟨hF, a4.frame fun b ⟨b1, b2⟩ => ⟨⟨by omega, by omega, by show (if b < N then tag b else if b = N1 + 1 then 12 else 15) = 15; rw [if_neg (by omega), if_neg (by omega)]⟩, by
                  rw [fput_ne _ _ _ _ (by omega), u4 b (by omega) (fun hh => by omega), fput_ne _ _ _ _ (by omega), fput_ne _ _ _ _ (by omega)]⟩, hs⟩
            len := by rw [List.length_append, List.length_singleton]; omega }
end Go.Am.C41
namespace Go.Am.C41
open Go Go.Am
variable {E : Nat → Option AFn} {Y : Nat → List Value → FM → Nat → OR FM}
noncomputable def rstartE (l : List It) (t : Int) : Int := match findR t l with | none => 9 | some i => if eligR l i = true then 0 else 8
def stR (l : List It) (t : Int) : List It := match findR t l with | none => l | some i => match l[i]? with | some x => l.set i { x with f := true } | none => l
theorem rstart_spec (H : Hy E Y) (T : Tr E) {M : FM} {n0 N : Nat} {tag : Tags} {r : Nat} {l : List It} {iv : Value} (h : QR M n0 N tag r l iv) (t : Int) :
    Rt (callW PG E Y 45 [.pointer (some ⟨r, 0, none⟩), .int .i64 t] M N) fun x M' N' w => x = .int .i64 (rstartE l t) ∧ ((rstartE l t ≠ 0 ∧ M' = M ∧ N' = N ∧ w = 0) ∨ (rstartE l t = 0 ∧ Wrt N tag 11 15 w ∧ ∃ tag', Chg M n0 N tag 11 15 M' N' w tag' ∧ QR M' n0 N' tag' r (stR l t) iv)) := by
  have r0 := h.r0
  have r1 := h.r1
  have r2 := h.r2
  have r3 := h.r3
  have hlen := h.len
  refine chg_spec T.e45 rfl fun Q hQ => ?_
  simp only [ac45]
  simp (implicitDefEqProofs := false) (disch := omega) only [WPs, opds, List.all_cons, List.all_nil, List.cons_append, List.nil_append, cond_true, cond_false, eq_self, List.map_cons, List.map_nil, Nat.reduceAdd, Nat.testBit, Nat.reduceShiftRight, Nat.reduceAnd, Nat.reduceBNe, Nat.reduceMul]
  refine use_pure (find_spec T.e50 h t) fun _ => ?_
  cases hf : findR t l with
  | none =>
    have hE1 : rstartE l t = 9 := by rw [rstartE, hf]
    rw [findZ, hf]
    simp (implicitDefEqProofs := false) (disch := omega) only [WPs, opds, List.all_cons, List.all_nil, List.cons_append, List.nil_append, cond_true, cond_false, eq_self, List.map_cons, List.map_nil, Nat.reduceAdd, Nat.testBit, Nat.reduceShiftRight, Nat.reduceAnd, Nat.reduceBNe, Nat.reduceMul]
    exact hQ _ _ _ _ _ (fun _ _ => ⟨by rw [hE1], .inl ⟨by rw [hE1]; decide, rfl, rfl, rfl⟩⟩) (fun hn => absurd ⟨rfl, Nat.zero_mod _⟩ hn)
  | some i =>
    obtain ⟨hi, he, _⟩ := List.findIdx?_eq_some_iff_getElem.mp hf
    rw [findZ, hf]
    have hlt : decide ((i : Int) < 0) = false := decide_eq_false (by omega)
    simp (implicitDefEqProofs := false) (disch := omega) only [WPs, opds, List.all_cons, List.all_nil, List.cons_append, List.nil_append, cond_true, cond_false, eq_self, List.map_cons, List.map_nil, Nat.reduceAdd, Nat.testBit, Nat.reduceShiftRight, Nat.reduceAnd, Nat.reduceBNe, Nat.reduceMul, hlt]
    refine use_pure (eligible_spec H T.e49 h hi) fun _ => ?_
    cases hel : eligR l i
    · have hE1 : rstartE l t = 8 := by rw [rstartE, hf]; simp [hel]
      simp (implicitDefEqProofs := false) (disch := omega) only [WPs, opds, List.all_cons, List.all_nil, List.cons_append, List.nil_append, cond_true, cond_false, eq_self, List.map_cons, List.map_nil, Nat.reduceAdd, Nat.testBit, Nat.reduceShiftRight, Nat.reduceAnd, Nat.reduceBNe, Nat.reduceMul]
      exact hQ _ _ _ _ _ (fun _ _ => ⟨by rw [hE1], .inl ⟨by rw [hE1]; decide, rfl, rfl, rfl⟩⟩) (fun hn => absurd ⟨rfl, Nat.zero_mod _⟩ hn)
    · have hE1 : rstartE l t = 0 := by rw [rstartE, hf]; simp [hel]
      obtain ⟨b, i1, b0, b1, b2, b3⟩ := h.it.at hi
      have hs := items_set hi true
      have hb1 := h.it.bel N (Nat.le_refl _)
      have hst : stR l t = l.set i { l[i] with f := true } := by rw [stR, hf]; simp [hi]
      simp (implicitDefEqProofs := false) (disch := omega) only [WPs, opds, List.all_cons, List.all_nil, List.cons_append, List.nil_append, cond_true, cond_false, eq_self, List.map_cons, List.map_nil, Nat.reduceAdd, Nat.testBit, Nat.reduceShiftRight, Nat.reduceAnd, Nat.reduceBNe, Nat.reduceMul, r3, i1, b3, hb1, hs]
      have hnz : ¬ Nat.mod (bit b) (bit N) = 0 := fun hw => by
        have := mod_bit hw b b1
        rw [bit_test] at this; simp at this
      refine hQ _ _ _ _ _ (fun _ hw => absurd hw hnz) (fun _ => ⟨by rw [hE1], .inr ⟨hE1, ⟨b, b1, by omega, by omega, by simp only [bit_test]; simp⟩, tag, ⟨Nat.le_refl _, fun j hj => frz_bit (by omega), fun _ _ => rfl, fun k hk h3 => fput_ne _ _ _ _ (by rintro rfl; omega)⟩, ?_⟩⟩)
      rw [hst]
      have hne : l.set i { l[i] with f := true } ≠ [] := fun e => by
        have h2 : l.length = 0 := by
          have := congrArg List.length e
          rwa [List.length_set] at this
        omega
      exact {
        r0 := r0
        r1 := r1
        r2 := r2
        r3 := by rw [fput_ne _ _ _ _ (by rintro rfl; omega)]; exact r3
        it := by
          rcases h.it with ⟨rfl, _⟩ | ⟨rfl, _⟩ | ⟨_, b', rfl, ⟨k1, k2, k3⟩, k4⟩
          · simp at hi
          · simp at hi
          · have e : b' = b := by
              rw [idx_mk hi, Nat.zero_add] at i1
              simpa using i1
            subst e
            exact .inr (.inr ⟨hne, b', by rw [List.length_set], ⟨k1, k2, k3⟩, fput_same _ _ _⟩)
        dat := fun x hx => by
          have hx' : ∃ y ∈ l, x.c = y.c ∧ x.d = y.d := by
            rcases List.mem_or_eq_of_mem_set hx with hx | rfl
            · exact ⟨x, hx, rfl, rfl⟩
            · exact ⟨l[i], List.getElem_mem hi, rfl, rfl⟩
          obtain ⟨y, hy, e1, e2⟩ := hx'
          obtain ⟨d1, d2, d3⟩ := h.dat y hy
          rw [e1, e2]
          exact ⟨d1, d2.frame fun k hk => ⟨hk, fput_ne _ _ _ _ (by rintro rfl; omega)⟩, d3⟩
        len := by rw [List.length_set]; exact h.len }
theorem chg_specN {P : Program} {m : FM} {n : Nat} {f : Nat} {fn : AFn} {args : List Value} {R : Value → FM → Nat → Nat → Prop} (hE : E f = some fn) (ha : llen args = fn.na) (hr : fn.endrs = []) (h : ∀ Q : AX → List Value → FM → Nat → Nat → Prop, (∀ e m' n' w, ¬ Nat.mod w (bit n) = 0 → R (retV []) m' n' w → Q .norm e m' n' w) → Wr P E Y [] 0 (execW P E Y fn.code args m n) Q) : Rt (callW P E Y f args m n) R := by
  rw [callW_fn hE ha]
  obtain ⟨X, e', m', n', r, w, hx, rfl, h1, h2⟩ := Gv_some (wr_start (h (fun X _ m' n' w => X = .norm ∧ ¬ Nat.mod w (bit n) = 0 ∧ R (retV []) m' n' w) fun _ m' n' w k1 k2 => ⟨rfl, k1, k2⟩))
  rw [hx]
  show Rt (leaveO m n m' n' r w (resA e' m' n' fn.endrs)) R
  rw [hr]
  show Rt (leaveA m n (retV []) m' n' (Nat.lor r 0) w) R
  unfold leaveA
  have hc : (addrFree (retV []) && Nat.beq (Nat.mod w (bit n)) 0) = false := by
    cases h4 : Nat.beq (Nat.mod w (bit n)) 0
    · simp
    · exact absurd (Nat.eq_of_beq_eq_true h4) h1
  rw [hc]
  exact h2
theorem itemsC_take (l : List It) (i : Nat) : ctake (itemsC l) (i * 10) = if i ≤ l.length then some (itemsC (l.take i)) else none := by
  rw [ctake_eq, itemsC_len]
  by_cases h : i ≤ l.length
  · rw [if_pos h, if_pos (by omega)]
    congr 1
    apply List.ext_getElem?
    intro k
    rw [List.getElem?_take]
    by_cases hk : k < i * 10
    · rw [if_pos hk]
      have e : k = (k / 10) * 10 + k % 10 := by omega
      rw [e, itemsC_get _ _ _ (Nat.mod_lt _ (by omega)), itemsC_get _ _ _ (Nat.mod_lt _ (by omega)), List.getElem?_take, if_pos (by omega)]
    · rw [if_neg hk]
      exact (List.getElem?_eq_none (by rw [itemsC_len, List.length_take, Nat.min_eq_left h]; omega)).symm
  · rw [if_neg h, if_neg (by omega)]
theorem itemsC_drop (l : List It) (i : Nat) : ldrop (itemsC l) (i * 10) = itemsC (l.drop i) := by
  rw [ldrop_eq]
  apply List.ext_getElem?
  intro k
  rw [List.getElem?_drop]
  have e : k = (k / 10) * 10 + k % 10 := by omega
  rw [show i * 10 + k = (i + k / 10) * 10 + k % 10 by omega, itemsC_get _ _ _ (Nat.mod_lt _ (by omega))]
  rw [show (itemsC (l.drop i))[k]? = (itemsC (l.drop i))[(k / 10) * 10 + k % 10]? from by rw [← e]]
  rw [itemsC_get _ _ _ (Nat.mod_lt _ (by omega)), List.getElem?_drop]
theorem slc_lo {M : FM} {N b h : Nat} {l : List It} {opn wr : Bool} (h1 : h ≤ l.length) (hp : 0 < h) (hb : b < N) (hm : M b = some (.cells (itemsC l) 10 opn wr)) :
    ∃ ya yc, slcM M N 10 (slcV 10 (some (Value.int .i64 (h : Int))) none (Value.slice (some ⟨b, 0, none⟩) l.length UNK)) (Value.slice (some ⟨b, 0, none⟩) l.length UNK) = .ok (Value.slice ya (l.drop h).length yc) M N (bit b) 0 ∧ (∀ k, N ≤ k → belowV k (Value.slice ya (l.drop h).length yc) = true) ∧ ∀ (M' : FM) (N' : Nat), b < N' → M' b = some (.cells (itemsC l) 10 opn wr) → ∃ r2, shown M' N' 10 (Value.slice ya (l.drop h).length yc) = some (itemsC (l.drop h), r2) := by
  have hu1 : Nat.beq UNK UNK = true := Nat.beq_refl _
  have hu2 : Nat.beq UNK VAG = false := nbeq_f (by decide)
  have hh : Nat.beq h 0 = false := nbeq_f (by omega)
  have h0 : slcV 10 (some (Value.int .i64 (h : Int))) none (Value.slice (some ⟨b, 0, none⟩) l.length UNK) = slcA 10 h l.length l.length UNK (some ⟨b, 0, none⟩) := by
    have hc : (Nat.ble h l.length && Nat.ble l.length l.length) = true := by rw [ble_true h1, ble_true (Nat.le_refl l.length)]; rfl
    show cond (Nat.ble h l.length && Nat.ble l.length l.length) _ none = _
    rw [hc, cond_true]
  rcases Nat.lt_or_ge h l.length with h2 | h2
  · have e : slcA 10 h l.length l.length UNK (some ⟨b, 0, none⟩) = some (Value.slice (some ⟨b, h * 10, none⟩) (l.drop h).length UNK) := by
      have h3 : (Nat.blt h l.length || Nat.beq h 0) = true := by rw [blt_true h2]; rfl
      simp only [slcA, hu1, hu2, h3, cond_true, cond_false]
      rw [show Nat.add 0 (Nat.mul h 10) = h * 10 from by show 0 + h * 10 = _; omega, show Nat.sub l.length h = (l.drop h).length from (List.length_drop ..).symm]
    refine ⟨some ⟨b, h * 10, none⟩, UNK, ?_, fun k hk => blt_true (show b < k by omega), fun M' N' hb' hm' => ?_⟩
    · rw [h0, e, slcM_unk, getb_lt hb, hm]
      show cond (Nat.beq 10 10) _ _ = _
      rw [Nat.beq_refl]; rfl
    · refine ⟨bit b, ?_⟩
      rw [shown_pos (by rw [List.length_drop]; omega), getb_lt hb', hm', shownB_mk, Nat.beq_refl, cellsAt_mk, itemsC_drop, cells_all (itemsC_len _).symm]; rfl
  · have e : slcA 10 h l.length l.length UNK (some ⟨b, 0, none⟩) = some (Value.slice (some ⟨b, 0, none⟩) 0 VAG) := by
      have h3 : (Nat.blt h l.length || Nat.beq h 0) = false := by
        rw [hh, Bool.or_false]
        cases hq : Nat.blt h l.length
        · rfl
        · have : h < l.length := Nat.le_of_ble_eq_true hq
          omega
      simp only [slcA, hu1, hu2, h3, cond_true, cond_false]
    have e0 : l.drop h = [] := List.drop_eq_nil_iff.2 h2
    rw [e0]
    refine ⟨some ⟨b, 0, none⟩, VAG, ?_, fun k hk => blt_true (show b < k by omega), fun M' N' hb' hm' => ⟨0, rfl⟩⟩
    rw [h0, e, slcM_unk, getb_lt hb, hm]
    show cond (Nat.beq 10 10) _ _ = _
    rw [Nat.beq_refl]; rfl
theorem shown_hi {M : FM} {N b i c : Nat} {l : List It} {opn wr : Bool} (h : i ≤ l.length) (hb : b < N) (hm : M b = some (.cells (itemsC l) 10 opn wr)) : ∃ r2, shown M N 10 (Value.slice (some ⟨b, 0, none⟩) i c) = some (itemsC (l.take i), r2) := by
  rcases Nat.eq_zero_or_pos i with rfl | hp
  · exact ⟨0, rfl⟩
  · refine ⟨bit b, ?_⟩
    rw [shown_pos hp, getb_lt hb, hm, shownB_mk, Nat.beq_refl, cellsAt_mk, ldrop_z, itemsC_take, if_pos h]; rfl
theorem items_one {l : List It} (h : ∀ x ∈ l, Am.one x.d = true) : (itemsC l).all Am.one = true := by
  rw [List.all_eq_true]
  intro v hv
  obtain ⟨c, hc, hv⟩ := List.mem_flatten.1 hv
  obtain ⟨x, hx, rfl⟩ := List.mem_map.1 hc
  have := h x hx
  simp only [itemC, Cmd.cells, List.cons_append, List.nil_append, List.mem_cons, List.not_mem_nil, or_false] at hv
  rcases hv with rfl | rfl | rfl | rfl | rfl | rfl | rfl | rfl | rfl | rfl
  all_goals first | rfl | exact this
theorem rdrop_spec (T : Tr E) {M : FM} {n0 N : Nat} {tag : Tags} {r : Nat} {l : List It} {iv : Value} (h : QR M n0 N tag r l iv) {i : Nat} (hi : i < l.length) :
    Rt (callW PG E Y 63 [.pointer (some ⟨r, 0, none⟩), .int .i64 (i : Int)] M N) fun x M' N' w => Wrt N tag 11 15 w ∧ ∃ tag' iv', Chg M n0 N tag 11 15 M' N' w tag' ∧ QR M' n0 N' tag' r (l.take i ++ l.drop (i + 1)) iv' := by
  have r0 := h.r0
  have r1 := h.r1
  have r2 := h.r2
  have r3 := h.r3
  have hlen := h.len
  have hb1 := h.it.bel (N + 1) (by omega)
  rcases h.it with ⟨rfl, _⟩ | ⟨rfl, _⟩ | ⟨hne, b, rfl, ⟨b0, b1, b2⟩, b3⟩
  · simp at hi
  · simp at hi
  refine chg_specN T.e63 rfl rfl fun Q hQ => ?_
  simp only [ac63]
  have hsl := slc_hi (M := AMem.put M N (some (.cells [] 10 false true))) (N := N + 1) (sz := 10) (b := b) (i := i) (len := l.length) (by omega) (by omega) (by omega) ((fput_ne _ _ _ _ (by omega)).trans b3)
  simp (implicitDefEqProofs := false) (disch := omega) only [WPs, opds, List.all_cons, List.all_nil, List.cons_append, List.nil_append, cond_true, cond_false, eq_self, List.map_cons, List.map_nil, Nat.reduceAdd, Nat.testBit, Nat.reduceShiftRight, Nat.reduceAnd, Nat.reduceBNe, Nat.reduceMul, r3, hb1, s_slc, oev_n, oev_s, hsl, Option.toList_none, Option.toList_some, List.nil_append, List.append_nil, List.all_cons, List.all_nil]
  obtain ⟨q1, hq1⟩ := shown_hi (M := AMem.put M N (some (.cells [] 10 false true))) (N := N + 1) (b := b) (i := i) (c := UNK) (l := l) (by omega) (by omega) ((fput_ne _ _ _ _ (by omega)).trans b3)
  rw [hq1]
  have hon : ∀ x ∈ l, Am.one x.d = true := fun x hx => by
    obtain ⟨j, hj, rfl⟩ := List.mem_iff_getElem.1 hx
    exact (h.at hj).2.2.2
  have key := app_own (M := AMem.put M N (some (.cells [] 10 false true))) (P := fun k => k = N) (N := N + 1) (v := .slice (some ⟨N, 0, none⟩) 0 0) (l := []) (l2 := l.take i) (.inr (.inl ⟨rfl, N, rfl, rfl, fput_same _ _ _⟩)) (fun b hb => by omega) (some ⟨b, 0, none⟩) UNK q1 (items_one fun x hx => hon x (List.mem_of_mem_take hx)) (by rw [List.length_take]; simp; omega)
  rw [List.length_take, Nat.min_eq_left (by omega : i ≤ l.length), List.nil_append] at key
  refine use_rtX key fun v1 M1 N1 qr w1 ⟨u1, u2, u3', u4, u5⟩ => ?_
  have hm1 : ∀ k, k < N → M1 k = M k := fun k hk => by rw [u4 k (by omega) (by omega)]; exact fput_ne _ _ _ _ (by omega)
  have hr1 := (hm1 r r1).trans r3
  have hb3 := (hm1 b b1).trans b3
  have lw1 : ∀ k, k < N → Nat.land w1 (bit k) = 0 := fun k hk => land_frz (u5 N (by omega) fun b hb => by omega) hk
  have lw2 : ∀ k, k < N → Nat.land (bit k) w1 = 0 := fun k hk => by rw [show Nat.land (bit k) w1 = Nat.land w1 (bit k) from Nat.and_comm ..]; exact lw1 k hk
  obtain ⟨ya, yc, hs2, bs2, sh2⟩ := slc_lo (M := M1) (N := N1) (h := i + 1) (l := l) (by omega) (by omega) (by omega) hb3
  have hb2 := h.it.bel N1 (by omega)
  have ov1 := OwnT.one u3'
  have bv1 := OwnT.bel u3' N1 (fun b hb => hb.2)
  simp (implicitDefEqProofs := false) (disch := omega) only [WPs, opds, List.all_cons, List.all_nil, List.cons_append, List.nil_append, cond_true, cond_false, eq_self, List.map_cons, List.map_nil, Nat.reduceAdd, Nat.testBit, Nat.reduceShiftRight, Nat.reduceAnd, Nat.reduceBNe, Nat.reduceMul, hr1, lw1, lw2, hb2, s_slc, oev_n, oev_s, hs2, Option.toList_none, Option.toList_some, List.nil_append, List.append_nil, List.all_cons, List.all_nil, ov1, bv1, bs2 N1 (Nat.le_refl _)]
  obtain ⟨q2, hq2⟩ := sh2 M1 N1 (by omega) hb3
  rw [hq2]
  have key2 := app_own (M := M1) (N := N1) (l2 := l.drop (i + 1)) u3' (fun b hb => hb.2) ya yc q2 (items_one fun x hx => hon x (List.mem_of_mem_drop hx)) (by rw [List.length_take, List.length_drop]; omega)
  refine use_rtX key2 fun v2 M2 N2 qr2 w2 ⟨t1, t2, t3, t4, t5⟩ => ?_
  have hm2 : ∀ k, k < N → M2 k = M k := fun k hk => by rw [t4 k (by omega) (by omega), hm1 k hk]
  have hr2 := (hm2 r r1).trans r3
  have ov2 := OwnT.one t3
  have cv2 := cells_of_one ov2
  have bv2 := OwnT.bel t3 N2 (fun b hb => hb.2)
  simp (implicitDefEqProofs := false) (disch := omega) only [WPs, opds, List.all_cons, List.all_nil, List.cons_append, List.nil_append, cond_true, cond_false, eq_self, List.map_cons, List.map_nil, Nat.reduceAdd, Nat.testBit, Nat.reduceShiftRight, Nat.reduceAnd, Nat.reduceBNe, Nat.reduceMul, hr2, ov2, cv2, bv2]
  have tl : ∀ k, k < N → (fun k => if k < N then tag k else 12) k = tag k := fun k hk => if_pos hk
  have hst : ∀ k, k < N → k ≠ r → (AMem.put M2 r (some (.cells [v2] 0 false true)) : FM) k = M k := fun k hk hkr => by
    rw [fput_ne _ _ _ _ hkr, hm2 k hk]
  refine hQ _ _ _ _ (fun hw => ?_) ⟨⟨r, r1, by omega, by omega, by simp only [lor_test, bit_test]; simp⟩, fun k => if k < N then tag k else 12, v2, ⟨by omega, fun j hj => ?_, tl, fun k hk h3 => hst k hk (by rintro rfl; omega)⟩, ?_⟩
  · simp only [frz_iff] at hw
    have := mod_bit hw.2 r r1
    rw [bit_test] at this; simp at this
  · simp only [frz_iff]
    exact ⟨⟨⟨frz_bit (by omega), u5 j (by omega) (fun b hb => by omega)⟩, t5 j (by omega) (fun b hb => by omega)⟩, frz_bit (by omega)⟩
  · exact {
      r0 := r0
      r1 := by omega
      r2 := (tl r r1).trans r2
      r3 := fput_same _ _ _
      it := OwnT.frame t3 fun k ⟨k1, k2⟩ => ⟨⟨by omega, k2, by show (if k < N then tag k else 12) = 12; rw [if_neg (by omega)]⟩, fput_ne _ _ _ _ (by omega)⟩
      dat := fun x hx => by
        have hx' : x ∈ l := by
          rcases List.mem_append.1 hx with hx | hx
          · exact List.mem_of_mem_take hx
          · exact List.mem_of_mem_drop hx
        obtain ⟨d1, d2, d3⟩ := h.dat x hx'
        exact ⟨d1, d2.frame fun k ⟨k1, k2, k3⟩ => ⟨⟨k1, by omega, (tl k k2).trans k3⟩, hst k k2 (by rintro rfl; omega)⟩, d3⟩
      len := by rw [List.length_append, List.length_take, List.length_drop]; omega }
noncomputable def rremE (l : List It) (t : Int) (f : Bool) : Int := match findR t l with | none => 9 | some i => if flR l i = f then 0 else 8
def rmR (l : List It) (t : Int) : List It := match findR t l with | none => l | some i => l.take i ++ l.drop (i + 1)
theorem rremove_spec (T : Tr E) {M : FM} {n0 N : Nat} {tag : Tags} {r : Nat} {l : List It} {iv : Value} (h : QR M n0 N tag r l iv) (t : Int) (f : Bool) :
    Rt (callW PG E Y 46 [.pointer (some ⟨r, 0, none⟩), .int .i64 t, .bool f] M N) fun x M' N' w => x = .int .i64 (rremE l t f) ∧ ((rremE l t f ≠ 0 ∧ M' = M ∧ N' = N ∧ w = 0) ∨ (rremE l t f = 0 ∧ Wrt N tag 11 15 w ∧ ∃ tag' iv', Chg M n0 N tag 11 15 M' N' w tag' ∧ QR M' n0 N' tag' r (rmR l t) iv')) := by
  have r0 := h.r0
  have r1 := h.r1
  have r3 := h.r3
  have hlen := h.len
  refine chg_spec T.e46 rfl fun Q hQ => ?_
  simp only [ac46]
  simp (implicitDefEqProofs := false) (disch := omega) only [WPs, opds, List.all_cons, List.all_nil, List.cons_append, List.nil_append, cond_true, cond_false, eq_self, List.map_cons, List.map_nil, Nat.reduceAdd, Nat.testBit, Nat.reduceShiftRight, Nat.reduceAnd, Nat.reduceBNe, Nat.reduceMul]
  refine use_pure (find_spec T.e50 h t) fun _ => ?_
  cases hf : findR t l with
  | none =>
    have hE1 : rremE l t f = 9 := by rw [rremE, hf]
    rw [findZ, hf]
    simp (implicitDefEqProofs := false) (disch := omega) only [WPs, opds, List.all_cons, List.all_nil, List.cons_append, List.nil_append, cond_true, cond_false, eq_self, List.map_cons, List.map_nil, Nat.reduceAdd, Nat.testBit, Nat.reduceShiftRight, Nat.reduceAnd, Nat.reduceBNe, Nat.reduceMul]
    exact hQ _ _ _ _ _ (fun _ _ => ⟨by rw [hE1], .inl ⟨by rw [hE1]; decide, rfl, rfl, rfl⟩⟩) (fun hn => absurd ⟨rfl, Nat.zero_mod _⟩ hn)
  | some i =>
    obtain ⟨hi, he, _⟩ := List.findIdx?_eq_some_iff_getElem.mp hf
    rw [findZ, hf]
    have hlt : decide ((i : Int) < 0) = false := decide_eq_false (by omega)
    obtain ⟨b, i1, b0, b1, b2, b3⟩ := h.it.at hi
    have c9 := items_cget (k := 9) hi (by omega) (show (itemC l[i])[9]? = some (.bool l[i].f) from rfl)
    by_cases hfl : l[i].f = f
    · have hE1 : rremE l t f = 0 := by rw [rremE, hf]; simp [flR_eq hi, hfl]
      have hrm : rmR l t = l.take i ++ l.drop (i + 1) := by rw [rmR, hf]
      simp (implicitDefEqProofs := false) (disch := omega) only [WPs, opds, List.all_cons, List.all_nil, List.cons_append, List.nil_append, cond_true, cond_false, eq_self, List.map_cons, List.map_nil, Nat.reduceAdd, Nat.testBit, Nat.reduceShiftRight, Nat.reduceAnd, Nat.reduceBNe, Nat.reduceMul, hlt, r3, i1, b3, c9, neq_bools 4 t4, decide_eq_true hfl]
      refine use_rt (rdrop_spec T h hi) fun x M1 N1 r' w1 ⟨a1, tag', iv', a2, a3⟩ => ?_
      simp (implicitDefEqProofs := false) (disch := omega) only [WPs, opds, List.all_cons, List.all_nil, List.cons_append, List.nil_append, cond_true, cond_false, eq_self, List.map_cons, List.map_nil, Nat.reduceAdd, Nat.testBit, Nat.reduceShiftRight, Nat.reduceAnd, Nat.reduceBNe, Nat.reduceMul]
      refine hQ _ _ _ _ _ (fun _ hw => absurd hw a1.nz) (fun _ => ⟨by rw [hE1], .inr ⟨hE1, a1, tag', iv', a2, ?_⟩⟩)
      rw [hrm]; exact a3
    · have hE1 : rremE l t f = 8 := by rw [rremE, hf]; simp [flR_eq hi, hfl]
      simp (implicitDefEqProofs := false) (disch := omega) only [WPs, opds, List.all_cons, List.all_nil, List.cons_append, List.nil_append, cond_true, cond_false, eq_self, List.map_cons, List.map_nil, Nat.reduceAdd, Nat.testBit, Nat.reduceShiftRight, Nat.reduceAnd, Nat.reduceBNe, Nat.reduceMul, hlt, r3, i1, b3, c9, neq_bools 4 t4, decide_eq_false hfl]
      exact hQ _ _ _ _ _ (fun _ _ => ⟨by rw [hE1], .inl ⟨by rw [hE1]; decide, rfl, rfl, rfl⟩⟩) (fun hn => absurd ⟨rfl, Nat.zero_mod _⟩ hn)
end Go.Am.C41
namespace Go.Am
open Go
variable {P : Program}
theorem pr_loop_true {f : Nat → (Option Bool × Unit) → Sem (ForInStep ((Option Bool × Unit)))} : ∀ (l : List Nat) , (∀ i ∈ l, pureRun P (f i (none, ())) = some (.yield (none, ()))) → pureRun P (forIn l (none, ()) f) = some (none, ())
  | [], _ => rfl
  | i :: l, h => by
    rw [List.forIn_cons, pr_bind, h i (by simp)]
    exact pr_loop_true l fun j hj => h j (by simp [hj])
theorem pr_equal_arr {d t e n : Nat} {k : IntKind} (ht : P.underlying t = some (.array n e)) (he : P.underlying e = some (.int k)) (hs : pureRun P (sizeOf e) = some 1) {asl : List Int} (hl : asl.length = n) :
    pureRun P (Op.equalIn (d + 2) t (.agg (asl.map (Value.int k)).toArray) (.agg (asl.map (Value.int k)).toArray)) = some true := by
  rw [Op.equalIn, pr_bind, pr_underlying ht, Option.bind_some]
  simp only [Std.Legacy.Range.forIn_eq_forIn_range', pr_bind]
  rw [hs, Option.bind_some]
  rw [pr_loop_true]
  · rfl
  · intro i hi
    have hin : i < n := by simp [List.mem_range'] at hi; omega
    have hg : (asl.map (Value.int k)).toArray[i * 1]? = some (.int k asl[i]) := by simp [hl, hin]
    rw [pr_bind, pr_part he hg]
    simp only [Option.bind_some, pr_bind, pr_part he hg, pr_equal_int he]
    simp [pr_pure]
theorem neq_arrs {t e n : Nat} {k : IntKind} (ht : P.underlying t = some (.array n e)) (he : P.underlying e = some (.int k)) (hs : pureRun P (sizeOf e) = some 1) (hg : P.eqGuardType P.depth t = false) {asl : List Int} (hl : asl.length = n) :
    binV P .neq t (.agg (asl.map (Value.int k)).toArray) (.agg (asl.map (Value.int k)).toArray) = some (.bool false) := by
  have hfree : addrFree (.agg (asl.map (Value.int k)).toArray) = true := by
    show (asl.map (Value.int k)).all Am.flat = true
    rw [List.all_map, List.all_eq_true]; intro x _; rfl
  show cond (addrFree _ && addrFree _ && notIface _) (flatO (pureRun P _)) none = _
  rw [hfree]
  show flatO (pureRun P (do eqGuard .neq t (.tmp 0) (.tmp 0) (.agg _) (.agg _); binOp .neq t (.agg _) (.agg _))) = _
  have e1 : pureRun P (eqGuard .neq t (.tmp 0) (.tmp 0) (.agg (asl.map (Value.int k)).toArray) (.agg (asl.map (Value.int k)).toArray)) = some () := by
    show pureRun P (program >>= fun p => program >>= fun q => if (!p.eqGuardType q.depth t) = true then pure () else _) = some ()
    rw [pr_bind, pr_program, Option.bind_some, pr_bind, pr_program, Option.bind_some, hg]; rfl
  rw [pr_bind, e1, Option.bind_some]
  show flatO (pureRun P (Op.equal t (.agg _) (.agg _) >>= fun r => pure (.bool (!r)))) = _
  rw [pr_bind]
  have e2 : pureRun P (Op.equal t (.agg (asl.map (Value.int k)).toArray) (.agg (asl.map (Value.int k)).toArray)) = some true := pr_equal_arr ht he hs hl
  rw [e2]; rfl
end Go.Am
namespace Go.Am.C41
open Go Go.Am
variable {E : Nat → Option AFn} {Y : Nat → List Value → FM → Nat → OR FM}
theorem sameInts_L0 (m : FM) (n : Nat) (av bv : Value) (xs : List Int) (ha : Ints m n av xs) (hb : Ints m n bv xs) (hs : xs.length ≤ 9223372036854775807) {Q : AX → List Value → FM → Nat → Nat → Prop}
    (hQ : ∀ e', Q (.exit 0) e' m n 0) : ∀ d j, j + d = xs.length → ∀ x0 x2 x3 x4, Gv (execW PG E Y ac22L0 [x0, .int .i64 (j : Int), x2, x3, x4, av, bv] m n) Q := by
  intro d
  induction d with
  | zero =>
    intro j hj x0 x2 x3 x4
    refine wr_loopN (L := ac22L0) (b := ac22L0b) rfl ?_
    simp only [ac22L0b]
    simp (implicitDefEqProofs := false) (disch := omega) only [WPs, opds, List.all_cons, List.all_nil, List.cons_append, List.nil_append, cond_true, cond_false, eq_self, List.map_cons, List.map_nil, Nat.reduceAdd, Nat.testBit, Nat.reduceShiftRight, Nat.reduceAnd, Nat.reduceBNe, Nat.reduceMul, ha.len, hb.len]
    exact hQ _
  | succ d ih =>
    intro j hj x0 x2 x3 x4
    have hjl : j < xs.length := by omega
    obtain ⟨b, o, c, opn, wr, i1, i2, i3, i4⟩ := ha.cell hjl
    obtain ⟨b', o', c', opn', wr', k1, k2, k3, k4⟩ := hb.cell hjl
    refine wr_loopN (L := ac22L0) (b := ac22L0b) rfl ?_
    simp only [ac22L0b]
    simp (implicitDefEqProofs := false) (disch := omega) only [WPs, opds, List.all_cons, List.all_nil, List.cons_append, List.nil_append, cond_true, cond_false, eq_self, List.map_cons, List.map_nil, Nat.reduceAdd, Nat.testBit, Nat.reduceShiftRight, Nat.reduceAnd, Nat.reduceBNe, Nat.reduceMul, ha.len, hb.len, ha.bel, hb.bel, i1, i3, i4, k1, k3, k4]
    exact wr_end' ((ih (j + 1) (by omega) _ _ _ _).mono fun X e m n w hq => by simpa only [zero_lor'] using hq)
theorem sameInts_spec (hE : E 22 = some ac22) (m : FM) (n : Nat) (av bv : Value) (xs : List Int) (ha : Ints m n av xs) (hb : Ints m n bv xs) (hs : xs.length ≤ 9223372036854775807) :
    Pure (callW PG E Y 22 [av, bv] m n) m n (.bool true) := by
  refine pure_spec hE rfl rfl ?_
  simp only [ac22]
  simp (implicitDefEqProofs := false) (disch := omega) only [WPs, opds, List.all_cons, List.all_nil, List.cons_append, List.nil_append, cond_true, cond_false, eq_self, List.map_cons, List.map_nil, Nat.reduceAdd, Nat.testBit, Nat.reduceShiftRight, Nat.reduceAnd, Nat.reduceBNe, Nat.reduceMul, ha.len, hb.len]
  refine wr_cps (sameInts_L0 m n av bv xs ha hb hs (fun e' r => ?_) xs.length 0 (by omega) _ _ _ _)
  simp (implicitDefEqProofs := false) (disch := omega) only [WPs, opds, List.all_cons, List.all_nil, List.cons_append, List.nil_append, cond_true, cond_false, eq_self, List.map_cons, List.map_nil, Nat.reduceAdd, Nat.testBit, Nat.reduceShiftRight, Nat.reduceAnd, Nat.reduceBNe, Nat.reduceMul]
theorem ar52 : PG.underlying 52 = some (.array 8 5) := by kernel_rfl
theorem u5 : PG.underlying 5 = some (.int .u8) := by kernel_rfl
theorem sz5 : pureRun PG (sizeOf 5) = some 1 := by kernel_rfl
theorem eg52 : PG.eqGuardType PG.depth 52 = false := by kernel_rfl
theorem sameC_L0 {M : FM} {N : Nat} (c : Cmd) {d d' : Value} (hd : DatV M N d c.data) (hd' : DatV M N d' c.data) (hs : c.data.length ≤ 1000000) (ba bb : Nat) (ha : ba < N) (hb : bb < N) (hma : M ba = some (.cells (c.cells d) 0 false true)) (hmb : M bb = some (.cells (c.cells d') 0 false true)) {Q : AX → List Value → FM → Nat → Nat → Prop}
    (hQ : ∀ e', Q (.exit 0) e' M N 0) : ∀ k j, j + k = c.data.length → ∀ x0 x2 x3 x4 x7 x8, Gv (execW PG E Y ac25L0 [x0, .int .i64 (j : Int), x2, x3, x4, .pointer (some ⟨bb, 0, none⟩), .pointer (some ⟨ba, 0, none⟩), x7, x8] M N) Q := by
  have fd : ∀ k, N ≤ k → belowF k d = true := fun k hk => by
    have hb := hd.bel k hk
    obtain ⟨a, cc, e, _⟩ := hd
    rw [e] at hb ⊢; exact hb
  have fd' : ∀ k, N ≤ k → belowF k d' = true := fun k hk => by
    have hb := hd'.bel k hk
    obtain ⟨a, cc, e, _⟩ := hd'
    rw [e] at hb ⊢; exact hb
  have bd := hd.bel N (Nat.le_refl _)
  have bd' := hd'.bel N (Nat.le_refl _)
  intro k
  induction k with
  | zero =>
    intro j hj x0 x2 x3 x4 x7 x8
    refine wr_loopN (L := ac25L0) (b := ac25L0b) rfl ?_
    simp only [ac25L0b]
    simp (implicitDefEqProofs := false) (disch := omega) only [WPs, opds, List.all_cons, List.all_nil, List.cons_append, List.nil_append, cond_true, cond_false, eq_self, List.map_cons, List.map_nil, Nat.reduceAdd, Nat.testBit, Nat.reduceShiftRight, Nat.reduceAnd, Nat.reduceBNe, Nat.reduceMul, hma, hmb, hd.len, hd'.len, Cmd.cells]
    exact hQ _
  | succ k ih =>
    intro j hj x0 x2 x3 x4 x7 x8
    have hjl : j < c.data.length := by omega
    obtain ⟨b1, o1, cs1, opn1, wr1, i1, l1, m1, e1, t1⟩ := hd.at hjl
    obtain ⟨b2, o2, cs2, opn2, wr2, i2, l2, m2, e2, t2⟩ := hd'.at hjl
    have hag : aggO (some (u8s c.data[j])) = some (.agg (u8s c.data[j]).toArray) := rfl
    have hbu : belowV N (.agg (u8s c.data[j]).toArray) = true := by
      rw [belowV_agg, u8s, List.all_map, List.all_eq_true]; intro x _; rfl
    have hne : binV PG .neq 52 (.agg (u8s c.data[j]).toArray) (.agg (u8s c.data[j]).toArray) = some (.bool false) := neq_arrs ar52 u5 sz5 eg52 e1
    refine wr_loopN (L := ac25L0) (b := ac25L0b) rfl ?_
    simp only [ac25L0b]
    simp (implicitDefEqProofs := false) (disch := omega) only [WPs, opds, List.all_cons, List.all_nil, List.cons_append, List.nil_append, cond_true, cond_false, eq_self, List.map_cons, List.map_nil, Nat.reduceAdd, Nat.testBit, Nat.reduceShiftRight, Nat.reduceAnd, Nat.reduceBNe, Nat.reduceMul, hma, hmb, hd.len, hd'.len, Cmd.cells, i1, m1, t1, i2, m2, t2, bd, bd', hag, hbu, hne]
    exact wr_end' ((ih (j + 1) (by omega) _ _ _ _ _ _).mono fun X e m n w hq => by simpa only [zero_lor'] using hq)
theorem sameC_spec (T : Tr E) {M : FM} {N : Nat} (c : Cmd) {d d' : Value} (hd : DatV M N d c.data) (hd' : DatV M N d' c.data) (hs : c.data.length ≤ 1000000) :
    Pure (callW PG E Y 25 [cmdV c d, cmdV c d'] M N) M N (.bool true) := by
  refine pure_spec T.e25 rfl rfl ?_
  simp only [ac25, cmdV]
  have od := hd.one
  have od' := hd'.one
  simp (implicitDefEqProofs := false) (disch := omega) only [WPs, opds, List.all_cons, List.all_nil, List.cons_append, List.nil_append, cond_true, cond_false, eq_self, List.map_cons, List.map_nil, Nat.reduceAdd, Nat.testBit, Nat.reduceShiftRight, Nat.reduceAnd, Nat.reduceBNe, Nat.reduceMul, od, od', hd.len, hd'.len, neq_bools 4 t4, neq_str]
  refine wr_cps (sameC_L0 c (hd.frame (by omega) fun b hb => by simp (implicitDefEqProofs := false) (disch := omega) only [WPs, opds, List.all_cons, List.all_nil, List.cons_append, List.nil_append, cond_true, cond_false, eq_self, List.map_cons, List.map_nil, Nat.reduceAdd, Nat.testBit, Nat.reduceShiftRight, Nat.reduceAnd, Nat.reduceBNe, Nat.reduceMul]) (hd'.frame (by omega) fun b hb => by simp (implicitDefEqProofs := false) (disch := omega) only [WPs, opds, List.all_cons, List.all_nil, List.cons_append, List.nil_append, cond_true, cond_false, eq_self, List.map_cons, List.map_nil, Nat.reduceAdd, Nat.testBit, Nat.reduceShiftRight, Nat.reduceAnd, Nat.reduceBNe, Nat.reduceMul]) hs N (N + 1) (by omega) (by omega) (by simp (implicitDefEqProofs := false) (disch := omega) only [WPs, opds, List.all_cons, List.all_nil, List.cons_append, List.nil_append, cond_true, cond_false, eq_self, List.map_cons, List.map_nil, Nat.reduceAdd, Nat.testBit, Nat.reduceShiftRight, Nat.reduceAnd, Nat.reduceBNe, Nat.reduceMul, Cmd.cells]) (by simp (implicitDefEqProofs := false) (disch := omega) only [WPs, opds, List.all_cons, List.all_nil, List.cons_append, List.nil_append, cond_true, cond_false, eq_self, List.map_cons, List.map_nil, Nat.reduceAdd, Nat.testBit, Nat.reduceShiftRight, Nat.reduceAnd, Nat.reduceBNe, Nat.reduceMul, Cmd.cells]) (fun e' r => ?_) c.data.length 0 (by omega) _ _ _ _ _ _)
  simp (implicitDefEqProofs := false) (disch := omega) only [WPs, opds, List.all_cons, List.all_nil, List.cons_append, List.nil_append, cond_true, cond_false, eq_self, List.map_cons, List.map_nil, Nat.reduceAdd, Nat.testBit, Nat.reduceShiftRight, Nat.reduceAnd, Nat.reduceBNe, Nat.reduceMul]
end Go.Am.C41
namespace Go.Am.C41
open Go Go.Am
abbrev QV := List (Cmd × Bool)
def vI (its : List (Cmd × Value)) (S : List Int) : QV := its.map fun it => (it.1, decide (it.1.tag ∈ S))
def vR (l : List It) : QV := l.map fun x => (x.c, x.f)
def tagsV (v : QV) : List Int := v.map fun x => x.1.tag
def cmV (v : QV) (i : Nat) : Cmd := (v[i]?.map (·.1)).getD ⟨0, 0, 0, false, ⟨#[]⟩, ⟨#[]⟩, 0, 0, []⟩
def flV (v : QV) (i : Nat) : Bool := (v[i]?.map (·.2)).getD false
noncomputable def eligV (v : QV) (i : Nat) : Bool := !flV v i && !(List.range i).any fun k => befB (cmV v k) (cmV v i)
noncomputable def eligL (v : QV) : List Int := pick (eligV v) (tagsV v) v.length
def startedL (v : QV) : List Int := pick (flV v) (tagsV v) v.length
def flT (v : QV) (t : Int) : Bool := v.any fun x => decide (x.1.tag = t) && x.2
noncomputable def subEV (v : QV) (c : Cmd) : Int := if validB c = true then (if c.tag ∈ tagsV v then 10 else if 64 ≤ v.length then 7 else 0) else 1
noncomputable def startEV (v : QV) (t : Int) : Int := if t ∈ tagsV v then (if t ∈ eligL v then 0 else 8) else 9
def remEV (v : QV) (t : Int) (f : Bool) : Int := if t ∈ tagsV v then (if flT v t = f then 0 else 8) else 9
def startV (v : QV) (t : Int) : QV := v.map fun x => if x.1.tag = t then (x.1, true) else x
def remV (v : QV) (t : Int) : QV := v.filter fun x => decide (x.1.tag ≠ t)
theorem cmV_eq {v : QV} {i : Nat} (h : i < v.length) : cmV v i = v[i].1 := by simp [cmV, h]
theorem flV_eq {v : QV} {i : Nat} (h : i < v.length) : flV v i = v[i].2 := by simp [flV, h]
theorem tagsV_len (v : QV) : (tagsV v).length = v.length := List.length_map ..
theorem vI_len (its : List (Cmd × Value)) (S : List Int) : (vI its S).length = its.length := List.length_map ..
theorem vI_tags (its : List (Cmd × Value)) (S : List Int) : tagsV (vI its S) = tagsL its := by simp [tagsV, vI, tagsL]
theorem vI_elig (its : List (Cmd × Value)) (S : List Int) : pick (eligB its S) (tagsL its) (tagsL its).length = eligL (vI its S) := by
  rw [eligL, vI_tags, vI_len, show (tagsL its).length = its.length from List.length_map ..]
  refine pick_congr fun i hi => ?_
  rw [eligB, eligV, flV_eq (by rw [vI_len]; exact hi)]
  have e1 : ∀ k, cmV (vI its S) k = cAt its k := fun k => by
    simp only [cmV, cAt, vI, List.getElem?_map, Option.map_map]; rfl
  simp only [e1]
  congr 2
  simp [vI, tagsL, hi]
theorem vI_started (its : List (Cmd × Value)) (S : List Int) : pick (fun i => decide ((tagsL its).getD i 0 ∈ S)) (tagsL its) (tagsL its).length = startedL (vI its S) := by
  rw [startedL, vI_tags, vI_len, show (tagsL its).length = its.length from List.length_map ..]
  refine pick_congr fun i hi => ?_
  rw [flV_eq (by rw [vI_len]; exact hi)]
  simp [vI, tagsL, hi]
theorem vI_fl {its : List (Cmd × Value)} {S : List Int} (hs : ∀ t ∈ S, t ∈ tagsL its) (t : Int) : flT (vI its S) t = decide (t ∈ S) := by
  rw [flT, Bool.eq_iff_iff, List.any_eq_true, decide_eq_true_iff]
  constructor
  · rintro ⟨x, hx, hp⟩
    obtain ⟨it, hit, rfl⟩ := List.mem_map.1 hx
    simp only [Bool.and_eq_true, decide_eq_true_iff] at hp
    rw [← hp.1]; exact hp.2
  · intro ht
    obtain ⟨it, hit, rfl⟩ := List.mem_map.1 (hs t ht)
    exact ⟨_, List.mem_map.2 ⟨it, hit, rfl⟩, by simp [ht]⟩
theorem vI_sub {its : List (Cmd × Value)} {S : List Int} (hs : ∀ t ∈ S, t ∈ tagsL its) {c : Cmd} (hc : c.tag ∉ tagsL its) (d : Value) : vI (its ++ [(c, d)]) S = vI its S ++ [(c, false)] := by
  have : decide (c.tag ∈ S) = false := decide_eq_false fun h => hc (hs _ h)
  simp [vI, this]
theorem vI_start (its : List (Cmd × Value)) (S : List Int) (t : Int) : vI its (S ++ [t]) = startV (vI its S) t := by
  rw [startV, vI, vI, List.map_map]
  refine List.map_congr_left fun it _ => ?_
  show _ = if it.1.tag = t then (it.1, true) else (it.1, decide (it.1.tag ∈ S))
  split
  · rename_i h; simp [h]
  · rename_i h; simp [h]
theorem vI_rem (its : List (Cmd × Value)) (S : List Int) (t : Int) : vI (its.filter fun it => decide (it.1.tag ≠ t)) (S.filter fun x => decide (x ≠ t)) = remV (vI its S) t := by
  rw [remV, vI, vI, List.filter_map]
  refine List.map_congr_left fun it hit => ?_
  have := (List.mem_filter.1 hit).2
  have h2 : it.1.tag ≠ t := of_decide_eq_true this
  simp [List.mem_filter, h2]
theorem vI_subE (its : List (Cmd × Value)) (S : List Int) (c : Cmd) : submitE its c = subEV (vI its S) c := by
  rw [submitE, subEV, vI_tags, vI_len]
theorem vI_startE (its : List (Cmd × Value)) (S : List Int) (t : Int) : startE its S t = startEV (vI its S) t := by
  rw [startE, startEV, vI_tags, vI_elig]
theorem vI_remE {its : List (Cmd × Value)} {S : List Int} (hs : ∀ t ∈ S, t ∈ tagsL its) (t : Int) (f : Bool) : removeE its S t f = remEV (vI its S) t f := by
  rw [removeE, remEV, vI_tags, vI_fl hs]
theorem vR_len (l : List It) : (vR l).length = l.length := List.length_map ..
theorem vR_tags (l : List It) : tagsV (vR l) = rtags l := by simp [tagsV, vR, rtags]
theorem vR_cm (l : List It) (k : Nat) : cmV (vR l) k = cmR l k := by
  simp only [cmV, cmR, vR, List.getElem?_map, Option.map_map]; rfl
theorem vR_fl (l : List It) (k : Nat) : flV (vR l) k = flR l k := by
  simp only [flV, flR, vR, List.getElem?_map, Option.map_map]; rfl
theorem vR_elig (l : List It) (i : Nat) : eligV (vR l) i = eligR l i := by
  simp only [eligV, eligR, vR_cm, vR_fl]
theorem vR_eligL (l : List It) : pick (eligR l) (rtags l) l.length = eligL (vR l) := by
  rw [eligL, vR_tags, vR_len]
  exact pick_congr fun i _ => (vR_elig l i).symm
theorem vR_tagsF (l : List It) : pick (tagP false l) (rtags l) l.length = tagsV (vR l) := by
  rw [vR_tags, show tagP false l = fun _ => true from funext fun i => rfl, pick_true _ (by rw [rtags, List.length_map]; exact Nat.le_refl _), List.take_of_length_le (by rw [rtags, List.length_map]; exact Nat.le_refl _)]
theorem vR_tagsT (l : List It) : pick (tagP true l) (rtags l) l.length = startedL (vR l) := by
  rw [startedL, vR_tags, vR_len]
  exact pick_congr fun i _ => (vR_fl l i).symm
theorem vR_subE (l : List It) (c : Cmd) : rsubE l c = subEV (vR l) c := by rw [rsubE, subEV, vR_tags, vR_len]
theorem vR_sub (l : List It) (c : Cmd) (d : Value) : vR (l ++ [⟨c, d, false⟩]) = vR l ++ [(c, false)] := by simp [vR]
theorem findR_nil {t : Int} {l : List It} (h : findR t l = none) : t ∉ rtags l := fun hm => by
  obtain ⟨i, h1, _⟩ := findR_mem hm
  rw [h] at h1; cases h1
theorem nd_at {l : List It} (hn : (rtags l).Nodup) {i j : Nat} (hi : i < l.length) (hj : j < l.length) (h : l[i].c.tag = l[j].c.tag) : i = j := by
  have hi' : i < (rtags l).length := by rw [rtags, List.length_map]; exact hi
  have hj' : j < (rtags l).length := by rw [rtags, List.length_map]; exact hj
  have hp := List.pairwise_iff_getElem.1 hn
  have h2 : (rtags l)[i] = (rtags l)[j] := by simp only [rtags, List.getElem_map]; exact h
  rcases Nat.lt_trichotomy i j with h3 | h3 | h3
  · exact absurd h2 (hp i j hi' hj' h3)
  · exact h3
  · exact absurd h2.symm (hp j i hj' hi' h3)
theorem vR_startE {l : List It} (hn : (rtags l).Nodup) (t : Int) : rstartE l t = startEV (vR l) t := by
  rw [startEV, vR_tags, rstartE]
  cases hf : findR t l with
  | none => rw [if_neg (findR_nil hf)]
  | some i =>
    obtain ⟨hi, he, _⟩ := List.findIdx?_eq_some_iff_getElem.mp hf
    have he' : l[i].c.tag = t := of_decide_eq_true he
    have hm : t ∈ rtags l := by rw [← he']; exact List.mem_map.2 ⟨_, List.getElem_mem hi, rfl⟩
    rw [if_pos hm, ← vR_eligL]
    have : (t ∈ pick (eligR l) (rtags l) l.length) ↔ eligR l i = true := by
      rw [mem_pick (by rw [rtags, List.length_map]; exact Nat.le_refl _)]
      constructor
      · rintro ⟨j, hj, h1, h2, h3⟩
        have : j = i := nd_at hn h1 hi (by rw [he', ← h3]; simp [rtags])
        subst this; exact h2
      · intro h
        exact ⟨i, by rw [rtags, List.length_map]; exact hi, hi, h, by simp [rtags, he']⟩
    by_cases h : eligR l i = true
    · rw [if_pos (this.2 h)]; simp [h]
    · rw [if_neg fun hh => h (this.1 hh)]; simp [h]
theorem vR_fT {l : List It} (hn : (rtags l).Nodup) {i : Nat} (hi : i < l.length) : flT (vR l) l[i].c.tag = flR l i := by
  rw [flR_eq hi, flT, Bool.eq_iff_iff, List.any_eq_true]
  constructor
  · rintro ⟨x, hx, hp⟩
    obtain ⟨y, hy, rfl⟩ := List.mem_map.1 hx
    obtain ⟨j, hj, rfl⟩ := List.mem_iff_getElem.1 hy
    simp only [Bool.and_eq_true, decide_eq_true_iff] at hp
    have := nd_at hn hj hi hp.1
    subst this; exact hp.2
  · intro h
    exact ⟨_, List.mem_map.2 ⟨_, List.getElem_mem hi, rfl⟩, by simp [h]⟩
theorem vR_remE {l : List It} (hn : (rtags l).Nodup) (t : Int) (f : Bool) : rremE l t f = remEV (vR l) t f := by
  rw [remEV, vR_tags, rremE]
  cases hf : findR t l with
  | none => rw [if_neg (findR_nil hf)]
  | some i =>
    obtain ⟨hi, he, _⟩ := List.findIdx?_eq_some_iff_getElem.mp hf
    have he' : l[i].c.tag = t := of_decide_eq_true he
    have hm : t ∈ rtags l := by rw [← he']; exact List.mem_map.2 ⟨_, List.getElem_mem hi, rfl⟩
    rw [if_pos hm, ← he', vR_fT hn hi]
theorem vR_start {l : List It} (hn : (rtags l).Nodup) (t : Int) : vR (stR l t) = startV (vR l) t := by
  rw [stR]
  cases hf : findR t l with
  | none =>
    have hm := findR_nil hf
    show vR l = _
    rw [startV, vR, List.map_map]
    refine List.map_congr_left fun x hx => ?_
    show _ = if x.c.tag = t then (x.c, true) else (x.c, x.f)
    rw [if_neg fun e => hm (by rw [← e]; exact List.mem_map.2 ⟨_, hx, rfl⟩)]
  | some i =>
    obtain ⟨hi, he, _⟩ := List.findIdx?_eq_some_iff_getElem.mp hf
    have he' : l[i].c.tag = t := of_decide_eq_true he
    show vR (match l[i]? with | some x => l.set i { x with f := true } | none => l) = _
    rw [List.getElem?_eq_getElem hi]
    show vR (l.set i { l[i] with f := true }) = _
    rw [startV, vR, vR, List.map_map, List.map_set]
    apply List.ext_getElem
    · simp
    · intro j h1 h2
      have hj : j < l.length := by simpa using h2
      rw [List.getElem_set, List.getElem_map, List.getElem_map]
      show _ = if l[j].c.tag = t then (l[j].c, true) else (l[j].c, l[j].f)
      by_cases e : i = j
      · subst e
        rw [if_pos rfl, if_pos he']
      · rw [if_neg e, if_neg fun e2 => e (nd_at hn hi hj (he'.trans e2.symm))]
theorem filter_one {α : Type} (p : α → Bool) : ∀ (l : List α) (i : Nat) (hi : i < l.length), (∀ j (hj : j < l.length), p l[j] = decide (j ≠ i)) → l.filter p = l.take i ++ l.drop (i + 1)
  | [], i, hi, _ => by simp at hi
  | x :: l, 0, _, h => by
    have h0 : p x = false := by have := h 0 (by simp); simpa using this
    rw [List.filter_cons, h0]
    show l.filter p = l
    rw [List.filter_eq_self]
    intro y hy
    obtain ⟨j, hj, rfl⟩ := List.mem_iff_getElem.1 hy
    have := h (j + 1) (by simpa using hj)
    simpa using this
  | x :: l, i + 1, hi, h => by
    have h0 : p x = true := by have := h 0 (by simp); simpa using this
    rw [List.filter_cons, h0, if_pos rfl, List.take_succ_cons, List.drop_succ_cons, List.cons_append]
    rw [filter_one p l i (by simpa using hi) fun j hj => by
      have := h (j + 1) (by simpa using hj)
      simpa using this]
theorem vR_rem {l : List It} (hn : (rtags l).Nodup) (t : Int) (ht : t ∈ rtags l) : vR (rmR l t) = remV (vR l) t := by
  obtain ⟨i, hf, hi, he', _⟩ := findR_mem ht
  rw [rmR, hf]
  show vR (l.take i ++ l.drop (i + 1)) = _
  rw [remV, vR, vR, List.filter_map, filter_one _ l i hi]
  intro j hj
  show decide (l[j].c.tag ≠ t) = _
  by_cases e : j = i
  · subst e; simp [he']
  · rw [decide_eq_true (show l[j].c.tag ≠ t from fun e2 => e (nd_at hn hj hi (e2.trans he'.symm)))]
    simp [e]
end Go.Am.C41
namespace Go.Am.C41
open Go Go.Am
variable {E : Nat → Option AFn} {Y : Nat → List Value → FM → Nat → OR FM}
def QIv (M : FM) (n0 N : Nat) (tag : Tags) (q : Nat) (v : QV) : Prop := ∃ its S tv cb sb, QI M n0 N tag q its S tv cb sb ∧ vI its S = v
def QRv (M : FM) (n0 N : Nat) (tag : Tags) (r : Nat) (v : QV) : Prop := ∃ l iv, QR M n0 N tag r l iv ∧ vR l = v
theorem QIv.nd {M : FM} {n0 N : Nat} {tag : Tags} {q : Nat} {v : QV} (h : QIv M n0 N tag q v) : (tagsV v).Nodup := by
  obtain ⟨its, S, tv, cb, sb, h, rfl⟩ := h
  rw [vI_tags]; exact h.nd
theorem QIv.len {M : FM} {n0 N : Nat} {tag : Tags} {q : Nat} {v : QV} (h : QIv M n0 N tag q v) : v.length ≤ 64 := by
  obtain ⟨its, S, tv, cb, sb, h, rfl⟩ := h
  rw [vI_len]; exact h.len
theorem QIv.frame {M M' : FM} {n0 N N' : Nat} {tag tag' : Tags} {q : Nat} {v : QV} (h : QIv M n0 N tag q v) (hN : N ≤ N') (ht : ∀ b, n0 ≤ b → b < N → tag' b = tag b) (hM : ∀ b, n0 ≤ b → b < N → 1 ≤ tag b → tag b ≤ 5 → M' b = M b) : QIv M' n0 N' tag' q v := by
  obtain ⟨its, S, tv, cb, sb, h, rfl⟩ := h
  exact ⟨its, S, tv, cb, sb, h.frame hN ht hM, rfl⟩
theorem QRv.frame {M M' : FM} {n0 N N' : Nat} {tag tag' : Tags} {r : Nat} {v : QV} (h : QRv M n0 N tag r v) (hN : N ≤ N') (ht : ∀ b, n0 ≤ b → b < N → tag' b = tag b) (hM : ∀ b, n0 ≤ b → b < N → 11 ≤ tag b → tag b ≤ 15 → M' b = M b) : QRv M' n0 N' tag' r v := by
  obtain ⟨l, iv, h, rfl⟩ := h
  exact ⟨l, iv, h.frame hN ht hM, rfl⟩
theorem QIv.q1 {M : FM} {n0 N : Nat} {tag : Tags} {q : Nat} {v : QV} (h : QIv M n0 N tag q v) : q < N := by
  obtain ⟨its, S, tv, cb, sb, h, rfl⟩ := h; exact h.q1
theorem QRv.r1 {M : FM} {n0 N : Nat} {tag : Tags} {r : Nat} {v : QV} (h : QRv M n0 N tag r v) : r < N := by
  obtain ⟨l, iv, h, rfl⟩ := h; exact h.r1
theorem QIv.n0 {M : FM} {n0 N : Nat} {tag : Tags} {q : Nat} {v : QV} (h : QIv M n0 N tag q v) : n0 < N := by
  obtain ⟨its, S, tv, cb, sb, h, rfl⟩ := h; have := h.q0; have := h.q1; omega
def Mut (e : Int) (M : FM) (n0 N : Nat) (tag : Tags) (lo hi : Nat) (P : FM → Nat → Tags → Prop) (x : Value) (M' : FM) (N' w : Nat) : Prop :=
  x = .int .i64 e ∧ ((e ≠ 0 ∧ M' = M ∧ N' = N ∧ w = 0) ∨ (e = 0 ∧ Wrt N tag lo hi w ∧ ∃ tag', Chg M n0 N tag lo hi M' N' w tag' ∧ P M' N' tag'))
theorem submit_v (H : Hy E Y) (T : Tq E) {M : FM} {n0 N : Nat} {tag : Tags} {q : Nat} {v : QV} (h : QIv M n0 N tag q v) (c : Cmd) (d : Value) (hF : c.Fit) (hv : DatQ M n0 N tag d c.data) (hs : c.data.length ≤ 1000000) :
    Rt (callW PG E Y 12 [.pointer (some ⟨q, 0, none⟩), cmdV c d] M N) fun x M' N' w => Mut (subEV v c) M n0 N tag 1 5 (fun M' N' tag' => QIv M' n0 N' tag' q (v ++ [(c, false)])) x M' N' w ∧ ∀ b, b < N → n0 ≤ b → (tag b < 1 ∨ 5 < tag b) → Nat.land w (bit b) = 0 := by
  obtain ⟨its, S, tv, cb, sb, h, rfl⟩ := h
  refine (submit_spec H T h c d hF hv hs).mono fun x M' N' w ⟨h1, h2⟩ => ?_
  rw [vI_subE its S] at h1 h2
  rcases h2 with ⟨z, h3, h4, h5⟩ | ⟨z, h3, h4, tag', tv', d', h5, h6⟩
  · exact ⟨⟨h1, .inl ⟨z, h3, h4, h5⟩⟩, fun b _ _ _ => by rw [h5]; exact Nat.zero_and _⟩
  · refine ⟨⟨h1, .inr ⟨z, h3, tag', h5, _, S, tv', cb, sb, h6, vI_sub h.ss (fun hc => ?_) d'⟩⟩, h4⟩
    rw [subEV, vI_tags, if_pos hc] at z
    split at z <;> cases z
theorem start_v (H : Hy E Y) (T : Tq E) {M : FM} {n0 N : Nat} {tag : Tags} {q : Nat} {v : QV} (h : QIv M n0 N tag q v) (t : Int) :
    Rt (callW PG E Y 16 [.pointer (some ⟨q, 0, none⟩), .int .i64 t] M N) (Mut (startEV v t) M n0 N tag 1 5 (fun M' N' tag' => QIv M' n0 N' tag' q (startV v t))) := by
  obtain ⟨its, S, tv, cb, sb, h, rfl⟩ := h
  refine (start_spec H T h t).mono fun x M' N' w ⟨h1, h2⟩ => ?_
  rw [vI_startE] at h1 h2
  rcases h2 with ⟨z, h3, h4, h5⟩ | ⟨z, h3, h4, h5, h6⟩
  · exact ⟨h1, .inl ⟨z, h3, h4, h5⟩⟩
  · exact ⟨h1, .inr ⟨z, h3, tag, h5, its, _, tv, cb, sb, h6, vI_start its S t⟩⟩
theorem finish_v (T : Tq E) {M : FM} {n0 N : Nat} {tag : Tags} {q : Nat} {v : QV} (h : QIv M n0 N tag q v) (t : Int) :
    Rt (callW PG E Y 15 [.pointer (some ⟨q, 0, none⟩), .int .i64 t] M N) (Mut (remEV v t true) M n0 N tag 1 5 (fun M' N' tag' => QIv M' n0 N' tag' q (remV v t))) := by
  obtain ⟨its, S, tv, cb, sb, h, rfl⟩ := h
  refine (finish_spec T h t).mono fun x M' N' w ⟨h1, h2⟩ => ?_
  rw [vI_remE h.ss] at h1 h2
  rcases h2 with ⟨z, h3, h4, h5⟩ | ⟨z, h3, tag', tv', h5, h6⟩
  · exact ⟨h1, .inl ⟨z, h3, h4, h5⟩⟩
  · exact ⟨h1, .inr ⟨z, h3, tag', h5, _, _, tv', cb, sb, h6, vI_rem its S t⟩⟩
theorem cancel_v (T : Tq E) {M : FM} {n0 N : Nat} {tag : Tags} {q : Nat} {v : QV} (h : QIv M n0 N tag q v) (t : Int) :
    Rt (callW PG E Y 21 [.pointer (some ⟨q, 0, none⟩), .int .i64 t] M N) (Mut (remEV v t false) M n0 N tag 1 5 (fun M' N' tag' => QIv M' n0 N' tag' q (remV v t))) := by
  obtain ⟨its, S, tv, cb, sb, h, rfl⟩ := h
  refine (cancel_spec T h t).mono fun x M' N' w ⟨h1, h2⟩ => ?_
  rw [vI_remE h.ss] at h1 h2
  rcases h2 with ⟨z, h3, h4, h5⟩ | ⟨z, h3, tag', tv', h5, h6⟩
  · exact ⟨h1, .inl ⟨z, h3, h4, h5⟩⟩
  · exact ⟨h1, .inr ⟨z, h3, tag', h5, _, _, tv', cb, sb, h6, vI_rem its S t⟩⟩
theorem rsubmit_v (H : Hy E Y) (T : Tr E) {M : FM} {n0 N : Nat} {tag : Tags} {r : Nat} {v : QV} (h : QRv M n0 N tag r v) (c : Cmd) (d : Value) (hF : c.Fit) (hv : DatS M n0 d c.data) (hs : c.data.length ≤ 1000000) :
    Rt (callW PG E Y 44 [.pointer (some ⟨r, 0, none⟩), cmdV c d] M N) (Mut (subEV v c) M n0 N tag 11 15 (fun M' N' tag' => QRv M' n0 N' tag' r (v ++ [(c, false)]))) := by
  obtain ⟨l, iv, h, rfl⟩ := h
  refine (rsubmit_spec H T h c d hF hv hs).mono fun x M' N' w ⟨h1, h2⟩ => ?_
  rw [vR_subE] at h1 h2
  rcases h2 with ⟨z, h3, h4, h5⟩ | ⟨z, h3, tag', iv', d', h5, h6⟩
  · exact ⟨h1, .inl ⟨z, h3, h4, h5⟩⟩
  · exact ⟨h1, .inr ⟨z, h3, tag', h5, _, iv', h6, vR_sub l c d'⟩⟩
theorem rstart_v (H : Hy E Y) (T : Tr E) {M : FM} {n0 N : Nat} {tag : Tags} {r : Nat} {v : QV} (h : QRv M n0 N tag r v) (hn : (tagsV v).Nodup) (t : Int) :
    Rt (callW PG E Y 45 [.pointer (some ⟨r, 0, none⟩), .int .i64 t] M N) (Mut (startEV v t) M n0 N tag 11 15 (fun M' N' tag' => QRv M' n0 N' tag' r (startV v t))) := by
  obtain ⟨l, iv, h, rfl⟩ := h
  rw [vR_tags] at hn
  refine (rstart_spec H T h t).mono fun x M' N' w ⟨h1, h2⟩ => ?_
  rw [vR_startE hn] at h1 h2
  rcases h2 with ⟨z, h3, h4, h5⟩ | ⟨z, h3, tag', h5, h6⟩
  · exact ⟨h1, .inl ⟨z, h3, h4, h5⟩⟩
  · exact ⟨h1, .inr ⟨z, h3, tag', h5, _, iv, h6, vR_start hn t⟩⟩
theorem rremove_v (T : Tr E) {M : FM} {n0 N : Nat} {tag : Tags} {r : Nat} {v : QV} (h : QRv M n0 N tag r v) (hn : (tagsV v).Nodup) (t : Int) (f : Bool) :
    Rt (callW PG E Y 46 [.pointer (some ⟨r, 0, none⟩), .int .i64 t, .bool f] M N) (Mut (remEV v t f) M n0 N tag 11 15 (fun M' N' tag' => QRv M' n0 N' tag' r (remV v t))) := by
  obtain ⟨l, iv, h, rfl⟩ := h
  rw [vR_tags] at hn
  refine (rremove_spec T h t f).mono fun x M' N' w ⟨h1, h2⟩ => ?_
  rw [vR_remE hn] at h1 h2
  rcases h2 with ⟨z, h3, h4, h5⟩ | ⟨z, h3, tag', iv', h5, h6⟩
  · exact ⟨h1, .inl ⟨z, h3, h4, h5⟩⟩
  · refine ⟨h1, .inr ⟨z, h3, tag', h5, _, iv', h6, vR_rem hn t ?_⟩⟩
    by_cases ht : t ∈ rtags l
    · exact ht
    · rw [remEV, vR_tags, if_neg ht] at z; cases z
theorem tag_v (T : Tr E) {M : FM} {n0 N : Nat} {tag : Tags} {r : Nat} {v : QV} (h : QRv M n0 N tag r v) (a : Act) (d : Value) (hd : Am.one d = true) :
    Pure (callW PG E Y 28 [.pointer (some ⟨r, 0, none⟩), actV a d] M N) M N (.int .i64 (tagZ (tagsV v) a.k)) := by
  obtain ⟨l, iv, h, rfl⟩ := h
  rw [vR_tags]
  exact tag_spec T h a d hd
end Go.Am.C41
