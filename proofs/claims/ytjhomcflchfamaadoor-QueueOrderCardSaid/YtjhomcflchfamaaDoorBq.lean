/- The machine and its runs, part Bq: Am41qb Am41qc Am41qd Am41qe. -/
import Derived.Test.YtjhomcflchfamaaDoorZ
import Derived.Test.YtjhomcflchfamaaDoorBx
import Derived.Test.YtjhomcflchfamaaDoorBf
set_option linter.unusedVariables false
set_option linter.unusedSimpArgs false
set_option linter.unusedSectionVars false
namespace Go.Am.C41
open Go Go.Am
variable {E : Nat → Option AFn} {Y : Nat → List Value → FM → Nat → OR FM}
structure KepS (m : FM) (n : Nat) (M : FM) (N : Nat) (tag : Tags) (kv : Value) (l : List (Cmd × Value)) : Prop where
  hN : n ≤ N
  hM : ∀ b, b < n → M b = m b
  own : Own9 M (fun b => n ≤ b ∧ b < N ∧ tag b = 21) kv l
  dat : ∀ x ∈ l, x.1.Fit ∧ DatS m n x.2 x.1.data
  len : l.length ≤ 30
theorem KepS.recs {m : FM} {n : Nat} {M : FM} {N : Nat} {tag : Tags} {kv : Value} {l : List (Cmd × Value)} (h : KepS m n M N tag kv l) : RecsV recC M N kv l := by
  refine ⟨?_, fun c hc => ⟨(h.dat c hc).1, (h.dat c hc).2.frame h.hN h.hM⟩⟩
  rcases h.own with ⟨rfl, rfl⟩ | ⟨rfl, b, rfl, hb, _⟩ | ⟨hne, b, rfl, hb, hm⟩
  · exact ⟨none, 0, rfl, rfl, .inl rfl⟩
  · exact ⟨_, _, rfl, blt_true (show b < N from hb.2.1), .inl rfl⟩
  · refine ⟨_, _, rfl, blt_true (show b < N from hb.2.1), .inr ⟨b, 0, _, true, true, rfl, hb.2.1, hm, fun i hi => ?_⟩⟩
    show ctake (ldrop (cmds9 l) (0 + i * 9)) 9 = some (l[i].1.cells l[i].2)
    rw [Nat.zero_add, ldrop_eq, ctake_eq, if_pos (by rw [List.length_drop, cmds9_len]; omega)]
    congr 1
    apply List.ext_getElem?
    intro k
    rw [List.getElem?_take]
    split
    · rw [List.getElem?_drop, cmds9_get l i k (by omega), List.getElem?_eq_getElem hi]; rfl
    · exact (List.getElem?_eq_none (by show 9 ≤ k; omega)).symm
theorem KepS.frame {m : FM} {n : Nat} {M M' : FM} {N N' : Nat} {tag tag' : Tags} {kv : Value} {l : List (Cmd × Value)} (h : KepS m n M N tag kv l) (hN : N ≤ N') (ht : ∀ b, b < N → tag' b = tag b) (hM : ∀ b, b < N → (b < n ∨ tag b = 21) → M' b = M b) : KepS m n M' N' tag' kv l :=
  ⟨by have := h.hN; omega, fun b hb => by rw [hM b (by have := h.hN; omega) (.inl hb), h.hM b hb], h.own.frame fun b ⟨h1, h2, h3⟩ => ⟨⟨h1, by omega, by rw [ht b h2, h3]⟩, hM b h2 (.inr h3)⟩, h.dat, h.len⟩
structure OrdS (m : FM) (n : Nat) (M : FM) (N : Nat) (tag : Tags) (q fb : Nat) (kv : Value) (l : List (Cmd × Value)) (v K : QV) : Prop where
  k : KepS m n M N tag kv l
  q : QIv M n N tag q v
  fl : n ≤ fb ∧ fb < N ∧ tag fb = 22
  fin : M fb = some (.cells (K.map fun x => Value.bool x.2) 1 false true)
  eq : K.map (·.1) = l.map (·.1)
  nd : (tagsV K).Nodup
  ord : OrdV v K
theorem OrdS.stay {m : FM} {n : Nat} {M M' : FM} {N N' : Nat} {tag : Tags} {q fb : Nat} {kv : Value} {l : List (Cmd × Value)} {v K : QV} (h : OrdS m n M N tag q fb kv l v K) (hN : N ≤ N') (hM : ∀ b, b < N → M' b = M b) : OrdS m n M' N' tag q fb kv l v K :=
  ⟨h.k.frame hN (fun _ _ => rfl) fun b hb _ => hM b hb, h.q.stay hN hM, ⟨h.fl.1, by have := h.fl.2.1; omega, h.fl.2.2⟩, (hM fb h.fl.2.1).trans h.fin, h.eq, h.nd, h.ord⟩
theorem OrdS.chg {m : FM} {n : Nat} {M M' : FM} {N N' w : Nat} {tag tag' : Tags} {q fb : Nat} {kv : Value} {l : List (Cmd × Value)} {v v' K : QV} (h : OrdS m n M N tag q fb kv l v K) (c : Chg M n N tag 1 5 M' N' w tag') (hq : QIv M' n N' tag' q v') : KepS m n M' N' tag' kv l ∧ (n ≤ fb ∧ fb < N' ∧ tag' fb = 22) ∧ M' fb = some (.cells (K.map fun x => Value.bool x.2) 1 false true) := by
  obtain ⟨f1, f2, f3⟩ := h.fl
  have hn := c.n
  refine ⟨h.k.frame c.n c.tg fun b hb hx => c.fr b hb ?_, ⟨f1, by omega, by rw [c.tg fb f2, f3]⟩, (c.fr fb f2 (.inr (.inr (by omega)))).trans h.fin⟩
  rcases hx with hx | hx
  · exact .inl hx
  · exact .inr (.inr (by omega))
theorem OrdS.len {m : FM} {n : Nat} {M : FM} {N : Nat} {tag : Tags} {q fb : Nat} {kv : Value} {l : List (Cmd × Value)} {v K : QV} (h : OrdS m n M N tag q fb kv l v K) : K.length = l.length := by
  have := congrArg List.length h.eq
  rwa [List.length_map, List.length_map] at this
theorem OrdS.at {m : FM} {n : Nat} {M : FM} {N : Nat} {tag : Tags} {q fb : Nat} {kv : Value} {l : List (Cmd × Value)} {v K : QV} (h : OrdS m n M N tag q fb kv l v K) {i : Nat} (hi : i < K.length) (hl : i < l.length) : l[i].1 = K[i].1 := by
  have h1 : (K.map (·.1))[i]? = (l.map (·.1))[i]? := by rw [h.eq]
  rw [List.getElem?_map, List.getElem?_map, List.getElem?_eq_getElem hi, List.getElem?_eq_getElem hl] at h1
  simpa using h1.symm
theorem OrdS.mark {m : FM} {n : Nat} {M M' : FM} {N N' : Nat} {tag : Tags} {q fb : Nat} {kv : Value} {l : List (Cmd × Value)} {v' K' : QV} (hk : KepS m n M N tag kv l) (hf : n ≤ fb ∧ fb < N ∧ tag fb = 22) (hq : QIv M n N tag q v') (hN : N ≤ N') (hM : ∀ b, b < N → b ≠ fb → M' b = M b) (hfin : M' fb = some (.cells (K'.map fun x => Value.bool x.2) 1 false true)) (eq : K'.map (·.1) = l.map (·.1)) (nd : (tagsV K').Nodup) (ord : OrdV v' K') : OrdS m n M' N' tag q fb kv l v' K' := by
  obtain ⟨f1, f2, f3⟩ := hf
  refine ⟨hk.frame hN (fun _ _ => rfl) fun b hb hx => hM b hb ?_, hq.frame hN (fun _ _ _ => rfl) fun b _ hb h1 h2 => hM b hb ?_, ⟨f1, by omega, f3⟩, hfin, eq, nd, ord⟩
  · rintro rfl; rcases hx with hx | hx <;> omega
  · rintro rfl; omega
end Go.Am.C41
namespace Go.Am.C41
open Go Go.Am
variable {E : Nat → Option AFn} {Y : Nat → List Value → FM → Nat → OR FM}
theorem ord_L0 (H : Hy E Y) (T : Tq E) {m : FM} {n : Nat} {lv : Value} {cs : List (Cmd × Value)} (hl : RecsV recC m n lv cs) (h30 : cs.length ≤ 30) (q : Nat) (y7 y8 y9 pv : Value) {Q : AX → List Value → FM → Nat → Nat → Prop}
    (hR : ∀ e M N w, (∀ j, j ≤ n → Nat.mod w (bit j) = 0) → Q (.ret (.bool true)) e M N w)
    (hQ : ∀ M N w tag v kv l, (∀ j, j ≤ n → Nat.mod w (bit j) = 0) → KepS m n M N tag kv l → QIv M n N tag q v → (∀ y ∈ v, y.2 = false) → l.map (·.1) = v.map (·.1) → ∀ x0 x3 x5, Q (.exit 0) [x0, kv, x3, .int .i64 (cs.length : Int), x5, .pointer (some ⟨q, 0, none⟩), y7, y8, y9, lv, pv] M N w) :
    ∀ d j, j + d = cs.length → ∀ (M : FM) (N w0 : Nat) (tag : Tags) (v : QV) (kv : Value) (l : List (Cmd × Value)) (x0 x3 x5 : Value), (∀ j, j ≤ n → Nat.mod w0 (bit j) = 0) → KepS m n M N tag kv l → QIv M n N tag q v → (∀ y ∈ v, y.2 = false) → l.map (·.1) = v.map (·.1) → l.length ≤ j →
    Gv (execW PG E Y ac3L0 [x0, kv, .int .i64 (j : Int), x3, .int .i64 (cs.length : Int), x5, .pointer (some ⟨q, 0, none⟩), y7, y8, y9, lv, pv] M N) fun X e m n w => Q X e m n (Nat.lor w0 w) := by
  intro d
  induction d with
  | zero =>
    intro j hj M N w0 tag v kv l x0 x3 x5 hw hK hI hv hlv hlj
    refine wr_loopN (L := ac3L0) (b := ac3L0b) rfl ?_
    simp only [ac3L0b]
    simp (implicitDefEqProofs := false) (disch := omega) only [WPs, opds, List.all_cons, List.all_nil, List.cons_append, List.nil_append, cond_true, cond_false, eq_self, List.map_cons, List.map_nil, Nat.reduceAdd, Nat.testBit, Nat.reduceShiftRight, Nat.reduceAnd, Nat.reduceBNe, Nat.reduceMul]
    exact hQ _ _ _ tag v kv l hw hK hI hv hlv _ _ _
  | succ d ih =>
    intro j hj M N w0 tag v kv l x0 x3 x5 hw hK hI hv hlv hlj
    have hjl : j < cs.length := by omega
    have hN := hK.hN
    have q1 := hI.q1
    have hn0 := hI.n0
    obtain ⟨b, o, cells, opn, wr, i1, i2, i3, i4, i5, i6⟩ := (hl.frame hK.hN hK.hM).at hjl
    obtain ⟨_, _, _, _, _, _, _, _, _, _, i7⟩ := hl.at hjl
    have i1 : idxV 9 j lv = some (.pointer (some ⟨b, o, none⟩)) := i1
    have i3 : M b = some (.cells cells 9 opn wr) := i3
    have i4 : ctake (ldrop cells o) 9 = some (cs[j].1.cells cs[j].2) := i4
    have i7 : DatS m n cs[j].2 cs[j].1.data := i7
    have i5 : cs[j].1.Fit := i5
    have od := i7.v.one
    generalize cs[j].1 = c at i4 i5 i7
    generalize cs[j].2 = dv at i4 i7 od
    have cd := cells_of_one od
    have hlen : lenV false dv = some (.int .i64 (c.data.length : Int)) := i7.v.len
    generalize hM0 : (AMem.put M N (some (.cells (c.cells dv) 0 false true)) : FM) = M0
    have hM0b : ∀ b, b < N → M0 b = M b := fun b hb => by rw [← hM0]; exact fput_ne _ _ _ _ (by omega)
    have hbx : M0 N = some (.cells (c.cells dv) 0 false true) := by rw [← hM0]; exact fput_same _ _ _
    obtain ⟨tag0, ht0, htN⟩ : ∃ tag0 : Tags, (∀ b, b < N → tag0 b = tag b) ∧ tag0 N = 0 := ⟨fun b => if b < N then tag b else 0, fun b hb => if_pos hb, if_neg (by omega)⟩
    have hI0 : QIv M0 n (N + 1) tag0 q v := hI.frame (by omega) (fun b _ hb => ht0 b hb) (fun b _ hb _ _ => hM0b b hb)
    have hK0 : KepS m n M0 (N + 1) tag0 kv l := hK.frame (by omega) ht0 (fun b hb _ => hM0b b hb)
    have hv0 := i7.frame (m' := M0) (n' := n) (Nat.le_refl _) fun b hb => by rw [hM0b b (by omega), hK.hM b hb]
    simp only [Cmd.cells] at i4 hM0 hbx
    refine wr_loopN (L := ac3L0) (b := ac3L0b) rfl ?_
    simp only [ac3L0b]
    have z1 := i5.vol
    have z2 := i5.oth
    by_cases big : bigB c = true
    · have hret : ∀ (e : List Value) (wx : Nat), (∀ j, j ≤ n → Nat.mod wx (bit j) = 0) → Q (.ret (.bool true)) e M0 (N + 1) (Nat.lor w0 wx) := fun e wx hwx => hR _ _ _ _ fun i hi => by rw [frz_iff]; exact ⟨hw i hi, hwx i hi⟩
      have fz : ∀ i, i ≤ n → Nat.mod (Nat.lor (bit N) (bit N)) (bit i) = 0 := fun i hi => by rw [frz_iff]; exact ⟨frz_bit (by omega), frz_bit (by omega)⟩
      by_cases h1 : 100 < c.data.length
      · simp (implicitDefEqProofs := false) (disch := omega) only [WPs, opds, List.all_cons, List.all_nil, List.cons_append, List.nil_append, cond_true, cond_false, eq_self, List.map_cons, List.map_nil, Nat.reduceAdd, Nat.testBit, Nat.reduceShiftRight, Nat.reduceAnd, Nat.reduceBNe, Nat.reduceMul, i1, i3, i4, od, hM0, hbx, hlen, decide_eq_true (show (100 : Int) < (c.data.length : Int) by omega)]
        exact hret _ _ fz
      · by_cases h2 : 100 < c.vol.size
        · simp (implicitDefEqProofs := false) (disch := omega) only [WPs, opds, List.all_cons, List.all_nil, List.cons_append, List.nil_append, cond_true, cond_false, eq_self, List.map_cons, List.map_nil, Nat.reduceAdd, Nat.testBit, Nat.reduceShiftRight, Nat.reduceAnd, Nat.reduceBNe, Nat.reduceMul, i1, i3, i4, od, hM0, hbx, hlen, decide_eq_false (show ¬ (100 : Int) < (c.data.length : Int) by omega), decide_eq_true (show (100 : Int) < (c.vol.size : Int) by omega)]
          exact hret _ _ fz
        · have h3 : 100 < c.oth.size := by
            simp only [bigB, Bool.or_eq_true, decide_eq_true_iff] at big
            omega
          simp (implicitDefEqProofs := false) (disch := omega) only [WPs, opds, List.all_cons, List.all_nil, List.cons_append, List.nil_append, cond_true, cond_false, eq_self, List.map_cons, List.map_nil, Nat.reduceAdd, Nat.testBit, Nat.reduceShiftRight, Nat.reduceAnd, Nat.reduceBNe, Nat.reduceMul, i1, i3, i4, od, hM0, hbx, hlen, decide_eq_false (show ¬ (100 : Int) < (c.data.length : Int) by omega), decide_eq_false (show ¬ (100 : Int) < (c.vol.size : Int) by omega), decide_eq_true (show (100 : Int) < (c.oth.size : Int) by omega)]
          exact hret _ _ fz
    · have hb3 : c.data.length ≤ 100 ∧ c.vol.size ≤ 100 ∧ c.oth.size ≤ 100 := by
        simp only [bigB, Bool.or_eq_true, decide_eq_true_iff, not_or] at big
        omega
      simp (implicitDefEqProofs := false) (disch := omega) only [WPs, opds, List.all_cons, List.all_nil, List.cons_append, List.nil_append, cond_true, cond_false, eq_self, List.map_cons, List.map_nil, Nat.reduceAdd, Nat.testBit, Nat.reduceShiftRight, Nat.reduceAnd, Nat.reduceBNe, Nat.reduceMul, i1, i3, i4, od, hM0, hbx, hlen, decide_eq_false (show ¬ (100 : Int) < (c.data.length : Int) by omega), decide_eq_false (show ¬ (100 : Int) < (c.vol.size : Int) by omega), decide_eq_false (show ¬ (100 : Int) < (c.oth.size : Int) by omega)]
      refine use_rt (submit_v H T hI0 c dv i5 (hv0.q (by omega)) (by omega)) fun x M1 N1 r1 w1 ⟨hm, hland⟩ => ?_
      by_cases he : subEV v c = 0
      · obtain ⟨rfl, tag1, c1, q1'⟩ := hm.ok he
        have hN1 := c1.n
        have hbx1 := (c1.fr N (by omega) (.inr (.inl (by omega)))).trans hbx
        have key := app_own9 (M := AMem.put M1 N1 (some (.cells (c.cells dv) 9 false true))) (N := N1 + 1) (P := fun b => n ≤ b ∧ b < N1 ∧ tag1 b = 21) (l := l) (l2 := [(c, dv)]) (v := kv)
          ((hK0.frame hN1 c1.tg fun b hb hx => c1.fr b hb (by rcases hx with hx | hx; exact .inl hx; exact .inr (.inr (by omega)))).own.frame fun b hb => ⟨hb, fput_ne _ _ _ _ (by omega)⟩) (fun b hb => by omega) (some ⟨N1, 0, none⟩) 1 (bit N1) (by
            show (c.cells dv ++ []).all Am.one = true
            simp [Cmd.cells, od, one_int, one_bool, one_str]) (by
            simp; omega)
        simp (implicitDefEqProofs := false) (disch := omega) only [WPs, opds, List.all_cons, List.all_nil, List.cons_append, List.nil_append, cond_true, cond_false, eq_self, List.map_cons, List.map_nil, Nat.reduceAdd, Nat.testBit, Nat.reduceShiftRight, Nat.reduceAnd, Nat.reduceBNe, Nat.reduceMul, hbx1, od]
        refine use_rt key fun kv2 M2 N2 r2 w2 ⟨u1, u2, u3', u4, u5⟩ => ?_
        have hM2 : ∀ b, b < N1 → tag1 b ≠ 21 ∨ b < n → M2 b = M1 b := fun b hb hx => by
          rw [u4 b (by omega) (fun hh => by omega), fput_ne _ _ _ _ (by omega)]
        simp (implicitDefEqProofs := false) (disch := omega) only [WPs, opds, List.all_cons, List.all_nil, List.cons_append, List.nil_append, cond_true, cond_false, eq_self, List.map_cons, List.map_nil, Nat.reduceAdd, Nat.testBit, Nat.reduceShiftRight, Nat.reduceAnd, Nat.reduceBNe, Nat.reduceMul]
        refine wr_end (ih (j + 1) (by omega) M2 N2 (Nat.lor w0 (Nat.lor (Nat.lor (Nat.lor (bit N) (bit N)) w1) (Nat.lor (bit N1) w2))) (fun b => if b < N1 then tag1 b else 21) (v ++ [(c, false)]) kv2 (l ++ [(c, dv)]) _ _ _ (fun i hi => ?_) ⟨by omega, fun b hb => ?_, u3'.frame fun b hb => ?_, fun x hx => ?_, ?_⟩ (q1'.frame (by omega) (fun b _ hb => if_pos hb) fun b _ hb h1 h2 => hM2 b hb (.inl (by omega))) (fun y hy => ?_) ?_ ?_) fun X e m n w hq => ?_
        · simp only [frz_iff]
          exact ⟨hw i hi, ⟨⟨frz_bit (by omega), frz_bit (by omega)⟩, c1.w i hi⟩, frz_bit (by omega), u5 i (by omega) fun b hb => by omega⟩
        · rw [hM2 b (by omega) (.inr hb), c1.fr b (by omega) (.inl hb), hM0b b (by omega), hK.hM b hb]
        · rcases hb with ⟨⟨h1, h2, h3⟩ | rfl, h4⟩
          · exact ⟨⟨h1, h4, by rw [if_pos h2]; exact h3⟩, rfl⟩
          · exact ⟨⟨by omega, h4, if_neg (by omega)⟩, rfl⟩
        · rcases List.mem_append.1 hx with hx | hx
          · exact hK.dat x hx
          · obtain rfl := List.mem_singleton.1 hx
            exact ⟨i5, i7⟩
        · rw [List.length_append, List.length_singleton]; omega
        · rcases List.mem_append.1 hy with hy | hy
          · exact hv y hy
          · obtain rfl := List.mem_singleton.1 hy; rfl
        · rw [List.map_append, List.map_append, hlv]; rfl
        · rw [List.length_append, List.length_singleton]; omega
        · rw [← lor_assoc']; exact hq
      · obtain ⟨rfl, rfl, rfl, rfl⟩ := hm.bad he
        simp (implicitDefEqProofs := false) (disch := omega) only [WPs, opds, List.all_cons, List.all_nil, List.cons_append, List.nil_append, cond_true, cond_false, eq_self, List.map_cons, List.map_nil, Nat.reduceAdd, Nat.testBit, Nat.reduceShiftRight, Nat.reduceAnd, Nat.reduceBNe, Nat.reduceMul, decide_eq_false he]
        refine wr_end (ih (j + 1) (by omega) M1 (N + 1) (Nat.lor w0 (Nat.lor (bit N) (bit N))) tag0 v kv l _ _ _ (fun i hi => ?_) hK0 hI0 hv hlv (by omega)) fun X e m n w hq => ?_
        · simp only [frz_iff]
          exact ⟨hw i hi, frz_bit (by omega), frz_bit (by omega)⟩
        · rw [← lor_assoc']; exact hq
end Go.Am.C41
namespace Go.Am.C41
open Go Go.Am
variable {E : Nat → Option AFn} {Y : Nat → List Value → FM → Nat → OR FM}
theorem recs_bel {M : FM} {N : Nat} {d : Value} {ds : List (List Int)} (h : DatS M N d ds) : belowF N d = true := by
  have hb := h.v.bel N (Nat.le_refl _)
  obtain ⟨a, cc, e, _⟩ := h.v
  rw [e] at hb ⊢; exact hb
theorem ord_L2 (H : Hy E Y) {M : FM} {N : Nat} {kv : Value} {l : List (Cmd × Value)} {K : QV} {fb cb cap : Nat} (h : RecsV recC M N kv l) (hs : l.length ≤ 30) (hfb : fb < N) (hf : M fb = some (.cells (K.map fun x => Value.bool x.2) 1 false true)) (hKl : K.length = l.length) {i : Nat} (hi : i < l.length) (hcb : cb < N) (hc : M cb = some (.cells (l[i].1.cells l[i].2) 0 false true))
    (hp : ∀ k (hk : k < i), (K[k]'(by omega)).2 = false → befB (l[k]'(by omega)).1 l[i].1 = false) {Q : AX → List Value → FM → Nat → Nat → Prop} (y3 y4 y5 y7 y8 y9 y10 y12 y13 y14 y15 y16 y17 y18 y19 y20 y21 y22 y23 y24 y25 y26 y27 y28 y29 y30 y31 y32 y33 y34 y35 y36 y37 y38 y40 : Value) (ys : List Value)
    (hQ : ∀ x0 x1 x2, Q (.exit 8) (x0 :: x1 :: x2 :: y3 :: y4 :: y5 :: .pointer (some ⟨cb, 0, none⟩) :: y7 :: y8 :: y9 :: y10 :: .int .i64 (i : Int) :: y12 :: y13 :: y14 :: y15 :: y16 :: y17 :: y18 :: y19 :: y20 :: y21 :: y22 :: y23 :: y24 :: y25 :: y26 :: y27 :: y28 :: y29 :: y30 :: y31 :: y32 :: y33 :: y34 :: y35 :: y36 :: y37 :: y38 :: .slice (some ⟨fb, 0, none⟩) l.length cap :: y40 :: kv :: ys) M N 0) :
    ∀ d k, k + d = i → ∀ x0 x2 : Value, Gv (execW PG E Y ac3L2 (x0 :: .int .i64 (k : Int) :: x2 :: y3 :: y4 :: y5 :: .pointer (some ⟨cb, 0, none⟩) :: y7 :: y8 :: y9 :: y10 :: .int .i64 (i : Int) :: y12 :: y13 :: y14 :: y15 :: y16 :: y17 :: y18 :: y19 :: y20 :: y21 :: y22 :: y23 :: y24 :: y25 :: y26 :: y27 :: y28 :: y29 :: y30 :: y31 :: y32 :: y33 :: y34 :: y35 :: y36 :: y37 :: y38 :: .slice (some ⟨fb, 0, none⟩) l.length cap :: y40 :: kv :: ys) M N) Q := by
  intro d
  induction d with
  | zero =>
    intro k hk x0 x2
    obtain rfl : k = i := by omega
    refine wr_loopN (L := ac3L2) (b := ac3L2b) rfl ?_
    simp only [ac3L2b]
    simp (implicitDefEqProofs := false) (disch := omega) only [WPs, opds, List.all_cons, List.all_nil, List.cons_append, List.nil_append, cond_true, cond_false, eq_self, List.map_cons, List.map_nil, Nat.reduceAdd, Nat.testBit, Nat.reduceShiftRight, Nat.reduceAnd, Nat.reduceBNe, Nat.reduceMul]
    exact hQ _ _ _
  | succ d ih =>
    intro k hk x0 x2
    have hkl : k < l.length := by omega
    have hkK : k < K.length := by omega
    obtain ⟨b, o, cells, opn, wr, i1, i2, i3, i4, i5, i6⟩ := h.at hkl
    have i1 : idxV 9 k kv = some (.pointer (some ⟨b, o, none⟩)) := i1
    have i3 : M b = some (.cells cells 9 opn wr) := i3
    have i4 : ctake (ldrop cells o) 9 = some (l[k].1.cells l[k].2) := i4
    have i6 : DatS M N l[k].2 l[k].1.data := i6
    obtain ⟨j5, j6⟩ := h.2 l[i] (List.getElem_mem hi)
    have j6 : DatS M N l[i].2 l[i].1.data := j6
    have j5 : l[i].1.Fit := j5
    have g1 := item_agg l[k].1 l[k].2 i6.v.one
    have g2 := item_agg l[i].1 l[i].2 j6.v.one
    have hc1 := bel_cmd l[k].1 (recs_bel i6)
    have hc2 := bel_cmd l[i].1 (recs_bel j6)
    have hbs := h.bel N (Nat.le_refl _)
    have hd : cget (K.map fun x => Value.bool x.2) k = some (.bool K[k].2) := by rw [cget_eq, List.getElem?_map, List.getElem?_eq_getElem hkK]; rfl
    have hb := hp k (by omega)
    have j4 : ctake (l[i].1.cells l[i].2) 9 = some (l[i].1.cells l[i].2) := rfl
    refine wr_loopN (L := ac3L2) (b := ac3L2b) rfl ?_
    simp only [ac3L2b]
    cases hk2 : K[k].2 with
    | true =>
      rw [hk2] at hd
      simp (implicitDefEqProofs := false) (disch := omega) only [WPs, opds, List.all_cons, List.all_nil, List.cons_append, List.nil_append, cond_true, cond_false, eq_self, List.map_cons, List.map_nil, Nat.reduceAdd, Nat.testBit, Nat.reduceShiftRight, Nat.reduceAnd, Nat.reduceBNe, Nat.reduceMul, i1, i3, i4, g1, g2, hc1, hc2, hbs, hf, hd, hc, j4]
      exact wr_end (ih (k + 1) (by omega) _ _) fun X e m n w hq => by simpa only [zero_lor'] using hq
    | false =>
      rw [hk2] at hd
      simp (implicitDefEqProofs := false) (disch := omega) only [WPs, opds, List.all_cons, List.all_nil, List.cons_append, List.nil_append, cond_true, cond_false, eq_self, List.map_cons, List.map_nil, Nat.reduceAdd, Nat.testBit, Nat.reduceShiftRight, Nat.reduceAnd, Nat.reduceBNe, Nat.reduceMul, i1, i3, i4, g1, g2, hc1, hc2, hbs, hf, hd, hc, j4]
      refine use_pureX (H.b17 M N l[k].1 l[i].1 _ _ i5 j5 i6.v j6.v) fun _ => ?_
      rw [hb hk2]
      simp (implicitDefEqProofs := false) (disch := omega) only [WPs, opds, List.all_cons, List.all_nil, List.cons_append, List.nil_append, cond_true, cond_false, eq_self, List.map_cons, List.map_nil, Nat.reduceAdd, Nat.testBit, Nat.reduceShiftRight, Nat.reduceAnd, Nat.reduceBNe, Nat.reduceMul]
      exact wr_end (ih (k + 1) (by omega) _ _) fun X e m n w hq => by simpa only [zero_lor'] using hq
theorem ord_L3 (H : Hy E Y) {M0 : FM} {N0 : Nat} {kv : Value} {l : List (Cmd × Value)} {K : QV} {fb cap : Nat} {t : Int} (h : RecsV recC M0 N0 kv l) (hs : l.length ≤ 30) (hfb : fb < N0) (hf : M0 fb = some (.cells (K.map fun x => Value.bool x.2) 1 false true)) (hKl : K.length = l.length)
    (hp : ∀ i (hi : i < l.length), l[i].1.tag = t → ∀ k (hk : k < i), (K[k]'(by omega)).2 = false → befB (l[k]'(by omega)).1 l[i].1 = false) {Q : AX → List Value → FM → Nat → Nat → Prop} (y4 y5 y7 y8 y9 y10 y11 y12 y13 y14 y15 y16 y17 y18 y19 y20 y21 y22 y23 y24 y25 y26 y27 y28 y30 : Value) (ys : List Value)
    (hQ : ∀ M N w, N0 ≤ N → (∀ b, b < N0 → M b = M0 b) → (∀ j, j ≤ N0 → Nat.mod w (bit j) = 0) → ∀ x0 x1 x2, Q (.exit 6) (x0 :: x1 :: x2 :: .int .i64 (l.length : Int) :: y4 :: y5 :: .int .i64 t :: y7 :: y8 :: y9 :: y10 :: y11 :: y12 :: y13 :: y14 :: y15 :: y16 :: y17 :: y18 :: y19 :: y20 :: y21 :: y22 :: y23 :: y24 :: y25 :: y26 :: y27 :: y28 :: .slice (some ⟨fb, 0, none⟩) l.length cap :: y30 :: kv :: ys) M N w) :
    ∀ d i, i + d = l.length → ∀ (M : FM) (N w0 : Nat) (x0 x2 : Value), N0 ≤ N → (∀ b, b < N0 → M b = M0 b) → (∀ j, j ≤ N0 → Nat.mod w0 (bit j) = 0) → Gv (execW PG E Y ac3L3 (x0 :: .int .i64 (i : Int) :: x2 :: .int .i64 (l.length : Int) :: y4 :: y5 :: .int .i64 t :: y7 :: y8 :: y9 :: y10 :: y11 :: y12 :: y13 :: y14 :: y15 :: y16 :: y17 :: y18 :: y19 :: y20 :: y21 :: y22 :: y23 :: y24 :: y25 :: y26 :: y27 :: y28 :: .slice (some ⟨fb, 0, none⟩) l.length cap :: y30 :: kv :: ys) M N) fun X e m n w => Q X e m n (Nat.lor w0 w) := by
  intro d
  induction d with
  | zero =>
    intro i hi M N w0 x0 x2 hN hM hw
    obtain rfl : i = l.length := by omega
    refine wr_loopN (L := ac3L3) (b := ac3L3b) rfl ?_
    simp only [ac3L3b]
    simp (implicitDefEqProofs := false) (disch := omega) only [WPs, opds, List.all_cons, List.all_nil, List.cons_append, List.nil_append, cond_true, cond_false, eq_self, List.map_cons, List.map_nil, Nat.reduceAdd, Nat.testBit, Nat.reduceShiftRight, Nat.reduceAnd, Nat.reduceBNe, Nat.reduceMul]
    exact hQ _ _ _ hN hM hw _ _ _
  | succ d ih =>
    intro i hi M N w0 x0 x2 hN hM hw
    have hil : i < l.length := by omega
    have h' := h.frame hN hM
    obtain ⟨b, o, cells, opn, wr, i1, i2, i3, i4, i5, i6⟩ := h'.at hil
    have i1 : idxV 9 i kv = some (.pointer (some ⟨b, o, none⟩)) := i1
    have i3 : M b = some (.cells cells 9 opn wr) := i3
    have i4 : ctake (ldrop cells o) 9 = some (l[i].1.cells l[i].2) := i4
    have i6 : DatS M N l[i].2 l[i].1.data := i6
    have od := i6.v.one
    generalize hM1 : (AMem.put M N (some (.cells (l[i].1.cells l[i].2) 0 false true)) : FM) = M1
    have hM1b : ∀ b, b < N → M1 b = M b := fun b hb => by rw [← hM1]; exact fput_ne _ _ _ _ (by omega)
    have hbx : M1 N = some (.cells (l[i].1.cells l[i].2) 0 false true) := by rw [← hM1]; exact fput_same _ _ _
    have hbx2 := hbx
    simp only [Cmd.cells] at i4 hM1 hbx
    refine wr_loopN (L := ac3L3) (b := ac3L3b) rfl ?_
    simp only [ac3L3b]
    by_cases ht : l[i].1.tag = t
    · simp (implicitDefEqProofs := false) (disch := omega) only [WPs, opds, List.all_cons, List.all_nil, List.cons_append, List.nil_append, cond_true, cond_false, eq_self, List.map_cons, List.map_nil, Nat.reduceAdd, Nat.testBit, Nat.reduceShiftRight, Nat.reduceAnd, Nat.reduceBNe, Nat.reduceMul, i1, i3, i4, od, hM1, hbx, decide_eq_false (show ¬ (l[i].1.tag ≠ t) from fun h => h ht)]
      have hM1' : ∀ b, b < N0 → M1 b = M0 b := fun b hb => by rw [hM1b b (by omega), hM b hb]
      refine wr_cps (ord_L2 H (h.frame (by omega : N0 ≤ N + 1) hM1') hs (by omega) ((hM1' fb hfb).trans hf) hKl hil (by omega) hbx2 (fun k hk hk2 => hp i hil ht k hk hk2) _ _ _ _ _ _ _ _ _ _ _ _ _ _ _ _ _ _ _ _ _ _ _ _ _ _ _ _ _ _ _ _ _ _ _ _ (fun x0 x1 x2 r => ?_) i 0 (by omega) _ _)
      simp (implicitDefEqProofs := false) (disch := omega) only [WPs, opds, List.all_cons, List.all_nil, List.cons_append, List.nil_append, cond_true, cond_false, eq_self, List.map_cons, List.map_nil, Nat.reduceAdd, Nat.testBit, Nat.reduceShiftRight, Nat.reduceAnd, Nat.reduceBNe, Nat.reduceMul]
      refine wr_end (ih (i + 1) (by omega) M1 (N + 1) (Nat.lor w0 (Nat.lor (bit N) (bit N))) _ _ (by omega) hM1' (fun j hj => ?_)) fun X e m n w hq => ?_
      · simp only [frz_iff]
        exact ⟨hw j hj, frz_bit (by omega), frz_bit (by omega)⟩
      · rw [← lor_assoc']; exact hq
    · simp (implicitDefEqProofs := false) (disch := omega) only [WPs, opds, List.all_cons, List.all_nil, List.cons_append, List.nil_append, cond_true, cond_false, eq_self, List.map_cons, List.map_nil, Nat.reduceAdd, Nat.testBit, Nat.reduceShiftRight, Nat.reduceAnd, Nat.reduceBNe, Nat.reduceMul, i1, i3, i4, od, hM1, hbx, decide_eq_true (show l[i].1.tag ≠ t from ht)]
      refine wr_end (ih (i + 1) (by omega) M1 (N + 1) (Nat.lor w0 (Nat.lor (bit N) (bit N))) _ _ (by omega) (fun b hb => by rw [hM1b b (by omega), hM b hb]) (fun j hj => ?_)) fun X e m n w hq => ?_
      · simp only [frz_iff]
        exact ⟨hw j hj, frz_bit (by omega), frz_bit (by omega)⟩
      · rw [← lor_assoc']; exact hq
theorem ord_L1 {m : FM} {n : Nat} {M0 : FM} {N0 : Nat} {tag : Tags} {kv : Value} {l : List (Cmd × Value)} {K : QV} {fb cap : Nat} {t : Int} (hk : KepS m n M0 N0 tag kv l) (hf : n ≤ fb ∧ fb < N0 ∧ tag fb = 22) (hKl : K.map (·.1) = l.map (·.1)) {Q : AX → List Value → FM → Nat → Nat → Prop} (y3 y4 y6 y7 y8 y9 y10 y11 y12 y13 y14 y15 y16 y17 y18 y19 y20 y21 y22 y23 y24 y25 y27 : Value) (ys : List Value)
    (hQ : ∀ M N w, N0 ≤ N → (∀ b, b < N0 → b ≠ fb → M b = M0 b) → M fb = some (.cells ((finK K t).map fun x => Value.bool x.2) 1 false true) → (∀ j, j ≤ n → Nat.mod w (bit j) = 0) → ∀ x0 x1, Q (.exit 4) (x0 :: x1 :: .int .i64 (l.length : Int) :: y3 :: y4 :: .int .i64 t :: y6 :: y7 :: y8 :: y9 :: y10 :: y11 :: y12 :: y13 :: y14 :: y15 :: y16 :: y17 :: y18 :: y19 :: y20 :: y21 :: y22 :: y23 :: y24 :: y25 :: .slice (some ⟨fb, 0, none⟩) l.length cap :: y27 :: kv :: ys) M N w) :
    ∀ d i, i + d = l.length → ∀ (M : FM) (N w0 : Nat) (F : List Bool) (x1 : Value), N0 ≤ N → (∀ b, b < N0 → b ≠ fb → M b = M0 b) → M fb = some (.cells (F.map Value.bool) 1 false true) → (∀ a, F[a]? = (K[a]?).map fun x => if a < i then x.2 || decide (x.1.tag = t) else x.2) → (∀ j, j ≤ n → Nat.mod w0 (bit j) = 0) → Gv (execW PG E Y ac3L1 (.int .i64 (i : Int) :: x1 :: .int .i64 (l.length : Int) :: y3 :: y4 :: .int .i64 t :: y6 :: y7 :: y8 :: y9 :: y10 :: y11 :: y12 :: y13 :: y14 :: y15 :: y16 :: y17 :: y18 :: y19 :: y20 :: y21 :: y22 :: y23 :: y24 :: y25 :: .slice (some ⟨fb, 0, none⟩) l.length cap :: y27 :: kv :: ys) M N) fun X e m n w => Q X e m n (Nat.lor w0 w) := by
  have hlen : K.length = l.length := by
    have := congrArg List.length hKl
    rwa [List.length_map, List.length_map] at this
  have h30 := hk.len
  intro d
  induction d with
  | zero =>
    intro i hi M N w0 F x1 hN hM hfb hF hw
    obtain rfl : i = l.length := by omega
    refine wr_loopN (L := ac3L1) (b := ac3L1b) rfl ?_
    simp only [ac3L1b]
    simp (implicitDefEqProofs := false) (disch := omega) only [WPs, opds, List.all_cons, List.all_nil, List.cons_append, List.nil_append, cond_true, cond_false, eq_self, List.map_cons, List.map_nil, Nat.reduceAdd, Nat.testBit, Nat.reduceShiftRight, Nat.reduceAnd, Nat.reduceBNe, Nat.reduceMul]
    refine hQ _ _ _ hN hM ?_ hw _ _
    rw [hfb]
    congr 2
    apply List.ext_getElem?
    intro a
    rw [List.getElem?_map, hF a, finK, List.map_map, List.getElem?_map]
    cases he : K[a]? with
    | none => rfl
    | some x =>
      have ha : a < K.length := (List.getElem?_eq_some_iff.1 he).1
      show some (Value.bool (if a < l.length then _ else _)) = _
      rw [if_pos (by omega)]; rfl
  | succ d ih =>
    intro i hi M N w0 F x1 hN hM hfb hF hw
    have hil : i < l.length := by omega
    have hiK : i < K.length := by omega
    have hk' : KepS m n M N tag kv l := hk.frame hN (fun _ _ => rfl) fun b hb hx => hM b hb (by rintro rfl; rcases hx with hx | hx <;> omega)
    obtain ⟨b, o, cells, opn, wr, i1, i2, i3, i4, i5, i6⟩ := hk'.recs.at hil
    have i1 : idxV 9 i kv = some (.pointer (some ⟨b, o, none⟩)) := i1
    have i3 : M b = some (.cells cells 9 opn wr) := i3
    have i4 : ctake (ldrop cells o) 9 = some (l[i].1.cells l[i].2) := i4
    have i6 : DatS M N l[i].2 l[i].1.data := i6
    have od := i6.v.one
    have hFl : F.length = K.length := by
      rcases Nat.lt_trichotomy F.length K.length with h | h | h
      · have := hF F.length
        rw [List.getElem?_eq_none (Nat.le_refl _), List.getElem?_eq_getElem h] at this; cases this
      · exact h
      · have := hF K.length
        rw [List.getElem?_eq_none (l := K) (Nat.le_refl _), List.getElem?_eq_getElem h] at this; cases this
    have hFi : F[i]? = some K[i].2 := by rw [hF i, List.getElem?_eq_getElem hiK]; simp
    have hd : cget (F.map Value.bool) i = some (.bool K[i].2) := by rw [cget_eq, List.getElem?_map, hFi]; rfl
    have hset : ∀ v : Bool, setCells (F.map Value.bool) i [.bool v] = some ((F.set i v).map Value.bool) := fun v => by
      rw [Go.Am.set_one (by rw [List.length_map]; omega), List.map_set]
    have hKi : l[i].1 = K[i].1 := by
      have h1 : (K.map (·.1))[i]? = (l.map (·.1))[i]? := by rw [hKl]
      rw [List.getElem?_map, List.getElem?_map, List.getElem?_eq_getElem hiK, List.getElem?_eq_getElem hil] at h1
      simpa using h1.symm
    generalize hM1 : (AMem.put M N (some (.cells (l[i].1.cells l[i].2) 0 false true)) : FM) = M1
    have hM1b : ∀ b, b < N → M1 b = M b := fun b hb => by rw [← hM1]; exact fput_ne _ _ _ _ (by omega)
    have hbx : M1 N = some (.cells (l[i].1.cells l[i].2) 0 false true) := by rw [← hM1]; exact fput_same _ _ _
    have hfb1 : M1 fb = some (.cells (F.map Value.bool) 1 false true) := (hM1b fb (by omega)).trans hfb
    have nxt : ∀ v : Bool, v = (K[i].2 || decide (K[i].1.tag = t)) → ∀ (x1 : Value) (wx : Nat), (∀ j, j ≤ n → Nat.mod wx (bit j) = 0) → Gv (execW PG E Y ac3L1 (.int .i64 ((i + 1 : Nat) : Int) :: x1 :: .int .i64 (l.length : Int) :: y3 :: y4 :: .int .i64 t :: y6 :: y7 :: y8 :: y9 :: y10 :: y11 :: y12 :: y13 :: y14 :: y15 :: y16 :: y17 :: y18 :: y19 :: y20 :: y21 :: y22 :: y23 :: y24 :: y25 :: .slice (some ⟨fb, 0, none⟩) l.length cap :: y27 :: kv :: ys) (AMem.put M1 fb (some (.cells ((F.set i v).map Value.bool) 1 false true))) (N + 1)) fun X e m n w => Q X e m n (Nat.lor w0 (Nat.lor wx w)) := fun v hv x1 wx hwx => by
      refine (ih (i + 1) (by omega) _ (N + 1) (Nat.lor w0 wx) (F.set i v) x1 (by omega) (fun b hb hne => by rw [fput_ne _ _ _ _ hne, hM1b b (by omega), hM b hb hne]) (fput_same _ _ _) (fun a => ?_) (fun j hj => by rw [frz_iff]; exact ⟨hw j hj, hwx j hj⟩)).mono fun X e m n w hq => ?_
      · rw [List.getElem?_set]
        split
        · rename_i e
          subst e
          rw [if_pos (by omega), List.getElem?_eq_getElem hiK, hv]
          simp
        · rename_i e
          rw [hF a]
          cases K[a]? with
          | none => rfl
          | some x =>
            show some (if a < i then x.2 || decide (x.1.tag = t) else x.2) = some (if a < i + 1 then x.2 || decide (x.1.tag = t) else x.2)
            by_cases h1 : a < i
            · rw [if_pos h1, if_pos (by omega)]
            · rw [if_neg h1, if_neg (by omega)]
      · rw [← lor_assoc']; exact hq
    simp only [Cmd.cells] at i4 hM1 hbx
    refine wr_loopN (L := ac3L1) (b := ac3L1b) rfl ?_
    simp only [ac3L1b]
    cases hk2 : K[i].2 with
    | true =>
      rw [hk2] at hd
      have hs2 := hset true
      simp (implicitDefEqProofs := false) (disch := omega) only [WPs, opds, List.all_cons, List.all_nil, List.cons_append, List.nil_append, cond_true, cond_false, eq_self, List.map_cons, List.map_nil, Nat.reduceAdd, Nat.testBit, Nat.reduceShiftRight, Nat.reduceAnd, Nat.reduceBNe, Nat.reduceMul, i1, i3, i4, od, hM1, hbx, hfb1, hd, hs2]
      refine wr_end (nxt true (by rw [hk2]; rfl) x1 (Nat.lor (Nat.lor (bit N) (bit N)) (bit fb)) (fun j hj => ?_)) fun X e m n w hq => hq
      simp only [frz_iff]
      exact ⟨⟨frz_bit (by omega), frz_bit (by omega)⟩, frz_bit (by omega)⟩
    | false =>
      rw [hk2] at hd
      have hs2 := hset (decide (l[i].1.tag = t))
      simp (implicitDefEqProofs := false) (disch := omega) only [WPs, opds, List.all_cons, List.all_nil, List.cons_append, List.nil_append, cond_true, cond_false, eq_self, List.map_cons, List.map_nil, Nat.reduceAdd, Nat.testBit, Nat.reduceShiftRight, Nat.reduceAnd, Nat.reduceBNe, Nat.reduceMul, i1, i3, i4, od, hM1, hbx, hfb1, hd, hs2]
      refine wr_end (nxt (decide (l[i].1.tag = t)) (by rw [hk2, hKi]; rfl) x1 (Nat.lor (Nat.lor (bit N) (bit N)) (bit fb)) (fun j hj => ?_)) fun X e m n w hq => hq
      simp only [frz_iff]
      exact ⟨⟨frz_bit (by omega), frz_bit (by omega)⟩, frz_bit (by omega)⟩
end Go.Am.C41
namespace Go.Am.C41
open Go Go.Am
variable {E : Nat → Option AFn} {Y : Nat → List Value → FM → Nat → OR FM}

theorem ord_L4 (H : Hy E Y) (T : Tq E) {m : FM} {n : Nat} {lv pv kv : Value} {l : List (Cmd × Value)} {ps : List Int} (hP : Sl m n pv (ps.map (Value.int .u8))) (hpu : ∀ x ∈ ps, 0 ≤ x ∧ x < 256) (h100 : ps.length ≤ 100) (q fb cap : Nat) (y5 y7 y8 y9 y11 y12 y13 : Value) {Q : AX → List Value → FM → Nat → Nat → Prop}
    (hQ : ∀ M N w e, (∀ j, j ≤ n → Nat.mod w (bit j) = 0) → Q (.exit 2) e M N w) :
    ∀ d j, j + d = ps.length → ∀ (M : FM) (N w0 : Nat) (tag : Tags) (v K : QV) (x0 x2 : Value), (∀ j, j ≤ n → Nat.mod w0 (bit j) = 0) → OrdS m n M N tag q fb kv l v K →
    Gv (execW PG E Y ac3L4 [x0, .int .i64 (j : Int), x2, .int .i64 (ps.length : Int), .slice (some ⟨fb, 0, none⟩) l.length cap, y5, kv, y7, y8, y9, .pointer (some ⟨q, 0, none⟩), y11, y12, y13, lv, pv] M N) fun X e m n w => Q X e m n (Nat.lor w0 w) := by
  intro d
  induction d with
  | zero =>
    intro j hj M N w0 tag v K x0 x2 hw hO
    refine wr_loopN (L := ac3L4) (b := ac3L4b) rfl ?_
    simp only [ac3L4b]
    simp (implicitDefEqProofs := false) (disch := omega) only [WPs, opds, List.all_cons, List.all_nil, List.cons_append, List.nil_append, cond_true, cond_false, eq_self, List.map_cons, List.map_nil, Nat.reduceAdd, Nat.testBit, Nat.reduceShiftRight, Nat.reduceAnd, Nat.reduceBNe, Nat.reduceMul]
    exact hQ _ _ _ _ hw
  | succ d ih =>
    intro j hj M N w0 tag v K x0 x2 hw hO
    have hjl : j < ps.length := by omega
    have hN := hO.k.hN
    obtain ⟨b, o, c, opn, wr, i1, i2, i3, i4⟩ := Sl.cell (hP.frame hN hO.k.hM) (i := j) (x := .int .u8 ps[j]) (by rw [List.getElem?_map, List.getElem?_eq_getElem hjl]; rfl)
    have hz := hpu ps[j] (List.getElem_mem hjl)
    generalize ps[j] = z at i4 hz
    obtain ⟨k, rfl⟩ : ∃ k : Nat, z = (k : Int) := ⟨z.toNat, by omega⟩
    have hlv := hO.q.len
    obtain ⟨ls, le, lt⟩ := lenV_startedV v hlv
    refine wr_loopN (L := ac3L4) (b := ac3L4b) rfl ?_
    simp only [ac3L4b]
    simp (implicitDefEqProofs := false) (disch := omega) only [WPs, opds, List.all_cons, List.all_nil, List.cons_append, List.nil_append, cond_true, cond_false, eq_self, List.map_cons, List.map_nil, Nat.reduceAdd, Nat.testBit, Nat.reduceShiftRight, Nat.reduceAnd, Nat.reduceBNe, Nat.reduceMul, i1, i3, i4]
    refine use_rt (elig_v H T hO.q) fun ev M1 N1 r1 w1 ⟨n1, m1, f1, g1⟩ => ?_
    have hO1 := hO.stay n1 m1
    simp (implicitDefEqProofs := false) (disch := omega) only [WPs, opds, List.all_cons, List.all_nil, List.cons_append, List.nil_append, cond_true, cond_false, eq_self, List.map_cons, List.map_nil, Nat.reduceAdd, Nat.testBit, Nat.reduceShiftRight, Nat.reduceAnd, Nat.reduceBNe, Nat.reduceMul]
    refine use_rt (started_v T hO1.q) fun sv M2 N2 r2 w2 ⟨n2, m2, f2, g2⟩ => ?_
    have hO2 := hO1.stay n2 m2
    have g1' := g1.frame n2 m2
    have kN : n < N2 := by have := hO2.q.n0; omega
    have c1 := conv_u8i (q := k / 2) (by omega)
    have c2 := quo2_u8 (q := k) (by omega)
    have hlK := hO2.len
    have h30 := hO2.k.len
    have nxt : ∀ (M3 : FM) (N3 wx : Nat) (tag3 : Tags) (v3 K3 : QV) (x0 x2 : Value), OrdS m n M3 N3 tag3 q fb kv l v3 K3 → (∀ j, j ≤ n → Nat.mod wx (bit j) = 0) → Gv (execW PG E Y ac3L4 [x0, .int .i64 ((j + 1 : Nat) : Int), x2, .int .i64 (ps.length : Int), .slice (some ⟨fb, 0, none⟩) l.length cap, y5, kv, y7, y8, y9, .pointer (some ⟨q, 0, none⟩), y11, y12, y13, lv, pv] M3 N3) fun X e m n w => Q X e m n (Nat.lor w0 (Nat.lor wx w)) := fun M3 N3 wx tag3 v3 K3 x0 x2 h3 hwx => by
      refine (ih (j + 1) (by omega) M3 N3 (Nat.lor w0 wx) tag3 v3 K3 x0 x2 (fun i hi => by rw [frz_iff]; exact ⟨hw i hi, hwx i hi⟩) h3).mono fun X e m n w hq => ?_
      rw [← lor_assoc']; exact hq
    rcases (by omega : (k % 2 = 1 ∧ 0 < (startedL v).length) ∨ (k % 2 = 1 ∧ (startedL v).length = 0) ∨ k % 2 = 0) with ⟨o1, o2⟩ | o1
    · -- a started command is finished
      obtain ⟨i, hi⟩ : ∃ i, i = k / 2 % (startedL v).length := ⟨_, rfl⟩
      have hil : i < (startedL v).length := by rw [hi]; exact Nat.mod_lt _ o2
      obtain ⟨b', o', c', opn', wr', j1, j2, j3, j4⟩ := g2.cell hil
      have hmem := List.getElem_mem hil
      generalize (startedL v)[i] = t at j4 hmem
      simp (implicitDefEqProofs := false) (disch := omega) only [WPs, opds, List.all_cons, List.all_nil, List.cons_append, List.nil_append, cond_true, cond_false, eq_self, List.map_cons, List.map_nil, Nat.reduceAdd, Nat.testBit, Nat.reduceShiftRight, Nat.reduceAnd, Nat.reduceBNe, Nat.reduceMul, rem2_u8, o1, g2.len, decide_eq_true (show (0 : Int) < ((startedL v).length : Int) by omega), c1, c2, ← hi, j1, j3, j4]
      refine use_rt (finish_v T hO2.q t) fun x M3 N3 r3 w3 hm => ?_
      obtain ⟨rfl, tag3, cg, q3⟩ := hm.ok (started_fin hmem)
      obtain ⟨k3, f3, fin3⟩ := hO2.chg cg q3
      have hkl := k3.recs.len
      simp (implicitDefEqProofs := false) (disch := omega) only [WPs, opds, List.all_cons, List.all_nil, List.cons_append, List.nil_append, cond_true, cond_false, eq_self, List.map_cons, List.map_nil, Nat.reduceAdd, Nat.testBit, Nat.reduceShiftRight, Nat.reduceAnd, Nat.reduceBNe, Nat.reduceMul, hkl]
      refine wr_kont (ord_L1 k3 f3 hO.eq _ _ _ _ _ _ _ _ _ _ _ _ _ _ _ _ _ _ _ _ _ _ _ _ (fun M4 N4 w4 n4 m4 hf4 fz4 x0 x1 rr => ?_) l.length 0 (by omega) M3 N3 0 (K.map (·.2)) _ (Nat.le_refl _) (fun _ _ _ => rfl) (by rw [List.map_map]; exact fin3) (fun a => ?_) (fun _ _ => Nat.zero_mod _))
      · simp (implicitDefEqProofs := false) (disch := omega) only [WPs, opds, List.all_cons, List.all_nil, List.cons_append, List.nil_append, cond_true, cond_false, eq_self, List.map_cons, List.map_nil, Nat.reduceAdd, Nat.testBit, Nat.reduceShiftRight, Nat.reduceAnd, Nat.reduceBNe, Nat.reduceMul]
        refine wr_end (nxt M4 N4 (Nat.lor (Nat.lor (Nat.lor w1 w2) w3) w4) tag3 (remV v t) (finK K t) _ _ (OrdS.mark k3 f3 q3 n4 m4 hf4 (by rw [← hO.eq, finK, List.map_map]; rfl) (by rw [finK_tags]; exact hO.nd) (ord_rem hO.ord t)) (fun i hi => ?_)) fun X e m n w hq => hq
        simp only [frz_iff]
        exact ⟨⟨⟨f1 i (by omega), f2 i (by omega)⟩, cg.w i hi⟩, fz4 i hi⟩
      · rw [List.getElem?_map]
        cases K[a]? with
        | none => rfl
        | some x => rfl
    · have he2 := g1'.len
      have hs2 := g2.len
      rcases o1 with ⟨o1, o2⟩ | o1
      all_goals
        by_cases he : (eligL v).length = 0
        · simp (implicitDefEqProofs := false) (disch := omega) only [WPs, opds, List.all_cons, List.all_nil, List.cons_append, List.nil_append, cond_true, cond_false, eq_self, List.map_cons, List.map_nil, Nat.reduceAdd, Nat.testBit, Nat.reduceShiftRight, Nat.reduceAnd, Nat.reduceBNe, Nat.reduceMul, rem2_u8, o1, hs2, he2, decide_eq_true (show ((eligL v).length : Int) = 0 by omega)]
          refine wr_end (nxt M2 N2 (Nat.lor w1 w2) tag v K _ _ hO2 (fun i hi => ?_)) fun X e m n w hq => hq
          simp only [frz_iff]
          exact ⟨f1 i (by omega), f2 i (by omega)⟩
        · obtain ⟨i, hi⟩ : ∃ i, i = k / 2 % (eligL v).length := ⟨_, rfl⟩
          have hil : i < (eligL v).length := by rw [hi]; exact Nat.mod_lt _ (by omega)
          obtain ⟨b', o', c', opn', wr', j1, j2, j3, j4⟩ := g1'.cell hil
          have hmem := List.getElem_mem hil
          generalize (eligL v)[i] = t at j4 hmem
          simp (implicitDefEqProofs := false) (disch := omega) only [WPs, opds, List.all_cons, List.all_nil, List.cons_append, List.nil_append, cond_true, cond_false, eq_self, List.map_cons, List.map_nil, Nat.reduceAdd, Nat.testBit, Nat.reduceShiftRight, Nat.reduceAnd, Nat.reduceBNe, Nat.reduceMul, rem2_u8, o1, hs2, he2, decide_eq_false (show ¬ ((eligL v).length : Int) = 0 by omega), c1, c2, ← hi, j1, j3, j4]
          refine use_rt (start_v H T hO2.q t) fun x M3 N3 r3 w3 hm => ?_
          obtain ⟨rfl, tag3, cg, q3⟩ := hm.ok (elig_start hmem)
          obtain ⟨k3, f3, fin3⟩ := hO2.chg cg q3
          have hkl := k3.recs.len
          simp (implicitDefEqProofs := false) (disch := omega) only [WPs, opds, List.all_cons, List.all_nil, List.cons_append, List.nil_append, cond_true, cond_false, eq_self, List.map_cons, List.map_nil, Nat.reduceAdd, Nat.testBit, Nat.reduceShiftRight, Nat.reduceAnd, Nat.reduceBNe, Nat.reduceMul, hkl]
          refine wr_kont (ord_L3 H k3.recs h30 f3.2.1 fin3 hlK (fun i hi ht k hk hf => ?_) _ _ _ _ _ _ _ _ _ _ _ _ _ _ _ _ _ _ _ _ _ _ _ _ _ _ (fun M4 N4 w4 n4 m4 fz4 x0 x1 x2 rr => ?_) l.length 0 (by omega) M3 N3 0 _ _ (Nat.le_refl _) (fun _ _ => rfl) (fun _ _ => Nat.zero_mod _))
          · rw [hO.at (by omega) hi, hO.at (by omega) (by omega)]
            rw [hO.at (by omega) hi] at ht
            exact ord_elig hO.ord hO.nd hmem (by omega) ht k hk hf
          · simp (implicitDefEqProofs := false) (disch := omega) only [WPs, opds, List.all_cons, List.all_nil, List.cons_append, List.nil_append, cond_true, cond_false, eq_self, List.map_cons, List.map_nil, Nat.reduceAdd, Nat.testBit, Nat.reduceShiftRight, Nat.reduceAnd, Nat.reduceBNe, Nat.reduceMul]
            refine wr_end (nxt M4 N4 (Nat.lor (Nat.lor (Nat.lor w1 w2) w3) w4) tag3 (startV v t) K _ _ (OrdS.stay ⟨k3, q3, f3, fin3, hO.eq, hO.nd, ord_start hO.ord t⟩ n4 m4) (fun i hi => ?_)) fun X e m n w hq => hq
            have c0 := cg.n
            simp only [frz_iff]
            exact ⟨⟨⟨f1 i (by omega), f2 i (by omega)⟩, cg.w i hi⟩, fz4 i (by omega)⟩
theorem orderLaw (H : Hy E Y) (T : Tq E) (R : Tr E) (hE : E 3 = some ac3) (m : FM) (n : Nat) (lv pv : Value) (cs : List (Cmd × Value)) (ps : List Int) (hl : RecsV recC m n lv cs) (hs : cs.length ≤ 9223372036854775807) (hP : Sl m n pv (ps.map (Value.int .u8))) (hps : ps.length ≤ 9223372036854775807) (hpu : ∀ x ∈ ps, 0 ≤ x ∧ x < 256) : Pure (callW PG E Y 3 [lv, pv] m n) m n (.bool true) := by
  refine pure_spec hE rfl rfl ?_
  simp only [ac3]
  have hpl := hP.len
  rw [List.length_map] at hpl
  simp (implicitDefEqProofs := false) (disch := omega) only [WPs, opds, List.all_cons, List.all_nil, List.cons_append, List.nil_append, cond_true, cond_false, eq_self, List.map_cons, List.map_nil, Nat.reduceAdd, Nat.testBit, Nat.reduceShiftRight, Nat.reduceAnd, Nat.reduceBNe, Nat.reduceMul]
  refine use_pure (awake_spec H T R m n) fun _ => ?_
  by_cases h30 : 30 < cs.length
  · simp (implicitDefEqProofs := false) (disch := omega) only [WPs, opds, List.all_cons, List.all_nil, List.cons_append, List.nil_append, cond_true, cond_false, eq_self, List.map_cons, List.map_nil, Nat.reduceAdd, Nat.testBit, Nat.reduceShiftRight, Nat.reduceAnd, Nat.reduceBNe, Nat.reduceMul, hl.len, hpl, decide_eq_true (show (30 : Int) < (cs.length : Int) by omega)]
  by_cases h100 : 100 < ps.length
  · simp (implicitDefEqProofs := false) (disch := omega) only [WPs, opds, List.all_cons, List.all_nil, List.cons_append, List.nil_append, cond_true, cond_false, eq_self, List.map_cons, List.map_nil, Nat.reduceAdd, Nat.testBit, Nat.reduceShiftRight, Nat.reduceAnd, Nat.reduceBNe, Nat.reduceMul, hl.len, hpl, decide_eq_false (show ¬ (30 : Int) < (cs.length : Int) by omega), decide_eq_true (show (100 : Int) < (ps.length : Int) by omega)]
  simp (implicitDefEqProofs := false) (disch := omega) only [WPs, opds, List.all_cons, List.all_nil, List.cons_append, List.nil_append, cond_true, cond_false, eq_self, List.map_cons, List.map_nil, Nat.reduceAdd, Nat.testBit, Nat.reduceShiftRight, Nat.reduceAnd, Nat.reduceBNe, Nat.reduceMul, hl.len, hpl, decide_eq_false (show ¬ (30 : Int) < (cs.length : Int) by omega), decide_eq_false (show ¬ (100 : Int) < (ps.length : Int) by omega)]
  refine use_rt (new_spec T m n) fun x M1 N1 r1 w1 ⟨a1, a2, a3, ex, eN, a4⟩ => ?_
  subst ex eN
  have hN := a4 (fun b => if b = n then 2 else if b = n + 1 then 3 else if b = n + 2 then 1 else 0) (if_pos rfl) (by rw [if_neg (by omega), if_pos rfl]) (by rw [if_neg (by omega), if_neg (by omega), if_pos rfl])
  have hq : QIv M1 n (n + 3) _ (n + 2) [] := ⟨[], [], _, _, _, hN, rfl⟩
  have fz1 := a3 n (Nat.le_refl _)
  simp (implicitDefEqProofs := false) (disch := omega) only [WPs, opds, List.all_cons, List.all_nil, List.cons_append, List.nil_append, cond_true, cond_false, eq_self, List.map_cons, List.map_nil, Nat.reduceAdd, Nat.testBit, Nat.reduceShiftRight, Nat.reduceAnd, Nat.reduceBNe, Nat.reduceMul, hl.len]
  refine wr_kont (ord_L0 H T hl (by omega) (n + 2) _ _ _ _ (fun e M N w hw rr => ?_) (fun M N w tag v kv l hw hK hI hv hlv x0 x3 x5 rr => ?_) cs.length 0 (by omega) M1 (n + 3) 0 _ [] (.slice none 0 0) [] _ _ _ (fun _ _ => Nat.zero_mod _) ⟨by omega, a2, .inl ⟨rfl, rfl⟩, (fun x hx => by cases hx), Nat.zero_le _⟩ hq (fun y hy => by cases hy) rfl (Nat.le_refl _))
  · have fz := hw n (Nat.le_refl _)
    simp (implicitDefEqProofs := false) (disch := omega) only [WPs, opds, List.all_cons, List.all_nil, List.cons_append, List.nil_append, cond_true, cond_false, eq_self, List.map_cons, List.map_nil, Nat.reduceAdd, Nat.testBit, Nat.reduceShiftRight, Nat.reduceAnd, Nat.reduceBNe, Nat.reduceMul, fz, fz1]
  · have fz := hw n (Nat.le_refl _)
    have hkl := hK.recs.len
    have hk30 := hK.len
    have hlv2 : l.length = v.length := by
      have := congrArg List.length hlv
      rwa [List.length_map, List.length_map] at this
    simp (implicitDefEqProofs := false) (disch := omega) only [WPs, opds, List.all_cons, List.all_nil, List.cons_append, List.nil_append, cond_true, cond_false, eq_self, List.map_cons, List.map_nil, Nat.reduceAdd, Nat.testBit, Nat.reduceShiftRight, Nat.reduceAnd, Nat.reduceBNe, Nat.reduceMul, hkl, hpl]
    have hn0 := hI.n0
    have hnd := hI.nd
    have hrep : List.replicate l.length (Value.bool false) = v.map fun x => Value.bool x.2 := by
      rw [hlv2]
      exact (List.eq_replicate_iff.2 ⟨List.length_map .., fun b hb => by
        obtain ⟨y, hy, rfl⟩ := List.mem_map.1 hb
        rw [hv y hy]⟩).symm
    have hO : OrdS m n (AMem.put M N (some (.cells (List.replicate l.length (.bool false)) 1 false true))) (N + 1) (fun b => if b < N then tag b else 22) (n + 2) N kv l v v :=
      ⟨hK.frame (by omega) (fun b hb => if_pos hb) (fun b hb _ => fput_ne _ _ _ _ (by omega)), hI.frame (by omega) (fun b _ hb => if_pos hb) (fun b _ hb _ _ => fput_ne _ _ _ _ (by omega)), ⟨by omega, by omega, if_neg (by omega)⟩, by rw [fput_same, hrep], hlv.symm, hnd, by
        rw [OrdV, List.filter_eq_self.2 fun y hy => by rw [hv y hy]; rfl]⟩
    refine wr_kont (ord_L4 H T hP hpu (by omega) (n + 2) N l.length _ _ _ _ _ _ _ (fun M5 N5 w5 e5 fz5 rr => ?_) ps.length 0 (by omega) _ (N + 1) 0 _ v v _ _ (fun _ _ => Nat.zero_mod _) hO)
    have fz6 := fz5 n (Nat.le_refl _)
    have fz7 : Nat.mod (bit N) (bit n) = 0 := frz_bit (by omega)
    simp (implicitDefEqProofs := false) (disch := omega) only [WPs, opds, List.all_cons, List.all_nil, List.cons_append, List.nil_append, cond_true, cond_false, eq_self, List.map_cons, List.map_nil, Nat.reduceAdd, Nat.testBit, Nat.reduceShiftRight, Nat.reduceAnd, Nat.reduceBNe, Nat.reduceMul, fz, fz1, fz6, fz7]
end Go.Am.C41
