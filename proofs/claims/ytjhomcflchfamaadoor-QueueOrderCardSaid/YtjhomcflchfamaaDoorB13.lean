/- The machine and its runs, part 13: Am41u Am41v Am41x Am41y Am41ka. -/
import Derived.Test.YtjhomcflchfamaaDoorB12
set_option linter.unusedVariables false
set_option linter.unusedSimpArgs false
set_option linter.unusedSectionVars false
namespace Go.Am.C41
open Go Go.Am
variable {E : Nat → Option AFn} {Y : Nat → List Value → FM → Nat → OR FM}
theorem oev_n (e : List Value) : oev e none = none := rfl
theorem oev_s (e : List Value) (x : Opd) : oev e (some x) = some (ev e x) := rfl
theorem clo_cap2 (rec : Nat → List Value → FM → Nat → OR FM) (args : List Value) (m : FM) (n f : Nat) (x y : Value) : callV rec args m n (.func (.func f) #[] #[x, y]) = rec f (args ++ [x, y]) m n := by
  show rec f ([] ++ args ++ [x, y]) m n = _
  rw [List.nil_append]
theorem tags_at {its : List (Cmd × Value)} {i : Nat} (h : i < (tagsL its).length) : ∃ h' : i < its.length, (tagsL its)[i] = its[i].1.tag := by
  have h' : i < its.length := by rw [tagsL, List.length_map] at h; exact h
  exact ⟨h', by simp only [tagsL, List.getElem_map]⟩
theorem before_clo (H : Hy E Y) (hE : E 35 = some ac35) {M : FM} {n0 N : Nat} {tag : Tags} {q : Nat} {its : List (Cmd × Value)} {S : List Int} {tv : Value} {cb sb : Nat} (h : QI M n0 N tag q its S tv cb sb) {i k : Nat} (hi : i < its.length) (hk : k < its.length) {bq bt : Nat} (hbq : bq < N) (hbt : bt < N)
    (hq : M bq = some (.cells [.pointer (some ⟨q, 0, none⟩)] 0 false true)) (ht : M bt = some (.cells [.int .i64 its[i].1.tag] 0 false true)) :
    Pure (callW PG E Y 35 [.int .i64 its[k].1.tag, .pointer (some ⟨bq, 0, none⟩), .pointer (some ⟨bt, 0, none⟩)] M N) M N (.bool (befB its[k].1 its[i].1)) := by
  refine pure_spec hE rfl rfl ?_
  have q1 := h.q1
  have q3 := h.q3
  have c1 := h.c1
  have s1 := h.s1
  have z : Value := .agg #[.int .i64 0, .int .i64 0, .int .i64 0, .bool false, .string ⟨#[]⟩, .string ⟨#[]⟩, .int .i64 0, .int .i64 0, .slice none 0 0]
  have lk := map_look (n := N) u3 h.c1 h.c3 (.agg #[.int .i64 0, .int .i64 0, .int .i64 0, .bool false, .string ⟨#[]⟩, .string ⟨#[]⟩, .int .i64 0, .int .i64 0, .slice none 0 0]) false its[k].1.tag
  have li := map_look (n := N) u3 h.c1 h.c3 (.agg #[.int .i64 0, .int .i64 0, .int .i64 0, .bool false, .string ⟨#[]⟩, .string ⟨#[]⟩, .int .i64 0, .int .i64 0, .slice none 0 0]) false its[i].1.tag
  rw [lookC, find_at h.nd hk, Option.map_some, lookV_some1] at lk
  rw [lookC, find_at h.nd hi, Option.map_some, lookV_some1] at li
  have dk := h.dat _ (List.getElem_mem hk)
  have di := h.dat _ (List.getElem_mem hi)
  have vk := (dk.2.1.s fun b hb => hb.2.1 : DatS M N its[k].2 its[k].1.data).v
  have vi := (di.2.1.s fun b hb => hb.2.1 : DatS M N its[i].2 its[i].1.data).v
  have fk : belowF N its[k].2 = true := by obtain ⟨a, c, e, hb, _⟩ := vk; rw [e] at hb ⊢; exact hb
  have fi : belowF N its[i].2 = true := by obtain ⟨a, c, e, hb, _⟩ := vi; rw [e] at hb ⊢; exact hb
  simp only [ac35]
  simp only [cmdV] at lk li
  simp (implicitDefEqProofs := false) (disch := omega) only [WPs, opds, List.all_cons, List.all_nil, List.cons_append, List.nil_append, cond_true, cond_false, eq_self, List.map_cons, List.map_nil, Nat.reduceAdd, Nat.testBit, Nat.reduceShiftRight, Nat.reduceAnd, Nat.reduceBNe, Nat.reduceMul, hq, ht, q3, s_mp, lk, li, belowV_map, fk, fi]
  refine use_pureX (H.b36 M N its[k].1 its[i].1 _ _ dk.1 di.1 vk vi) fun r1 => ?_
  simp (implicitDefEqProofs := false) (disch := omega) only [WPs, opds, List.all_cons, List.all_nil, List.cons_append, List.nil_append, cond_true, cond_false, eq_self, List.map_cons, List.map_nil, Nat.reduceAdd, Nat.testBit, Nat.reduceShiftRight, Nat.reduceAnd, Nat.reduceBNe, Nat.reduceMul]
theorem elig_clo (H : Hy E Y) (h33 : E 33 = some ac33) (h34 : E 34 = some ac34) (h56 : E 56 = some ac56) (h35 : E 35 = some ac35) {M : FM} {n0 N : Nat} {tag : Tags} {q : Nat} {its : List (Cmd × Value)} {S : List Int} {tv : Value} {cb sb : Nat} (h : QI M n0 N tag q its S tv cb sb) {i : Nat} (hi : i < its.length) {bq : Nat} (hbq : bq < N)
    (hq : M bq = some (.cells [.pointer (some ⟨q, 0, none⟩)] 0 false true)) :
    Pure (callW PG E Y 33 [.int .i64 (i : Int), .int .i64 its[i].1.tag, .pointer (some ⟨bq, 0, none⟩)] M N) M N (.bool (eligB its S i)) := by
  refine pure_spec h33 rfl rfl ?_
  have h' := h.stay (M' := AMem.put M N (some (.cells [.int .i64 its[i].1.tag] 0 false true))) (N' := N + 1) (by omega) (fun b hb => fput_ne _ _ _ _ (by omega))
  have q1 := h.q1
  have q3 := h.q3
  have s1 := h.s1
  have hlen := h.len
  have hil : i < (tagsL its).length := by rw [tagsL, List.length_map]; exact hi
  have hg : (tagsL its).getD i 0 = its[i].1.tag := by simp [tagsL, hi]
  have ls := map_look (n := N + 1) u3 h'.s1 h'.s3 (.bool false) false its[i].1.tag
  rw [lookS] at ls
  simp only [ac33]
  by_cases hS : its[i].1.tag ∈ S
  · rw [if_pos hS, lookV_some1] at ls
    have he : eligB its S i = false := by rw [eligB, hg, decide_eq_true hS]; rfl
    simp (implicitDefEqProofs := false) (disch := omega) only [WPs, opds, List.all_cons, List.all_nil, List.cons_append, List.nil_append, cond_true, cond_false, eq_self, List.map_cons, List.map_nil, Nat.reduceAdd, Nat.testBit, Nat.reduceShiftRight, Nat.reduceAnd, Nat.reduceBNe, Nat.reduceMul, hq, q3, s_mp, ls, belowV_map, he]
  · rw [if_neg hS, lookV_none1] at ls
    rcases h.tg with ⟨he, _⟩ | ⟨hne, b, htv, b0, b1, b2, b3⟩
    · rw [he] at hil; exact absurd hil (by simp)
    subst htv
    have hcl : (tagsL its).length ≤ 64 := by rw [tagsL, List.length_map]; exact hlen
    have hpre : Ints (AMem.put M N (some (.cells [.int .i64 its[i].1.tag] 0 false true)) : FM) (N + 1) (.slice (some ⟨b, 0, none⟩) i UNK) ((tagsL its).take i) := by
      refine .inr (.inl ⟨b, 0, UNK, _, true, true, ?_, by omega, (fput_ne _ _ _ _ (by omega)).trans b3, fun k x hx => ?_⟩)
      · rw [List.length_map, List.length_take, Nat.min_eq_left (by omega)]
      · rw [Nat.zero_add]
        rw [List.map_take, List.getElem?_take] at hx
        split at hx
        · exact hx
        · cases hx
    have key := containsF_spec h34 h56 hpre (by rw [List.length_take]; omega) (fun k => befB (cAt its k) (cAt its i)) (F := .func (.func 35) #[] #[.pointer (some ⟨bq, 0, none⟩), .pointer (some ⟨N, 0, none⟩)]) (fun k hk => by
      rw [clo_cap2]
      have hk' : k < its.length := by rw [List.length_take] at hk; omega
      have e1 : ((tagsL its).take i)[k] = its[k].1.tag := by rw [List.getElem_take]; simp only [tagsL, List.getElem_map]
      show Pure _ _ _ (.bool (befB (cAt its k) (cAt its i)))
      rw [e1, cAt_eq hk', cAt_eq hi]
      exact before_clo H h35 h' hi hk' (by omega) (by omega) ((fput_ne _ _ _ _ (by omega)).trans hq) (fput_same _ _ _))
    rw [List.length_take, Nat.min_eq_left (by omega)] at key
    have he : eligB its S i = !(List.range i).any (fun k => befB (cAt its k) (cAt its i)) := by rw [eligB, hg, decide_eq_false hS]; rfl
    rw [he]
    have hsl := slc_hi (M := AMem.put M N (some (.cells [.int .i64 its[i].1.tag] 0 false true))) (N := N + 1) (sz := 1) (b := b) (i := i) (len := (tagsL its).length) (by omega) (by omega) (by omega) ((fput_ne _ _ _ _ (by omega)).trans b3)
    simp (implicitDefEqProofs := false) (disch := omega) only [WPs, opds, List.all_cons, List.all_nil, List.cons_append, List.nil_append, cond_true, cond_false, eq_self, List.map_cons, List.map_nil, Nat.reduceAdd, Nat.testBit, Nat.reduceShiftRight, Nat.reduceAnd, Nat.reduceBNe, Nat.reduceMul, hq, q3, s_mp, ls, belowV_map, s_func, s_slc, oev_n, oev_s, hsl]
    refine use_pure key fun r1 => ?_
    simp (implicitDefEqProofs := false) (disch := omega) only [WPs, opds, List.all_cons, List.all_nil, List.cons_append, List.nil_append, cond_true, cond_false, eq_self, List.map_cons, List.map_nil, Nat.reduceAdd, Nat.testBit, Nat.reduceShiftRight, Nat.reduceAnd, Nat.reduceBNe, Nat.reduceMul]
theorem qelig_specZ (H : Hy E Y) (hE : E 13 = some ac13) (h32 : E 32 = some ac32) (h33 : E 33 = some ac33) (h34 : E 34 = some ac34) (h56 : E 56 = some ac56) (h35 : E 35 = some ac35) {M : FM} {n0 N : Nat} {tag : Tags} {q : Nat} {its : List (Cmd × Value)} {S : List Int} {tv : Value} {cb sb : Nat} (h : QI M n0 N tag q its S tv cb sb) :
    Rt (callW PG E Y 13 [.pointer (some ⟨q, 0, none⟩)] M N) fun v m' n' w => N ≤ n' ∧ (∀ b, b < N → m' b = M b) ∧ (∀ j, j ≤ N → Nat.mod w (bit j) = 0) ∧ IntZ m' N n' v (pick (eligB its S) (tagsL its) (tagsL its).length) := by
  refine kept_specA hE rfl fun Q hQ => ?_
  simp only [ac13]
  simp (implicitDefEqProofs := false) (disch := omega) only [WPs, opds, List.all_cons, List.all_nil, List.cons_append, List.nil_append, cond_true, cond_false, eq_self, List.map_cons, List.map_nil, Nat.reduceAdd, Nat.testBit, Nat.reduceShiftRight, Nat.reduceAnd, Nat.reduceBNe, Nat.reduceMul, s_func]
  have h' := h.stay (M' := AMem.put M N (some (.cells [.pointer (some ⟨q, 0, none⟩)] 0 false true))) (N' := N + 1) (by omega) (fun b hb => fput_ne _ _ _ _ (by omega))
  refine use_rt (filter_spec h32 h' _ (eligB its S) (fun M' N' hN hM i hi => ?_)) fun v m' n' r w ⟨a1, a2, a3, a4⟩ => ?_
  · show Pure (callV _ _ M' N' (.func (.func 33) #[] #[.pointer (some ⟨N, 0, none⟩)])) _ _ _
    rw [clo_cap]
    obtain ⟨hi', e1⟩ := tags_at hi
    rw [e1]
    exact elig_clo H h33 h34 h56 h35 (h'.stay hN hM) hi' (by omega) ((hM N (by omega)).trans (fput_same _ _ _))
  · simp (implicitDefEqProofs := false) (disch := omega) only [WPs, opds, List.all_cons, List.all_nil, List.cons_append, List.nil_append, cond_true, cond_false, eq_self, List.map_cons, List.map_nil, Nat.reduceAdd, Nat.testBit, Nat.reduceShiftRight, Nat.reduceAnd, Nat.reduceBNe, Nat.reduceMul]
    exact hQ _ _ _ _ _ (by omega) (fun b hb => by rw [a2 b (by omega)]; exact fput_ne _ _ _ _ (by omega)) (by rw [frz_iff]; exact ⟨frz_bit (by omega), a3 N (by omega)⟩) (fun _ => a4.low (by omega)) (fun hv => intZ_any a4 hv)
theorem qelig_spec (H : Hy E Y) (hE : E 13 = some ac13) (h32 : E 32 = some ac32) (h33 : E 33 = some ac33) (h34 : E 34 = some ac34) (h56 : E 56 = some ac56) (h35 : E 35 = some ac35) {M : FM} {n0 N : Nat} {tag : Tags} {q : Nat} {its : List (Cmd × Value)} {S : List Int} {tv : Value} {cb sb : Nat} (h : QI M n0 N tag q its S tv cb sb) :
    Rt (callW PG E Y 13 [.pointer (some ⟨q, 0, none⟩)] M N) fun v m' n' w => N ≤ n' ∧ (∀ b, b < N → m' b = M b) ∧ (∀ j, j ≤ N → Nat.mod w (bit j) = 0) ∧ Ints m' n' v (pick (eligB its S) (tagsL its) (tagsL its).length) :=
  (qelig_specZ H hE h32 h33 h34 h56 h35 h).mono fun v m' n' w ⟨h1, h2, h3, h4⟩ => ⟨h1, h2, h3, h4.ints⟩
end Go.Am.C41
namespace Go.Am.C41
open Go Go.Am
variable {E : Nat → Option AFn} {Y : Nat → List Value → FM → Nat → OR FM}
theorem setI_new {t : Int} {v : Value} : ∀ {mi : MI}, (∀ p ∈ mi, p.1 ≠ t) → setI t v mi = mi ++ [(t, v)]
  | [], _ => rfl
  | p :: mi, h => by
    have h1 : ¬ t = p.1 := fun e => h p (List.mem_cons_self ..) e.symm
    rw [setI, if_neg h1, setI_new fun q hq => h q (List.mem_cons_of_mem _ hq)]; rfl
structure Chg (M : FM) (n0 N : Nat) (tag : Tags) (lo hi : Nat) (M' : FM) (N' w : Nat) (tag' : Tags) : Prop where
  n : N ≤ N'
  w : ∀ j, j ≤ n0 → Nat.mod w (bit j) = 0
  tg : ∀ b, b < N → tag' b = tag b
  fr : ∀ b, b < N → (b < n0 ∨ tag b < lo ∨ hi < tag b) → M' b = M b
noncomputable def submitE (its : List (Cmd × Value)) (c : Cmd) : Int := if validB c = true then (if c.tag ∈ tagsL its then 10 else if 64 ≤ its.length then 7 else 0) else 1
structure Tq (E : Nat → Option AFn) : Prop where
  e11 : E 11 = some ac11
  e12 : E 12 = some ac12
  e13 : E 13 = some ac13
  e14 : E 14 = some ac14
  e15 : E 15 = some ac15
  e16 : E 16 = some ac16
  e18 : E 18 = some ac18
  e21 : E 21 = some ac21
  e24 : E 24 = some ac24
  e31 : E 31 = some ac31
  e32 : E 32 = some ac32
  e33 : E 33 = some ac33
  e34 : E 34 = some ac34
  e35 : E 35 = some ac35
  e37 : E 37 = some ac37
  e38 : E 38 = some ac38
  e39 : E 39 = some ac39
  e40 : E 40 = some ac40
  e43 : E 43 = some ac43
  e55 : E 55 = some ac55
  e56 : E 56 = some ac56
  e59 : E 59 = some ac59
  e60 : E 60 = some ac60
theorem chg_spec {P : Program} {m : FM} {n : Nat} {f : Nat} {fn : AFn} {args : List Value} {R : Value → FM → Nat → Nat → Prop} (hE : E f = some fn) (ha : llen args = fn.na) (h : ∀ Q : AX → List Value → FM → Nat → Nat → Prop, (∀ v e m' n' w, (addrFree v = true → Nat.mod w (bit n) = 0 → R v m n 0) → (¬ (addrFree v = true ∧ Nat.mod w (bit n) = 0) → R v m' n' w) → Q (.ret v) e m' n' w) → Wr P E Y [] 0 (execW P E Y fn.code args m n) Q) : Rt (callW P E Y f args m n) R := by
  rw [callW_fn hE ha]
  obtain ⟨X, e', m', n', r, w, hx, v, rfl, h1, h2⟩ := Gv_some (wr_start (h (fun X _ m' n' w => ∃ v, X = .ret v ∧ (addrFree v = true → Nat.mod w (bit n) = 0 → R v m n 0) ∧ (¬ (addrFree v = true ∧ Nat.mod w (bit n) = 0) → R v m' n' w)) fun v _ m' n' w k1 k2 => ⟨v, rfl, k1, k2⟩))
  rw [hx, leave_ret]
  by_cases hv : addrFree v = true ∧ Nat.mod w (bit n) = 0
  · rw [leaveA_free hv.1 hv.2]
    exact h1 hv.1 hv.2
  · have : leaveA m n v m' n' r w = .ok v m' n' r w := by
      unfold leaveA
      have hc : (addrFree v && Nat.beq (Nat.mod w (bit n)) 0) = false := by
        cases h3 : addrFree v
        · rfl
        · cases h4 : Nat.beq (Nat.mod w (bit n)) 0
          · rfl
          · exact absurd ⟨h3, Nat.eq_of_beq_eq_true h4⟩ hv
      rw [hc]; rfl
    rw [this]
    exact h2 hv
def Wrt (N : Nat) (tag : Tags) (lo hi w : Nat) : Prop := ∃ k, k < N ∧ lo ≤ tag k ∧ tag k ≤ hi ∧ Nat.testBit w k = true
theorem Wrt.nz {N : Nat} {tag : Tags} {lo hi w : Nat} (h : Wrt N tag lo hi w) : Nat.mod w (bit N) ≠ 0 := fun hw => by
  obtain ⟨k, hk, _, _, hb⟩ := h
  rw [mod_bit hw k hk] at hb; cases hb
theorem Chg.none (M : FM) (n0 N : Nat) (tag : Tags) (lo hi : Nat) : Chg M n0 N tag lo hi M N 0 tag := ⟨Nat.le_refl _, fun _ _ => Nat.zero_mod _, fun _ _ => rfl, fun _ _ _ => rfl⟩
theorem land_frz {w k b : Nat} (h : Nat.mod w (bit k) = 0) (hb : b < k) : Nat.land w (bit b) = 0 := by
  apply Nat.eq_of_testBit_eq
  intro i
  show (w &&& bit b).testBit i = _
  rw [Nat.testBit_and, bit_test, Nat.zero_testBit]
  by_cases hi : b = i
  · subst hi; rw [mod_bit h b hb]; rfl
  · simp [hi]
def DatQ (M : FM) (n0 N : Nat) (tag : Tags) (v : Value) (ds : List (List Int)) : Prop := ∀ M' : FM, (∀ b, b < N → (b < n0 ∨ tag b < 1 ∨ 5 < tag b) → M' b = M b) → DatS M' N v ds
theorem DatS.q {M : FM} {n0 N : Nat} {tag : Tags} {v : Value} {ds : List (List Int)} (h : DatS M n0 v ds) (hn : n0 ≤ N) : DatQ M n0 N tag v ds := fun M' hM => h.frame hn fun b hb => hM b (by omega) (.inl hb)
theorem submit_spec (H : Hy E Y) (T : Tq E) {M : FM} {n0 N : Nat} {tag : Tags} {q : Nat} {its : List (Cmd × Value)} {S : List Int} {tv : Value} {cb sb : Nat} (h : QI M n0 N tag q its S tv cb sb) (c : Cmd) (v : Value) (hF : c.Fit) (hv : DatQ M n0 N tag v c.data) (hs : c.data.length ≤ 1000000) :
    Rt (callW PG E Y 12 [.pointer (some ⟨q, 0, none⟩), cmdV c v] M N) fun r M' N' w => r = .int .i64 (submitE its c) ∧ ((submitE its c ≠ 0 ∧ M' = M ∧ N' = N ∧ w = 0) ∨ (submitE its c = 0 ∧ Wrt N tag 1 5 w ∧ (∀ b, b < N → n0 ≤ b → (tag b < 1 ∨ 5 < tag b) → Nat.land w (bit b) = 0) ∧ ∃ tag' tv' d, Chg M n0 N tag 1 5 M' N' w tag' ∧ QI M' n0 N' tag' q (its ++ [(c, d)]) S tv' cb sb)) := by
  have q0 := h.q0
  have q1 := h.q1
  have q3 := h.q3
  have c0 := h.c0
  have c1 := h.c1
  have hlen := h.len
  have hvN := hv M (fun _ _ _ => rfl)
  refine chg_spec T.e12 rfl fun Q hQ => ?_
  simp only [ac12, cmdV]
  have hbox : ∀ {M' : FM}, (∀ b, b < N → M' b = M b) → DatV M' (N + 1) v c.data := fun hM => hvN.v.frame (by omega) hM
  simp (implicitDefEqProofs := false) (disch := omega) only [WPs, opds, List.all_cons, List.all_nil, List.cons_append, List.nil_append, cond_true, cond_false, eq_self, List.map_cons, List.map_nil, Nat.reduceAdd, Nat.testBit, Nat.reduceShiftRight, Nat.reduceAnd, Nat.reduceBNe, Nat.reduceMul, eqlnil_ptr pt25, isNone_some, hvN.v.one]
  refine use_pure (H.v30 _ _ c v hF (hbox fun b hb => by simp (implicitDefEqProofs := false) (disch := omega) only [WPs, opds, List.all_cons, List.all_nil, List.cons_append, List.nil_append, cond_true, cond_false, eq_self, List.map_cons, List.map_nil, Nat.reduceAdd, Nat.testBit, Nat.reduceShiftRight, Nat.reduceAnd, Nat.reduceBNe, Nat.reduceMul])) fun r1 => ?_
  cases hval : validB c
  · have hE1 : submitE its c = 1 := by rw [submitE, hval]; rfl
    simp (implicitDefEqProofs := false) (disch := omega) only [WPs, opds, List.all_cons, List.all_nil, List.cons_append, List.nil_append, cond_true, cond_false, eq_self, List.map_cons, List.map_nil, Nat.reduceAdd, Nat.testBit, Nat.reduceShiftRight, Nat.reduceAnd, Nat.reduceBNe, Nat.reduceMul]
    exact hQ _ _ _ _ _ (fun _ _ => ⟨by rw [hE1], .inl ⟨by rw [hE1]; decide, rfl, rfl, rfl⟩⟩) (fun hn => absurd ⟨rfl, frz_bit (by omega)⟩ hn)
  · have fv : ∀ k, N ≤ k → belowF k v = true := fun k hk => by
      have hb := hvN.v.bel k hk
      obtain ⟨a, cc, e, _⟩ := hvN.v
      rw [e] at hb ⊢; exact hb
    have lk := fun (M' : FM) (N' : Nat) (hb : cb < N') (hm : M' cb = some (.map (mapC (itC its)))) => map_look u3 hb hm (.agg #[.int .i64 0, .int .i64 0, .int .i64 0, .bool false, .string ⟨#[]⟩, .string ⟨#[]⟩, .int .i64 0, .int .i64 0, .slice none 0 0]) true c.tag
    have c3 := h.c3
    cases hf : its.find? (fun it => decide (c.tag = it.1.tag)) with
    | some it =>
      obtain ⟨g1, g2⟩ := find_tag hf
      have hin : c.tag ∈ tagsL its := by rw [← g2]; exact List.mem_map.2 ⟨it, g1, rfl⟩
      have hE1 : submitE its c = 10 := by rw [submitE, hval, if_pos rfl, if_pos hin]
      have hd := (h.dat it g1).2.1.one
      have vi := ((h.dat it g1).2.1.s (fun b hb => hb.2.1) : DatS M N it.2 it.1.data).v
      have fi : ∀ k, N ≤ k → belowF k it.2 = true := fun k hk => by
        have hb := vi.bel k hk
        obtain ⟨a, cc, e, _⟩ := vi
        rw [e] at hb ⊢; exact hb
      have lk1 := lk (AMem.put M N (some (.cells (c.cells v) 0 false true))) (N + 1) (by omega) ((fput_ne _ _ _ _ (by omega)).trans c3)
      rw [lookC, hf, Option.map_some, lookV_some] at lk1
      simp only [Cmd.cells] at lk1
      simp (implicitDefEqProofs := false) (disch := omega) only [WPs, opds, List.all_cons, List.all_nil, List.cons_append, List.nil_append, cond_true, cond_false, eq_self, List.map_cons, List.map_nil, Nat.reduceAdd, Nat.testBit, Nat.reduceShiftRight, Nat.reduceAnd, Nat.reduceBNe, Nat.reduceMul, q3, s_mp, lk1, belowV_map, belowV_tup, below1_agg, below1_bool, cmdV, hd, fi]
      exact hQ _ _ _ _ _ (fun _ _ => ⟨by rw [hE1], .inl ⟨by rw [hE1]; decide, rfl, rfl, rfl⟩⟩) (fun hn => absurd ⟨rfl, by simp only [frz_iff]; exact ⟨frz_bit (by omega), frz_bit (by omega), frz_bit (by omega)⟩⟩ hn)
    | none =>
      have hnin := find_none hf
      have hlt := h.tg.sl.len
      have htl : ((tagsL its).map (Value.int .i64)).length = its.length := by rw [List.length_map, tagsL, List.length_map]
      rw [htl] at hlt
      have lk1 := lk (AMem.put M N (some (.cells (c.cells v) 0 false true))) (N + 1) (by omega) ((fput_ne _ _ _ _ (by omega)).trans c3)
      rw [lookC, hf, Option.map_none, lookV_none] at lk1
      simp only [Cmd.cells] at lk1
      by_cases h64 : 64 ≤ its.length
      · have hE1 : submitE its c = 7 := by rw [submitE, hval, if_pos rfl, if_neg hnin, if_pos h64]
        simp (implicitDefEqProofs := false) (disch := omega) only [WPs, opds, List.all_cons, List.all_nil, List.cons_append, List.nil_append, cond_true, cond_false, eq_self, List.map_cons, List.map_nil, Nat.reduceAdd, Nat.testBit, Nat.reduceShiftRight, Nat.reduceAnd, Nat.reduceBNe, Nat.reduceMul, q3, s_mp, lk1, belowV_map, belowV_tup, below1_agg, below1_bool, hlt]
        exact hQ _ _ _ _ _ (fun _ _ => ⟨by rw [hE1], .inl ⟨by rw [hE1]; decide, rfl, rfl, rfl⟩⟩) (fun hn => absurd ⟨rfl, by simp only [frz_iff]; exact ⟨frz_bit (by omega), frz_bit (by omega), frz_bit (by omega)⟩⟩ hn)
      · have hE1 : submitE its c = 0 := by rw [submitE, hval, if_pos rfl, if_neg hnin, if_neg h64]
        have htb : ∀ k, N ≤ k → belowV k tv = true := fun k hk => h.tg.ints.bel k hk
        simp (implicitDefEqProofs := false) (disch := omega) only [WPs, opds, List.all_cons, List.all_nil, List.cons_append, List.nil_append, cond_true, cond_false, eq_self, List.map_cons, List.map_nil, Nat.reduceAdd, Nat.testBit, Nat.reduceShiftRight, Nat.reduceAnd, Nat.reduceBNe, Nat.reduceMul, q3, s_mp, lk1, belowV_map, belowV_tup, below1_agg, below1_bool, hlt, htb]
        refine use_rtX (app_slT (tag := fun b => if b < N then tag b else 0) (t := 4) (n0 := n0) (vs := (tagsL its).map (Value.int .i64)) (h.tg.sl.frame (by omega) fun b k1 k2 k3 => ⟨by show (if b < N then tag b else 0) = 4; rw [if_pos k2]; exact k3, by simp (implicitDefEqProofs := false) (disch := omega) only [WPs, opds, List.all_cons, List.all_nil, List.cons_append, List.nil_append, cond_true, cond_false, eq_self, List.map_cons, List.map_nil, Nat.reduceAdd, Nat.testBit, Nat.reduceShiftRight, Nat.reduceAnd, Nat.reduceBNe, Nat.reduceMul]⟩) _ _ _ (by omega) rfl (by omega) (by rw [htl]; omega)) fun tv' M1 N1 r2 w2 hA => ?_
        have hz := hA.frz (by omega)
        have hs4 := fun (T' : Tags) (h : T' (N + 3) = 4) => hA.sl (by simp) (by omega) (tag' := T') h
        obtain ⟨rfl, rfl, _, fr1, low1, hw2⟩ := hA
        have hq1 := (fr1 q (by omega) (by show (if q < N then tag q else 0) ≠ 4; rw [if_pos q1, h.q2]; omega)).trans (show _ = some (Blk.cells [tv, .map (some cb), .map (some sb)] 0 false true) from by simp (implicitDefEqProofs := false) (disch := omega) only [WPs, opds, List.all_cons, List.all_nil, List.cons_append, List.nil_append, cond_true, cond_false, eq_self, List.map_cons, List.map_nil, Nat.reduceAdd, Nat.testBit, Nat.reduceShiftRight, Nat.reduceAnd, Nat.reduceBNe, Nat.reduceMul, q3])
        have hb1 := (fr1 N (by omega) (by show (if N < N then tag N else 0) ≠ 4; rw [if_neg (by omega)]; omega)).trans (show _ = some (Blk.cells [.int .i64 c.tag, .int .i64 c.kind, .int .i64 c.ord, .bool c.force, .string c.vol, .string c.oth, .int .i64 c.at_, .int .i64 c.len, v] 0 false true) from by simp (implicitDefEqProofs := false) (disch := omega) only [WPs, opds, List.all_cons, List.all_nil, List.cons_append, List.nil_append, cond_true, cond_false, eq_self, List.map_cons, List.map_nil, Nat.reduceAdd, Nat.testBit, Nat.reduceShiftRight, Nat.reduceAnd, Nat.reduceBNe, Nat.reduceMul])
        simp (implicitDefEqProofs := false) (disch := omega) only [WPs, opds, List.all_cons, List.all_nil, List.cons_append, List.nil_append, cond_true, cond_false, eq_self, List.map_cons, List.map_nil, Nat.reduceAdd, Nat.testBit, Nat.reduceShiftRight, Nat.reduceAnd, Nat.reduceBNe, Nat.reduceMul, hq1, hb1, fv]
        have hM2 : ∀ b, b < N → (b < n0 ∨ tag b < 1 ∨ 5 < tag b) → (AMem.put M1 q (some (.cells [Value.slice (some ⟨N + 3, 0, none⟩) ((tagsL its).map (Value.int .i64) ++ [Value.int .i64 c.tag]).length UNK, .map (some cb), .map (some sb)] 0 false true)) : FM) b = M b := fun b hb hb2 => by
          have e2 := h.q2
          rw [fput_ne _ _ _ _ (by rintro rfl; omega)]
          rcases hb2 with hb2 | hb2
          · rw [low1 b hb2]; simp (implicitDefEqProofs := false) (disch := omega) only [WPs, opds, List.all_cons, List.all_nil, List.cons_append, List.nil_append, cond_true, cond_false, eq_self, List.map_cons, List.map_nil, Nat.reduceAdd, Nat.testBit, Nat.reduceShiftRight, Nat.reduceAnd, Nat.reduceBNe, Nat.reduceMul]
          · rw [fr1 b (by omega) (by show (if b < N then tag b else 0) ≠ 4; rw [if_pos hb]; omega)]; simp (implicitDefEqProofs := false) (disch := omega) only [WPs, opds, List.all_cons, List.all_nil, List.cons_append, List.nil_append, cond_true, cond_false, eq_self, List.map_cons, List.map_nil, Nat.reduceAdd, Nat.testBit, Nat.reduceShiftRight, Nat.reduceAnd, Nat.reduceBNe, Nat.reduceMul]
        refine use_rtX (dup_spec T.e31 T.e55 (AMem.put M1 q (some (.cells [Value.slice (some ⟨N + 3, 0, none⟩) ((tagsL its).map (Value.int .i64) ++ [Value.int .i64 c.tag]).length UNK, .map (some cb), .map (some sb)] 0 false true))) (N + 4) c v ((hv _ hM2).frame (by omega) (fun _ _ => rfl)) hs) fun dv M6 N6 r6 w6 ⟨a1, a2, a3, d, ed, a4⟩ => ?_
        subst ed
        have hl1 : ∀ b, b < N + 4 → Nat.land w6 (bit b) = 0 := fun b hb => land_frz (a3 (N + 4) (Nat.le_refl _)) hb
        have hl2 : ∀ b, b < N + 4 → Nat.land (bit b) w6 = 0 := fun b hb => by rw [show Nat.land (bit b) w6 = Nat.land w6 (bit b) from Nat.and_comm ..]; exact hl1 b hb
        have hcb6 : M6 cb = some (.map (mapC (itC its))) := by
          rw [a2 cb (by omega), fput_ne _ _ _ _ (by rintro rfl; have := h.c2; have := h.q2; omega), fr1 cb (by omega) (by show (if cb < N then tag cb else 0) ≠ 4; rw [if_pos c1, h.c2]; omega)]
          simp (implicitDefEqProofs := false) (disch := omega) only [WPs, opds, List.all_cons, List.all_nil, List.cons_append, List.nil_append, cond_true, cond_false, eq_self, List.map_cons, List.map_nil, Nat.reduceAdd, Nat.testBit, Nat.reduceShiftRight, Nat.reduceAnd, Nat.reduceBNe, Nat.reduceMul, h.c3]
        have hup := map_upd (n := N6) u3 (by omega) hcb6 c.tag (cmdV c d)
        have fd : belowF N6 d = true := by
          have hb := (a4.s (fun b hb => hb.2) : DatS M6 N6 d c.data).v
          obtain ⟨a, cc, e, hb, _⟩ := hb
          rw [e] at hb ⊢; exact hb
        simp only [cmdV] at hup
        simp (implicitDefEqProofs := false) (disch := omega) only [WPs, opds, List.all_cons, List.all_nil, List.cons_append, List.nil_append, cond_true, cond_false, eq_self, List.map_cons, List.map_nil, Nat.reduceAdd, Nat.testBit, Nat.reduceShiftRight, Nat.reduceAnd, Nat.reduceBNe, Nat.reduceMul, hl1, hl2, s_mp, hup, fd, belowV_map, cmdV]
        have hnew : setI c.tag (cmdV c d) (itC its) = itC (its ++ [(c, d)]) := by
          rw [setI_new, itC, itC, List.map_append]; rfl
          intro p hp
          obtain ⟨it, hit, rfl⟩ := List.mem_map.1 hp
          exact fun e => hnin (e ▸ List.mem_map.2 ⟨it, hit, rfl⟩)
        simp only [cmdV] at hnew
        rw [hnew]
        have hqc : q ≠ cb := by rintro rfl; have := h.c2; have := h.q2; omega
        have hst : ∀ b, b < N → b ≠ q → b ≠ cb → (b < n0 ∨ tag b ≠ 4) → (AMem.put M6 cb (some (.map (mapC (itC (its ++ [(c, d)]))))) : FM) b = M b := fun b hb h1 h2 h3 => by
          rw [fput_ne _ _ _ _ h2, a2 b (by omega), fput_ne _ _ _ _ h1]
          rcases h3 with h3 | h3
          · rw [low1 b h3]; simp (implicitDefEqProofs := false) (disch := omega) only [WPs, opds, List.all_cons, List.all_nil, List.cons_append, List.nil_append, cond_true, cond_false, eq_self, List.map_cons, List.map_nil, Nat.reduceAdd, Nat.testBit, Nat.reduceShiftRight, Nat.reduceAnd, Nat.reduceBNe, Nat.reduceMul]
          · rw [fr1 b (by omega) (by show (if b < N then tag b else 0) ≠ 4; rw [if_pos hb]; exact h3)]; simp (implicitDefEqProofs := false) (disch := omega) only [WPs, opds, List.all_cons, List.all_nil, List.cons_append, List.nil_append, cond_true, cond_false, eq_self, List.map_cons, List.map_nil, Nat.reduceAdd, Nat.testBit, Nat.reduceShiftRight, Nat.reduceAnd, Nat.reduceBNe, Nat.reduceMul]
        refine hQ _ _ _ _ _ (fun _ hw => ?_) (fun _ => ⟨by rw [hE1], .inr ⟨hE1, ⟨q, q1, by rw [h.q2]; omega, by rw [h.q2]; omega, by simp only [lor_test, bit_test]; simp⟩, fun b hb hb1 hb2 => ?_, fun b => if b < N then tag b else if b = N + 3 then 4 else 5, .slice (some ⟨N + 3, 0, none⟩) ((tagsL its).map (Value.int .i64) ++ [Value.int .i64 c.tag]).length UNK, d, ⟨by omega, ?_, fun b hb => if_pos hb, fun b hb h3 => ?_⟩, ?_⟩⟩)
        · exfalso
          simp only [frz_iff] at hw
          have := mod_bit hw.1.2.2 q q1
          rw [bit_test] at this; simp at this
        · have e2 := h.q2
          have e3 := h.c2
          have l2 : Nat.land w2 (bit b) = 0 := by
            rcases hw2 with rfl | ⟨k, rfl, k1, k2, k3⟩
            · exact land_bits (by omega)
            · have k1' : tag k = 4 ∨ N ≤ k := by
                by_cases hk : k < N
                · exact .inl ((if_pos hk).symm.trans k1)
                · exact .inr (by omega)
              rw [lor_land, land_bits (by rintro rfl; omega), land_bits (by omega)]; rfl
          have hqb : b ≠ q := by rintro rfl; omega
          have hcb : b ≠ cb := by rintro rfl; omega
          simp only [lor_land, l2, hl1 b (by omega), land_bits (show N ≠ b by omega), land_bits (show N + 1 ≠ b by omega), land_bits (show N + 2 ≠ b by omega), land_bits (Ne.symm hqb), land_bits (Ne.symm hcb)]
          rfl
        · intro j hj
          simp only [frz_iff]
          exact ⟨⟨⟨frz_bit (by omega), frz_bit (by omega), frz_bit (by omega)⟩, ⟨frz_bit (by omega), hz j hj⟩, frz_bit (by omega)⟩, a3 j (by omega), frz_bit (by omega)⟩
        · have e2 := h.q2
          have e3 := h.c2
          exact hst b hb (by rintro rfl; omega) (by rintro rfl; omega) (by omega)
        · have tl : ∀ b, b < N → (fun b => if b < N then tag b else if b = N + 3 then 4 else 5) b = tag b := fun b hb => if_pos hb
          have e2 := h.q2
          have e3 := h.c2
          have e4 := h.s2
          exact {
            q0 := q0
            q1 := by omega
            q2 := (tl q q1).trans e2
            q3 := by rw [fput_ne _ _ _ _ hqc, a2 q (by omega)]; exact fput_same _ _ _
            c0 := c0
            c1 := by omega
            c2 := (tl cb c1).trans e3
            c3 := fput_same _ _ _
            s0 := h.s0
            s1 := by have := h.s1; omega
            s2 := (tl sb h.s1).trans e4
            s3 := (hst sb h.s1 (by rintro rfl; omega) (by rintro rfl; omega) (by omega)).trans h.s3
            tg := by
              have k := hs4 (fun b => if b < N then tag b else if b = N + 3 then 4 else 5) (by show (if N + 3 < N then tag (N + 3) else if N + 3 = N + 3 then 4 else 5) = 4; rw [if_neg (by omega), if_pos rfl])
              have k2 := k.frame (M' := (AMem.put M6 cb (some (.map (mapC (itC (its ++ [(c, d)]))))) : FM)) (N' := N6) (tag' := fun b => if b < N then tag b else if b = N + 3 then 4 else 5) (by omega) (fun b b1 b2 b3 => ⟨b3, by
                have hbc : b ≠ cb := by rintro rfl; have b4 : tag b = 4 := (tl b c1).symm.trans b3; omega
                have hbq : b ≠ q := by rintro rfl; have b4 : tag b = 4 := (tl b q1).symm.trans b3; omega
                rw [fput_ne _ _ _ _ hbc, a2 b b2, fput_ne _ _ _ _ hbq]⟩)
              have e : tagsL (its ++ [(c, d)]) = tagsL its ++ [c.tag] := List.map_append ..
              rw [e]
              exact SlT.ints (by rw [List.map_append]; exact k2)
            dat := fun it hit => by
              rcases List.mem_append.1 hit with hit | hit
              · obtain ⟨d1, d2, d3⟩ := h.dat it hit
                exact ⟨d1, d2.frame fun b ⟨b1, b2, b3⟩ => ⟨⟨b1, by omega, (tl b b2).trans b3⟩, hst b b2 (by rintro rfl; omega) (by rintro rfl; omega) (by omega)⟩, d3⟩
              · obtain rfl := List.mem_singleton.1 hit
                exact ⟨hF, a4.frame fun b ⟨b1, b2⟩ => ⟨⟨by omega, b2, by show (if b < N then tag b else if b = N + 3 then 4 else 5) = 5; rw [if_neg (by omega), if_neg (by omega)]⟩, fput_ne _ _ _ _ (by omega)⟩, hs⟩
            nd := by
              have e : tagsL (its ++ [(c, d)]) = tagsL its ++ [c.tag] := List.map_append ..
              rw [e, List.nodup_append]
              exact ⟨h.nd, by simp, fun a ha b hb => by obtain rfl := List.mem_singleton.1 hb; rintro rfl; exact hnin ha⟩
            sn := h.sn
            ss := fun t ht => by
              have e : tagsL (its ++ [(c, d)]) = tagsL its ++ [c.tag] := List.map_append ..
              rw [e]; exact List.mem_append_left _ (h.ss t ht)
            len := by rw [List.length_append, List.length_singleton]; omega }
end Go.Am.C41
namespace Go.Am.C41
open Go Go.Am
variable {E : Nat → Option AFn} {Y : Nat → List Value → FM → Nat → OR FM}
theorem indexV_L0 {M : FM} {N : Nat} {sv : Value} {l : List Int} (hl : Ints M N sv l) (hs : l.length ≤ 1000) (t : Int) {Q : AX → List Value → FM → Nat → Nat → Prop}
    (hQ1 : ∀ i (hi : i < l.length), l[i] = t → ∀ e', Q (.ret (.int .i64 (i : Int))) e' M N 0) (hQ2 : t ∉ l → ∀ e', Q (.exit 0) e' M N 0) :
    ∀ d j, j + d = l.length → (∀ i (hi : i < l.length), i < j → l[i] ≠ t) → ∀ (x0 x2 x4 : Value), Gv (execW PG E Y ac60L0 [x0, .int .i64 (j : Int), x2, .int .i64 (l.length : Int), x4, sv, .int .i64 t] M N) Q := by
  intro d
  induction d with
  | zero =>
    intro j hj ha x0 x2 x4
    refine wr_loopN (L := ac60L0) (b := ac60L0b) rfl ?_
    simp only [ac60L0b]
    simp (implicitDefEqProofs := false) (disch := omega) only [WPs, opds, List.all_cons, List.all_nil, List.cons_append, List.nil_append, cond_true, cond_false, eq_self, List.map_cons, List.map_nil, Nat.reduceAdd, Nat.testBit, Nat.reduceShiftRight, Nat.reduceAnd, Nat.reduceBNe, Nat.reduceMul]
    refine hQ2 (fun hm => ?_) _
    obtain ⟨i, hi, he⟩ := List.mem_iff_getElem.1 hm
    exact ha i hi (by omega) he
  | succ d ih =>
    intro j hj ha x0 x2 x4
    have hjl : j < l.length := by omega
    obtain ⟨b, o, c, opn, wr, i1, i2, i3, i4⟩ := hl.cell hjl
    refine wr_loopN (L := ac60L0) (b := ac60L0b) rfl ?_
    simp only [ac60L0b]
    by_cases he : t = l[j]
    · simp (implicitDefEqProofs := false) (disch := omega) only [WPs, opds, List.all_cons, List.all_nil, List.cons_append, List.nil_append, cond_true, cond_false, eq_self, List.map_cons, List.map_nil, Nat.reduceAdd, Nat.testBit, Nat.reduceShiftRight, Nat.reduceAnd, Nat.reduceBNe, Nat.reduceMul, i1, i3, i4, decide_eq_true he]
      exact hQ1 j hjl he.symm _
    · simp (implicitDefEqProofs := false) (disch := omega) only [WPs, opds, List.all_cons, List.all_nil, List.cons_append, List.nil_append, cond_true, cond_false, eq_self, List.map_cons, List.map_nil, Nat.reduceAdd, Nat.testBit, Nat.reduceShiftRight, Nat.reduceAnd, Nat.reduceBNe, Nat.reduceMul, i1, i3, i4, decide_eq_false he]
      exact wr_end' ((ih (j + 1) (by omega) (fun i hi hlt => by
        rcases Nat.lt_or_ge i j with h | h
        · exact ha i hi h
        · have : i = j := by omega
          subst this; exact fun e => he e.symm) _ _ _).mono fun X e m n w hq => by simpa only [zero_lor'] using hq)
theorem contains_spec41 (hE : E 40 = some ac40) (h60 : E 60 = some ac60) {M : FM} {N : Nat} {sv : Value} {l : List Int} (hl : Ints M N sv l) (hs : l.length ≤ 1000) (t : Int) :
    Pure (callW PG E Y 40 [sv, .int .i64 t] M N) M N (.bool (decide (t ∈ l))) := by
  have hidx : ∃ z : Int, -1 ≤ z ∧ z < 1000 ∧ (decide (0 ≤ z) = decide (t ∈ l)) ∧ Pure (callW PG E Y 60 [sv, .int .i64 t] M N) M N (.int .i64 z) := by
    by_cases hm : t ∈ l
    · have hex : ∃ i, i < l.length ∧ decide (l[i]? = some t) = true := by
        obtain ⟨i, hi, he⟩ := List.mem_iff_getElem.1 hm
        exact ⟨i, hi, by rw [List.getElem?_eq_getElem hi, he]; exact decide_eq_true rfl⟩
      obtain ⟨i0, h0, h00⟩ := hex
      obtain ⟨i, h1, h2, h3⟩ := least (p := fun i => decide (l[i]? = some t)) h0 h00
      have he : l[i] = t := by
        have := of_decide_eq_true h2
        rw [List.getElem?_eq_getElem h1] at this
        exact Option.some.inj this
      have hne : ∀ k (hk : k < l.length), k < i → l[k] ≠ t := fun k hk hlt e => by
        have := h3 k hlt
        rw [List.getElem?_eq_getElem hk, e] at this
        simp at this
      refine ⟨i, by omega, by omega, by rw [decide_eq_true hm, decide_eq_true (by omega : 0 ≤ (i : Int))], ?_⟩
      have key : ∀ d j, j + d = i → ∀ (x0 x2 x4 : Value) {Q : AX → List Value → FM → Nat → Nat → Prop}, (∀ e', Q (.ret (.int .i64 (i : Int))) e' M N 0) → Gv (execW PG E Y ac60L0 [x0, .int .i64 (j : Int), x2, .int .i64 (l.length : Int), x4, sv, .int .i64 t] M N) Q := by
        intro d
        induction d with
        | zero =>
          intro j hj x0 x2 x4 Q hQ
          obtain rfl : j = i := by omega
          obtain ⟨b, o, c, opn, wr, i1, i2, i3, i4⟩ := hl.cell h1
          rw [he] at i4
          refine wr_loopN (L := ac60L0) (b := ac60L0b) rfl ?_
          simp only [ac60L0b]
          simp (implicitDefEqProofs := false) (disch := omega) only [WPs, opds, List.all_cons, List.all_nil, List.cons_append, List.nil_append, cond_true, cond_false, eq_self, List.map_cons, List.map_nil, Nat.reduceAdd, Nat.testBit, Nat.reduceShiftRight, Nat.reduceAnd, Nat.reduceBNe, Nat.reduceMul, i1, i3, i4]
          exact hQ _
        | succ d ih =>
          intro j hj x0 x2 x4 Q hQ
          have hjl : j < l.length := by omega
          have hne' : ¬ t = l[j] := fun e => hne j hjl (by omega) e.symm
          obtain ⟨b, o, c, opn, wr, i1, i2, i3, i4⟩ := hl.cell hjl
          refine wr_loopN (L := ac60L0) (b := ac60L0b) rfl ?_
          simp only [ac60L0b]
          simp (implicitDefEqProofs := false) (disch := omega) only [WPs, opds, List.all_cons, List.all_nil, List.cons_append, List.nil_append, cond_true, cond_false, eq_self, List.map_cons, List.map_nil, Nat.reduceAdd, Nat.testBit, Nat.reduceShiftRight, Nat.reduceAnd, Nat.reduceBNe, Nat.reduceMul, i1, i3, i4, decide_eq_false hne']
          exact wr_end' ((ih (j + 1) (by omega) _ _ _ hQ).mono fun X e m n w hq => by simpa only [zero_lor'] using hq)
      refine pure_spec h60 rfl rfl ?_
      simp only [ac60]
      simp (implicitDefEqProofs := false) (disch := omega) only [WPs, opds, List.all_cons, List.all_nil, List.cons_append, List.nil_append, cond_true, cond_false, eq_self, List.map_cons, List.map_nil, Nat.reduceAdd, Nat.testBit, Nat.reduceShiftRight, Nat.reduceAnd, Nat.reduceBNe, Nat.reduceMul, hl.len]
      refine wr_cps (key i 0 (by omega) _ _ _ (fun e' r => ?_))
      simp (implicitDefEqProofs := false) (disch := omega) only [WPs, opds, List.all_cons, List.all_nil, List.cons_append, List.nil_append, cond_true, cond_false, eq_self, List.map_cons, List.map_nil, Nat.reduceAdd, Nat.testBit, Nat.reduceShiftRight, Nat.reduceAnd, Nat.reduceBNe, Nat.reduceMul]
    · refine ⟨-1, by omega, by omega, by rw [decide_eq_false hm, decide_eq_false (by omega : ¬ (0 : Int) ≤ -1)], ?_⟩
      refine pure_spec h60 rfl rfl ?_
      simp only [ac60]
      simp (implicitDefEqProofs := false) (disch := omega) only [WPs, opds, List.all_cons, List.all_nil, List.cons_append, List.nil_append, cond_true, cond_false, eq_self, List.map_cons, List.map_nil, Nat.reduceAdd, Nat.testBit, Nat.reduceShiftRight, Nat.reduceAnd, Nat.reduceBNe, Nat.reduceMul, hl.len]
      refine wr_cps (indexV_L0 hl hs t (fun i hi he e' r => ?_) (fun hn e' r => ?_) l.length 0 (by omega) (fun i hi hlt => by omega) _ _ _)
      · exact absurd (he ▸ List.getElem_mem hi) hm
      · simp (implicitDefEqProofs := false) (disch := omega) only [WPs, opds, List.all_cons, List.all_nil, List.cons_append, List.nil_append, cond_true, cond_false, eq_self, List.map_cons, List.map_nil, Nat.reduceAdd, Nat.testBit, Nat.reduceShiftRight, Nat.reduceAnd, Nat.reduceBNe, Nat.reduceMul]
  obtain ⟨z, z1, z2, z3, z4⟩ := hidx
  refine pure_spec hE rfl rfl ?_
  simp only [ac40]
  simp (implicitDefEqProofs := false) (disch := omega) only [WPs, opds, List.all_cons, List.all_nil, List.cons_append, List.nil_append, cond_true, cond_false, eq_self, List.map_cons, List.map_nil, Nat.reduceAdd, Nat.testBit, Nat.reduceShiftRight, Nat.reduceAnd, Nat.reduceBNe, Nat.reduceMul]
  refine use_pure z4 fun r1 => ?_
  rw [← z3]
  simp (implicitDefEqProofs := false) (disch := omega) only [WPs, opds, List.all_cons, List.all_nil, List.cons_append, List.nil_append, cond_true, cond_false, eq_self, List.map_cons, List.map_nil, Nat.reduceAdd, Nat.testBit, Nat.reduceShiftRight, Nat.reduceAnd, Nat.reduceBNe, Nat.reduceMul]
theorem mem_pick {p : Nat → Bool} {l : List Int} {t : Int} : ∀ {j}, j ≤ l.length → (t ∈ pick p l j ↔ ∃ i, ∃ (hi : i < l.length), i < j ∧ p i = true ∧ l[i] = t)
  | 0, _ => by simp [pick]
  | j + 1, hj => by
    have hjl : j < l.length := by omega
    simp only [pick, List.mem_append]
    rw [mem_pick (by omega)]
    constructor
    · rintro (⟨i, hi, h1, h2, h3⟩ | h)
      · exact ⟨i, hi, by omega, h2, h3⟩
      · split at h
        · rw [List.getElem?_eq_getElem hjl] at h
          simp at h
          exact ⟨j, hjl, by omega, ‹_›, h.symm⟩
        · cases h
    · rintro ⟨i, hi, h1, h2, h3⟩
      rcases Nat.lt_or_ge i j with h | h
      · exact .inl ⟨i, hi, h, h2, h3⟩
      · have : i = j := by omega
        subst this
        refine .inr ?_
        rw [if_pos h2, List.getElem?_eq_getElem hi]; simp [h3]
noncomputable def startE (its : List (Cmd × Value)) (S : List Int) (t : Int) : Int := if t ∈ tagsL its then (if t ∈ pick (eligB its S) (tagsL its) (tagsL its).length then 0 else 8) else 9
theorem start_spec (H : Hy E Y) (T : Tq E) {M : FM} {n0 N : Nat} {tag : Tags} {q : Nat} {its : List (Cmd × Value)} {S : List Int} {tv : Value} {cb sb : Nat} (h : QI M n0 N tag q its S tv cb sb) (t : Int) :
    Rt (callW PG E Y 16 [.pointer (some ⟨q, 0, none⟩), .int .i64 t] M N) fun r M' N' w => r = .int .i64 (startE its S t) ∧ ((startE its S t ≠ 0 ∧ M' = M ∧ N' = N ∧ w = 0) ∨ (startE its S t = 0 ∧ Wrt N tag 1 5 w ∧ t ∉ S ∧ Chg M n0 N tag 1 5 M' N' w tag ∧ QI M' n0 N' tag q its (S ++ [t]) tv cb sb)) := by
  have q0 := h.q0
  have q1 := h.q1
  have q3 := h.q3
  have s0 := h.s0
  have s1 := h.s1
  refine chg_spec T.e16 rfl fun Q hQ => ?_
  simp only [ac16]
  simp (implicitDefEqProofs := false) (disch := omega) only [WPs, opds, List.all_cons, List.all_nil, List.cons_append, List.nil_append, cond_true, cond_false, eq_self, List.map_cons, List.map_nil, Nat.reduceAdd, Nat.testBit, Nat.reduceShiftRight, Nat.reduceAnd, Nat.reduceBNe, Nat.reduceMul]
  refine use_pure (known_spec T.e39 h t) fun r1 => ?_
  by_cases ht : t ∈ tagsL its
  · rw [if_pos ht]
    simp (implicitDefEqProofs := false) (disch := omega) only [WPs, opds, List.all_cons, List.all_nil, List.cons_append, List.nil_append, cond_true, cond_false, eq_self, List.map_cons, List.map_nil, Nat.reduceAdd, Nat.testBit, Nat.reduceShiftRight, Nat.reduceAnd, Nat.reduceBNe, Nat.reduceMul]
    refine use_rt (qelig_spec H T.e13 T.e32 T.e33 T.e34 T.e56 T.e35 h) fun v M1 N1 r2 w2 ⟨a1, a2, a3, a4⟩ => ?_
    have hs : (pick (eligB its S) (tagsL its) (tagsL its).length).length ≤ 1000 := by
      have := pick_le (eligB its S) (tagsL its) (tagsL its).length
      have e : (tagsL its).length = its.length := List.length_map ..
      have := h.len; omega
    simp (implicitDefEqProofs := false) (disch := omega) only [WPs, opds, List.all_cons, List.all_nil, List.cons_append, List.nil_append, cond_true, cond_false, eq_self, List.map_cons, List.map_nil, Nat.reduceAdd, Nat.testBit, Nat.reduceShiftRight, Nat.reduceAnd, Nat.reduceBNe, Nat.reduceMul]
    refine use_pure (contains_spec41 T.e40 T.e60 a4 hs t) fun r3 => ?_
    by_cases hm : t ∈ pick (eligB its S) (tagsL its) (tagsL its).length
    · have hE1 : startE its S t = 0 := by rw [startE, if_pos ht, if_pos hm]
      have hnS : t ∉ S := by
        obtain ⟨i, hi, _, he, e2⟩ := (mem_pick (Nat.le_refl _)).1 hm
        intro hS
        rw [eligB, show (tagsL its).getD i 0 = t by simp [hi, e2], decide_eq_true hS] at he
        cases he
      have hsb := (a2 sb s1).trans h.s3
      have hup := map_upd (n := N1) u3 (by omega) hsb t (.bool true)
      have hnew : setI t (.bool true) (stC' S) = stC' (S ++ [t]) := by
        rw [setI_new, stC', stC', List.map_append]; rfl
        intro p hp
        obtain ⟨x, hx, rfl⟩ := List.mem_map.1 hp
        exact fun e => hnS (e ▸ hx)
      rw [hnew] at hup
      have q31 := (a2 q q1).trans q3
      rw [decide_eq_true hm]
      simp (implicitDefEqProofs := false) (disch := omega) only [WPs, opds, List.all_cons, List.all_nil, List.cons_append, List.nil_append, cond_true, cond_false, eq_self, List.map_cons, List.map_nil, Nat.reduceAdd, Nat.testBit, Nat.reduceShiftRight, Nat.reduceAnd, Nat.reduceBNe, Nat.reduceMul, q31, s_mp, hup]
      have hst : ∀ b, b < N → b ≠ sb → (AMem.put M1 sb (some (.map (mapC (stC' (S ++ [t]))))) : FM) b = M b := fun b hb hne => (fput_ne _ _ _ _ hne).trans (a2 b hb)
      have e2 := h.q2
      have e3 := h.c2
      have e4 := h.s2
      refine hQ _ _ _ _ _ (fun _ hw => ?_) (fun _ => ⟨by rw [hE1], .inr ⟨hE1, ⟨sb, s1, by omega, by omega, by simp only [lor_test, bit_test]; simp⟩, hnS, ⟨a1, fun j hj => by rw [frz_iff]; exact ⟨a3 j (by omega), frz_bit (by omega)⟩, fun _ _ => rfl, fun b hb h3 => hst b hb (by rintro rfl; omega)⟩, ?_⟩⟩)
      · exfalso
        simp only [frz_iff] at hw
        have := mod_bit hw.2 sb s1
        rw [bit_test] at this; simp at this
      · exact {
          q0 := q0
          q1 := by omega
          q2 := e2
          q3 := (hst q q1 (by rintro rfl; omega)).trans q3
          c0 := h.c0
          c1 := by have := h.c1; omega
          c2 := e3
          c3 := (hst cb h.c1 (by rintro rfl; omega)).trans h.c3
          s0 := s0
          s1 := by omega
          s2 := e4
          s3 := fput_same _ _ _
          tg := h.tg.frame a1 fun b h1 h2 h3 => ⟨h3, hst b h2 (by rintro rfl; omega)⟩
          dat := fun it hit => ⟨(h.dat it hit).1, (h.dat it hit).2.1.frame fun b ⟨h1, h2, h3⟩ => ⟨⟨h1, by omega, h3⟩, hst b h2 (by rintro rfl; omega)⟩, (h.dat it hit).2.2⟩
          nd := h.nd
          sn := by rw [List.nodup_append]; exact ⟨h.sn, by simp, fun a ha b hb => by obtain rfl := List.mem_singleton.1 hb; rintro rfl; exact hnS ha⟩
          ss := fun x hx => by
            rcases List.mem_append.1 hx with hx | hx
            · exact h.ss x hx
            · obtain rfl := List.mem_singleton.1 hx; exact ht
          len := h.len }
    · have hE1 : startE its S t = 8 := by rw [startE, if_pos ht, if_neg hm]
      rw [decide_eq_false hm]
      simp (implicitDefEqProofs := false) (disch := omega) only [WPs, opds, List.all_cons, List.all_nil, List.cons_append, List.nil_append, cond_true, cond_false, eq_self, List.map_cons, List.map_nil, Nat.reduceAdd, Nat.testBit, Nat.reduceShiftRight, Nat.reduceAnd, Nat.reduceBNe, Nat.reduceMul]
      exact hQ _ _ _ _ _ (fun _ _ => ⟨by rw [hE1], .inl ⟨by rw [hE1]; decide, rfl, rfl, rfl⟩⟩) (fun hn => absurd ⟨rfl, a3 N (Nat.le_refl _)⟩ hn)
  · have hE1 : startE its S t = 9 := by rw [startE, if_neg ht]
    rw [if_neg ht]
    simp (implicitDefEqProofs := false) (disch := omega) only [WPs, opds, List.all_cons, List.all_nil, List.cons_append, List.nil_append, cond_true, cond_false, eq_self, List.map_cons, List.map_nil, Nat.reduceAdd, Nat.testBit, Nat.reduceShiftRight, Nat.reduceAnd, Nat.reduceBNe, Nat.reduceMul]
    exact hQ _ _ _ _ _ (fun _ _ => ⟨by rw [hE1], .inl ⟨by rw [hE1]; decide, rfl, rfl, rfl⟩⟩) (fun hn => absurd ⟨rfl, Nat.zero_mod _⟩ hn)
end Go.Am.C41
namespace Go.Am.C41
open Go Go.Am
variable {E : Nat → Option AFn} {Y : Nat → List Value → FM → Nat → OR FM}
theorem neq_bools (t : Nat) (ht : PG.underlying t = some .bool) (a b : Bool) : binV PG .neq t (.bool a) (.bool b) = some (.bool (!decide (a = b))) := neq_boolsP ht a b
theorem delI_filter {f : Int → Value} : ∀ {its : List (Cmd × Value)} {t : Int}, (tagsL its).Nodup → delI t (itC its) = itC (its.filter fun it => decide (it.1.tag ≠ t))
  | [], t, _ => rfl
  | it :: its, t, h => by
    have hnd : it.1.tag ∉ tagsL its ∧ (tagsL its).Nodup := by
      have h' : (it.1.tag :: tagsL its).Nodup := h
      exact ⟨(List.nodup_cons.1 h').1, (List.nodup_cons.1 h').2⟩
    show (if t = it.1.tag then itC its else (it.1.tag, cmdV it.1 it.2) :: delI t (itC its)) = _
    by_cases he : t = it.1.tag
    · rw [if_pos he, List.filter_cons, if_neg (by simp [he])]
      have : its.filter (fun it => decide (it.1.tag ≠ t)) = its := by
        rw [List.filter_eq_self]
        intro x hx
        refine decide_eq_true fun e => hnd.1 ?_
        rw [← he, ← e]
        exact List.mem_map.2 ⟨x, hx, rfl⟩
      rw [this]
    · rw [if_neg he, delI_filter (f := f) hnd.2, List.filter_cons, if_pos (by simp only [ne_eq, decide_not, Bool.not_eq_true', decide_eq_false_iff_not]; exact fun e => he e.symm)]; rfl
theorem delS_filter : ∀ {S : List Int} {t : Int}, S.Nodup → delI t (stC' S) = stC' (S.filter fun x => decide (x ≠ t))
  | [], t, _ => rfl
  | x :: S, t, h => by
    have hnd := List.nodup_cons.1 h
    show (if t = x then stC' S else (x, .bool true) :: delI t (stC' S)) = _
    by_cases he : t = x
    · rw [if_pos he, List.filter_cons, if_neg (by simp [he])]
      have : S.filter (fun y => decide (y ≠ t)) = S := by
        rw [List.filter_eq_self]
        intro y hy
        refine decide_eq_true fun e => hnd.1 ?_
        rw [← he, ← e]; exact hy
      rw [this]
    · rw [if_neg he, delS_filter hnd.2, List.filter_cons, if_pos (by simp only [ne_eq, decide_not, Bool.not_eq_true', decide_eq_false_iff_not]; exact fun e => he e.symm)]; rfl
theorem pick_filter (t : Int) (l : List Int) : ∀ {j}, j ≤ l.length → pick (fun i => !decide (l.getD i 0 = t)) l j = (l.take j).filter fun x => decide (x ≠ t)
  | 0, _ => by simp [pick]
  | j + 1, hj => by
    have hjl : j < l.length := by omega
    simp only [pick]
    rw [pick_filter t l (by omega), List.take_add_one, List.getElem?_eq_getElem hjl, Option.toList_some, List.filter_append, List.filter_cons, List.filter_nil]
    have : l.getD j 0 = l[j] := by simp [hjl]
    congr 1
    by_cases he : l[j] = t
    · rw [if_neg (by simp [List.getElem?_eq_getElem hjl, he]), if_neg (by simp [he])]
    · rw [if_pos (by simp [List.getElem?_eq_getElem hjl, he]), if_pos (by simp [he])]
theorem intZ_intT {M : FM} {n0 n1 N : Nat} {v : Value} {xs : List Int} {tag : Tags} {t : Nat} (h : IntZ M n1 N v xs) (hn : n0 ≤ n1) (ht : ∀ b, n1 ≤ b → b < N → tag b = t) : IntT M n0 N t tag v xs := by
  rcases h with ⟨h0, h1, rfl⟩ | ⟨h0, hl, b, rfl, h1, h2, h3⟩
  · exact .inl ⟨List.length_eq_zero_iff.1 h0, rfl⟩
  · exact .inr ⟨List.length_pos_iff.1 h0, b, rfl, by omega, h2, ht b h1 h2, h3⟩
noncomputable def removeE (its : List (Cmd × Value)) (S : List Int) (t : Int) (f : Bool) : Int := if t ∈ tagsL its then (if decide (t ∈ S) = f then 0 else 8) else 9
theorem remove_spec (T : Tq E) {M : FM} {n0 N : Nat} {tag : Tags} {q : Nat} {its : List (Cmd × Value)} {S : List Int} {tv : Value} {cb sb : Nat} (h : QI M n0 N tag q its S tv cb sb) (t : Int) (f : Bool) :
    Rt (callW PG E Y 38 [.pointer (some ⟨q, 0, none⟩), .int .i64 t, .bool f] M N) fun r M' N' w => r = .int .i64 (removeE its S t f) ∧ ((removeE its S t f ≠ 0 ∧ M' = M ∧ N' = N ∧ w = 0) ∨ (removeE its S t f = 0 ∧ Wrt N tag 1 5 w ∧ ∃ tag' tv', Chg M n0 N tag 1 5 M' N' w tag' ∧ QI M' n0 N' tag' q (its.filter fun it => decide (it.1.tag ≠ t)) (S.filter fun x => decide (x ≠ t)) tv' cb sb)) := by
  have q0 := h.q0
  have q1 := h.q1
  have q3 := h.q3
  have s0 := h.s0
  have s1 := h.s1
  have c0 := h.c0
  have c1 := h.c1
  have e2 := h.q2
  have e3 := h.c2
  have e4 := h.s2
  refine chg_spec T.e38 rfl fun Q hQ => ?_
  simp only [ac38]
  have h' := h.stay (M' := AMem.put M N (some (.cells [.int .i64 t] 0 false true))) (N' := N + 1) (by omega) (fun b hb => fput_ne _ _ _ _ (by omega))
  simp (implicitDefEqProofs := false) (disch := omega) only [WPs, opds, List.all_cons, List.all_nil, List.cons_append, List.nil_append, cond_true, cond_false, eq_self, List.map_cons, List.map_nil, Nat.reduceAdd, Nat.testBit, Nat.reduceShiftRight, Nat.reduceAnd, Nat.reduceBNe, Nat.reduceMul]
  refine use_pure (known_spec T.e39 h' t) fun r1 => ?_
  by_cases ht : t ∈ tagsL its
  · rw [if_pos ht]
    have ls := map_look (n := N + 1) u3 h'.s1 h'.s3 (.bool false) false t
    rw [lookS] at ls
    have hlk : lookV false (.bool false) (if t ∈ S then some (Value.bool true) else none) = .bool (decide (t ∈ S)) := by
      by_cases hS : t ∈ S
      · rw [if_pos hS, decide_eq_true hS]; rfl
      · rw [if_neg hS, decide_eq_false hS]; rfl
    rw [hlk] at ls
    by_cases hf : decide (t ∈ S) = f
    · have hE1 : removeE its S t f = 0 := by rw [removeE, if_pos ht, if_pos hf]
      simp (implicitDefEqProofs := false) (disch := omega) only [WPs, opds, List.all_cons, List.all_nil, List.cons_append, List.nil_append, cond_true, cond_false, eq_self, List.map_cons, List.map_nil, Nat.reduceAdd, Nat.testBit, Nat.reduceShiftRight, Nat.reduceAnd, Nat.reduceBNe, Nat.reduceMul, q3, s_mp, ls, belowV_map, neq_bools 4 t4, decide_eq_true hf, s_func]
      refine use_rt (filter_spec T.e32 h' (.func (.func 59) #[] #[.pointer (some ⟨N, 0, none⟩)]) (fun i => !decide ((tagsL its).getD i 0 = t)) (fun M' N' hN hM i hi => ?_)) fun tv' M1 N1 r2 w2 ⟨a1, a2, a3, a4⟩ => ?_
      · rw [clo_cap]
        have hb := (hM N (by omega)).trans (fput_same _ _ _)
        have hg : (tagsL its).getD i 0 = (tagsL its)[i] := by simp [hi]
        refine pure_spec T.e59 rfl rfl ?_
        simp only [ac59]
        rw [hg]
        simp (implicitDefEqProofs := false) (disch := omega) only [WPs, opds, List.all_cons, List.all_nil, List.cons_append, List.nil_append, cond_true, cond_false, eq_self, List.map_cons, List.map_nil, Nat.reduceAdd, Nat.testBit, Nat.reduceShiftRight, Nat.reduceAnd, Nat.reduceBNe, Nat.reduceMul, hb]
      · rw [pick_filter t _ (Nat.le_refl _), List.take_length] at a4
        have hq1 := (a2 q (by omega)).trans (show _ = some (Blk.cells [tv, .map (some cb), .map (some sb)] 0 false true) from (fput_ne _ _ _ _ (by omega)).trans q3)
        have hbt := (a2 N (by omega)).trans (fput_same _ _ _)
        have hne1 : cb ≠ q := by rintro rfl; omega
        have hne2 : sb ≠ q := by rintro rfl; omega
        have hne3 : sb ≠ cb := by rintro rfl; omega
        have hcb : (AMem.put M1 q (some (.cells [tv', .map (some cb), .map (some sb)] 0 false true)) : FM) cb = some (.map (mapC (itC its))) := by
          rw [fput_ne _ _ _ _ hne1, a2 cb (by omega), fput_ne _ _ _ _ (by omega)]; exact h.c3
        have hdc := map_del (n := N1) u3 (by omega) hcb t
        rw [delI_filter (f := fun _ => .bool true) h.nd] at hdc
        have hsb : (AMem.put (AMem.put M1 q (some (.cells [tv', .map (some cb), .map (some sb)] 0 false true))) cb (some (.map (mapC (itC (its.filter fun it => decide (it.1.tag ≠ t)))))) : FM) sb = some (.map (mapC (stC' S))) := by
          rw [fput_ne _ _ _ _ hne3, fput_ne _ _ _ _ hne2, a2 sb (by omega), fput_ne _ _ _ _ (by omega)]; exact h.s3
        have hds := map_del (n := N1) u3 (by omega) hsb t
        rw [delS_filter h.sn] at hds
        have ho : Am.one tv' = true := a4.one
        have hcv := cells_of_one ho
        simp (implicitDefEqProofs := false) (disch := omega) only [WPs, opds, List.all_cons, List.all_nil, List.cons_append, List.nil_append, cond_true, cond_false, eq_self, List.map_cons, List.map_nil, Nat.reduceAdd, Nat.testBit, Nat.reduceShiftRight, Nat.reduceAnd, Nat.reduceBNe, Nat.reduceMul, hq1, hbt, s_mp, hdc, hds, belowV_map, ho, hcv]
        have hst : ∀ b, b < N → b ≠ q → b ≠ cb → b ≠ sb → (AMem.put (AMem.put (AMem.put M1 q (some (.cells [tv', .map (some cb), .map (some sb)] 0 false true))) cb (some (.map (mapC (itC (its.filter fun it => decide (it.1.tag ≠ t))))))) sb (some (.map (mapC (stC' (S.filter fun x => decide (x ≠ t)))))) : FM) b = M b := fun b hb k1 k2 k3 => by
          rw [fput_ne _ _ _ _ k3, fput_ne _ _ _ _ k2, fput_ne _ _ _ _ k1, a2 b (by omega), fput_ne _ _ _ _ (by omega)]
        have hnw : ∀ b, N ≤ b → (AMem.put (AMem.put (AMem.put M1 q (some (.cells [tv', .map (some cb), .map (some sb)] 0 false true))) cb (some (.map (mapC (itC (its.filter fun it => decide (it.1.tag ≠ t))))))) sb (some (.map (mapC (stC' (S.filter fun x => decide (x ≠ t)))))) : FM) b = M1 b := fun b hb => by
          rw [fput_ne _ _ _ _ (by omega), fput_ne _ _ _ _ (by omega), fput_ne _ _ _ _ (by omega)]
        have tl : ∀ b, b < N → (fun b => if b < N then tag b else 4) b = tag b := fun b hb => if_pos hb
        have hfi : tagsL (its.filter fun it => decide (it.1.tag ≠ t)) = (tagsL its).filter fun x => decide (x ≠ t) := by
          rw [tagsL, tagsL, List.filter_map]; rfl
        refine hQ _ _ _ _ _ (fun _ hw => ?_) (fun _ => ⟨by rw [hE1], .inr ⟨hE1, ⟨sb, s1, by omega, by omega, by simp only [lor_test, bit_test]; simp⟩, fun b => if b < N then tag b else 4, tv', ⟨by omega, fun j hj => ?_, fun b hb => if_pos hb, fun b hb h3 => hst b hb (by rintro rfl; omega) (by rintro rfl; omega) (by rintro rfl; omega)⟩, ?_⟩⟩)
        · exfalso
          simp only [frz_iff] at hw
          have := mod_bit hw.2 sb s1
          rw [bit_test] at this; simp at this
        · simp only [frz_iff]
          exact ⟨⟨⟨frz_bit (by omega), a3 j (by omega), frz_bit (by omega)⟩, frz_bit (by omega)⟩, frz_bit (by omega)⟩
        · exact {
            q0 := q0
            q1 := by omega
            q2 := (tl q q1).trans e2
            q3 := by rw [fput_ne _ _ _ _ (Ne.symm hne2), fput_ne _ _ _ _ (Ne.symm hne1)]; exact fput_same _ _ _
            c0 := c0
            c1 := by omega
            c2 := (tl cb c1).trans e3
            c3 := by rw [fput_ne _ _ _ _ (Ne.symm hne3)]; exact fput_same _ _ _
            s0 := s0
            s1 := by omega
            s2 := (tl sb s1).trans e4
            s3 := fput_same _ _ _
            tg := by
              rw [hfi]
              exact (intZ_intT (n0 := n0) (tag := fun b => if b < N then tag b else 4) (t := 4) a4 (by omega) (fun b b1 b2 => by show (if b < N then tag b else 4) = 4; rw [if_neg (by omega)])).frame (Nat.le_refl _) fun b b1 b2 b3 => ⟨b3, by
                rcases Nat.lt_or_ge b N with hb | hb
                · have b4 : tag b = 4 := (tl b hb).symm.trans b3
                  rw [hst b hb (by rintro rfl; omega) (by rintro rfl; omega) (by rintro rfl; omega), a2 b (by omega), fput_ne _ _ _ _ (by omega)]
                · exact hnw b hb⟩
            dat := fun it hit => by
              obtain ⟨d1, d2, d3⟩ := h.dat it (List.mem_filter.1 hit).1
              exact ⟨d1, d2.frame fun b ⟨b1, b2, b3⟩ => ⟨⟨b1, by omega, (tl b b2).trans b3⟩, hst b b2 (by rintro rfl; omega) (by rintro rfl; omega) (by rintro rfl; omega)⟩, d3⟩
            nd := by rw [hfi]; exact h.nd.sublist List.filter_sublist
            sn := h.sn.sublist List.filter_sublist
            ss := fun x hx => by
              rw [hfi]
              obtain ⟨x1, x2⟩ := List.mem_filter.1 hx
              exact List.mem_filter.2 ⟨h.ss x x1, x2⟩
            len := by have := List.length_filter_le (fun it : Cmd × Value => decide (it.1.tag ≠ t)) its; have := h.len; omega }
    · have hE1 : removeE its S t f = 8 := by rw [removeE, if_pos ht, if_neg hf]
      simp (implicitDefEqProofs := false) (disch := omega) only [WPs, opds, List.all_cons, List.all_nil, List.cons_append, List.nil_append, cond_true, cond_false, eq_self, List.map_cons, List.map_nil, Nat.reduceAdd, Nat.testBit, Nat.reduceShiftRight, Nat.reduceAnd, Nat.reduceBNe, Nat.reduceMul, q3, s_mp, ls, belowV_map, neq_bools 4 t4, decide_eq_false hf]
      exact hQ _ _ _ _ _ (fun _ _ => ⟨by rw [hE1], .inl ⟨by rw [hE1]; decide, rfl, rfl, rfl⟩⟩) (fun hn => absurd ⟨rfl, frz_bit (by omega)⟩ hn)
  · have hE1 : removeE its S t f = 9 := by rw [removeE, if_neg ht]
    rw [if_neg ht]
    simp (implicitDefEqProofs := false) (disch := omega) only [WPs, opds, List.all_cons, List.all_nil, List.cons_append, List.nil_append, cond_true, cond_false, eq_self, List.map_cons, List.map_nil, Nat.reduceAdd, Nat.testBit, Nat.reduceShiftRight, Nat.reduceAnd, Nat.reduceBNe, Nat.reduceMul]
    exact hQ _ _ _ _ _ (fun _ _ => ⟨by rw [hE1], .inl ⟨by rw [hE1]; decide, rfl, rfl, rfl⟩⟩) (fun hn => absurd ⟨rfl, frz_bit (by omega)⟩ hn)
theorem finish_spec (T : Tq E) {M : FM} {n0 N : Nat} {tag : Tags} {q : Nat} {its : List (Cmd × Value)} {S : List Int} {tv : Value} {cb sb : Nat} (h : QI M n0 N tag q its S tv cb sb) (t : Int) :
    Rt (callW PG E Y 15 [.pointer (some ⟨q, 0, none⟩), .int .i64 t] M N) fun r M' N' w => r = .int .i64 (removeE its S t true) ∧ ((removeE its S t true ≠ 0 ∧ M' = M ∧ N' = N ∧ w = 0) ∨ (removeE its S t true = 0 ∧ Wrt N tag 1 5 w ∧ ∃ tag' tv', Chg M n0 N tag 1 5 M' N' w tag' ∧ QI M' n0 N' tag' q (its.filter fun it => decide (it.1.tag ≠ t)) (S.filter fun x => decide (x ≠ t)) tv' cb sb)) := by
  refine chg_spec T.e15 rfl fun Q hQ => ?_
  simp only [ac15]
  simp (implicitDefEqProofs := false) (disch := omega) only [WPs, opds, List.all_cons, List.all_nil, List.cons_append, List.nil_append, cond_true, cond_false, eq_self, List.map_cons, List.map_nil, Nat.reduceAdd, Nat.testBit, Nat.reduceShiftRight, Nat.reduceAnd, Nat.reduceBNe, Nat.reduceMul]
  refine use_rt (remove_spec T h t true) fun r M' N' r1 w ⟨hr, hx⟩ => ?_
  subst hr
  simp (implicitDefEqProofs := false) (disch := omega) only [WPs, opds, List.all_cons, List.all_nil, List.cons_append, List.nil_append, cond_true, cond_false, eq_self, List.map_cons, List.map_nil, Nat.reduceAdd, Nat.testBit, Nat.reduceShiftRight, Nat.reduceAnd, Nat.reduceBNe, Nat.reduceMul]
  refine hQ _ _ _ _ _ (fun _ hw => ⟨rfl, ?_⟩) (fun _ => ⟨rfl, hx⟩)
  rcases hx with ⟨z1, z2⟩ | ⟨z1, z2, _⟩
  · exact .inl ⟨z1, rfl, rfl, rfl⟩
  · exact absurd hw z2.nz
theorem cancel_spec (T : Tq E) {M : FM} {n0 N : Nat} {tag : Tags} {q : Nat} {its : List (Cmd × Value)} {S : List Int} {tv : Value} {cb sb : Nat} (h : QI M n0 N tag q its S tv cb sb) (t : Int) :
    Rt (callW PG E Y 21 [.pointer (some ⟨q, 0, none⟩), .int .i64 t] M N) fun r M' N' w => r = .int .i64 (removeE its S t false) ∧ ((removeE its S t false ≠ 0 ∧ M' = M ∧ N' = N ∧ w = 0) ∨ (removeE its S t false = 0 ∧ Wrt N tag 1 5 w ∧ ∃ tag' tv', Chg M n0 N tag 1 5 M' N' w tag' ∧ QI M' n0 N' tag' q (its.filter fun it => decide (it.1.tag ≠ t)) (S.filter fun x => decide (x ≠ t)) tv' cb sb)) := by
  refine chg_spec T.e21 rfl fun Q hQ => ?_
  simp only [ac21]
  simp (implicitDefEqProofs := false) (disch := omega) only [WPs, opds, List.all_cons, List.all_nil, List.cons_append, List.nil_append, cond_true, cond_false, eq_self, List.map_cons, List.map_nil, Nat.reduceAdd, Nat.testBit, Nat.reduceShiftRight, Nat.reduceAnd, Nat.reduceBNe, Nat.reduceMul]
  refine use_rt (remove_spec T h t false) fun r M' N' r1 w ⟨hr, hx⟩ => ?_
  subst hr
  simp (implicitDefEqProofs := false) (disch := omega) only [WPs, opds, List.all_cons, List.all_nil, List.cons_append, List.nil_append, cond_true, cond_false, eq_self, List.map_cons, List.map_nil, Nat.reduceAdd, Nat.testBit, Nat.reduceShiftRight, Nat.reduceAnd, Nat.reduceBNe, Nat.reduceMul]
  refine hQ _ _ _ _ _ (fun _ hw => ⟨rfl, ?_⟩) (fun _ => ⟨rfl, hx⟩)
  rcases hx with ⟨z1, z2⟩ | ⟨z1, z2, _⟩
  · exact .inl ⟨z1, rfl, rfl, rfl⟩
  · exact absurd hw z2.nz
def zeroC : Cmd := ⟨0, 0, 0, false, ⟨#[]⟩, ⟨#[]⟩, 0, 0, []⟩
theorem get_spec (T : Tq E) {M : FM} {n0 N : Nat} {tag : Tags} {q : Nat} {its : List (Cmd × Value)} {S : List Int} {tv : Value} {cb sb : Nat} (h : QI M n0 N tag q its S tv cb sb) (t : Int) :
    Rt (callW PG E Y 24 [.pointer (some ⟨q, 0, none⟩), .int .i64 t] M N) fun r M' N' w => N ≤ N' ∧ (∀ b, b < N → M' b = M b) ∧ (∀ j, j ≤ N → Nat.mod w (bit j) = 0) ∧ ((t ∉ tagsL its ∧ r = .tuple [cmdV zeroC (.slice none 0 0), .bool false].toArray) ∨ (∃ it ∈ its, it.1.tag = t ∧ ∃ d, r = .tuple [cmdV it.1 d, .bool true].toArray ∧ DatF M' (fun k => N ≤ k ∧ k < N') d it.1.data)) := by
  have q1 := h.q1
  have q3 := h.q3
  have c1 := h.c1
  refine kept_specQ T.e24 rfl fun Q hQ => ?_
  simp only [ac24]
  have h' := fun (M' : FM) (hM : ∀ b, b < N → M' b = M b) => h.stay (M' := M') (N' := N + 1) (by omega) hM
  simp (implicitDefEqProofs := false) (disch := omega) only [WPs, opds, List.all_cons, List.all_nil, List.cons_append, List.nil_append, cond_true, cond_false, eq_self, List.map_cons, List.map_nil, Nat.reduceAdd, Nat.testBit, Nat.reduceShiftRight, Nat.reduceAnd, Nat.reduceBNe, Nat.reduceMul]
  refine use_pure (known_spec T.e39 (h' _ fun b hb => by simp (implicitDefEqProofs := false) (disch := omega) only [WPs, opds, List.all_cons, List.all_nil, List.cons_append, List.nil_append, cond_true, cond_false, eq_self, List.map_cons, List.map_nil, Nat.reduceAdd, Nat.testBit, Nat.reduceShiftRight, Nat.reduceAnd, Nat.reduceBNe, Nat.reduceMul]) t) fun r1 => ?_
  by_cases ht : t ∈ tagsL its
  · rw [if_pos ht]
    obtain ⟨it, hit, he⟩ := List.mem_map.1 ht
    obtain ⟨i, hi, rfl⟩ := List.mem_iff_getElem.1 hit
    have lk := map_look (n := N + 1) (mi := itC its) (m := AMem.put M N (some (.cells [.int .i64 0, .int .i64 0, .int .i64 0, .bool false, .string ⟨#[]⟩, .string ⟨#[]⟩, .int .i64 0, .int .i64 0, .slice none 0 0] 0 false true))) u3 (by omega) ((fput_ne _ _ _ _ (by omega)).trans h.c3) (.agg #[.int .i64 0, .int .i64 0, .int .i64 0, .bool false, .string ⟨#[]⟩, .string ⟨#[]⟩, .int .i64 0, .int .i64 0, .slice none 0 0]) false t
    rw [lookC, ← he, find_at h.nd hi, Option.map_some, lookV_some1] at lk
    obtain ⟨d1, d2, d3⟩ := h.dat _ hit
    rw [he] at lk
    simp (implicitDefEqProofs := false) (disch := omega) only [WPs, opds, List.all_cons, List.all_nil, List.cons_append, List.nil_append, cond_true, cond_false, eq_self, List.map_cons, List.map_nil, Nat.reduceAdd, Nat.testBit, Nat.reduceShiftRight, Nat.reduceAnd, Nat.reduceBNe, Nat.reduceMul, q3, s_mp, lk]
    refine use_rt (dup_spec T.e31 T.e55 _ _ its[i].1 its[i].2 ((d2.s fun b hb => hb.2.1 : DatS M N its[i].2 its[i].1.data).frame (by omega) fun b hb => by simp (implicitDefEqProofs := false) (disch := omega) only [WPs, opds, List.all_cons, List.all_nil, List.cons_append, List.nil_append, cond_true, cond_false, eq_self, List.map_cons, List.map_nil, Nat.reduceAdd, Nat.testBit, Nat.reduceShiftRight, Nat.reduceAnd, Nat.reduceBNe, Nat.reduceMul]) d3) fun r M1 N1 r2 w2 ⟨a1, a2, a3, d, ed, a4⟩ => ?_
    subst ed
    have ho := a4.one
    have hn := (a2 N (by omega)).trans (fput_same _ _ _)
    simp (implicitDefEqProofs := false) (disch := omega) only [WPs, opds, List.all_cons, List.all_nil, List.cons_append, List.nil_append, cond_true, cond_false, eq_self, List.map_cons, List.map_nil, Nat.reduceAdd, Nat.testBit, Nat.reduceShiftRight, Nat.reduceAnd, Nat.reduceBNe, Nat.reduceMul, cmdV, hn, ho]
    refine hQ _ _ _ _ _ (by omega) (fun b hb => by rw [fput_ne _ _ _ _ (by omega), a2 b (by omega)]; exact fput_ne _ _ _ _ (by omega)) (by simp only [frz_iff]; exact ⟨frz_bit (by omega), a3 N (by omega), frz_bit (by omega)⟩) rfl (.inr ⟨_, hit, he, d, rfl, ?_⟩)
    exact a4.frame fun b hb => ⟨⟨by omega, hb.2⟩, fput_ne _ _ _ _ (by omega)⟩
  · rw [if_neg ht]
    simp (implicitDefEqProofs := false) (disch := omega) only [WPs, opds, List.all_cons, List.all_nil, List.cons_append, List.nil_append, cond_true, cond_false, eq_self, List.map_cons, List.map_nil, Nat.reduceAdd, Nat.testBit, Nat.reduceShiftRight, Nat.reduceAnd, Nat.reduceBNe, Nat.reduceMul]
    exact hQ _ _ _ _ _ (by omega) (fun b hb => by simp (implicitDefEqProofs := false) (disch := omega) only [WPs, opds, List.all_cons, List.all_nil, List.cons_append, List.nil_append, cond_true, cond_false, eq_self, List.map_cons, List.map_nil, Nat.reduceAdd, Nat.testBit, Nat.reduceShiftRight, Nat.reduceAnd, Nat.reduceBNe, Nat.reduceMul]) (by simp only [frz_iff]; exact ⟨frz_bit (by omega), frz_bit (by omega)⟩) rfl (.inl ⟨ht, rfl⟩)
theorem new_spec (T : Tq E) (M : FM) (N : Nat) : Rt (callW PG E Y 11 [] M N) fun r M' N' w => N ≤ N' ∧ (∀ b, b < N → M' b = M b) ∧ (∀ j, j ≤ N → Nat.mod w (bit j) = 0) ∧ r = .pointer (some ⟨N + 2, 0, none⟩) ∧ N' = N + 3 ∧ ∀ tag : Tags, tag N = 2 → tag (N + 1) = 3 → tag (N + 2) = 1 → QI M' N N' tag (N + 2) [] [] (.slice none 0 0) N (N + 1) := by
  refine kept_specQ T.e11 rfl fun Q hQ => ?_
  simp only [ac11]
  simp (implicitDefEqProofs := false) (disch := omega) only [WPs, opds, List.all_cons, List.all_nil, List.cons_append, List.nil_append, cond_true, cond_false, eq_self, List.map_cons, List.map_nil, Nat.reduceAdd, Nat.testBit, Nat.reduceShiftRight, Nat.reduceAnd, Nat.reduceBNe, Nat.reduceMul, s_mp, map_mk, one_map, cells_mapv]
  refine hQ _ _ _ _ _ (by omega) (fun b hb => by simp (implicitDefEqProofs := false) (disch := omega) only [WPs, opds, List.all_cons, List.all_nil, List.cons_append, List.nil_append, cond_true, cond_false, eq_self, List.map_cons, List.map_nil, Nat.reduceAdd, Nat.testBit, Nat.reduceShiftRight, Nat.reduceAnd, Nat.reduceBNe, Nat.reduceMul]) (by simp only [frz_iff]; exact ⟨⟨frz_bit (by omega), frz_bit (by omega)⟩, frz_bit (by omega)⟩) rfl ⟨rfl, rfl, fun tag t2 t3 t1 => ?_⟩
  exact {
    q0 := by omega
    q1 := by omega
    q2 := t1
    q3 := fput_same _ _ _
    c0 := by omega
    c1 := by omega
    c2 := t2
    c3 := by rw [fput_ne _ _ _ _ (by omega), fput_ne _ _ _ _ (by omega)]; exact fput_same _ _ _
    s0 := by omega
    s1 := by omega
    s2 := t3
    s3 := by rw [fput_ne _ _ _ _ (by omega)]; exact fput_same _ _ _
    tg := .inl ⟨rfl, rfl⟩
    dat := fun it hit => by cases hit
    nd := List.nodup_nil
    sn := List.nodup_nil
    ss := fun t ht => by cases ht
    len := by show 0 ≤ 64; omega }
end Go.Am.C41
namespace Go.Am.C41
open Go Go.Am
variable {E : Nat → Option AFn} {Y : Nat → List Value → FM → Nat → OR FM}
structure It where
  c : Cmd
  d : Value
  f : Bool
def itemC (x : It) : List Value := x.c.cells x.d ++ [.bool x.f]
def itemsC (l : List It) : List Value := (l.map itemC).flatten
theorem itemC_len (x : It) : (itemC x).length = 10 := rfl
theorem itemsC_len : ∀ l : List It, (itemsC l).length = l.length * 10
  | [] => rfl
  | x :: l => by
    show (itemC x ++ itemsC l).length = _
    rw [List.length_append, itemC_len, itemsC_len l, List.length_cons]; omega
theorem itemsC_get : ∀ (l : List It) (i k : Nat), k < 10 → (itemsC l)[i * 10 + k]? = (l[i]?).bind fun x => (itemC x)[k]?
  | [], i, k, _ => by simp [itemsC]
  | x :: l, 0, k, h => by
    show (itemC x ++ itemsC l)[0 * 10 + k]? = _
    rw [Nat.zero_mul, Nat.zero_add, List.getElem?_append_left (by rw [itemC_len]; exact h)]; rfl
  | x :: l, i + 1, k, h => by
    show (itemC x ++ itemsC l)[(i + 1) * 10 + k]? = _
    rw [List.getElem?_append_right (by rw [itemC_len]; omega), itemC_len, show (i + 1) * 10 + k - 10 = i * 10 + k by omega, itemsC_get l i k h]; rfl
theorem itemsC_ext {a : List Value} {l : List It} (hl : a.length = l.length * 10) (h : ∀ i k, k < 10 → i < l.length → a[i * 10 + k]? = (l[i]?).bind fun x => (itemC x)[k]?) : a = itemsC l := by
  apply List.ext_getElem?
  intro j
  rcases Nat.lt_or_ge j (l.length * 10) with hj | hj
  · have e : j = (j / 10) * 10 + j % 10 := by omega
    rw [e, h (j / 10) (j % 10) (Nat.mod_lt _ (by omega)) (by omega), itemsC_get l _ _ (Nat.mod_lt _ (by omega))]
  · rw [List.getElem?_eq_none (by omega), List.getElem?_eq_none (by rw [itemsC_len]; omega)]
theorem items_cget {l : List It} {i k : Nat} (hi : i < l.length) {v : Value} (hk : k < 10) (hv : (itemC l[i])[k]? = some v) : cget (itemsC l) (i * 10 + k) = some v := by
  rw [cget_eq, itemsC_get l i k hk, List.getElem?_eq_getElem hi]; exact hv
theorem items_ctake {l : List It} {i : Nat} (hi : i < l.length) : ctake (ldrop (itemsC l) (i * 10)) 9 = some (l[i].c.cells l[i].d) := by
  rw [ldrop_eq, ctake_eq, if_pos (by rw [List.length_drop, itemsC_len]; omega)]
  congr 1
  apply List.ext_getElem?
  intro k
  rw [List.getElem?_take]
  split
  · rw [List.getElem?_drop, itemsC_get l i k (by omega), List.getElem?_eq_getElem hi]
    show (l[i].c.cells l[i].d ++ [.bool l[i].f])[k]? = _
    rw [List.getElem?_append_left (by show k < 9; omega)]
  · exact (List.getElem?_eq_none (by show 9 ≤ k; omega)).symm
theorem items_set {l : List It} {i : Nat} (hi : i < l.length) (b : Bool) : setCells (itemsC l) (i * 10 + 9) [.bool b] = some (itemsC (l.set i { l[i] with f := b })) := by
  rw [Go.Am.set_one (by rw [itemsC_len]; omega)]
  congr 1
  refine itemsC_ext (by rw [List.length_set, List.length_set, itemsC_len]) fun j k hk hj => ?_
  rw [List.getElem?_set, List.getElem?_set]
  by_cases e : i = j
  · subst e
    rw [if_pos rfl, if_pos hi]
    by_cases e2 : k = 9
    · subst e2
      rw [if_pos rfl, if_pos (by rw [itemsC_len]; omega)]; rfl
    · rw [if_neg (by omega), itemsC_get l i k hk, List.getElem?_eq_getElem hi]
      show (l[i].c.cells l[i].d ++ [.bool l[i].f])[k]? = (l[i].c.cells l[i].d ++ [.bool b])[k]?
      rw [List.getElem?_append_left (by show k < 9; omega), List.getElem?_append_left (by show k < 9; omega)]
  · rw [if_neg (by omega), if_neg e, itemsC_get l j k hk]
def OwnT (M : FM) (P : Nat → Prop) (v : Value) (l : List It) : Prop :=
  (l = [] ∧ v = .slice none 0 0) ∨ (l = [] ∧ ∃ b, v = .slice (some ⟨b, 0, none⟩) 0 0 ∧ P b ∧ M b = some (.cells [] 10 false true)) ∨ (l ≠ [] ∧ ∃ b, v = .slice (some ⟨b, 0, none⟩) l.length UNK ∧ P b ∧ M b = some (.cells (itemsC l) 10 true true))
def ItT (M : FM) (n0 N : Nat) (tag : Tags) (v : Value) (l : List It) : Prop := OwnT M (fun b => n0 ≤ b ∧ b < N ∧ tag b = 12) v l
theorem OwnT.frame {M M' : FM} {P P' : Nat → Prop} {v : Value} {l : List It} (h : OwnT M P v l) (ht : ∀ b, P b → P' b ∧ M' b = M b) : OwnT M' P' v l := by
  rcases h with h | ⟨h1, b, h2, h3, h4⟩ | ⟨h1, b, h2, h3, h4⟩
  · exact .inl h
  · exact .inr (.inl ⟨h1, b, h2, (ht b h3).1, (ht b h3).2.trans h4⟩)
  · exact .inr (.inr ⟨h1, b, h2, (ht b h3).1, (ht b h3).2.trans h4⟩)
theorem app_own {M : FM} {P : Nat → Prop} {N : Nat} {v : Value} {l l2 : List It} (h : OwnT M P v l) (hP : ∀ b, P b → b < N) (ya : Option Addr) (yc r2 : Nat) (ho : (itemsC l2).all Am.one = true) (hs : l.length + l2.length ≤ 1000) :
    Rt (appO 10 112 M N v (.slice ya l2.length yc) (shown M N 10 v) (some (itemsC l2, r2))) fun v' M' N' w => N ≤ N' ∧ N' ≤ N + 1 ∧ OwnT M' (fun b => (P b ∨ b = N) ∧ b < N') v' (l ++ l2) ∧ (∀ b, b ≠ N → ¬ P b → M' b = M b) ∧ (∀ j, j ≤ N → (∀ b, P b → j ≤ b) → Nat.mod w (bit j) = 0) := by
  have hone : ∀ r : Nat, ((itemsC l2, r).1.all Am.one) = true := fun _ => ho
  have hnew : ∀ (r : Nat) (a : List It), a ++ l2 ≠ [] → itemsC a ++ itemsC l2 = itemsC (a ++ l2) := fun r a _ => by simp [itemsC]
  rcases h with ⟨rfl, rfl⟩ | ⟨rfl, b, rfl, hb, hM⟩ | ⟨hne, b, rfl, hb, hM⟩
  · rw [shown_nil, appO_mk, appV_mk, hone, blt_true (show 0 < 10 by omega), blt_true (show 0 < 112 by omega), ble_true (show (0 + l2.length) * 112 ≤ 140737488355328 by simp at hs; omega)]
    by_cases hz : l2 = []
    · subst hz
      exact ⟨Nat.le_refl _, Nat.le_succ _, .inl ⟨rfl, rfl⟩, fun _ _ _ => rfl, fun j _ _ => Nat.zero_mod _⟩
    · have hp : 0 < l2.length := List.length_pos_iff.2 hz
      rw [appG_nil hp]
      exact ⟨Nat.le_succ _, Nat.le_refl _, .inr (.inr ⟨hz, N, by rw [Nat.zero_add, List.nil_append], ⟨.inr rfl, by omega⟩, fput_same _ _ _⟩), fun b hb _ => fput_ne _ _ _ _ hb, fun j hj _ => frz_bit hj⟩
  · rw [shown_zero, appO_mk, appV_mk, hone, blt_true (show 0 < 10 by omega), blt_true (show 0 < 112 by omega), ble_true (show (0 + l2.length) * 112 ≤ 140737488355328 by simp at hs; omega)]
    show Rt (cond (Nat.ble (Nat.add 0 l2.length) 0) (appR M N 10 0 (0 + l2.length) 0 (itemsC l2) (Nat.lor 0 r2) b 0 (getb M N b)) (appN M N 10 (0 + l2.length) ([] ++ itemsC l2) (Nat.lor 0 r2))) _
    by_cases hz : l2 = []
    · subst hz
      show Rt (appR M N 10 0 (0 + 0) 0 [] (Nat.lor 0 r2) b 0 (getb M N b)) _
      rw [getb_lt (hP b hb), hM]
      show Rt (putC M N b 10 false (slcP 0 (0 + 0) 0 b) (Nat.lor 0 r2) (setCells [] (Nat.add 0 (Nat.mul 0 10)) [])) _
      exact ⟨Nat.le_refl _, Nat.le_succ _, .inr (.inl ⟨rfl, b, rfl, ⟨.inl hb, hP b hb⟩, fput_same _ _ _⟩), fun k _ hk => fput_ne _ _ _ _ (by rintro rfl; exact hk hb), fun j hj h => frz_bit (h b hb)⟩
    · have hp : 0 < l2.length := List.length_pos_iff.2 hz
      have hle : Nat.ble (Nat.add 0 l2.length) 0 = false := by
        cases hq : Nat.ble (Nat.add 0 l2.length) 0
        · rfl
        · have : 0 + l2.length ≤ 0 := Nat.le_of_ble_eq_true hq
          omega
      rw [hle, cond_false, Nat.zero_add, List.nil_append]
      exact ⟨Nat.le_succ _, Nat.le_refl _, .inr (.inr ⟨hz, N, rfl, ⟨.inr rfl, by omega⟩, fput_same _ _ _⟩), fun k hk _ => fput_ne _ _ _ _ hk, fun j hj _ => frz_bit hj⟩
  · have hp : 0 < l.length := List.length_pos_iff.2 hne
    rw [shown_pos hp, getb_lt (hP b hb), hM, shownB_mk, Nat.beq_refl, cellsAt_mk, ldrop_z, cells_all (itemsC_len l).symm]
    show Rt (appO 10 112 M N _ _ (some (itemsC l, bit b)) _) _
    rw [appO_mk, appV_mk, hone, blt_true (show 0 < 10 by omega), blt_true (show 0 < 112 by omega), ble_true (show (l.length + l2.length) * 112 ≤ 140737488355328 by omega), appG_unk, getb_lt (hP b hb), hM, appU_mk]
    have hnl : l ++ l2 ≠ [] := by simp [hne]
    refine ⟨Nat.le_succ _, Nat.le_refl _, .inr (.inr ⟨hnl, N, by rw [List.length_append], ⟨.inr rfl, by omega⟩, ?_⟩), fun k hk hk2 => ?_, fun j hj h => ?_⟩
    · rw [← hnew 0 l hnl]; exact fput_same _ _ _
    · rw [fput_ne _ _ _ _ hk, fput_ne _ _ _ _ (by rintro rfl; exact hk2 hb)]
    · rw [frz_iff]; exact ⟨frz_bit (h b hb), frz_bit hj⟩
structure QR (M : FM) (n0 N : Nat) (tag : Tags) (r : Nat) (l : List It) (iv : Value) : Prop where
  r0 : n0 ≤ r
  r1 : r < N
  r2 : tag r = 11
  r3 : M r = some (.cells [iv] 0 false true)
  it : ItT M n0 N tag iv l
  dat : ∀ x ∈ l, x.c.Fit ∧ DatF M (fun k => n0 ≤ k ∧ k < N ∧ tag k = 15) x.d x.c.data ∧ x.c.data.length ≤ 1000000
  len : l.length ≤ 64
theorem ItT.frame {M M' : FM} {n0 N N' : Nat} {tag tag' : Tags} {v : Value} {l : List It} (h : ItT M n0 N tag v l) (hN : N ≤ N') (ht : ∀ b, n0 ≤ b → b < N → tag b = 12 → tag' b = 12 ∧ M' b = M b) : ItT M' n0 N' tag' v l :=
  OwnT.frame h fun b ⟨h1, h2, h3⟩ => ⟨⟨h1, by omega, (ht b h1 h2 h3).1⟩, (ht b h1 h2 h3).2⟩
theorem QR.frame {M M' : FM} {n0 N N' : Nat} {tag tag' : Tags} {r : Nat} {l : List It} {iv : Value} (h : QR M n0 N tag r l iv) (hN : N ≤ N') (ht : ∀ b, n0 ≤ b → b < N → tag' b = tag b) (hM : ∀ b, n0 ≤ b → b < N → 11 ≤ tag b → tag b ≤ 15 → M' b = M b) : QR M' n0 N' tag' r l iv where
  r0 := h.r0
  r1 := by have := h.r1; omega
  r2 := (ht r h.r0 h.r1).trans h.r2
  r3 := (hM r h.r0 h.r1 (by rw [h.r2]; omega) (by rw [h.r2]; omega)).trans h.r3
  it := h.it.frame hN fun b h1 h2 h3 => ⟨(ht b h1 h2).trans h3, hM b h1 h2 (by omega) (by omega)⟩
  dat := fun x hx => ⟨(h.dat x hx).1, (h.dat x hx).2.1.frame fun b ⟨h1, h2, h3⟩ => ⟨⟨h1, by omega, (ht b h1 h2).trans h3⟩, hM b h1 h2 (by omega) (by omega)⟩, (h.dat x hx).2.2⟩
  len := h.len
theorem QR.stay {M M' : FM} {n0 N N' : Nat} {tag : Tags} {r : Nat} {l : List It} {iv : Value} (h : QR M n0 N tag r l iv) (hN : N ≤ N') (hM : ∀ b, b < N → M' b = M b) : QR M' n0 N' tag r l iv :=
  h.frame hN (fun _ _ _ => rfl) fun b _ h2 _ _ => hM b h2
theorem OwnT.len {M : FM} {P : Nat → Prop} {v : Value} {l : List It} (h : OwnT M P v l) : lenV false v = some (.int .i64 (l.length : Int)) := by
  rcases h with ⟨rfl, rfl⟩ | ⟨rfl, b, rfl, _⟩ | ⟨_, b, rfl, _⟩ <;> rfl
theorem OwnT.one {M : FM} {P : Nat → Prop} {v : Value} {l : List It} (h : OwnT M P v l) : Am.one v = true := by
  rcases h with ⟨rfl, rfl⟩ | ⟨rfl, b, rfl, _⟩ | ⟨_, b, rfl, _⟩ <;> rfl
theorem OwnT.bel {M : FM} {P : Nat → Prop} {v : Value} {l : List It} (h : OwnT M P v l) (k : Nat) (hk : ∀ b, P b → b < k) : belowV k v = true := by
  rcases h with ⟨rfl, rfl⟩ | ⟨rfl, b, rfl, hb, _⟩ | ⟨_, b, rfl, hb, _⟩
  · rfl
  · exact blt_true (hk b hb)
  · exact blt_true (hk b hb)
theorem ItT.len {M : FM} {n0 N : Nat} {tag : Tags} {v : Value} {l : List It} (h : ItT M n0 N tag v l) : lenV false v = some (.int .i64 (l.length : Int)) := OwnT.len h
theorem ItT.one {M : FM} {n0 N : Nat} {tag : Tags} {v : Value} {l : List It} (h : ItT M n0 N tag v l) : Am.one v = true := OwnT.one h
theorem ItT.bel {M : FM} {n0 N : Nat} {tag : Tags} {v : Value} {l : List It} (h : ItT M n0 N tag v l) (k : Nat) (hk : N ≤ k) : belowV k v = true := OwnT.bel h k fun b hb => by omega
theorem ItT.at {M : FM} {n0 N : Nat} {tag : Tags} {v : Value} {l : List It} (h : ItT M n0 N tag v l) {i : Nat} (hi : i < l.length) : ∃ b, idxV 10 i v = some (.pointer (some ⟨b, i * 10, none⟩)) ∧ n0 ≤ b ∧ b < N ∧ tag b = 12 ∧ M b = some (.cells (itemsC l) 10 true true) := by
  rcases h with ⟨rfl, _⟩ | ⟨rfl, _⟩ | ⟨_, b, rfl, ⟨h1, h2, h3⟩, h4⟩
  · simp at hi
  · simp at hi
  · exact ⟨b, by rw [idx_mk hi, Nat.zero_add], h1, h2, h3, h4⟩
def rtags (l : List It) : List Int := l.map fun x => x.c.tag
def findR (t : Int) (l : List It) : Option Nat := l.findIdx? fun x => decide (x.c.tag = t)
def findZ (t : Int) (l : List It) : Int := match findR t l with | some i => (i : Int) | none => -1
theorem findR_none {t : Int} {l : List It} (h : ∀ i (hi : i < l.length), i < l.length → l[i].c.tag ≠ t) : findR t l = none := by
  refine List.findIdx?_eq_none_iff.mpr fun x hx => ?_
  obtain ⟨i, hi, rfl⟩ := List.mem_iff_getElem.mp hx
  exact decide_eq_false (h i hi hi)
theorem findR_some {t : Int} {l : List It} {j : Nat} (hj : j < l.length) (e : l[j].c.tag = t) (h : ∀ i (hi : i < l.length), i < j → l[i].c.tag ≠ t) : findR t l = some j := by
  refine List.findIdx?_eq_some_iff_getElem.mpr ⟨hj, decide_eq_true e, fun k hk => ?_⟩
  intro e2
  exact h k (by omega) hk (of_decide_eq_true e2)
theorem find_L0 {M : FM} {n0 N : Nat} {tag : Tags} {r : Nat} {l : List It} {iv : Value} (h : QR M n0 N tag r l iv) (t : Int) {Q : AX → List Value → FM → Nat → Nat → Prop} (hQ1 : ∀ i, findR t l = some i → ∀ e', Q (.ret (.int .i64 (i : Int))) e' M N 0) (hQ2 : findR t l = none → ∀ e', Q (.exit 0) e' M N 0) :
    ∀ d j, j + d = l.length → (∀ i (hi : i < l.length), i < j → l[i].c.tag ≠ t) → ∀ (x0 x2 x3 : Value), Gv (execW PG E Y ac50L0 [x0, .int .i64 (j : Int), x2, x3, .pointer (some ⟨r, 0, none⟩), .int .i64 t] M N) Q := by
  have r1 := h.r1
  have r3 := h.r3
  have hlen := h.len
  intro d
  induction d with
  | zero =>
    intro j hj ha x0 x2 x3
    refine wr_loopN (L := ac50L0) (b := ac50L0b) rfl ?_
    simp only [ac50L0b]
    simp (implicitDefEqProofs := false) (disch := omega) only [WPs, opds, List.all_cons, List.all_nil, List.cons_append, List.nil_append, cond_true, cond_false, eq_self, List.map_cons, List.map_nil, Nat.reduceAdd, Nat.testBit, Nat.reduceShiftRight, Nat.reduceAnd, Nat.reduceBNe, Nat.reduceMul, r3, h.it.len]
    exact hQ2 (findR_none fun i hi _ => ha i hi (by omega)) _
  | succ d ih =>
    intro j hj ha x0 x2 x3
    have hjl : j < l.length := by omega
    obtain ⟨b, i1, b0, b1, b2, b3⟩ := h.it.at hjl
    have c0 := items_cget (k := 0) hjl (by omega) (show (itemC l[j])[0]? = some (.int .i64 l[j].c.tag) from rfl)
    rw [Nat.add_zero] at c0
    refine wr_loopN (L := ac50L0) (b := ac50L0b) rfl ?_
    simp only [ac50L0b]
    by_cases he : l[j].c.tag = t
    · simp (implicitDefEqProofs := false) (disch := omega) only [WPs, opds, List.all_cons, List.all_nil, List.cons_append, List.nil_append, cond_true, cond_false, eq_self, List.map_cons, List.map_nil, Nat.reduceAdd, Nat.testBit, Nat.reduceShiftRight, Nat.reduceAnd, Nat.reduceBNe, Nat.reduceMul, r3, h.it.len, i1, b3, c0, decide_eq_true he]
      exact hQ1 j (findR_some hjl he ha) _
    · simp (implicitDefEqProofs := false) (disch := omega) only [WPs, opds, List.all_cons, List.all_nil, List.cons_append, List.nil_append, cond_true, cond_false, eq_self, List.map_cons, List.map_nil, Nat.reduceAdd, Nat.testBit, Nat.reduceShiftRight, Nat.reduceAnd, Nat.reduceBNe, Nat.reduceMul, r3, h.it.len, i1, b3, c0, decide_eq_false he]
      refine wr_end (ih (j + 1) (by omega) (fun i hi hij => ?_) _ _ _) fun X e m n w hq => ?_
      rotate_left
      · simpa only [zero_lor'] using hq
      rcases Nat.lt_or_ge i j with h1 | h1
      · exact ha i hi h1
      · have e1 : i = j := by omega
        subst e1; exact he
theorem find_spec (hE : E 50 = some ac50) {M : FM} {n0 N : Nat} {tag : Tags} {r : Nat} {l : List It} {iv : Value} (h : QR M n0 N tag r l iv) (t : Int) :
    Pure (callW PG E Y 50 [.pointer (some ⟨r, 0, none⟩), .int .i64 t] M N) M N (.int .i64 (findZ t l)) := by
  refine pure_spec hE rfl rfl ?_
  simp only [ac50]
  simp (implicitDefEqProofs := false) (disch := omega) only [WPs, opds, List.all_cons, List.all_nil, List.cons_append, List.nil_append, cond_true, cond_false, eq_self, List.map_cons, List.map_nil, Nat.reduceAdd, Nat.testBit, Nat.reduceShiftRight, Nat.reduceAnd, Nat.reduceBNe, Nat.reduceMul]
  refine wr_cps (find_L0 h t (fun i hi e' r => ?_) (fun hn e' r => ?_) l.length 0 (by omega) (fun i hi h0 => by omega) _ _ _)
  · rw [findZ, hi]
    simp (implicitDefEqProofs := false) (disch := omega) only [WPs, opds, List.all_cons, List.all_nil, List.cons_append, List.nil_append, cond_true, cond_false, eq_self, List.map_cons, List.map_nil, Nat.reduceAdd, Nat.testBit, Nat.reduceShiftRight, Nat.reduceAnd, Nat.reduceBNe, Nat.reduceMul]
  · rw [findZ, hn]
    simp (implicitDefEqProofs := false) (disch := omega) only [WPs, opds, List.all_cons, List.all_nil, List.cons_append, List.nil_append, cond_true, cond_false, eq_self, List.map_cons, List.map_nil, Nat.reduceAdd, Nat.testBit, Nat.reduceShiftRight, Nat.reduceAnd, Nat.reduceBNe, Nat.reduceMul]
end Go.Am.C41
