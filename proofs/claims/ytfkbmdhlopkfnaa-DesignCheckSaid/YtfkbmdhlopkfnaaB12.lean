/- The machine and its runs, part 12: Sets07o Am07q Am07ja Am07d Am07e Am07f Am07g AmRowsZ Am07h. -/
import Derived.Test.YtfkbmdhlopkfnaaB11
set_option linter.unusedVariables false
set_option linter.unusedSimpArgs false
set_option linter.unusedSectionVars false
namespace Go.Proofs
open Go.RowKit Go.Shelf
attribute [local go_sem] Oper.semAt_some
attribute [-go_sem] Builtin.append_

set_option maxRecDepth 100000 in
set_option maxHeartbeats 0 in
theorem St.complete_ok (F : Fence) (h11 : F.fn 11) (h23 : F.fn 23) (h24 : F.fn 24) (h32 : F.fn 32) (h33 : F.fn 33) (hd : F.depth = none) (hro : F.round = none) (m : Nat) (d k : Nat) (h1 : 2 ≤ d) (h2 : d ≤ 60) (h3 : 2 ≤ k) (h4 : k ≤ d) (hc : St.cnt (d : Int) (min k (d - k)) 0 1 ≤ 4096) (hlen : (St.combos d k 0 []).length ≤ 4096) (W : World) :
    CallsIn F m Try.prog 11 #[.int .i64 (d : Int), .int .i64 (k : Int)] W fun e W2 => ∃ (v : Value) (xs : List (Value × List Int)), e = .returned (.tuple #[.agg #[.int .i64 (d : Int), v], .int .i64 0]) ∧ xs.map Prod.snd = St.combos d k 0 [] ∧
      W2.ownsRow W.heap.size 40 1 v xs.length (xs.map Prod.fst) ∧ (∀ x ∈ xs, St.Row W.heap.size x.1 x.2 W2) ∧ Below W.heap.size W W2 := by
  have hdd : ∀ k : Nat, (F.depth.isSome = true → 1 ≤ k) := fun k h => by rw [hd] at h; cases h
  have hmin : ((min k (d - k) : Nat) : Int) = min (k : Int) ((d : Int) - (k : Int)) := by omega
  have hcnt := St.count_in F h23 hro (m - 1) (d : Int) (min k (d - k)) (by omega) (by omega) (W.alloc (.cells #[.int .i64 0, .slice none 0 0] 25))
  rw [hmin] at hcnt
  refine callsIn_of_wp_marks Try.func11 rfl h11 ?_ hro
  simp only [Try.ntmps11, List.size_toArray, List.length_cons, List.length_nil, Nat.reduceAdd, Nat.reduceSub, Array.replicate_succ, Array.replicate_zero, List.push_toArray, List.append_toArray, List.nil_append, List.cons_append]
  gi_wp2
  refine hcnt.mono ?_
  rintro e W2 ⟨rfl, rfl⟩
  gi_wp2
  refine (St.sets_in F (m - 1) h24 hro (.slice none 0 0) (d : Int) (k : Int) rfl _).mono ?_
  rintro e W3 ⟨rfl, hW3⟩
  obtain ⟨Z, hZ⟩ : ∃ Z, Z = (W.alloc (.cells #[.int .i64 0, .slice none 0 0] 25)).alloc (.cells #[.int .i64 (d : Int), .slice none 0 0] 25) := ⟨_, rfl⟩
  rw [← hZ] at hW3 ⊢
  have szZ : Z.heap.size = W.heap.size + 2 := by rw [hZ]; simp
  have bZ : Below W.heap.size W Z := by rw [hZ]; exact ((Below.refl _ W).alloc (Nat.le_refl _) _).alloc (by simp) _
  have bW3 : Below Z.heap.size Z W3 := by rw [hW3]; exact (((Below.refl _ Z).alloc (Nat.le_refl _) _).alloc (by simp) _).alloc (by simp; omega) _
  have z4 : Z.heap[W.heap.size]? = some (.cells #[.int .i64 0, .slice none 0 0] 25) := by
    rw [hZ]; exact (Below.heap_alloc _ _ _ (by simp)).trans (World.alloc_heap_new W _)
  have z6 : Z.heap[W.heap.size + 1]? = some (.cells #[.int .i64 (d : Int), .slice none 0 0] 25) := by
    have := World.alloc_heap_new (W.alloc (.cells #[.int .i64 0, .slice none 0 0] 25)) (.cells #[.int .i64 (d : Int), .slice none 0 0] 25)
    rw [World.size_alloc] at this
    rw [hZ]; exact this
  obtain ⟨n1, n2, n3⟩ := St.boxes Z (.slice none 0 0) (.int .i64 (d : Int)) (.int .i64 (k : Int)) 40 3 3
  rw [← hW3] at n1 n2 n3
  have hInv : St.CInv W W.heap.size (W.heap.size + 1) d (.slice none 0 0) [] (fun b => b = W.heap.size + 1) W3 :=
    ⟨(bW3.block _ (by omega)).trans z4, (bW3.block _ (by omega)).trans z6, ⟨rfl, .inl ⟨rfl, rfl⟩⟩, (fun x hx => by cases hx), (fun b => by simp [Value.ownBlock]), bZ.trans (bW3.mono (by omega))⟩
  have hne : ¬ St.Own Z.heap.size (Z.heap.size + 2) (Z.heap.size + 1) none (W.heap.size + 1) := by
    rintro (h | h | h | ⟨g, e, _⟩)
    · omega
    · omega
    · omega
    · cases e
  clear hZ hW3 szZ
  gi_wp2
  refine St.range11 F hd m h24 h32 h33 hro (St.clone_in F h33 hro) d k h2 h4 _ _ _ W3 n1 n3 n2 W W.heap.size (W.heap.size + 1) hInv (by omega) (by omega) hne hlen _ _ _ _ _ _ _ _ _ _ _ _ _ _ _ _ _ _ _ _ _ _ _ _ _ _ _ _ _ _ _ _ _ _ _ _ _ _ _ _ _ _ _ _ ?_
  rintro X D v xs C hD hnD hDx hc hxs
  dsimp only
  have x40 : X.cell? ⟨W.heap.size, 0, none⟩ = some (.int .i64 0) := by simp [World.cell?, hc.c4]
  have x41 : X.cell? ⟨W.heap.size, 1, none⟩ = some (.slice none 0 0) := by simp [World.cell?, hc.c4]
  have x60 : X.cell? ⟨W.heap.size + 1, 0, none⟩ = some (.int .i64 (d : Int)) := by simp [World.cell?, hc.c6]
  have x61 : X.cell? ⟨W.heap.size + 1, 1, none⟩ = some v := by simp [World.cell?, hc.c6]
  have f40 : X.frozen? ⟨W.heap.size, 0, none⟩ = false := by simp [World.frozen?, hc.c4]
  have f41 : X.frozen? ⟨W.heap.size, 1, none⟩ = false := by simp [World.frozen?, hc.c4]
  obtain ⟨va, vn, vc, rfl⟩ : ∃ a n c, v = .slice a n c := by
    rcases hc.own.2 with ⟨e, _⟩ | ⟨g, cap, cur, e, _⟩ <;> exact ⟨_, _, _, e⟩
  gi_wp2
  obtain ⟨Y, hY⟩ : ∃ Y, Y = (X.setCell ⟨W.heap.size, 0, none⟩ (.int .i64 (d : Int))).setCell ⟨W.heap.size, 1, none⟩ (.slice va vn vc) := ⟨_, rfl⟩
  rw [← hY]
  have y4 : Y.heap[W.heap.size]? = some (.cells #[.int .i64 (d : Int), .slice va vn vc] 25) := by
    have h1 := Lib.heap_setCell_same (i := 0) hc.c4 (.int .i64 (d : Int))
    have h2 := Lib.heap_setCell_same (i := 1) h1 (.slice va vn vc)
    rw [hY]; exact h2
  have ky : ∀ (b : Nat) (o : Obj), X.heap[b]? = some o → b ≠ W.heap.size → Y.heap[b]? = some o := fun b o ho hne => by
    rw [hY, Below.heap_setCell _ ⟨W.heap.size, 1, none⟩ _ b hne, Below.heap_setCell _ ⟨W.heap.size, 0, none⟩ _ b hne]; exact ho
  have hD4 : D ≠ W.heap.size := fun e => by rw [e, hc.c4] at hDx; injection hDx with hDx; cases hDx
  have yD := ky _ _ hDx hD4
  have kz : ∀ (b : Nat) (cur : Array Value) (e : TypeId), X.heap[b]? = some (.cells cur e) → e ≠ 25 → (Y.putObj D (.deferred none)).heap[b]? = some (.cells cur e) := fun b cur e ho he => by
    have h1 : b ≠ W.heap.size := fun h => by rw [h, hc.c4] at ho; injection ho with ho; injection ho with _ ho; exact he ho.symm
    have h2 : b ≠ D := fun h => by rw [h, hDx] at ho; injection ho with ho; cases ho
    exact (World.putObj_heap_other h2).trans (ky _ _ ho h1)
  have z4' : (Y.putObj D (.deferred none)).heap[W.heap.size]? = some (.cells #[.int .i64 (d : Int), .slice va vn vc] 25) := (World.putObj_heap_other (Ne.symm hD4)).trans y4
  refine ⟨by simp, .inl ⟨D, Y.putObj D (.deferred none), rfl, run_takeDeferred yD, ?_⟩⟩
  refine ⟨_, St.results11 _ _ W.heap.size d (.slice va vn vc) 0 rfl rfl (by simp [World.cell?, z4']) (by simp [World.cell?, z4']) ⟨_, _, _, rfl⟩, .slice va vn vc, xs, rfl, hxs, ?_, ?_, ?_⟩
  · exact St.own_keep hc.own fun g cur hg _ => kz g cur 40 hg (by decide)
  · exact fun x hx => ⟨St.own_keep (hc.rows x hx).1 fun g cur hg _ => kz g cur 3 hg (by decide), (hc.rows x hx).2⟩
  · have b1 : Below W.heap.size W Y := by rw [hY]; exact (hc.below.setCell (p := ⟨W.heap.size, 0, none⟩) (Nat.le_refl _) _).setCell (p := ⟨W.heap.size, 1, none⟩) (Nat.le_refl _) _
    exact St.below_grown b1 (Nat.le_refl _) (grownBy_putObj' Y D _) fun r e => by cases e; exact hD
end Go.Proofs
namespace Go.Am.C07
open Go Go.Am Go.Am.V Go.RowKit
def layB (bs : List Blk) (n : Nat) (m : FM) : FM := fun b => if n ≤ b ∧ b < n + bs.length then bs[b - n]? else m b
theorem layB_new {bs : List Blk} {n i : Nat} {m : FM} (h : i < bs.length) : layB bs n m (n + i) = bs[i]? := by
  unfold layB
  rw [if_pos (by omega), Nat.add_sub_cancel_left]
theorem layB_old {bs : List Blk} {n b : Nat} {m : FM} (h : b < n) : layB bs n m b = m b := by
  unfold layB
  rw [if_neg (by omega)]
theorem layB_loc (bs : List Blk) (n : Nat) (m : FM) : Loc (μ := FM) m n (layB bs n m) (n + bs.length) (newW n bs.length) := by
  refine ⟨Nat.le_add_right _ _, fun b hb => ?_, fun b h1 h2 => by rw [newW_test]; simp; omega⟩
  rw [newW_test] at hb
  show layB bs n m b = m b
  unfold layB
  rw [if_neg]
  intro hh
  simp at hb
  omega
theorem post_news {ρ : Ren} {V : Nat → Option Blk} {w w' : World} {B n : Nat} (hm : MRel ρ V w B) (hfree : Free ρ n) (m : FM) (bs : List Blk) (ps : List Place) (hl : ps.length = bs.length) (hbw : Below w.heap.size w w')
    (hps : ∀ p ∈ ps, w.heap.size ≤ p.blk ∧ p.blk < w'.heap.size) (hnw : ∀ O ∈ bs, O.wr = false)
    (hr : ∀ ρ' : Ren, ρ.le ρ' → (∀ (i : Nat) p, ps[i]? = some p → ρ' (n + i) = some p) → ∀ (i : Nat) p O, ps[i]? = some p → bs[i]? = some O → BRel ρ' w' B p O) :
    ∃ ρ' : Ren, (∀ (i : Nat) p, ps[i]? = some p → ρ' (n + i) = some p) ∧ Post ρ V w B n (layB bs n m) (n + bs.length) (newW n bs.length) ρ' w' := by
  obtain ⟨ρ', hρ'⟩ : ∃ ρ' : Ren, ρ' = fun b => if b < n then ρ b else ps[b - n]? := ⟨_, rfl⟩
  have hold : ∀ b, b < n → ρ' b = ρ b := fun b hb => by rw [hρ']; simp [hb]
  have hnew : ∀ (i : Nat) p, ps[i]? = some p → ρ' (n + i) = some p := fun i p hi => by
    rw [hρ']
    simp only [if_neg (show ¬ n + i < n by omega), Nat.add_sub_cancel_left]
    exact hi
  have hle : ρ.le ρ' := fun b p hb => by
    by_cases hbn : b < n
    · rw [hold b hbn]; exact hb
    · rw [hfree b (by omega)] at hb; cases hb
  have hinv : ∀ b p, ρ' b = some p → (b < n ∧ ρ b = some p) ∨ (∃ i, i < bs.length ∧ b = n + i ∧ ps[i]? = some p) := fun b p hb => by
    by_cases h1 : b < n
    · exact .inl ⟨h1, by rw [← hold b h1]; exact hb⟩
    · rw [hρ'] at hb
      simp only [if_neg h1] at hb
      have := (List.getElem?_eq_some_iff.1 hb).1
      exact .inr ⟨b - n, by omega, by omega, hb⟩
  have hupo : ∀ b, b < n → upd V (newW n bs.length) (layB bs n m) b = V b := fun b hb => by
    unfold upd
    rw [newW_test, if_neg (by simp; omega)]
  have hupn : ∀ i, i < bs.length → upd V (newW n bs.length) (layB bs n m) (n + i) = bs[i]? := fun i hi => by
    unfold upd
    rw [newW_test, if_pos (by simp; omega)]
    exact layB_new hi
  refine ⟨ρ', hnew, hle, fun b p hb => ?_, ⟨fun b p O hb hO => ?_, fun b1 b2 p1 p2 O1 O2 h1 h2 hO1 hO2 hne hw1 => ?_, fun b p hb' => ?_, Nat.le_trans hm.le hbw.size⟩, hbw.mono hm.le, Nat.le_add_right _ _, fun k hk _ => hbw.block k hk, fun b p hb' => ?_, fun b hb' => ?_⟩
  · rcases hinv b p hb with ⟨h1, h2⟩ | ⟨i, hi, rfl, h2⟩
    · exact .inl h2
    · exact .inr ⟨by omega, by omega⟩
  · rcases hinv b p hb with ⟨h1, h2⟩ | ⟨i, hi, rfl, h2⟩
    · rw [hupo b h1] at hO
      exact (hm.blk b p O h2 hO).mono hle (hbw.block _ (hm.fresh b p h2))
    · rw [hupn i hi] at hO
      exact hr ρ' hle hnew i p O h2 hO
  · rcases hinv b1 p1 h1 with ⟨k1, k2⟩ | ⟨i1, hi1, rfl, k2⟩ <;> rcases hinv b2 p2 h2 with ⟨q1, q2⟩ | ⟨i2, hi2, rfl, q2⟩
    · rw [hupo b1 k1] at hO1
      rw [hupo b2 q1] at hO2
      exact hm.excl b1 b2 p1 p2 O1 O2 k2 q2 hO1 hO2 hne hw1
    · have := hm.fresh b1 p1 k2
      have := (hps p2 (List.mem_of_getElem? q2)).1
      omega
    · have := hm.fresh b2 p2 q2
      have := (hps p1 (List.mem_of_getElem? k2)).1
      omega
    · rw [hupn i1 hi1] at hO1
      have := hnw O1 (List.mem_of_getElem? hO1)
      rw [this] at hw1; cases hw1
  · rcases hinv b p hb' with ⟨h1, h2⟩ | ⟨i, hi, rfl, h2⟩
    · exact Nat.lt_of_lt_of_le (hm.fresh b p h2) hbw.size
    · exact (hps p (List.mem_of_getElem? h2)).2
  · rcases hinv b p hb' with ⟨h1, h2⟩ | ⟨i, hi, rfl, h2⟩
    · exact .inl h2
    · exact .inr (.inl (hps p (List.mem_of_getElem? h2)).1)
  · rw [newW_test] at hb'
    simp at hb'
    have hi : b - n < ps.length := by omega
    refine ⟨⟨ps[b - n], ?_⟩, fun h => by omega⟩
    have := hnew (b - n) _ (List.getElem?_eq_getElem hi)
    rwa [show n + (b - n) = b by omega] at this
noncomputable def cplL (D K : Int) : List (List Int) := Proofs.St.combos D K.toNat 0 []
noncomputable def cplB (n : Nat) (L : List (List Int)) : List Blk := L.map (fun g => Blk.cells (g.map (Value.int .i64)) 1 false false) ++ [Blk.cells ((List.range L.length).map fun i => .slice (some ⟨n + i, 0, none⟩) (L.getD i []).length UNK) 1 false false]
theorem cplB_len (n : Nat) (L : List (List Int)) : (cplB n L).length = L.length + 1 := by simp [cplB]
def zeroT (e : Int) : Value := .tuple #[.agg #[.int .i64 0, .slice none 0 0], .int .i64 e]
def cplBad (D K : Int) : Prop := D < 2 ∨ 60 < D ∨ K < 2 ∨ D < K
noncomputable def cplN (D K : Int) : Int := Proofs.St.cnt D (min K.toNat (D.toNat - K.toNat)) 0 1
def cplFit (L : List (List Int)) : Prop := L ≠ [] ∧ L.length ≤ 4096 ∧ ∀ g ∈ L, g ≠ []
open Classical in
noncomputable def cplR (D K : Int) (m : FM) (n : Nat) : OR FM :=
  if cplBad D K then .ok (zeroT 1) m n 0 0 else if 4096 < cplN D K then .ok (zeroT 7) m n 0 0 else
  if cplFit (cplL D K) then .ok (.tuple #[.agg #[.int .i64 D, .slice (some ⟨n + (cplL D K).length, 0, none⟩) (cplL D K).length UNK], .int .i64 0]) (layB (cplB n (cplL D K)) n m) (n + (cplB n (cplL D K)).length) 0 (newW n (cplB n (cplL D K)).length) else .no
noncomputable def cplA (f : Nat) (args : List Value) (m : FM) (n : Nat) : OR FM :=
  match args with
  | [.int .i64 D, .int .i64 K] => cond (Nat.beq f 11) (cplR D K m n) .no
  | _ => .no
theorem cplA_ok {f : Nat} {args : List Value} {m m' : FM} {n n' r w : Nat} {v : Value} (h : cplA f args m n = .ok v m' n' r w) : f = 11 ∧ ∃ D K, args = [.int .i64 D, .int .i64 K] ∧ cplR D K m n = .ok v m' n' r w := by
  unfold cplA at h
  split at h
  · rename_i D K
    cases hb : Nat.beq f 11
    · rw [hb] at h; cases h
    · rw [hb, cond_true] at h
      exact ⟨Nat.eq_of_beq_eq_true hb, D, K, rfl, h⟩
  · cases h
theorem cplA_loc : CallLoc (μ := FM) cplA := fun f args m n v m' n' r wm h => by
  obtain ⟨_, D, K, _, h⟩ := cplA_ok h
  unfold cplR at h
  split at h
  · cases h; exact Loc.refl _ _
  split at h
  · cases h; exact Loc.refl _ _
  split at h
  · cases h; exact layB_loc _ _ _
  · cases h
def placeOf : Value → Place
  | .slice (some a) _ c => ⟨a.block, 0, c, 1⟩
  | _ => ⟨0, 0, 0, 1⟩
theorem args_flat {ρ : Ren} {args : List Value} {args' : Array Value} (hargs : LRel ρ args args'.toList) (h1 : args.all flat = true) : args' = args.toArray := by
  apply Array.ext'
  apply List.ext_getElem?
  intro i
  show args'.toList[i]? = args[i]?
  cases ha : args[i]? with
  | none =>
    have hl := hargs.1
    rw [List.getElem?_eq_none_iff] at ha ⊢
    omega
  | some x =>
    have hi : i < args'.toList.length := by rw [← hargs.1]; exact (List.getElem?_eq_some_iff.1 ha).1
    have hy : args'.toList[i]? = some args'.toList[i] := List.getElem?_eq_getElem hi
    have := (hargs.2 i _ _ ha hy).flat_eq (List.all_eq_true.1 h1 x (List.mem_of_getElem? ha))
    rw [hy, this]
theorem brel_own {ρ : Ren} {w : World} {B base e n : Nat} {v : Value} {xs ys : List Value} (h : w.ownsRow base e 1 v n ys) (hn : n ≠ 0) (hxy : LRel ρ xs ys) :
    BRel ρ w B (placeOf v) (.cells xs 1 false false) ∧ ∃ g cap, v = .slice (some ⟨g, 0, none⟩) n cap ∧ n ≤ cap ∧ base ≤ g ∧ g < w.heap.size := by
  obtain ⟨hl, h2⟩ := h
  rcases h2 with ⟨_, h0⟩ | ⟨g, cap, cur, rfl, hb, hg, hc, _, hs, ht⟩
  · exact absurd h0 hn
  · refine ⟨⟨rfl, cur, e, (0, 0), hg, fun i x hx => ?_, (fun h => by cases h), (fun h => by cases h), ?_⟩, g, cap, rfl, hc, hb, (Array.getElem?_eq_some_iff.1 hg).1⟩
    · obtain ⟨y, hy, hr⟩ := hxy.get hx
      refine ⟨y, ?_, hr⟩
      rw [← ht, List.getElem?_take] at hy
      split at hy
      · show cur[0 + i]? = some y
        rw [Nat.zero_add, ← Array.getElem?_toList]; exact hy
      · cases hy
    · have := hxy.1
      show 0 + xs.length ≤ cur.size
      omega
theorem own_form {w : World} {base e n : Nat} {v : Value} {ys : List Value} (h : w.ownsRow base e 1 v n ys) (hn : n ≠ 0) : ∃ g cap, v = .slice (some ⟨g, 0, none⟩) n cap ∧ n ≤ cap ∧ base ≤ g ∧ g < w.heap.size := by
  obtain ⟨hl, h2⟩ := h
  rcases h2 with ⟨_, h0⟩ | ⟨g, cap, cur, rfl, hb, hg, hc, _, hs, ht⟩
  · exact absurd h0 hn
  · exact ⟨g, cap, rfl, hc, hb, (Array.getElem?_eq_some_iff.1 hg).1⟩
theorem cplA_sim : CallSim (μ := FM) Proofs.Try.prog cplA := by
  intro f args m n v m' n' r wm h ρ V w B F args' hargs hF hag hm hfree
  have h0 := cplA_ok h
  clear h
  obtain ⟨rfl, D, K, rfl, h⟩ := h0
  obtain rfl := args_flat hargs rfl
  refine ⟨⟨_, _, Proofs.Try.func11, by decide +kernel, rfl⟩, (callsIn_wide (n := 0)).1 ?_⟩
  unfold cplR at h
  split at h
  · rename_i hbad
    injection h with e1 e2 e3 e4 e5
    subst e1; subst e2; subst e3; subst e4; subst e5
    refine (Proofs.St.complete_arg Fence.wide trivial rfl 0 D K hbad w).mono ?_
    rintro e w' ⟨rfl, hb⟩
    exact ⟨ρ, _, rfl, (LRel.cons (LRel.cons (.int ρ _ _) (LRel.cons (.flat rfl) (.nil ρ))).agg (LRel.cons (.int ρ _ _) (.nil ρ))).tuple, Post.of_below hm hb⟩
  rename_i hbad
  unfold cplBad at hbad
  obtain ⟨d, rfl⟩ : ∃ d : Nat, D = (d : Int) := ⟨D.toNat, by omega⟩
  obtain ⟨k, rfl⟩ : ∃ k : Nat, K = (k : Int) := ⟨K.toNat, by omega⟩
  split at h
  · rename_i hlim
    injection h with e1 e2 e3 e4 e5
    subst e1; subst e2; subst e3; subst e4; subst e5
    refine (Proofs.St.complete_limit Fence.wide trivial trivial rfl rfl 0 d k (by omega) (by omega) (by omega) (by omega) hlim w).mono ?_
    rintro e w' ⟨rfl, hb⟩
    exact ⟨ρ, _, rfl, (LRel.cons (LRel.cons (.int ρ _ _) (LRel.cons (.flat rfl) (.nil ρ))).agg (LRel.cons (.int ρ _ _) (.nil ρ))).tuple, Post.of_below hm hb⟩
  rename_i hlim
  split at h
  · rename_i hfit
    obtain ⟨f0, f1, f2⟩ := hfit
    injection h with e1 e2 e3 e4 e5
    subst e1; subst e2; subst e3; subst e4; subst e5
    refine (Proofs.St.complete_ok Fence.wide trivial trivial trivial trivial trivial rfl rfl 0 d k (by omega) (by omega) (by omega) (by omega) (by unfold cplN at hlim; simpa using hlim) f1 w).mono ?_
    rintro e w' ⟨v, xs, rfl, hxs, hown, hrows, hb⟩
    have hL : cplL (d : Int) (k : Int) = xs.map Prod.snd := hxs.symm
    rw [hL] at f0 f1 f2 ⊢
    clear hL hxs
    have hne : xs.length ≠ 0 := fun e => f0 (by rw [List.length_eq_zero_iff.1 e]; rfl)
    have hx2 : ∀ x ∈ xs, x.2 ≠ [] := fun x hx => f2 x.2 (List.mem_map_of_mem hx)
    have hone : ∀ x ∈ xs, ∀ ρ' : Ren, BRel ρ' w' B (placeOf x.1) (.cells (x.2.map (Value.int .i64)) 1 false false) ∧ ∃ g cap, x.1 = .slice (some ⟨g, 0, none⟩) x.2.length cap ∧ x.2.length ≤ cap ∧ w.heap.size ≤ g ∧ g < w'.heap.size := fun x hx ρ' =>
      brel_own (hrows x hx).1 (fun e => hx2 x hx (List.length_eq_zero_iff.1 e)) ⟨rfl, fun i a b ha hb' => by
        rw [ha] at hb'; injection hb' with hb'; subst hb'
        rw [List.getElem?_map, Option.map_eq_some_iff] at ha
        obtain ⟨z, _, rfl⟩ := ha
        exact .int ρ' _ _⟩
    have hcl : ∀ ρ' : Ren, (∀ (i : Nat) p, (xs.map (fun x => placeOf x.1) ++ [placeOf v])[i]? = some p → ρ' (n + i) = some p) →
        LRel ρ' ((List.range (xs.map Prod.snd).length).map fun i => Value.slice (some ⟨n + i, 0, none⟩) ((xs.map Prod.snd).getD i []).length UNK) (xs.map Prod.fst) := fun ρ' hρ => by
      refine ⟨by simp, fun i a b ha hb' => ?_⟩
      have hi : i < xs.length := by have := (List.getElem?_eq_some_iff.1 hb').1; simpa using this
      simp only [List.getElem?_map, List.getElem?_range, List.length_map, hi, List.getElem?_eq_getElem hi, Option.map_some, Option.some.injEq] at ha hb'
      obtain ⟨_, g, cap, hg, hc, _, _⟩ := hone _ (List.getElem_mem hi) ρ'
      have hp := hρ i (placeOf xs[i].1) (by rw [List.getElem?_append_left (by simpa using hi), List.getElem?_map, List.getElem?_eq_getElem hi]; rfl)
      rw [← ha, ← hb', hg]
      have hgl : ((xs.map Prod.snd).getD i []).length = xs[i].2.length := by
        rw [List.getD_eq_getElem?_getD, List.getElem?_map, List.getElem?_eq_getElem hi]; rfl
      rw [hgl]
      rw [hg] at hp
      exact VRel.slice (o := 0) hp hc (fun _ => by show 0 + cap * 1 = cap; omega) (fun h => absurd rfl h) (by unfold UNK VAG; omega)
    obtain ⟨g, cap, hv, hc, hg0, hg1⟩ := own_form hown hne
    have c1 : ∀ p ∈ xs.map (fun x => placeOf x.1) ++ [placeOf v], w.heap.size ≤ p.blk ∧ p.blk < w'.heap.size := fun p hp => by
      rcases List.mem_append.1 hp with hp | hp
      · obtain ⟨x, hx, rfl⟩ := List.mem_map.1 hp
        obtain ⟨_, g', cap', hg', _, h1, h2⟩ := hone x hx ρ
        rw [hg']; exact ⟨h1, h2⟩
      · rw [List.mem_singleton] at hp
        rw [hp, hv]; exact ⟨hg0, hg1⟩
    have c2 : ∀ O ∈ cplB n (xs.map Prod.snd), O.wr = false := fun O hO => by
      rcases List.mem_append.1 hO with hO | hO
      · obtain ⟨x, _, rfl⟩ := List.mem_map.1 hO; rfl
      · rw [List.mem_singleton] at hO
        rw [hO]; rfl
    have c3 : ∀ ρ' : Ren, ρ.le ρ' → (∀ (i : Nat) p, (xs.map (fun x => placeOf x.1) ++ [placeOf v])[i]? = some p → ρ' (n + i) = some p) → ∀ (i : Nat) p O, (xs.map (fun x => placeOf x.1) ++ [placeOf v])[i]? = some p → (cplB n (xs.map Prod.snd))[i]? = some O → BRel ρ' w' B p O := fun ρ' _ hρ i p O hp hO => by
      rcases Nat.lt_or_ge i xs.length with hi | hi
      · rw [List.getElem?_append_left (by simpa using hi), List.getElem?_map, List.getElem?_eq_getElem hi] at hp
        unfold cplB at hO
        rw [List.getElem?_append_left (by simpa using hi), List.getElem?_map, List.getElem?_map, List.getElem?_eq_getElem hi] at hO
        injection hp with hp
        injection hO with hO
        rw [← hp, ← hO]
        exact (hone _ (List.getElem_mem hi) ρ').1
      · have hix : i < (xs.map (fun x => placeOf x.1) ++ [placeOf v]).length := (List.getElem?_eq_some_iff.1 hp).1
        simp only [List.length_append, List.length_map, List.length_singleton] at hix
        obtain rfl : i = xs.length := by omega
        unfold cplB at hO
        simp only [List.getElem?_append_right, List.length_map, Nat.le_refl, Nat.sub_self, List.getElem?_cons_zero, Option.some.injEq] at hp hO
        rw [← hp, ← hO]
        have := (brel_own (B := B) hown hne (hcl ρ' hρ)).1
        simpa using this
    obtain ⟨ρ', hρ, hp⟩ := post_news hm hfree m (cplB n (xs.map Prod.snd)) (xs.map (fun x => placeOf x.1) ++ [placeOf v]) (by rw [cplB_len]; simp) hb c1 c2 c3
    refine ⟨ρ', _, rfl, (LRel.cons (LRel.cons (.int ρ' _ _) (LRel.cons ?_ (.nil ρ'))).agg (LRel.cons (.int ρ' _ _) (.nil ρ'))).tuple, hp⟩
    have h1 := hρ xs.length (placeOf v) (by simp)
    rw [hv] at h1 ⊢
    rw [List.length_map]
    exact VRel.slice (o := 0) h1 hc (fun _ => by show 0 + cap * 1 = cap; omega) (fun h => absurd rfl h) (by unfold UNK VAG; omega)
  · cases h
end Go.Am.C07
namespace Go.Am.C07
open Go Go.Am Go.Am.V
set_option maxRecDepth 1000000
def arM (f : Nat) (q a b : Nat) (T : Tab) : Memo := { f := f, args := [.int .i64 (Int.ofNat q), .int .i64 (Int.ofNat a), .int .i64 (Int.ofNat b)], rs := [.i (tget T a b)], bs := [], pi := [] }
noncomputable def arB (f q : Nat) (T : Tab) : Bool := (List.range q).all fun a => (List.range q).all fun b => fitsB (arM f q a b T) (fcall Proofs.Try.prog (Fast.treeOf tab) Yf5 5000 6 f [.i (Int.ofNat q), .i (Int.ofNat a), .i (Int.ofNat b)] [] 0)
theorem ar_sim {f q a b : Nat} {T : Tab} (h : arB f q T = true) (ha : a < q) (hb : b < q) : CallSim Proofs.Try.prog (memoA (arM f q a b T)) := by
  unfold arB at h
  simp only [List.all_eq_true, List.mem_range] at h
  exact env6.memo (M := arM f q a b T) (fargs := [.i (Int.ofNat q), .i (Int.ofNat a), .i (Int.ofNat b)]) rfl rfl (h a ha b hb)
theorem ad2 : arB 40 2 A2 = true := by kernel_rfl
theorem mu2 : arB 41 2 T2 = true := by kernel_rfl
theorem ad3 : arB 40 3 A3 = true := by kernel_rfl
theorem mu3 : arB 41 3 T3 = true := by kernel_rfl
theorem ad4 : arB 40 4 A4 = true := by kernel_rfl
theorem mu4 : arB 41 4 T4 = true := by kernel_rfl
theorem ad5 : arB 40 5 A5 = true := by kernel_rfl
theorem mu5 : arB 41 5 T5 = true := by kernel_rfl
theorem ad7 : arB 40 7 A7 = true := by kernel_rfl
theorem mu7 : arB 41 7 T7 = true := by kernel_rfl
def cells3 : List P3 → List FV
  | [] => []
  | p :: l => .i (Int.ofNat p.x) :: .i (Int.ofNat p.y) :: .i (Int.ofNat p.z) :: cells3 l
def coM (q : Nat) (ps : List P3) (pi : List Nat) : Memo := { f := 39, args := [.int .i64 (Int.ofNat q)], rs := [.s 0 0 ps.length UNK], bs := [⟨cells3 ps, 3, true, true⟩], pi := pi }
def Co2 : List P3 := [⟨0, 0, 1⟩, ⟨0, 1, 0⟩, ⟨0, 1, 1⟩, ⟨1, 0, 0⟩, ⟨1, 0, 1⟩, ⟨1, 1, 0⟩, ⟨1, 1, 1⟩]
theorem co2 : fitsB (coM 2 Co2 [13]) (fcall Proofs.Try.prog (Fast.treeOf tab) Yf5 5000 6 39 [.i (Int.ofNat 2)] [] 0) = true := by kernel_rfl
theorem simc2 : CallSim Proofs.Try.prog (memoA (coM 2 Co2 [13])) := env6.memo (fargs := [.i (Int.ofNat 2)]) rfl rfl co2
def Co3 : List P3 := [⟨0, 0, 1⟩, ⟨0, 1, 0⟩, ⟨0, 1, 1⟩, ⟨0, 1, 2⟩, ⟨1, 0, 0⟩, ⟨1, 0, 1⟩, ⟨1, 0, 2⟩, ⟨1, 1, 0⟩, ⟨1, 1, 1⟩, ⟨1, 1, 2⟩, ⟨1, 2, 0⟩, ⟨1, 2, 1⟩, ⟨1, 2, 2⟩]
theorem co3 : fitsB (coM 3 Co3 [25]) (fcall Proofs.Try.prog (Fast.treeOf tab) Yf5 5000 6 39 [.i (Int.ofNat 3)] [] 0) = true := by kernel_rfl
theorem simc3 : CallSim Proofs.Try.prog (memoA (coM 3 Co3 [25])) := env6.memo (fargs := [.i (Int.ofNat 3)]) rfl rfl co3
def Co4 : List P3 := [⟨0, 0, 1⟩, ⟨0, 1, 0⟩, ⟨0, 1, 1⟩, ⟨0, 1, 2⟩, ⟨0, 1, 3⟩, ⟨1, 0, 0⟩, ⟨1, 0, 1⟩, ⟨1, 0, 2⟩, ⟨1, 0, 3⟩, ⟨1, 1, 0⟩, ⟨1, 1, 1⟩, ⟨1, 1, 2⟩, ⟨1, 1, 3⟩, ⟨1, 2, 0⟩, ⟨1, 2, 1⟩, ⟨1, 2, 2⟩, ⟨1, 2, 3⟩, ⟨1, 3, 0⟩, ⟨1, 3, 1⟩, ⟨1, 3, 2⟩, ⟨1, 3, 3⟩]
theorem co4 : fitsB (coM 4 Co4 [41]) (fcall Proofs.Try.prog (Fast.treeOf tab) Yf5 5000 6 39 [.i (Int.ofNat 4)] [] 0) = true := by kernel_rfl
theorem simc4 : CallSim Proofs.Try.prog (memoA (coM 4 Co4 [41])) := env6.memo (fargs := [.i (Int.ofNat 4)]) rfl rfl co4
def Co5 : List P3 := [⟨0, 0, 1⟩, ⟨0, 1, 0⟩, ⟨0, 1, 1⟩, ⟨0, 1, 2⟩, ⟨0, 1, 3⟩, ⟨0, 1, 4⟩, ⟨1, 0, 0⟩, ⟨1, 0, 1⟩, ⟨1, 0, 2⟩, ⟨1, 0, 3⟩, ⟨1, 0, 4⟩, ⟨1, 1, 0⟩, ⟨1, 1, 1⟩, ⟨1, 1, 2⟩, ⟨1, 1, 3⟩, ⟨1, 1, 4⟩, ⟨1, 2, 0⟩, ⟨1, 2, 1⟩, ⟨1, 2, 2⟩, ⟨1, 2, 3⟩, ⟨1, 2, 4⟩, ⟨1, 3, 0⟩, ⟨1, 3, 1⟩, ⟨1, 3, 2⟩, ⟨1, 3, 3⟩, ⟨1, 3, 4⟩, ⟨1, 4, 0⟩, ⟨1, 4, 1⟩, ⟨1, 4, 2⟩, ⟨1, 4, 3⟩, ⟨1, 4, 4⟩]
theorem co5 : fitsB (coM 5 Co5 [61]) (fcall Proofs.Try.prog (Fast.treeOf tab) Yf5 5000 6 39 [.i (Int.ofNat 5)] [] 0) = true := by kernel_rfl
theorem simc5 : CallSim Proofs.Try.prog (memoA (coM 5 Co5 [61])) := env6.memo (fargs := [.i (Int.ofNat 5)]) rfl rfl co5
def Co7 : List P3 := [⟨0, 0, 1⟩, ⟨0, 1, 0⟩, ⟨0, 1, 1⟩, ⟨0, 1, 2⟩, ⟨0, 1, 3⟩, ⟨0, 1, 4⟩, ⟨0, 1, 5⟩, ⟨0, 1, 6⟩, ⟨1, 0, 0⟩, ⟨1, 0, 1⟩, ⟨1, 0, 2⟩, ⟨1, 0, 3⟩, ⟨1, 0, 4⟩, ⟨1, 0, 5⟩, ⟨1, 0, 6⟩, ⟨1, 1, 0⟩, ⟨1, 1, 1⟩, ⟨1, 1, 2⟩, ⟨1, 1, 3⟩, ⟨1, 1, 4⟩, ⟨1, 1, 5⟩, ⟨1, 1, 6⟩, ⟨1, 2, 0⟩, ⟨1, 2, 1⟩, ⟨1, 2, 2⟩, ⟨1, 2, 3⟩, ⟨1, 2, 4⟩, ⟨1, 2, 5⟩, ⟨1, 2, 6⟩, ⟨1, 3, 0⟩, ⟨1, 3, 1⟩, ⟨1, 3, 2⟩, ⟨1, 3, 3⟩, ⟨1, 3, 4⟩, ⟨1, 3, 5⟩, ⟨1, 3, 6⟩, ⟨1, 4, 0⟩, ⟨1, 4, 1⟩, ⟨1, 4, 2⟩, ⟨1, 4, 3⟩, ⟨1, 4, 4⟩, ⟨1, 4, 5⟩, ⟨1, 4, 6⟩, ⟨1, 5, 0⟩, ⟨1, 5, 1⟩, ⟨1, 5, 2⟩, ⟨1, 5, 3⟩, ⟨1, 5, 4⟩, ⟨1, 5, 5⟩, ⟨1, 5, 6⟩, ⟨1, 6, 0⟩, ⟨1, 6, 1⟩, ⟨1, 6, 2⟩, ⟨1, 6, 3⟩, ⟨1, 6, 4⟩, ⟨1, 6, 5⟩, ⟨1, 6, 6⟩]
theorem co7 : fitsB (coM 7 Co7 [113]) (fcall Proofs.Try.prog (Fast.treeOf tab) Yf5 5000 6 39 [.i (Int.ofNat 7)] [] 0) = true := by kernel_rfl
theorem simc7 : CallSim Proofs.Try.prog (memoA (coM 7 Co7 [113])) := env6.memo (fargs := [.i (Int.ofNat 7)]) rfl rfl co7
end Go.Am.C07
namespace Go.Am.C07
open Go Go.Am
variable {E : Nat → Option AFn} {Y : Nat → List Value → FM → Nat → OR FM}
def dotP (A M : Tab) (p r : P3) : Nat := addN A (addN A (addN A 0 (addN M p.x r.x)) (addN M p.y r.y)) (addN M p.z r.z)
theorem dot_spec (hE : E 35 = some ac35) (h42 : E 50 = some ac50) (h31 : E 38 = some ac38) (h30 : E 37 = some ac37) {m : FM} {n : Nat} {sv : Value} {q : Nat} {A M : Tab} (h : SpaceP m n sv q A M) (hg : GoodT q A M) {p r : P3} (hp : p.lt q) (hr : r.lt q) : Pure (callW PG E Y 35 [sv, .agg p.cells.toArray, .agg r.cells.toArray] m n) m n (.int .i64 (dotP A M p r : Int)) := by
  obtain ⟨x, y, z⟩ := p
  obtain ⟨a, b, c⟩ := r
  obtain ⟨hx, hy, hz⟩ := hp
  obtain ⟨ha, hb, hc⟩ := hr
  simp only at hx hy hz ha hb hc
  obtain ⟨sb, pf, sx, sy, rfl, s1, s2, s3⟩ := h
  obtain ⟨x1, x2⟩ := hg.mulE hx ha
  obtain ⟨y1, y2⟩ := hg.mulE hy hb
  obtain ⟨z1, z2⟩ := hg.mulE hz hc
  have hq0 : 0 < q := by omega
  obtain ⟨u1, u2⟩ := hg.addE hq0 x2
  obtain ⟨v1, v2⟩ := hg.addE u2 y2
  obtain ⟨w1, w2⟩ := hg.addE v2 z2
  have hd : dotP A M ⟨x, y, z⟩ ⟨a, b, c⟩ = addN A (addN A (addN A 0 (addN M x a)) (addN M y b)) (addN M z c) := rfl
  rw [hd]
  generalize addN A (addN A (addN A 0 (addN M x a)) (addN M y b)) (addN M z c) = t3 at *
  generalize addN A (addN A 0 (addN M x a)) (addN M y b) = t2 at *
  generalize addN A 0 (addN M x a) = t1 at *
  generalize addN M x a = e1 at *
  generalize addN M y b = e2 at *
  generalize addN M z c = e3 at *
  refine pure_spec hE rfl rfl ?_
  simp only [ac35, P3.cells]
  have fzn : Nat.mod (bit n) (bit n) = 0 := frz_bit (Nat.le_refl _)
  have fzn1 : Nat.mod (bit (n + 1)) (bit n) = 0 := frz_bit (by omega)
  have i01 : (0 : Int) + 1 = 1 := rfl
  have i12 : (1 : Int) + 1 = 2 := rfl
  have i23 : (2 : Int) + 1 = 3 := rfl
  simp (implicitDefEqProofs := false) (disch := omega) only [W2, opds, Nat.testBit, Nat.reduceAdd, Nat.reduceShiftRight, Nat.reduceAnd, Nat.reduceBNe, Nat.reduceMul]
  generalize hM1 : (AMem.put (AMem.put m n (some (.cells [.int .i64 (x : Int), .int .i64 (y : Int), .int .i64 (z : Int)] 0 false true))) (n + 1) (some (.cells [.int .i64 (a : Int), .int .i64 (b : Int), .int .i64 (c : Int)] 0 false true)) : FM) = M1
  have b1 : M1 n = some (.cells [.int .i64 (x : Int), .int .i64 (y : Int), .int .i64 (z : Int)] 0 false true) := by rw [← hM1, fput_ne _ _ _ _ (by omega)]; exact fput_same _ _ _
  have b2 : M1 (n + 1) = some (.cells [.int .i64 (a : Int), .int .i64 (b : Int), .int .i64 (c : Int)] 0 false true) := by rw [← hM1]; exact fput_same _ _ _
  have bl : ∀ b, b < n → M1 b = m b := fun b hb => by rw [← hM1, fput_ne _ _ _ _ (by omega), fput_ne _ _ _ _ (by omega)]
  have bs : M1 sb = some (.cells [pf, sx, sy] 0 false true) := (bl sb s1).trans s2
  have hF : FieldM M1 (n + 2) pf q A M := s3.frame (by omega) bl
  have hbp := hF.bel (n + 2) (Nat.le_refl _)
  refine wr_unroll (L := ac35L0) (b := ac35L0b) rfl ?_
  simp only [ac35L0b]
  simp (implicitDefEqProofs := false) (disch := omega) only [W2, opds, Nat.testBit, Nat.reduceAdd, Nat.reduceShiftRight, Nat.reduceAnd, Nat.reduceBNe, Nat.reduceMul, bs, nilckV, b1, b2, hbp]
  refine use_pureX (mul_spec h31 h42 hF hx ha) fun _ => ?_
  rw [x1]
  simp (implicitDefEqProofs := false) (disch := omega) only [W2, opds, Nat.testBit, Nat.reduceAdd, Nat.reduceShiftRight, Nat.reduceAnd, Nat.reduceBNe, Nat.reduceMul, hbp]
  refine use_pureX (add_spec h30 h42 hF hq0 x2) fun _ => ?_
  rw [u1]
  simp (implicitDefEqProofs := false) (disch := omega) only [W2, opds, Nat.testBit, Nat.reduceAdd, Nat.reduceShiftRight, Nat.reduceAnd, Nat.reduceBNe, Nat.reduceMul, i01]
  refine wr_unroll (L := ac35L0) (b := ac35L0b) rfl ?_
  simp only [ac35L0b]
  simp (implicitDefEqProofs := false) (disch := omega) only [W2, opds, Nat.testBit, Nat.reduceAdd, Nat.reduceShiftRight, Nat.reduceAnd, Nat.reduceBNe, Nat.reduceMul, bs, nilckV, b1, b2, hbp]
  refine use_pureX (mul_spec h31 h42 hF hy hb) fun _ => ?_
  rw [y1]
  simp (implicitDefEqProofs := false) (disch := omega) only [W2, opds, Nat.testBit, Nat.reduceAdd, Nat.reduceShiftRight, Nat.reduceAnd, Nat.reduceBNe, Nat.reduceMul, hbp]
  refine use_pureX (add_spec h30 h42 hF u2 y2) fun _ => ?_
  rw [v1]
  simp (implicitDefEqProofs := false) (disch := omega) only [W2, opds, Nat.testBit, Nat.reduceAdd, Nat.reduceShiftRight, Nat.reduceAnd, Nat.reduceBNe, Nat.reduceMul, i12]
  refine wr_unroll (L := ac35L0) (b := ac35L0b) rfl ?_
  simp only [ac35L0b]
  simp (implicitDefEqProofs := false) (disch := omega) only [W2, opds, Nat.testBit, Nat.reduceAdd, Nat.reduceShiftRight, Nat.reduceAnd, Nat.reduceBNe, Nat.reduceMul, bs, nilckV, b1, b2, hbp]
  refine use_pureX (mul_spec h31 h42 hF hz hc) fun _ => ?_
  rw [z1]
  simp (implicitDefEqProofs := false) (disch := omega) only [W2, opds, Nat.testBit, Nat.reduceAdd, Nat.reduceShiftRight, Nat.reduceAnd, Nat.reduceBNe, Nat.reduceMul, hbp]
  refine use_pureX (add_spec h30 h42 hF v2 z2) fun _ => ?_
  rw [w1]
  simp (implicitDefEqProofs := false) (disch := omega) only [W2, opds, Nat.testBit, Nat.reduceAdd, Nat.reduceShiftRight, Nat.reduceAnd, Nat.reduceBNe, Nat.reduceMul, i23]
  refine wr_unroll (L := ac35L0) (b := ac35L0b) rfl ?_
  simp only [ac35L0b]
  simp (implicitDefEqProofs := false) (disch := omega) only [W2, opds, Nat.testBit, Nat.reduceAdd, Nat.reduceShiftRight, Nat.reduceAnd, Nat.reduceBNe, Nat.reduceMul]
end Go.Am.C07
namespace Go.Am.C07
open Go Go.Am
variable {E : Nat → Option AFn} {Y : Nat → List Value → FM → Nat → OR FM}
def numMC : List P3 → Nat → MC
  | [], _ => []
  | p :: l, i => (p.c, .int .i64 (i : Int)) :: numMC l (i + 1)
theorem numMC_app : ∀ (l : List P3) (p : P3) (i : Nat), numMC (l ++ [p]) i = numMC l i ++ [(p.c, .int .i64 ((i + l.length : Nat) : Int))]
  | [], p, i => rfl
  | r :: l, p, i => by
    show (r.c, _) :: numMC (l ++ [p]) (i + 1) = _
    rw [numMC_app l p (i + 1), List.length_cons, show i + 1 + l.length = i + (l.length + 1) by omega]; rfl
theorem P3.c_inj {p r : P3} (h : p.c = r.c) : p = r := by
  cases p; cases r
  simp only [P3.c, C3.mk.injEq, Int.natCast_inj] at h
  obtain ⟨rfl, rfl, rfl⟩ := h; rfl
theorem idx_new : ∀ {l : List P3} {p : P3} (i : Nat), p ∉ l → idxK3 p.c (numMC l i) = none
  | [], p, i, _ => rfl
  | r :: l, p, i, h => by
    show (if p.c = r.c then some 0 else (idxK3 p.c (numMC l (i + 1))).map (· + 1)) = none
    rw [if_neg fun e => h (by rw [P3.c_inj e]; exact List.mem_cons_self ..), idx_new (i + 1) fun hm => h (List.mem_cons_of_mem _ hm)]; rfl
def p0 : P3 := ⟨0, 0, 0⟩
def stepP (T : Tab) (ps : List P3) (p : P3) : List P3 := if normP T p = p ∧ p ≠ p0 then ps ++ [p] else ps
def foldZ (T : Tab) (x y : Nat) (ps : List P3) : Nat → List P3
  | 0 => ps
  | k + 1 => stepP T (foldZ T x y ps k) ⟨x, y, k⟩
def foldY (T : Tab) (q x : Nat) (ps : List P3) : Nat → List P3
  | 0 => ps
  | k + 1 => foldZ T x k (foldY T q x ps k) q
def foldX (T : Tab) (q : Nat) : Nat → List P3
  | 0 => []
  | k + 1 => foldY T q k (foldX T q k) q
def Low (ps : List P3) (q x y z : Nat) : Prop := ∀ r ∈ ps, r.lt q ∧ (r.x < x ∨ (r.x = x ∧ (r.y < y ∨ (r.y = y ∧ r.z < z))))
theorem Low.not {ps : List P3} {q x y z : Nat} (h : Low ps q x y z) : (⟨x, y, z⟩ : P3) ∉ ps := fun hm => by
  have := (h _ hm).2
  simp only at this
  omega
theorem Low.step {T : Tab} {ps : List P3} {q x y z : Nat} (h : Low ps q x y z) (hx : x < q) (hy : y < q) (hz : z < q) : Low (stepP T ps ⟨x, y, z⟩) q x y (z + 1) := by
  have h1 : Low ps q x y (z + 1) := fun r hr => ⟨(h r hr).1, by have := (h r hr).2; omega⟩
  unfold stepP
  split
  · intro r hr
    rcases List.mem_append.1 hr with hr | hr
    · exact h1 r hr
    · rw [List.mem_singleton] at hr
      subst hr
      exact ⟨⟨hx, hy, hz⟩, .inr ⟨rfl, .inr ⟨rfl, Nat.lt_succ_self _⟩⟩⟩
  · exact h1
def ptCells (ps : List P3) : List Value := (ps.map P3.cells).flatten
structure OpS (m : FM) (n1 sb mb : Nat) (pf : Value) (M' : FM) (N' : Nat) (ps : List P3) : Prop where
  le : n1 ≤ N'
  low : ∀ b, b < n1 → b ≠ sb → b ≠ mb → M' b = m b
  s : ∃ allv, M' sb = some (.cells [pf, allv, .map (some mb)] 0 false true) ∧ SlZ 3 M' n1 N' allv ps.length (ptCells ps)
  mp : M' mb = some (.map (mapC3 (numMC ps 0)))
theorem OpS.alloc {m : FM} {n1 sb mb : Nat} {pf : Value} {M' : FM} {N' : Nat} {ps : List P3} (h : OpS m n1 sb mb pf M' N' ps) (hsb : sb < n1) (hmb : mb < n1) (B : Option Blk) : OpS m n1 sb mb pf (AMem.put M' N' B) (N' + 1) ps := by
  obtain ⟨le, low, ⟨allv, s1, s2⟩, mp⟩ := h
  exact ⟨by omega, fun b h1 h2 h3 => by rw [fput_ne _ _ _ _ (by omega)]; exact low b h1 h2 h3, ⟨allv, by rw [fput_ne _ _ _ _ (by omega)]; exact s1, SlZ.frame s2 (by omega) fun b _ hb => fput_ne _ _ _ _ (by omega)⟩, by rw [fput_ne _ _ _ _ (by omega)]; exact mp⟩
theorem ptCells_app (ps : List P3) (p : P3) : ptCells (ps ++ [p]) = ptCells ps ++ p.cells := by simp [ptCells]
theorem tArr3 : Arr3 PG 71 3 := ⟨by kernel_rfl, by kernel_rfl, by kernel_rfl⟩
theorem tGrd : PG.eqGuardType PG.depth 71 = false := by kernel_rfl
theorem open_L0 (h33 : E 43 = some ac43) (h44 : E 54 = some ac54) (h45 : E 55 = some ac55) (h46 : E 56 = some ac56) (h42 : E 50 = some ac50) (h51 : E 42 = some ac42) (h31 : E 38 = some ac38)
    {m : FM} {nf n1 sb mb : Nat} {pf : Value} {q : Nat} {A T : Tab} (hn1 : nf ≤ mb) (hn2 : nf ≤ sb) (hne : sb ≠ mb) (hsb : sb < n1) (hmb : mb < n1) (hF : FieldM m nf pf q A T) (hg : GoodT q A T) {x y : Nat} (hx : x < q) (hy : y < q) (e1 e2 e4 e5 e7 e9 e10 e11 e12 e13 e14 : Value) {ps0 : List P3} (hlen : ps0.length ≤ 3000000) {Q : AX → List Value → FM → Nat → Nat → Prop}
    (hQ : ∀ M' N' w, OpS m n1 sb mb pf M' N' (foldZ T x y ps0 q) → Low (foldZ T x y ps0 q) q x y q → (∀ j, j ≤ nf → Nat.mod w (bit j) = 0) → Q (.exit 4) [.int .i64 (q : Int), e1, e2, .int .i64 (y : Int), e4, e5, .int .i64 (x : Int), e7, .pointer (some ⟨sb, 0, none⟩), e9, e10, e11, e12, e13, e14, .int .i64 (q : Int)] M' N' w) :
    ∀ d z, z + d = q → ∀ (M' : FM) (N' w0 : Nat), OpS m n1 sb mb pf M' N' (foldZ T x y ps0 z) → Low (foldZ T x y ps0 z) q x y z → (foldZ T x y ps0 z).length ≤ ps0.length + z → (∀ j, j ≤ nf → Nat.mod w0 (bit j) = 0) →
    Gv (execW PG E Y ac34L0 [.int .i64 (z : Int), e1, e2, .int .i64 (y : Int), e4, e5, .int .i64 (x : Int), e7, .pointer (some ⟨sb, 0, none⟩), e9, e10, e11, e12, e13, e14, .int .i64 (q : Int)] M' N') fun X e m n w => Q X e m n (Nat.lor w0 w) := by
  have hq := hg.small
  intro d
  induction d with
  | zero =>
    intro z hz M' N' w0 hS hL hl hw
    obtain rfl : z = q := by omega
    refine wr_loopN (L := ac34L0) (b := ac34L0b) rfl ?_
    simp only [ac34L0b]
    simp (implicitDefEqProofs := false) (disch := omega) only [W2, opds, Nat.testBit, Nat.reduceAdd, Nat.reduceShiftRight, Nat.reduceAnd, Nat.reduceBNe, Nat.reduceMul]
    exact hQ _ _ _ hS hL hw
  | succ d ih =>
    intro z hz M' N' w0 hS hL hl hw
    have hzq : z < q := by omega
    have ih' := ih (z + 1) (by omega)
    rw [show foldZ T x y ps0 (z + 1) = stepP T (foldZ T x y ps0 z) ⟨x, y, z⟩ from rfl] at ih'
    have hL2 := hL.step (T := T) hx hy hzq
    have hnot := hL.not
    generalize foldZ T x y ps0 z = ps at *
    obtain ⟨le, low, ⟨allv, s1, s2⟩, mp⟩ := hS
    have hF2 : ∀ (B : Option Blk), FieldM (AMem.put M' N' B) (N' + 1) pf q A T := fun B => hF.frame (by omega) fun b hb => by rw [fput_ne _ _ _ _ (by omega)]; exact low b (by omega) (by omega) (by omega)
    have sb2 : ∀ (B : Option Blk), (AMem.put M' N' B : FM) sb = some (.cells [pf, allv, .map (some mb)] 0 false true) := fun B => by rw [fput_ne _ _ _ _ (by omega)]; exact s1
    have hSp : ∀ (B : Option Blk), SpaceP (AMem.put M' N' B) (N' + 1) (.pointer (some ⟨sb, 0, none⟩)) q A T := fun B => ⟨sb, pf, allv, _, rfl, by omega, sb2 B, hF2 B⟩
    refine wr_loopN (L := ac34L0) (b := ac34L0b) rfl ?_
    simp only [ac34L0b]
    simp (implicitDefEqProofs := false) (disch := omega) only [W2, opds, Nat.testBit, Nat.reduceAdd, Nat.reduceShiftRight, Nat.reduceAnd, Nat.reduceBNe, Nat.reduceMul]
    refine use_pureX (normal_spec (Y := Y) h33 h44 h45 h46 h42 h51 h31 (hSp _) hg (p := ⟨x, y, z⟩) ⟨hx, hy, hzq⟩) fun _ => ?_
    have heq : ∀ r : P3, binV PG .eql 71 (.agg r.cells.toArray) (.agg #[.int .i64 (x : Int), .int .i64 (y : Int), .int .i64 (z : Int)]) = some (.bool (decide (r = ⟨x, y, z⟩))) := fun r => by
      have h1 := binV_arr3 tArr3 tGrd r.c (P3.c ⟨x, y, z⟩)
      rw [decide_eq_decide.2 (⟨P3.c_inj, fun e => by rw [e]⟩ : r.c = P3.c ⟨x, y, z⟩ ↔ r = ⟨x, y, z⟩)] at h1
      exact h1
    have hne0 : binV PG .neq 71 (.agg #[.int .i64 (x : Int), .int .i64 (y : Int), .int .i64 (z : Int)]) (.agg #[.int .i64 0, .int .i64 0, .int .i64 0]) = some (.bool (!decide ((⟨x, y, z⟩ : P3) = p0))) := by
      have h1 := binV_arr3_ne tArr3 tGrd (P3.c ⟨x, y, z⟩) (P3.c p0)
      rw [decide_eq_decide.2 (⟨P3.c_inj, fun e => by rw [e]⟩ : P3.c ⟨x, y, z⟩ = P3.c p0 ↔ (⟨x, y, z⟩ : P3) = p0)] at h1
      exact h1
    have hSO : OpS m n1 sb mb pf M' N' ps := ⟨le, low, ⟨allv, s1, s2⟩, mp⟩
    have hS1 := fun B => hSO.alloc hsb hmb B
    unfold stepP at ih' hL2
    generalize normP T ⟨x, y, z⟩ = r at *
    have hrb : r.cells.all (belowF (N' + 1)) = true := rfl
    have fzN : ∀ j, j ≤ nf → Nat.mod (bit N') (bit j) = 0 := fun j hj => frz_bit (by omega)
    by_cases hr : r = ⟨x, y, z⟩
    · by_cases h0 : (⟨x, y, z⟩ : P3) = p0
      · rw [if_neg fun h => h.2 h0] at ih' hL2
        simp (implicitDefEqProofs := false) (disch := omega) only [W2, opds, Nat.testBit, Nat.reduceAdd, Nat.reduceShiftRight, Nat.reduceAnd, Nat.reduceBNe, Nat.reduceMul, hrb, heq, hne0, decide_eq_true hr, decide_eq_true h0]
        refine wr_end (ih' _ (N' + 1) (Nat.lor w0 (Nat.lor (bit N') (bit N'))) (hS1 _) hL2 (by omega) (fun j hj => by simp only [frz_iff]; exact ⟨hw j hj, fzN j hj, fzN j hj⟩)) fun X e m n w hq => ?_
        rw [← lor_assoc']; exact hq
      · rw [if_pos ⟨hr, h0⟩] at ih' hL2
        have hab := s2.bel (N' + 1) (by omega)
        have hmap := fun (B : Option Blk) => mapc_upd (P := PG) tArr3 (m := AMem.put M' N' B) (n := N' + 1) (b := mb) (by omega) (by rw [fput_ne _ _ _ _ (by omega)]; exact mp) (P3.c ⟨x, y, z⟩) (idx_new 0 hnot) (.int .i64 (ps.length : Int))
        have hup : ∀ (B : Option Blk), mapV PG (.upd 71) [.map (some mb), .agg #[.int .i64 (x : Int), .int .i64 (y : Int), .int .i64 (z : Int)], .int .i64 (ps.length : Int)] (AMem.put M' N' B) (N' + 1) = .ok undef (AMem.put (AMem.put M' N' B) mb (some (.map (mapC3 (numMC (ps ++ [⟨x, y, z⟩]) 0))))) (N' + 1) (bit mb) (bit mb) := fun B => by
          rw [numMC_app, Nat.zero_add]; exact hmap B
        simp (implicitDefEqProofs := false) (disch := omega) only [W2, opds, Nat.testBit, Nat.reduceAdd, Nat.reduceShiftRight, Nat.reduceAnd, Nat.reduceBNe, Nat.reduceMul, hrb, heq, hne0, decide_eq_true hr, decide_eq_false h0, sb2, nilckV, hab, s2.len, s_mp, hup, belowV_map]
        generalize hM3 : (AMem.put (AMem.put M' N' (some (.cells [.int .i64 (x : Int), .int .i64 (y : Int), .int .i64 (z : Int)] 0 false true))) mb (some (.map (mapC3 (numMC (ps ++ [⟨x, y, z⟩]) 0)))) : FM) = M3
        have c3 : M3 N' = some (.cells [.int .i64 (x : Int), .int .i64 (y : Int), .int .i64 (z : Int)] 0 false true) := by rw [← hM3, fput_ne _ _ _ _ (by omega)]; exact fput_same _ _ _
        have c3m : M3 mb = some (.map (mapC3 (numMC (ps ++ [⟨x, y, z⟩]) 0))) := by rw [← hM3]; exact fput_same _ _ _
        have c3l : ∀ b, b < N' → b ≠ mb → M3 b = M' b := fun b hb h1 => by rw [← hM3, fput_ne _ _ _ _ h1, fput_ne _ _ _ _ (by omega)]
        have c3s : M3 sb = some (.cells [pf, allv, .map (some mb)] 0 false true) := (c3l sb (by omega) hne).trans s1
        have hab2 := s2.bel (N' + 2) (by omega)
        simp (implicitDefEqProofs := false) (disch := omega) only [W2, opds, Nat.testBit, Nat.reduceAdd, Nat.reduceShiftRight, Nat.reduceAnd, Nat.reduceBNe, Nat.reduceMul, hab2]
        have hZ3 : ∀ B, SlZ 3 (AMem.put M3 (N' + 1) B) n1 (N' + 2) allv ps.length (ptCells ps) := fun B => SlZ.frame s2 (by omega) fun b h1 h2 => by rw [fput_ne _ _ _ _ (by omega)]; exact c3l b h2 (by omega)
        refine use_rtX (app_slZ (hZ3 _) (some ⟨N' + 1, 0, none⟩) 1 (bit (N' + 1)) (by omega) (by omega) (zs := [.int .i64 (x : Int), .int .i64 (y : Int), .int .i64 (z : Int)]) rfl rfl (by omega) (by omega)) fun v5 M5 N5 r5 w5 hA => ?_
        obtain ⟨av, an, as5, al, aw⟩ := hA
        subst an
        have c5s : M5 sb = some (.cells [pf, allv, .map (some mb)] 0 false true) := by rw [al sb hsb, fput_ne _ _ _ _ (by omega)]; exact c3s
        have c5m : M5 mb = some (.map (mapC3 (numMC (ps ++ [⟨x, y, z⟩]) 0))) := by rw [al mb hmb, fput_ne _ _ _ _ (by omega)]; exact c3m
        have c5l : ∀ b, b < n1 → b ≠ sb → b ≠ mb → M5 b = m b := fun b h1 h2 h3 => by rw [al b h1, fput_ne _ _ _ _ (by omega), c3l b (by omega) h3]; exact low b h1 h2 h3
        subst av
        simp (implicitDefEqProofs := false) (disch := omega) only [W2, opds, Nat.testBit, Nat.reduceAdd, Nat.reduceShiftRight, Nat.reduceAnd, Nat.reduceBNe, Nat.reduceMul, c5s, nilckV]
        have hlenA : (ps ++ [(⟨x, y, z⟩ : P3)]).length = ps.length + 1 := by rw [List.length_append]; rfl
        refine wr_end (ih' _ (N' + 3) (Nat.lor w0 (Nat.lor (Nat.lor (Nat.lor (bit N') (bit N')) (bit mb)) (Nat.lor (Nat.lor (bit (N' + 1)) w5) (bit sb)))) ⟨by omega, fun b h1 h2 h3 => by rw [fput_ne _ _ _ _ h2]; exact c5l b h1 h2 h3, ⟨_, fput_same _ _ _, ?_⟩, by rw [fput_ne _ _ _ _ (fun e => hne e.symm)]; exact c5m⟩ hL2 (by rw [hlenA]; omega) (fun j hj => ?_)) fun X e m n w hq => ?_
        · rw [hlenA, ptCells_app]
          exact SlZ.frame as5 (Nat.le_refl _) fun b h1 _ => fput_ne _ _ _ _ (by omega)
        · simp only [frz_iff]
          exact ⟨hw j hj, ⟨⟨fzN j hj, fzN j hj⟩, frz_bit (by omega)⟩, ⟨frz_bit (by omega), aw j (by omega)⟩, frz_bit (by omega)⟩
        · rw [← lor_assoc']; exact hq
    · rw [if_neg fun h => hr h.1] at ih' hL2
      simp (implicitDefEqProofs := false) (disch := omega) only [W2, opds, Nat.testBit, Nat.reduceAdd, Nat.reduceShiftRight, Nat.reduceAnd, Nat.reduceBNe, Nat.reduceMul, hrb, heq, decide_eq_false hr]
      refine wr_end (ih' _ (N' + 1) (Nat.lor w0 (Nat.lor (bit N') (bit N'))) (hS1 _) hL2 (by omega) (fun j hj => by simp only [frz_iff]; exact ⟨hw j hj, fzN j hj, fzN j hj⟩)) fun X e m n w hq => ?_
      rw [← lor_assoc']; exact hq
end Go.Am.C07
namespace Go.Am.C07
open Go Go.Am
variable {E : Nat → Option AFn} {Y : Nat → List Value → FM → Nat → OR FM}
theorem stepP_len (T : Tab) (ps : List P3) (p : P3) : (stepP T ps p).length ≤ ps.length + 1 := by
  unfold stepP
  split
  · rw [List.length_append]; exact Nat.le_refl _
  · omega
theorem foldZ_len (T : Tab) (x y : Nat) (ps : List P3) : ∀ k, (foldZ T x y ps k).length ≤ ps.length + k
  | 0 => Nat.le_refl _
  | k + 1 => by
    have := foldZ_len T x y ps k
    have h2 := stepP_len T (foldZ T x y ps k) ⟨x, y, k⟩
    show (stepP T (foldZ T x y ps k) ⟨x, y, k⟩).length ≤ _
    omega
theorem foldY_len (T : Tab) (q x : Nat) (ps : List P3) : ∀ k, (foldY T q x ps k).length ≤ ps.length + k * q
  | 0 => Nat.le_add_right _ _
  | k + 1 => by
    have := foldY_len T q x ps k
    have h2 := foldZ_len T x k (foldY T q x ps k) q
    show (foldZ T x k (foldY T q x ps k) q).length ≤ _
    rw [Nat.succ_mul]; omega
theorem foldX_len (T : Tab) (q : Nat) : ∀ k, (foldX T q k).length ≤ k * (q * q)
  | 0 => Nat.zero_le _
  | k + 1 => by
    have := foldX_len T q k
    have h2 := foldY_len T q k (foldX T q k) q
    show (foldY T q k (foldX T q k) q).length ≤ _
    rw [Nat.succ_mul]; omega
theorem Low.nextY {ps : List P3} {q x y : Nat} (h : Low ps q x y q) : Low ps q x (y + 1) 0 := fun r hr => ⟨(h r hr).1, by have := (h r hr).2; omega⟩
theorem Low.nextX {ps : List P3} {q x : Nat} (h : Low ps q x q 0) : Low ps q (x + 1) 0 0 := fun r hr => ⟨(h r hr).1, by have h1 := (h r hr).1; have := (h r hr).2; omega⟩
theorem open_L1 (h33 : E 43 = some ac43) (h44 : E 54 = some ac54) (h45 : E 55 = some ac55) (h46 : E 56 = some ac56) (h42 : E 50 = some ac50) (h51 : E 42 = some ac42) (h31 : E 38 = some ac38)
    {m : FM} {nf n1 sb mb : Nat} {pf : Value} {q : Nat} {A T : Tab} (hn1 : nf ≤ mb) (hn2 : nf ≤ sb) (hne : sb ≠ mb) (hsb : sb < n1) (hmb : mb < n1) (hF : FieldM m nf pf q A T) (hg : GoodT q A T) {x : Nat} (hx : x < q) (a1 a2 a4 a6 a7 a8 a9 a10 a11 : Value) {ps0 : List P3} (hlen : ps0.length ≤ 1000000) {Q : AX → List Value → FM → Nat → Nat → Prop}
    (hQ : ∀ M' N' w, OpS m n1 sb mb pf M' N' (foldY T q x ps0 q) → Low (foldY T q x ps0 q) q x q 0 → (∀ j, j ≤ nf → Nat.mod w (bit j) = 0) → Q (.exit 2) [.int .i64 (q : Int), a1, a2, .int .i64 (x : Int), a4, .pointer (some ⟨sb, 0, none⟩), a6, a7, a8, a9, a10, a11, .int .i64 (q : Int)] M' N' w) :
    ∀ d y, y + d = q → ∀ (M' : FM) (N' w0 : Nat), OpS m n1 sb mb pf M' N' (foldY T q x ps0 y) → Low (foldY T q x ps0 y) q x y 0 → (∀ j, j ≤ nf → Nat.mod w0 (bit j) = 0) →
    Gv (execW PG E Y ac34L1 [.int .i64 (y : Int), a1, a2, .int .i64 (x : Int), a4, .pointer (some ⟨sb, 0, none⟩), a6, a7, a8, a9, a10, a11, .int .i64 (q : Int)] M' N') fun X e m n w => Q X e m n (Nat.lor w0 w) := by
  have hq := hg.small
  intro d
  induction d with
  | zero =>
    intro y hy M' N' w0 hS hL hw
    obtain rfl : y = q := by omega
    refine wr_loopN (L := ac34L1) (b := ac34L1b) rfl ?_
    simp only [ac34L1b]
    simp (implicitDefEqProofs := false) (disch := omega) only [W2, opds, Nat.testBit, Nat.reduceAdd, Nat.reduceShiftRight, Nat.reduceAnd, Nat.reduceBNe, Nat.reduceMul]
    exact hQ _ _ _ hS hL hw
  | succ d ih =>
    intro y hy M' N' w0 hS hL hw
    have hyq : y < q := by omega
    have hl := foldY_len T q x ps0 y
    have hyy : y * q ≤ 1000 * 1000 := Nat.mul_le_mul (by omega) (by omega)
    refine wr_loopN (L := ac34L1) (b := ac34L1b) rfl ?_
    simp only [ac34L1b]
    simp (implicitDefEqProofs := false) (disch := omega) only [W2, opds, Nat.testBit, Nat.reduceAdd, Nat.reduceShiftRight, Nat.reduceAnd, Nat.reduceBNe, Nat.reduceMul]
    refine wr_kont (open_L0 (Y := Y) h33 h44 h45 h46 h42 h51 h31 hn1 hn2 hne hsb hmb hF hg hx hyq _ _ _ _ _ _ _ _ _ _ _ (ps0 := foldY T q x ps0 y) (by omega) (fun M2 N2 w2 hS2 hL2 hw2 rr => ?_) q 0 (by omega) M' N' 0 hS hL (by show (foldY T q x ps0 y).length ≤ _; omega) (fun _ _ => Nat.zero_mod _))
    simp (implicitDefEqProofs := false) (disch := omega) only [W2, opds, Nat.testBit, Nat.reduceAdd, Nat.reduceShiftRight, Nat.reduceAnd, Nat.reduceBNe, Nat.reduceMul]
    refine wr_end (ih (y + 1) (by omega) M2 N2 (Nat.lor w0 w2) hS2 hL2.nextY (fun j hj => by rw [frz_iff]; exact ⟨hw j hj, hw2 j hj⟩)) fun X e m n w hq => ?_
    rw [← lor_assoc']; exact hq
theorem open_L2 (h33 : E 43 = some ac43) (h44 : E 54 = some ac54) (h45 : E 55 = some ac55) (h46 : E 56 = some ac56) (h42 : E 50 = some ac50) (h51 : E 42 = some ac42) (h31 : E 38 = some ac38)
    {m : FM} {nf n1 sb mb : Nat} {pf : Value} {q : Nat} {A T : Tab} (hq2 : 2 ≤ q) (hn1 : nf ≤ mb) (hn2 : nf ≤ sb) (hne : sb ≠ mb) (hsb : sb < n1) (hmb : mb < n1) (hF : FieldM m nf pf q A T) (hg : GoodT q A T) (a1 a3 a4 a5 a6 a7 a8 : Value) {Q : AX → List Value → FM → Nat → Nat → Prop}
    (hQ : ∀ M' N' w, OpS m n1 sb mb pf M' N' (foldX T q 2) → Low (foldX T q 2) q 2 0 0 → (∀ j, j ≤ nf → Nat.mod w (bit j) = 0) → Q (.exit 0) [a1, .pointer (some ⟨sb, 0, none⟩), a3, a4, a5, a6, a7, a8, .int .i64 (q : Int)] M' N' w) :
    ∀ d x, x + d = 2 → ∀ (M' : FM) (N' w0 : Nat), OpS m n1 sb mb pf M' N' (foldX T q x) → Low (foldX T q x) q x 0 0 → (∀ j, j ≤ nf → Nat.mod w0 (bit j) = 0) →
    Gv (execW PG E Y ac34L2 [.int .i64 (x : Int), a1, .pointer (some ⟨sb, 0, none⟩), a3, a4, a5, a6, a7, a8, .int .i64 (q : Int)] M' N') fun X e m n w => Q X e m n (Nat.lor w0 w) := by
  have hq := hg.small
  intro d
  induction d with
  | zero =>
    intro x hx M' N' w0 hS hL hw
    obtain rfl : x = 2 := by omega
    refine wr_loopN (L := ac34L2) (b := ac34L2b) rfl ?_
    simp only [ac34L2b]
    simp (implicitDefEqProofs := false) (disch := omega) only [W2, opds, Nat.testBit, Nat.reduceAdd, Nat.reduceShiftRight, Nat.reduceAnd, Nat.reduceBNe, Nat.reduceMul]
    exact hQ _ _ _ hS hL hw
  | succ d ih =>
    intro x hx M' N' w0 hS hL hw
    have hl := foldX_len T q x
    have hxx : x * (q * q) ≤ 1 * (1000 * 1000) := Nat.mul_le_mul (by omega) (Nat.mul_le_mul (by omega) (by omega))
    refine wr_loopN (L := ac34L2) (b := ac34L2b) rfl ?_
    simp only [ac34L2b]
    simp (implicitDefEqProofs := false) (disch := omega) only [W2, opds, Nat.testBit, Nat.reduceAdd, Nat.reduceShiftRight, Nat.reduceAnd, Nat.reduceBNe, Nat.reduceMul]
    refine wr_kont (open_L1 (Y := Y) h33 h44 h45 h46 h42 h51 h31 hn1 hn2 hne hsb hmb hF hg (x := x) (by omega) _ _ _ _ _ _ _ _ _ (ps0 := foldX T q x) (by omega) (fun M2 N2 w2 hS2 hL2 hw2 rr => ?_) q 0 (by omega) M' N' 0 hS hL (fun _ _ => Nat.zero_mod _))
    simp (implicitDefEqProofs := false) (disch := omega) only [W2, opds, Nat.testBit, Nat.reduceAdd, Nat.reduceShiftRight, Nat.reduceAnd, Nat.reduceBNe, Nat.reduceMul]
    refine wr_end (ih (x + 1) (by omega) M2 N2 (Nat.lor w0 w2) hS2 hL2.nextX (fun j hj => by rw [frz_iff]; exact ⟨hw j hj, hw2 j hj⟩)) fun X e m n w hq => ?_
    rw [← lor_assoc']; exact hq
def SpaceM (m : FM) (N : Nat) (sv : Value) (q : Nat) (A T : Tab) (ps : List P3) : Prop :=
  ∃ sb mb pf allv n1, sv = .pointer (some ⟨sb, 0, none⟩) ∧ sb < N ∧ mb < N ∧ m sb = some (.cells [pf, allv, .map (some mb)] 0 false true) ∧ SlZ 3 m n1 N allv ps.length (ptCells ps) ∧ m mb = some (.map (mapC3 (numMC ps 0))) ∧ FieldM m N pf q A T ∧ ∀ r ∈ ps, r.lt q
theorem SpaceM.frame {m m' : FM} {n n' : Nat} {sv : Value} {q : Nat} {A M : Tab} {ps : List P3} (h : SpaceM m n sv q A M ps) (hn : n ≤ n') (hf : ∀ b, b < n → m' b = m b) : SpaceM m' n' sv q A M ps := by
  obtain ⟨sb, mb, pf, allv, n1, h1, h2, h3, h4, h5, h6, h7, h8⟩ := h
  exact ⟨sb, mb, pf, allv, n1, h1, by omega, by omega, (hf sb h2).trans h4, SlZ.frame h5 hn fun b _ hb => hf b hb, (hf mb h3).trans h6, h7.frame hn hf, h8⟩
theorem SpaceM.sp {m : FM} {n : Nat} {sv : Value} {q : Nat} {A M : Tab} {ps : List P3} (h : SpaceM m n sv q A M ps) : SpaceP m n sv q A M := by
  obtain ⟨sb, mb, pf, allv, n1, h1, h2, h3, h4, h5, h6, h7, h8⟩ := h
  exact ⟨sb, pf, allv, _, h1, h2, h4, h7⟩
abbrev Kpt (m : FM) (n : Nat) (R : Value → FM → Nat → Prop) (v : Value) (m' : FM) (n' w : Nat) : Prop := n ≤ n' ∧ (∀ b, b < n → m' b = m b) ∧ (∀ j, j ≤ n → Nat.mod w (bit j) = 0) ∧ R v m' n'
theorem open_spec (hE : E 34 = some ac34) (h33 : E 43 = some ac43) (h44 : E 54 = some ac54) (h45 : E 55 = some ac55) (h46 : E 56 = some ac56) (h42 : E 50 = some ac50) (h51 : E 42 = some ac42) (h31 : E 38 = some ac38)
    {q : Nat} {A T : Tab} (hq2 : 2 ≤ q) (hq7 : q ≤ 7) (hg : GoodT q A T) (m : FM) (n : Nat) (hNew : Rt (callW PG E Y 36 [.int .i64 (q : Int)] m n) (Kpt m n fun v M' N' => ∃ pv, v = .tuple #[pv, .int .i64 0] ∧ FieldM M' N' pv q A T)) :
    Rt (callW PG E Y 34 [.int .i64 (q : Int)] m n) (Kpt m n fun v M' N' => ∃ sv, v = .tuple #[sv, .int .i64 0] ∧ SpaceM M' N' sv q A T (foldX T q 2)) := by
  refine kept_specQ hE rfl fun Q hQ => ?_
  simp only [ac34]
  simp (implicitDefEqProofs := false) (disch := omega) only [W2, opds, Nat.testBit, Nat.reduceAdd, Nat.reduceShiftRight, Nat.reduceAnd, Nat.reduceBNe, Nat.reduceMul]
  refine use_rt hNew fun v M1 N1 r1 w1 ⟨n1, m1, f1, pv, hv, hF⟩ => ?_
  subst hv
  have hqq : q * q ≤ 7 * 7 := Nat.mul_le_mul hq7 hq7
  have hbp := hF.bel
  obtain ⟨fb, fp, fs, fm, rfl, fl, _⟩ := id hF
  simp (implicitDefEqProofs := false) (disch := omega) only [W2, opds, Nat.testBit, Nat.reduceAdd, Nat.reduceShiftRight, Nat.reduceAnd, Nat.reduceBNe, Nat.reduceMul, s_mp, mapc_mk, cells_mapv, one_map]
  generalize hM2 : (AMem.put (AMem.put M1 N1 (some (.map (mapC3 [])))) (N1 + 1) (some (.cells [.pointer (some ⟨fb, 0, none⟩), .slice none 0 0, .map (some N1)] 0 false true)) : FM) = M2
  have l2 : ∀ b, b < N1 → M2 b = M1 b := fun b hb => by rw [← hM2, fput_ne _ _ _ _ (by omega), fput_ne _ _ _ _ (by omega)]
  have hS0 : OpS M2 (N1 + 2) (N1 + 1) N1 (.pointer (some ⟨fb, 0, none⟩)) M2 (N1 + 2) [] := ⟨Nat.le_refl _, fun _ _ _ _ => rfl, ⟨_, by rw [← hM2]; exact fput_same _ _ _, .inl ⟨rfl, rfl, rfl⟩⟩, by rw [← hM2, fput_ne _ _ _ _ (by omega)]; exact fput_same _ _ _⟩
  have hF2 : FieldM M2 N1 (.pointer (some ⟨fb, 0, none⟩)) q A T := hF.frame (Nat.le_refl _) l2
  have fzn := f1 n (Nat.le_refl _)
  have fza : Nat.mod (bit N1) (bit n) = 0 := frz_bit (by omega)
  have fzb : Nat.mod (bit (N1 + 1)) (bit n) = 0 := frz_bit (by omega)
  refine wr_kont (open_L2 (Y := Y) h33 h44 h45 h46 h42 h51 h31 (m := M2) (nf := N1) (n1 := N1 + 2) (sb := N1 + 1) (mb := N1) hq2 (Nat.le_refl _) (by omega) (by omega) (by omega) (by omega) hF2 hg _ _ _ _ _ _ _ (fun M' N' w hS hL hw rr => ?_) 2 0 (by omega) M2 (N1 + 2) 0 hS0 (fun r hr => by cases hr) (fun _ _ => Nat.zero_mod _))
  obtain ⟨le, low, ⟨allv, s1, s2⟩, mp⟩ := hS
  have fzw := hw n n1
  simp (implicitDefEqProofs := false) (disch := omega) only [W2, opds, Nat.testBit, Nat.reduceAdd, Nat.reduceShiftRight, Nat.reduceAnd, Nat.reduceBNe, Nat.reduceMul]
  refine hQ _ _ _ _ _ (by omega) (fun b hb => by rw [low b (by omega) (by omega) (by omega), l2 b (by omega)]; exact m1 b hb) ?_ rfl ⟨_, rfl, N1 + 1, N1, .pointer (some ⟨fb, 0, none⟩), allv, N1 + 2, rfl, by omega, by omega, s1, s2, mp, hF2.frame (by omega) (fun b hb => low b (by omega) (by omega) (by omega)), fun r hr => (hL r hr).1⟩
  simp only [frz_iff]
  exact ⟨⟨fzn, fza, fzb⟩, fzw⟩
theorem open_bad (hE : E 34 = some ac34) {q : Int} (m : FM) (n : Nat) (hNew : Pure (callW PG E Y 36 [.int .i64 q] m n) m n (.tuple #[.pointer none, .int .i64 1])) :
    Pure (callW PG E Y 34 [.int .i64 q] m n) m n (.tuple #[.pointer none, .int .i64 1]) := by
  refine pure_spec hE rfl rfl ?_
  simp only [ac34]
  simp (implicitDefEqProofs := false) (disch := omega) only [W2, opds, Nat.testBit, Nat.reduceAdd, Nat.reduceShiftRight, Nat.reduceAnd, Nat.reduceBNe, Nat.reduceMul]
  refine use_pure hNew fun _ => ?_
  simp (implicitDefEqProofs := false) (disch := omega) only [W2, opds, Nat.testBit, Nat.reduceAdd, Nat.reduceShiftRight, Nat.reduceAnd, Nat.reduceBNe, Nat.reduceMul]
theorem open_big (hE : E 34 = some ac34) {q : Nat} {A T : Tab} (hq2 : 8 ≤ q) (hq7 : q ≤ 9) (m : FM) (n : Nat) (hNew : Rt (callW PG E Y 36 [.int .i64 (q : Int)] m n) (Kpt m n fun v M' N' => ∃ pv, v = .tuple #[pv, .int .i64 0] ∧ FieldM M' N' pv q A T)) :
    Pure (callW PG E Y 34 [.int .i64 (q : Int)] m n) m n (.tuple #[.pointer none, .int .i64 7]) := by
  refine pure_spec hE rfl rfl ?_
  simp only [ac34]
  simp (implicitDefEqProofs := false) (disch := omega) only [W2, opds, Nat.testBit, Nat.reduceAdd, Nat.reduceShiftRight, Nat.reduceAnd, Nat.reduceBNe, Nat.reduceMul]
  refine use_rt hNew fun v M1 N1 r1 w1 ⟨n1, m1, f1, pv, hv, hF⟩ => ?_
  subst hv
  have hqq : 8 * 8 ≤ q * q := Nat.mul_le_mul hq2 hq2
  have hqq2 : q * q ≤ 9 * 9 := Nat.mul_le_mul hq7 hq7
  have fz := f1 n (Nat.le_refl _)
  simp (implicitDefEqProofs := false) (disch := omega) only [W2, opds, Nat.testBit, Nat.reduceAdd, Nat.reduceShiftRight, Nat.reduceAnd, Nat.reduceBNe, Nat.reduceMul, fz]
end Go.Am.C07
namespace Go.Am.C07
open Go Go.Am
variable {E : Nat → Option AFn} {Y : Nat → List Value → FM → Nat → OR FM}
theorem ptCells_len : ∀ l : List P3, (ptCells l).length = l.length * 3
  | [] => rfl
  | x :: l => by
    show (x.cells ++ ptCells l).length = _
    rw [List.length_append, ptCells_len l, List.length_cons]
    show 3 + _ = _
    omega
theorem ptCells_get : ∀ (l : List P3) (i k : Nat), k < 3 → (ptCells l)[i * 3 + k]? = (l[i]?).bind fun x => x.cells[k]?
  | [], i, k, _ => by simp [ptCells]
  | x :: l, 0, k, h => by
    show (x.cells ++ ptCells l)[0 * 3 + k]? = _
    rw [Nat.zero_mul, Nat.zero_add, List.getElem?_append_left (by show k < 3; exact h)]; rfl
  | x :: l, i + 1, k, h => by
    show (x.cells ++ ptCells l)[(i + 1) * 3 + k]? = _
    rw [List.getElem?_append_right (by show 3 ≤ _; omega), show (i + 1) * 3 + k - x.cells.length = i * 3 + k by show (i + 1) * 3 + k - 3 = _; omega, ptCells_get l i k h]; rfl
theorem ptCells_at (l : List P3) {i : Nat} (hi : i < l.length) : ctake (ldrop (ptCells l) (i * 3)) 3 = some l[i].cells := by
  rw [ldrop_eq, ctake_eq, if_pos (by rw [List.length_drop, ptCells_len]; omega)]
  congr 1
  apply List.ext_getElem?
  intro k
  rw [List.getElem?_take]
  split
  · rw [List.getElem?_drop, ptCells_get l i k (by omega), List.getElem?_eq_getElem hi]; rfl
  · exact (List.getElem?_eq_none (by show 3 ≤ k; omega)).symm
def posP (p : P3) : List P3 → Nat → Int
  | [], _ => 0
  | r :: l, i => if p = r then (i : Int) else posP p l (i + 1)
structure Fns (E : Nat → Option AFn) : Prop where
  e23 : E 34 = some ac34
  e24 : E 35 = some ac35
  e30 : E 37 = some ac37
  e31 : E 38 = some ac38
  e33 : E 43 = some ac43
  e42 : E 50 = some ac50
  e44 : E 54 = some ac54
  e45 : E 55 = some ac55
  e46 : E 56 = some ac56
  e51 : E 42 = some ac42
end Go.Am.C07
namespace Go.Am
open Go
def RowZ (M : FM) (n0 N b : Nat) (x : Value) (g : List Int) : Prop :=
  (g = [] ∧ x = .slice none 0 0) ∨ (g ≠ [] ∧ ∃ c, x = .slice (some ⟨c, 0, none⟩) g.length UNK ∧ n0 ≤ c ∧ c < N ∧ c ≠ b ∧ M c = some (.cells (g.map (Value.int .i64)) 1 true true))
def RowsZ (M : FM) (n0 N : Nat) (v : Value) (gs : List (List Int)) : Prop :=
  (gs = [] ∧ v = .slice none 0 0) ∨ (gs ≠ [] ∧ ∃ vs b, v = .slice (some ⟨b, 0, none⟩) gs.length UNK ∧ n0 ≤ b ∧ b < N ∧ M b = some (.cells vs 1 true true) ∧ vs.length = gs.length ∧ ∀ (i : Nat) x g, vs[i]? = some x → gs[i]? = some g → RowZ M n0 N b x g)
theorem RowZ.mv {M M' : FM} {n0 N N' b b' : Nat} {x : Value} {g : List Int} (h : RowZ M n0 N b x g) (hN : N ≤ N') (hf : ∀ c, n0 ≤ c → c < N → c ≠ b → M' c = M c) (hb : ∀ c, c < N → c ≠ b → c ≠ b') : RowZ M' n0 N' b' x g := by
  rcases h with h | ⟨h0, c, h1, h2, h3, h4, h5⟩
  · exact .inl h
  · exact .inr ⟨h0, c, h1, h2, by omega, hb c h3 h4, (hf c h2 h3 h4).trans h5⟩
theorem RowsZ.frame {M M' : FM} {n0 N N' : Nat} {v : Value} {gs : List (List Int)} (h : RowsZ M n0 N v gs) (hN : N ≤ N') (hf : ∀ b, n0 ≤ b → b < N → M' b = M b) : RowsZ M' n0 N' v gs := by
  rcases h with h | ⟨h0, vs, b, h1, h2, h3, h4, h5, h6⟩
  · exact .inl h
  · exact .inr ⟨h0, vs, b, h1, h2, by omega, (hf b h2 h3).trans h4, h5, fun i x g hx hg => (h6 i x g hx hg).mv hN (fun c k1 k2 _ => hf c k1 k2) fun c _ k => k⟩
theorem RowsZ.nil (M : FM) (n0 N : Nat) : RowsZ M n0 N (.slice none 0 0) [] := .inl ⟨rfl, rfl⟩
theorem RowZ.ints {M : FM} {n0 N b : Nat} {x : Value} {g : List Int} (h : RowZ M n0 N b x g) : Ints M N x g := by
  rcases h with ⟨rfl, rfl⟩ | ⟨h0, c, h1, h2, h3, h4, h5⟩
  · exact .inl ⟨rfl, rfl⟩
  · exact .inr <| .inl ⟨c, 0, UNK, _, true, true, by rw [List.length_map]; exact h1, h3, h5, fun i x hx => by rw [Nat.zero_add]; exact hx⟩
theorem RowsZ.rows {M : FM} {n0 N : Nat} {v : Value} {gs : List (List Int)} (h : RowsZ M n0 N v gs) : Rows M N v gs := by
  rcases h with ⟨rfl, rfl⟩ | ⟨h0, vs, b, h1, h2, h3, h4, h5, h6⟩
  · exact ⟨[], .inl ⟨rfl, rfl⟩, rfl, fun i x g hx => by simp at hx⟩
  · exact ⟨vs, .inr <| .inl ⟨b, 0, UNK, vs, true, true, by rw [h5]; exact h1, h3, h4, fun i x hx => by rw [Nat.zero_add]; exact hx⟩, h5, fun i x g hx hg => (h6 i x g hx hg).ints⟩
theorem RowsZ.len {M : FM} {n0 N : Nat} {v : Value} {gs : List (List Int)} (h : RowsZ M n0 N v gs) : lenV false v = some (.int .i64 (gs.length : Int)) := h.rows.len
theorem RowsZ.bel {M : FM} {n0 N : Nat} {v : Value} {gs : List (List Int)} (h : RowsZ M n0 N v gs) (k : Nat) (hk : N ≤ k) : belowV k v = true := by
  rcases h with ⟨_, rfl⟩ | ⟨_, vs, b, rfl, _, hb, _⟩
  · rfl
  · exact blt_true (show b < k by omega)
theorem RowsZ.one {M : FM} {n0 N : Nat} {v : Value} {gs : List (List Int)} (h : RowsZ M n0 N v gs) : Am.one v = true := by
  rcases h with ⟨_, rfl⟩ | ⟨_, vs, b, rfl, _⟩ <;> rfl
theorem RowsZ.low {M : FM} {n0 n1 N : Nat} {v : Value} {gs : List (List Int)} (h : RowsZ M n0 N v gs) (hn : n1 ≤ n0) : RowsZ M n1 N v gs := by
  rcases h with h | ⟨h0, vs, b, h1, h2, h3, h4, h5, h6⟩
  · exact .inl h
  · refine .inr ⟨h0, vs, b, h1, by omega, h3, h4, h5, fun i x g hx hg => ?_⟩
    rcases h6 i x g hx hg with h | ⟨k0, c, k1, k2, k3, k4, k5⟩
    · exact .inl h
    · exact .inr ⟨k0, c, k1, by omega, k3, k4, k5⟩
structure AppR (M : FM) (n0 N : Nat) (gs : List (List Int)) (v' : Value) (M' : FM) (N' w : Nat) : Prop where
  v : v' = .slice (some ⟨N, 0, none⟩) gs.length UNK
  n : N' = N + 1
  s : RowsZ M' n0 N' v' gs
  low : ∀ b, b < n0 → M' b = M b
  w : ∀ j, j ≤ n0 → Nat.mod w (bit j) = 0
theorem app_rowsZ {M : FM} {n0 n1 N : Nat} {v x : Value} {gs : List (List Int)} {g : List Int} (h : RowsZ M n0 n1 v gs) (hx : IntZ M n1 N x g) (h01 : n0 ≤ n1) (h1N : n1 ≤ N) (ya : Option Addr) (yc ry : Nat) (hl : gs.length ≤ 1000000) :
    Rt (appO 1 24 M N v (.slice ya 1 yc) (shown M N 1 v) (some ([x], ry))) fun v' M' N' w => AppR M n0 N (gs ++ [g]) v' M' N' w := by
  have ho : Am.one x = true := SlZ.one hx
  have newRow : ∀ (M' : FM) (b : Nat), (∀ c, n1 ≤ c → c < N → M' c = M c) → RowZ M' n0 (N + 1) N x g := fun M' b hf => by
    rcases hx with ⟨h1, h2, h3⟩ | ⟨h1, h2, c, h3, h4, h5, h6⟩
    · exact .inl ⟨List.length_eq_zero_iff.1 h1, h3⟩
    · exact .inr ⟨List.length_pos_iff.1 h1, c, h3, by omega, by omega, by omega, (hf c h4 h5).trans h6⟩
  rcases h with ⟨rfl, rfl⟩ | ⟨h0, vs, b, rfl, hb1, hb2, hm, hvl, hr⟩
  · refine (app_slT (n0 := n0) (N := N) (t := 1) (tag := fun _ => 0) (bytes := 24) (v := .slice none 0 0) (z := x) (vs := []) (.inl ⟨rfl, rfl⟩) ya yc ry (by omega) ho (by omega) (by simp)).mono fun v' M' N' w hA => ?_
    have hfr : ∀ c, c < N → M' c = M c := fun c hc => hA.fr c (by omega) (fun e => by cases e)
    refine ⟨hA.v, hA.n, .inr ⟨by simp, [x], N, hA.v, by omega, by rw [hA.n]; omega, hA.m, rfl, fun i y g' hy hg => ?_⟩, hA.low, hA.frz (by omega)⟩
    match i, hy, hg with
    | 0, hy, hg =>
      injection hy with hy; injection hg with hg
      subst hy; subst hg
      rw [hA.n]
      exact newRow M' 0 fun c _ hc => hfr c hc
    | i + 1, hy, _ => simp at hy
  · have hvne : vs ≠ [] := fun e => h0 (List.length_eq_zero_iff.1 (by rw [← hvl, e]; rfl))
    have hS : SlT M n0 N 1 (fun c => if c = b then 1 else 0) (.slice (some ⟨b, 0, none⟩) gs.length UNK) vs := .inr ⟨hvne, b, by rw [hvl], hb1, by omega, if_pos rfl, hm⟩
    refine (app_slT (n0 := n0) (N := N) (bytes := 24) (z := x) hS ya yc ry (by omega) ho (by omega) (by rw [hvl]; omega)).mono fun v' M' N' w hA => ?_
    have hfr : ∀ c, c < N → c ≠ b → M' c = M c := fun c hc hcb => hA.fr c (by omega) (by simp [hcb])
    have hlen : (vs ++ [x]).length = (gs ++ [g]).length := by rw [List.length_append, List.length_append, hvl]; rfl
    refine ⟨by rw [hA.v, hlen], hA.n, .inr ⟨by simp, vs ++ [x], N, by rw [hA.v, hlen], by omega, by rw [hA.n]; omega, hA.m, hlen, fun i y g' hy hg => ?_⟩, hA.low, hA.frz (by omega)⟩
    rw [hA.n]
    rcases Nat.lt_or_ge i gs.length with hi | hi
    · rw [List.getElem?_append_left (by rw [hvl]; exact hi)] at hy
      rw [List.getElem?_append_left hi] at hg
      exact (hr i y g' hy hg).mv (by omega) (fun c _ k2 k3 => hfr c (by omega) k3) (fun c k2 _ => by omega)
    · rw [List.getElem?_append_right (by rw [hvl]; exact hi), hvl] at hy
      rw [List.getElem?_append_right hi] at hg
      have hi0 : i - gs.length = 0 := by
        rcases Nat.eq_zero_or_pos (i - gs.length) with e | e
        · exact e
        · rw [List.getElem?_eq_none (by simp; omega)] at hy; cases hy
      rw [hi0] at hy hg
      injection hy with hy; injection hg with hg
      subst hy; subst hg
      exact newRow M' b fun c k1 hc => hfr c hc (by omega)
end Go.Am
namespace Go.Am.C07
open Go Go.Am
variable {E : Nat → Option AFn} {Y : Nat → List Value → FM → Nat → OR FM}
def lineR (A T : Tab) (l : P3) : List P3 → Nat → List Int
  | [], _ => []
  | r :: rs, i => if dotP A T l r = 0 then (i : Int) :: lineR A T l rs (i + 1) else lineR A T l rs (i + 1)
theorem lineR_app (A T : Tab) (l r : P3) : ∀ (rs : List P3) (i : Nat), lineR A T l (rs ++ [r]) i = lineR A T l rs i ++ (if dotP A T l r = 0 then [((i + rs.length : Nat) : Int)] else [])
  | [], i => by
    show (if _ then _ else _) = _
    split <;> simp [lineR]
  | x :: rs, i => by
    have ih := lineR_app A T l r rs (i + 1)
    rw [List.length_cons, show i + (rs.length + 1) = i + 1 + rs.length by omega]
    rw [List.cons_append, lineR, lineR, ih]
    split <;> simp
theorem lineR_len (A T : Tab) (l : P3) : ∀ (rs : List P3) (i : Nat), (lineR A T l rs i).length ≤ rs.length
  | [], i => Nat.le_refl _
  | x :: rs, i => by
    have ih := lineR_len A T l rs (i + 1)
    rw [lineR]
    split <;> simp only [List.length_cons] <;> omega
theorem proj_L0 (F : Fns E) {m : FM} {n1 lb : Nat} {sv allv : Value} {q : Nat} {A T : Tab} {ps : List P3} (hg : GoodT q A T) (hSp : SpaceP m n1 sv q A T) {k1 : Nat} (hA : SlZ 3 m k1 n1 allv ps.length (ptCells ps)) (hps : ∀ r ∈ ps, r.lt q) (hpl : ps.length ≤ 100000) {l : P3} (hl : l.lt q) (hlb : lb < n1) (hlm : m lb = some (.cells l.cells 0 false true))
    (y2 y5 y6 y7 y9 y10 y11 y12 y13 y14 y15 y16 y17 y18 y20 y21 y22 : Value) {Q : AX → List Value → FM → Nat → Nat → Prop}
    (hQ : ∀ gv M' N' w, n1 ≤ N' → (∀ b, b < n1 → M' b = m b) → IntZ M' n1 N' gv (lineR A T l ps 0) → (∀ j, j ≤ n1 → Nat.mod w (bit j) = 0) → ∀ y1, Q (.exit 2) [gv, y1, y2, .int .i64 (ps.length : Int), allv, y5, y6, y7, .pointer (some ⟨lb, 0, none⟩), y9, y10, y11, y12, y13, y14, y15, y16, y17, y18, sv, y20, y21, y22] M' N' w) :
    ∀ d j, j + d = ps.length → ∀ (M' : FM) (N' w0 : Nat) (gv : Value), n1 ≤ N' → (∀ b, b < n1 → M' b = m b) → IntZ M' n1 N' gv (lineR A T l (ps.take j) 0) → (∀ j, j ≤ n1 → Nat.mod w0 (bit j) = 0) →
    Gv (execW PG E Y ac27L0 [gv, .int .i64 (j : Int), y2, .int .i64 (ps.length : Int), allv, y5, y6, y7, .pointer (some ⟨lb, 0, none⟩), y9, y10, y11, y12, y13, y14, y15, y16, y17, y18, sv, y20, y21, y22] M' N') fun X e m n w => Q X e m n (Nat.lor w0 w) := by
  intro d
  induction d with
  | zero =>
    intro j hj M' N' w0 gv hN hM hZ hw
    obtain rfl : j = ps.length := by omega
    rw [List.take_length] at hZ
    refine wr_loopN (L := ac27L0) (b := ac27L0b) rfl ?_
    simp only [ac27L0b]
    simp (implicitDefEqProofs := false) (disch := omega) only [W2, opds, Nat.testBit, Nat.reduceAdd, Nat.reduceShiftRight, Nat.reduceAnd, Nat.reduceBNe, Nat.reduceMul]
    exact hQ _ _ _ _ hN hM hZ hw _
  | succ d ih =>
    intro j hj M' N' w0 gv hN hM hZ hw
    have hjl : j < ps.length := by omega
    have ih' := ih (j + 1) (by omega)
    rw [List.take_add_one, List.getElem?_eq_getElem hjl, Option.toList_some, lineR_app, List.length_take, Nat.min_eq_left (by omega), Nat.zero_add] at ih'
    have hA' := SlZ.frame (M' := M') (N' := N') hA hN fun b _ hb => hM b hb
    obtain ⟨b1, i1, i2, i3, i4, i5⟩ := hA'.at hjl
    have i6 := ptCells_at ps hjl
    have hr := hps _ (List.getElem_mem hjl)
    have hll := lineR_len A T l (ps.take j) 0
    rw [List.length_take] at hll
    generalize ps[j] = r at *
    have lm : ∀ B : Option Blk, (AMem.put M' N' B : FM) lb = some (.cells l.cells 0 false true) := fun B => by rw [fput_ne _ _ _ _ (by omega), hM lb hlb]; exact hlm
    have hSp2 : ∀ B : Option Blk, SpaceP (AMem.put M' N' B) (N' + 1) sv q A T := fun B => hSp.frame (by omega) fun b hb => by rw [fput_ne _ _ _ _ (by omega)]; exact hM b hb
    have fz0 : ∀ j, j ≤ n1 → Nat.mod (bit N') (bit j) = 0 := fun j hj => frz_bit (by omega)
    refine wr_loopN (L := ac27L0) (b := ac27L0b) rfl ?_
    simp only [ac27L0b]
    simp only [P3.cells] at lm i6
    simp (implicitDefEqProofs := false) (disch := omega) only [W2, opds, Nat.testBit, Nat.reduceAdd, Nat.reduceShiftRight, Nat.reduceAnd, Nat.reduceBNe, Nat.reduceMul, i1, i4, i6, lm]
    refine use_pure (dot_spec (Y := Y) F.e24 F.e42 F.e31 F.e30 (hSp2 _) hg hl hr) fun _ => ?_
    by_cases h0 : dotP A T l r = 0
    · rw [if_pos h0] at ih'
      simp (implicitDefEqProofs := false) (disch := omega) only [W2, opds, Nat.testBit, Nat.reduceAdd, Nat.reduceShiftRight, Nat.reduceAnd, Nat.reduceBNe, Nat.reduceMul, h0]
      refine use_rt (app_intZ (IntZ.frame hZ (by omega) fun b _ hb => by rw [fput_ne _ _ _ _ (by omega), fput_ne _ _ _ _ (by omega)]) (j : Int) (some ⟨N' + 1, 0, none⟩) 1 (bit (N' + 1)) (by omega) (by omega)) fun v5 M5 N5 r5 w5 ⟨e5, z5, l5, f5⟩ => ?_
      subst e5
      simp (implicitDefEqProofs := false) (disch := omega) only [W2, opds, Nat.testBit, Nat.reduceAdd, Nat.reduceShiftRight, Nat.reduceAnd, Nat.reduceBNe, Nat.reduceMul]
      refine wr_end (ih' _ (N' + 3) (Nat.lor w0 (Nat.lor (Nat.lor (bit N') (bit N')) (Nat.lor (bit (N' + 1)) w5))) v5 (by omega) (fun b hb => by rw [l5 b hb, fput_ne _ _ _ _ (by omega), fput_ne _ _ _ _ (by omega)]; exact hM b hb) z5 (fun j hj => by simp only [frz_iff]; exact ⟨hw j hj, ⟨fz0 j hj, fz0 j hj⟩, frz_bit (by omega), f5 j hj⟩)) fun X e m n w hq => ?_
      rw [← lor_assoc']; exact hq
    · rw [if_neg h0, List.append_nil] at ih'
      have h0' : ¬ ((dotP A T l r : Nat) : Int) = 0 := by omega
      simp (implicitDefEqProofs := false) (disch := omega) only [W2, opds, Nat.testBit, Nat.reduceAdd, Nat.reduceShiftRight, Nat.reduceAnd, Nat.reduceBNe, Nat.reduceMul, decide_eq_false h0']
      refine wr_end (ih' _ (N' + 1) (Nat.lor w0 (Nat.lor (bit N') (bit N'))) gv (by omega) (fun b hb => by rw [fput_ne _ _ _ _ (by omega)]; exact hM b hb) (IntZ.frame hZ (by omega) fun b _ hb => fput_ne _ _ _ _ (by omega)) (fun j hj => by simp only [frz_iff]; exact ⟨hw j hj, fz0 j hj, fz0 j hj⟩)) fun X e m n w hq => ?_
      rw [← lor_assoc']; exact hq
def projR (A T : Tab) (ps : List P3) : List (List Int) := ps.map fun l => lineR A T l ps 0
structure PrS (m : FM) (n1 db : Nat) (D : Int) (M' : FM) (N' : Nat) (gs : List (List Int)) : Prop where
  le : n1 ≤ N'
  low : ∀ b, b < n1 → b ≠ db → M' b = m b
  d : ∃ rv, M' db = some (.cells [.int .i64 D, rv] 0 false true) ∧ RowsZ M' n1 N' rv gs
theorem proj_L1 (F : Fns E) {m : FM} {nf n1 db : Nat} {D : Int} {sv allv : Value} {q : Nat} {A T : Tab} {ps : List P3} (hg : GoodT q A T) (hS : SpaceM m nf sv q A T ps) (hnf : nf ≤ db) (hdb : db < n1) {k1 : Nat} (hA : SlZ 3 m k1 nf allv ps.length (ptCells ps)) (hps : ∀ r ∈ ps, r.lt q) (hpl : ps.length ≤ 100000)
    (y1 y5 y6 y8 y9 y10 : Value) {Q : AX → List Value → FM → Nat → Nat → Prop}
    (hQ : ∀ M' N' w, PrS m n1 db D M' N' (projR A T ps) → (∀ j, j ≤ nf → Nat.mod w (bit j) = 0) → Q (.exit 0) [y1, .int .i64 (ps.length : Int), allv, .pointer (some ⟨db, 0, none⟩), y5, y6, sv, y8, y9, y10] M' N' w) :
    ∀ d j, j + d = ps.length → ∀ (M' : FM) (N' w0 : Nat), PrS m n1 db D M' N' (projR A T ps |>.take j) → (∀ j, j ≤ nf → Nat.mod w0 (bit j) = 0) →
    Gv (execW PG E Y ac27L1 [.int .i64 (j : Int), y1, .int .i64 (ps.length : Int), allv, .pointer (some ⟨db, 0, none⟩), y5, y6, sv, y8, y9, y10] M' N') fun X e m n w => Q X e m n (Nat.lor w0 w) := by
  intro d
  induction d with
  | zero =>
    intro j hj M' N' w0 hP hw
    refine wr_loopN (L := ac27L1) (b := ac27L1b) rfl ?_
    simp only [ac27L1b]
    simp (implicitDefEqProofs := false) (disch := omega) only [W2, opds, Nat.testBit, Nat.reduceAdd, Nat.reduceShiftRight, Nat.reduceAnd, Nat.reduceBNe, Nat.reduceMul]
    have hpl2 : (projR A T ps).length = ps.length := List.length_map ..
    rw [show j = ps.length by omega, ← hpl2, List.take_length] at hP
    exact hQ _ _ _ hP hw
  | succ d ih =>
    intro j hj M' N' w0 hP hw
    refine wr_loopN (L := ac27L1) (b := ac27L1b) rfl ?_
    simp only [ac27L1b]
    have hjl : j < ps.length := by omega
    obtain ⟨le, low, rv, d1, d2⟩ := hP
    have hA' := SlZ.frame (M' := M') (N' := N') hA (by omega) fun b _ hb => low b (by omega) (by omega)
    obtain ⟨b1, i1, i2, i3, i4, i5⟩ := hA'.at hjl
    have i6 := ptCells_at ps hjl
    have hl := hps _ (List.getElem_mem hjl)
    have hps2 : (projR A T ps).take (j + 1) = (projR A T ps).take j ++ [lineR A T ps[j] ps 0] := by
      rw [List.take_add_one, projR, List.getElem?_map, List.getElem?_eq_getElem hjl]; rfl
    have ih' := ih (j + 1) (by omega)
    rw [hps2] at ih'
    have htl : ((projR A T ps).take j).length ≤ 100000 := by rw [List.length_take]; omega
    generalize (projR A T ps).take j = gs at *
    generalize ps[j] = l at *
    simp only [P3.cells] at i6
    have hSm : SpaceM M' N' sv q A T ps := hS.frame (by omega) fun b hb => low b (by omega) (by omega)
    obtain ⟨sb, mb, pf, allv2, k2, rfl, s2, s3, s4, s5, s6, s7, s8⟩ := id hSm
    simp (implicitDefEqProofs := false) (disch := omega) only [W2, opds, Nat.testBit, Nat.reduceAdd, Nat.reduceShiftRight, Nat.reduceAnd, Nat.reduceBNe, Nat.reduceMul, i1, i4, i6]
    generalize hM1 : (AMem.put M' N' (some (.cells [.int .i64 (l.x : Int), .int .i64 (l.y : Int), .int .i64 (l.z : Int)] 0 false true)) : FM) = M1
    have l1 : ∀ b, b < N' → M1 b = M' b := fun b hb => by rw [← hM1, fput_ne _ _ _ _ (by omega)]
    have lb1 : M1 N' = some (.cells l.cells 0 false true) := by rw [← hM1]; exact fput_same _ _ _
    have s4' : M1 sb = some (.cells [pf, allv2, .map (some mb)] 0 false true) := (l1 sb s2).trans s4
    simp (implicitDefEqProofs := false) (disch := omega) only [W2, opds, Nat.testBit, Nat.reduceAdd, Nat.reduceShiftRight, Nat.reduceAnd, Nat.reduceBNe, Nat.reduceMul, s4, nilckV, s5.len]
    refine wr_kont (proj_L0 F hg (m := M1) (n1 := N' + 1) (lb := N') (sv := .pointer (some ⟨sb, 0, none⟩)) (k1 := k2) ((hSm.sp).frame (by omega) l1) (SlZ.frame s5 (by omega) fun b _ hb => l1 b hb) hps hpl hl (Nat.lt_succ_self _) lb1 _ _ _ _ _ _ _ _ _ _ _ _ _ _ _ _ _ (fun gv M2 N2 w2 n2 m2 z2 f2 y1 rr => ?_) ps.length 0 (by omega) M1 (N' + 1) 0 _ (Nat.le_refl _) (fun _ _ => rfl) (IntZ.nil _ _ _) (fun _ _ => Nat.zero_mod _))
    have d1' : M2 db = some (.cells [.int .i64 D, rv] 0 false true) := by rw [m2 db (by omega), l1 db (by omega)]; exact d1
    have hgc : gv.cells.toList = [gv] := by rcases z2 with ⟨_, _, rfl⟩ | ⟨_, _, b, rfl, _⟩ <;> rfl
    have hgo : Am.one gv = true := SlZ.one z2
    simp (implicitDefEqProofs := false) (disch := omega) only [W2, opds, Nat.testBit, Nat.reduceAdd, Nat.reduceShiftRight, Nat.reduceAnd, Nat.reduceBNe, Nat.reduceMul, d1', hgo, hgc]
    refine use_rt (app_rowsZ (n0 := n1) (n1 := N') (gs := gs) (g := lineR A T l ps 0) (RowsZ.frame d2 (Nat.le_refl _) fun b h1 h2 => by rw [fput_ne _ _ _ _ (by omega), m2 b (by omega), l1 b h2]) (IntZ.frame (SlZ.low z2 (by omega)) (by omega) fun b _ hb => by rw [fput_ne _ _ _ _ (by omega)]) (by omega) (by omega) (some ⟨N2, 0, none⟩) 1 (bit N2) (by omega)) fun v5 M5 N5 r5 w5 hA => ?_
    obtain ⟨av, an, as5, al, aw⟩ := hA
    subst an
    subst av
    have d5 : M5 db = some (.cells [.int .i64 D, rv] 0 false true) := by rw [al db hdb, fput_ne _ _ _ _ (by omega)]; exact d1'
    simp (implicitDefEqProofs := false) (disch := omega) only [W2, opds, Nat.testBit, Nat.reduceAdd, Nat.reduceShiftRight, Nat.reduceAnd, Nat.reduceBNe, Nat.reduceMul, d5]
    refine wr_end (ih' _ (N2 + 2) (Nat.lor w0 (Nat.lor (Nat.lor (Nat.lor (bit N') (bit N')) w2) (Nat.lor (Nat.lor (bit N2) w5) (bit db)))) ⟨by omega, fun b h1 h2 => by rw [fput_ne _ _ _ _ h2, al b h1, fput_ne _ _ _ _ (by omega), m2 b (by omega), l1 b (by omega)]; exact low b h1 h2, ⟨_, fput_same _ _ _, RowsZ.frame as5 (Nat.le_refl _) fun b h1 _ => fput_ne _ _ _ _ (by omega)⟩⟩ (fun j hj => by
      simp only [frz_iff]
      exact ⟨hw j hj, ⟨⟨frz_bit (by omega), frz_bit (by omega)⟩, f2 j (by omega)⟩, ⟨frz_bit (by omega), aw j (by omega)⟩, frz_bit (by omega)⟩)) fun X e m n w hq => ?_
    rw [← lor_assoc']; exact hq
def DesV (M : FM) (n0 N : Nat) (v : Value) (D : Int) (gs : List (List Int)) : Prop := ∃ rv, v = .agg #[.int .i64 D, rv] ∧ RowsZ M n0 N rv gs
theorem proj_spec (F : Fns E) (hE : E 27 = some ac27) {q : Nat} {A T : Tab} {ps : List P3} (hg : GoodT q A T) (m : FM) (n : Nat) (hpl : ps.length ≤ 100000) (hOpen : ∀ m n, Rt (callW PG E Y 34 [.int .i64 (q : Int)] m n) (Kpt m n fun v M' N' => ∃ sv, v = .tuple #[sv, .int .i64 0] ∧ SpaceM M' N' sv q A T ps)) :
    Rt (callW PG E Y 27 [.int .i64 (q : Int)] m n) (Kpt m n fun v M' N' => ∃ dv, v = .tuple #[dv, .int .i64 0] ∧ DesV M' n N' dv (ps.length : Int) (projR A T ps)) := by
  refine kept_specQ hE rfl fun Q hQ => ?_
  simp only [ac27]
  simp (implicitDefEqProofs := false) (disch := omega) only [W2, opds, Nat.testBit, Nat.reduceAdd, Nat.reduceShiftRight, Nat.reduceAnd, Nat.reduceBNe, Nat.reduceMul]
  refine use_rt (hOpen _ _) fun v M1 N1 r1 w1 ⟨n1, m1, f1, sv, hv, hS⟩ => ?_
  subst hv
  obtain ⟨sb, mb, pf, allv, k1, rfl, s2, s3, s4, s5, s6, s7, s8⟩ := id hS
  have hlen := s5.len
  simp (implicitDefEqProofs := false) (disch := omega) only [W2, opds, Nat.testBit, Nat.reduceAdd, Nat.reduceShiftRight, Nat.reduceAnd, Nat.reduceBNe, Nat.reduceMul, s4, nilckV, hlen]
  generalize hM2 : (AMem.put M1 N1 (some (.cells [.int .i64 (ps.length : Int), .slice none 0 0] 0 false true)) : FM) = M2
  have l2 : ∀ b, b < N1 → M2 b = M1 b := fun b hb => by rw [← hM2, fput_ne _ _ _ _ (by omega)]
  have d2 : M2 N1 = some (.cells [.int .i64 (ps.length : Int), .slice none 0 0] 0 false true) := by rw [← hM2]; exact fput_same _ _ _
  have hm1 : M1 n = some (.cells [.int .i64 0, .slice none 0 0] 0 false true) := (m1 n (by omega)).trans (fput_same _ _ _)
  have s4' : M2 sb = some (.cells [pf, allv, .map (some mb)] 0 false true) := (l2 sb s2).trans s4
  have fzn := f1 n (by omega)
  have fza : Nat.mod (bit N1) (bit n) = 0 := frz_bit (by omega)
  have fzb : Nat.mod (bit n) (bit n) = 0 := frz_bit (Nat.le_refl _)
  refine wr_kont (proj_L1 F hg (m := M2) (nf := N1) (n1 := N1 + 1) (db := N1) (D := (ps.length : Int)) (sv := .pointer (some ⟨sb, 0, none⟩)) (hS.frame (Nat.le_refl _) l2) (Nat.le_refl _) (Nat.lt_succ_self _) (SlZ.frame s5 (Nat.le_refl _) fun b _ hb => l2 b hb) s8 hpl _ _ _ _ _ _ (fun M3 N3 w3 hP f3 rr => ?_) ps.length 0 (by omega) M2 (N1 + 1) 0 ⟨Nat.le_refl _, fun _ _ _ => rfl, ⟨_, d2, RowsZ.nil _ _ _⟩⟩ (fun _ _ => Nat.zero_mod _))
  obtain ⟨le3, low3, rv, e3, g3⟩ := hP
  have hm3 : M3 n = some (.cells [.int .i64 0, .slice none 0 0] 0 false true) := by rw [low3 n (by omega) (by omega), l2 n (by omega)]; exact hm1
  have hrb : Am.one rv = true := g3.one
  have fz3 := f3 n (by omega)
  simp (implicitDefEqProofs := false) (disch := omega) only [W2, opds, Nat.testBit, Nat.reduceAdd, Nat.reduceShiftRight, Nat.reduceAnd, Nat.reduceBNe, Nat.reduceMul, e3, hm3, hrb]
  refine hQ _ _ _ _ _ (by omega) (fun b hb => by rw [fput_ne _ _ _ _ (by omega), low3 b (by omega) (by omega), l2 b (by omega), m1 b (by omega), fput_ne _ _ _ _ (by omega)]) ?_ rfl ⟨_, rfl, rv, rfl, RowsZ.low (RowsZ.frame g3 (Nat.le_refl _) fun b h1 _ => fput_ne _ _ _ _ (by omega)) (by omega)⟩
  simp only [frz_iff]
  exact ⟨⟨⟨⟨fzb, fzn⟩, fza, fza⟩, fz3⟩, fzb⟩
theorem proj_bad (hE : E 27 = some ac27) {q er : Int} (hne : er ≠ 0) (m : FM) (n : Nat) (hOpen : ∀ m n, Pure (callW PG E Y 34 [.int .i64 q] m n) m n (.tuple #[.pointer none, .int .i64 er])) :
    Rt (callW PG E Y 27 [.int .i64 q] m n) (Kpt m n fun v M' N' => ∃ dv, v = .tuple #[dv, .int .i64 er] ∧ DesV M' n N' dv 0 []) := by
  refine kept_specQ hE rfl fun Q hQ => ?_
  simp only [ac27]
  have fzb : Nat.mod (bit n) (bit n) = 0 := frz_bit (Nat.le_refl _)
  simp (implicitDefEqProofs := false) (disch := omega) only [W2, opds, Nat.testBit, Nat.reduceAdd, Nat.reduceShiftRight, Nat.reduceAnd, Nat.reduceBNe, Nat.reduceMul]
  refine use_pure (hOpen _ _) fun _ => ?_
  simp (implicitDefEqProofs := false) (disch := omega) only [W2, opds, Nat.testBit, Nat.reduceAdd, Nat.reduceShiftRight, Nat.reduceAnd, Nat.reduceBNe, Nat.reduceMul, decide_eq_false hne]
  refine hQ _ _ _ _ _ (by omega) (fun b hb => by rw [fput_ne _ _ _ _ (by omega)]) ?_ rfl ⟨_, rfl, _, rfl, RowsZ.nil _ _ _⟩
  simp only [frz_iff, fzb, and_self]
end Go.Am.C07
