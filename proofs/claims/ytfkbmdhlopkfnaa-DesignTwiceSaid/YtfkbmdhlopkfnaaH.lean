/- The machine and its runs, part H: Am07sh Am07soh. -/
import Derived.Test.YtfkbmdhlopkfnaaG
import Derived.Test.YtfkbmdhlopkfnaaB16
set_option linter.unusedVariables false
set_option linter.unusedSimpArgs false
set_option linter.unusedSectionVars false
namespace Go.Am.C07
open Go Go.Am
variable {E : Nat → Option AFn} {Y : Nat → List Value → FM → Nat → OR FM}
theorem app_cp_eq {M : FM} {N b r w : Nat} {xs : List Value} (hw : 0 < w) : appG M N 1 0 w 0 [] xs r (some ⟨b, 0, none⟩) = .ok (.slice (some ⟨N, 0, none⟩) w UNK) (AMem.put M N (some (.cells xs 1 true true))) (N + 1) r (bit N) := by
  show cond (Nat.ble (Nat.add 0 w) 0) (appR M N 1 0 (0 + w) 0 xs r b 0 (getb M N b)) (appN M N 1 (0 + w) ([] ++ xs) r) = _
  have hle : Nat.ble (Nat.add 0 w) 0 = false := by
    cases hq : Nat.ble (Nat.add 0 w) 0
    · rfl
    · have : 0 + w ≤ 0 := Nat.le_of_ble_eq_true hq
      omega
  rw [hle, cond_false, Nat.zero_add, List.nil_append]
  rfl
structure RowsP (M : FM) (N : Nat) (ws : List Value) (gs : List (List Int)) : Prop where
  len : ws.length = gs.length
  row : ∀ (i : Nat) x g, ws[i]? = some x → gs[i]? = some g → Ints M N x g
theorem rows_app {M : FM} {N : Nat} {ws us : List Value} {gs hs : List (List Int)} (h1 : ws.length = gs.length) (h2 : ∀ (i : Nat) x g, ws[i]? = some x → gs[i]? = some g → Ints M N x g)
    (k1 : us.length = hs.length) (k2 : ∀ (i : Nat) x g, us[i]? = some x → hs[i]? = some g → Ints M N x g) : RowsP M N (ws ++ us) (gs ++ hs) := by
  refine ⟨by rw [List.length_append, List.length_append, h1, k1], fun i x g hx hg => ?_⟩
  rcases Nat.lt_or_ge i ws.length with hi | hi
  · rw [List.getElem?_append_left hi] at hx
    rw [List.getElem?_append_left (by omega)] at hg
    exact h2 i x g hx hg
  · rw [List.getElem?_append_right hi] at hx
    rw [List.getElem?_append_right (by omega), ← h1] at hg
    exact k2 _ x g hx hg
theorem rows_mk {M : FM} {N b : Nat} {opn wr : Bool} {ws : List Value} {gs : List (List Int)} (hb : b < N) (hM : M b = some (.cells ws 1 opn wr)) (h : RowsP M N ws gs) : Rows M N (.slice (some ⟨b, 0, none⟩) gs.length UNK) gs :=
  ⟨ws, .inr (.inl ⟨b, 0, UNK, ws, opn, wr, by rw [h.len], hb, hM, fun i x hx => by rw [Nat.zero_add]; exact hx⟩), h.len, h.row⟩
theorem slcM_unk {M : FM} {N sz b o len : Nat} (v : Option Value) : slcM M N sz v (Value.slice (some ⟨b, o, none⟩) len UNK) = cond (szOk sz (getb M N b)) (valR M N b v) .no := by
  have : Nat.beq UNK UNK = true := Nat.beq_refl _
  simp only [slcM, this, cond_true]
theorem slc_to {M : FM} {N b len i : Nat} {c : List Value} {opn wr : Bool} (h : i ≤ len) (hb : b < N) (hm : M b = some (.cells c 1 opn wr)) :
    slcM M N 1 (slcV 1 none (some (.int .i64 (i : Int))) (.slice (some ⟨b, 0, none⟩) len UNK)) (.slice (some ⟨b, 0, none⟩) len UNK) = .ok (.slice (some ⟨b, 0, none⟩) i UNK) M N (bit b) 0 := by
  have h1 : slcV 1 none (some (Value.int .i64 (i : Int))) (Value.slice (some ⟨b, 0, none⟩) len UNK) = some (Value.slice (some ⟨b, 0, none⟩) i UNK) := by
    show cond (Nat.ble 0 i && Nat.ble i len) (slcA 1 0 i len UNK (some ⟨b, 0, none⟩)) none = _
    have h1 : Nat.beq UNK UNK = true := Nat.beq_refl _
    have h2 : Nat.beq UNK VAG = false := nbeq_f (by decide)
    have h3 : (Nat.blt 0 len || Nat.beq 0 0) = true := by simp
    rw [ble_true (Nat.zero_le i), ble_true h]
    simp only [slcA, h1, h2, h3, cond_true, cond_false, Bool.and_self]
    rw [show Nat.add 0 (Nat.mul 0 1) = 0 from rfl, show Nat.sub i 0 = i from rfl]
  rw [h1, slcM_unk, getb_lt hb, hm]
  show cond (Nat.beq 1 1) _ _ = _
  rw [Nat.beq_refl]; rfl
theorem slc_from {M : FM} {N b len i : Nat} {c : List Value} {opn wr : Bool} (h : i ≤ len) (h0 : 0 < i) (hb : b < N) (hm : M b = some (.cells c 1 opn wr)) :
    slcM M N 1 (slcV 1 (some (.int .i64 (i : Int))) none (.slice (some ⟨b, 0, none⟩) len UNK)) (.slice (some ⟨b, 0, none⟩) len UNK) = .ok (if i < len then .slice (some ⟨b, i, none⟩) (len - i) UNK else .slice (some ⟨b, 0, none⟩) 0 VAG) M N (bit b) 0 := by
  have h1 : slcV 1 (some (Value.int .i64 (i : Int))) none (Value.slice (some ⟨b, 0, none⟩) len UNK) = some (if i < len then .slice (some ⟨b, i, none⟩) (len - i) UNK else .slice (some ⟨b, 0, none⟩) 0 VAG) := by
    show cond (Nat.ble i len && Nat.ble len len) (slcA 1 i len len UNK (some ⟨b, 0, none⟩)) none = _
    have h1 : Nat.beq UNK UNK = true := Nat.beq_refl _
    have h2 : Nat.beq UNK VAG = false := nbeq_f (by decide)
    rw [ble_true (Nat.le_refl len), ble_true h]
    have h4 : Nat.beq i 0 = false := nbeq_f (by omega)
    by_cases hi : i < len
    · have h3 : Nat.blt i len = true := blt_true hi
      simp only [slcA, h1, h2, h3, h4, if_pos hi, cond_true, cond_false, Bool.and_self, Bool.or_false]
      rw [show Nat.add 0 (Nat.mul i 1) = i from by show 0 + i * 1 = i; omega, show Nat.sub len i = len - i from rfl]
    · have h3 : Nat.blt i len = false := by
        cases hq : Nat.blt i len
        · rfl
        · exact absurd (Nat.le_of_ble_eq_true hq) (by omega)
      simp only [slcA, h1, h2, h3, h4, if_neg hi, cond_true, cond_false, Bool.and_self, Bool.or_false]
  rw [h1, slcM_unk, getb_lt hb, hm]
  show cond (Nat.beq 1 1) _ _ = _
  rw [Nat.beq_refl]; rfl
theorem s_slc (P : Program) (rec : Nat → List Value → FM → Nat → OR FM) (e : List Value) (m : FM) (n sz : Nat) (x : Opd) (lo hi : Option Opd) : stepA P rec e m n (.slc sz x lo hi) = slcM m n sz (slcV sz (oev e lo) (oev e hi) (ev e x)) (ev e x) := rfl
theorem oev_some (e : List Value) (x : Opd) : oev e (some x) = some (ev e x) := rfl
theorem oev_none (e : List Value) : oev e none = none := rfl
theorem app_e0 {M : FM} {N b r : Nat} {opn : Bool} (hb : b < N) (hM : M b = some (.cells [] 1 opn true)) : appG M N 1 0 0 0 [] [] r (some ⟨b, 0, none⟩) = .ok (.slice (some ⟨b, 0, none⟩) 0 0) (AMem.put M b (some (.cells [] 1 opn true))) N r (bit b) := by
  show appR M N 1 0 (0 + 0) 0 [] r b 0 (getb M N b) = _
  rw [getb_lt hb, hM]
  rfl
theorem designTwice_exec (T : En E Y) (hA : ∀ m n, Pure (callW PG E Y 10 [] m n) m n (.bool true)) (z : Nat) (hz : z < 65536) (u : Nat) (hu : u < 256) (m : FM) (n : Nat) : Pure (callW PG E Y 9 [.int .u16 (z : Int), .int .u8 (u : Int)] m n) m n (.bool true) := by
  refine pure_spec T.e9 rfl rfl ?_
  simp only [ac9]
  simp (implicitDefEqProofs := false) (disch := omega) only [W2, opds, Nat.testBit, Nat.reduceAdd, Nat.reduceShiftRight, Nat.reduceAnd, Nat.reduceBNe, Nat.reduceMul]
  refine use_pure (hA _ _) fun _ => ?_
  simp (implicitDefEqProofs := false) (disch := omega) only [W2, opds, Nat.testBit, Nat.reduceAdd, Nat.reduceShiftRight, Nat.reduceAnd, Nat.reduceBNe, Nat.reduceMul]
  refine use_pure (small_spec T.e22 _ _ z hz) fun _ => ?_
  have hs := sml_of z
  generalize 2 + (z / 256) % 7 = v at *
  generalize 2 + (z % 256) % _ = k at *
  obtain ⟨v2, v8, k2, kv⟩ := hs
  simp (implicitDefEqProofs := false) (disch := omega) only [W2, opds, Nat.testBit, Nat.reduceAdd, Nat.reduceShiftRight, Nat.reduceAnd, Nat.reduceBNe, Nat.reduceMul]
  have hb : ¬ cplBad (v : Int) (k : Int) := by unfold cplBad; omega
  have hl : ¬ 4096 < cplN (v : Int) (k : Int) := by have := cplN_small v (by omega) k (by omega) kv; omega
  have hch := ch_small v (by omega) k (by omega)
  refine use_rt (cpl_ok' T hb hl _ _) fun v' M1 N1 r1 w1 ⟨n1, m1, f1, rb, vs, hv, hX⟩ => ?_
  subst hv
  have hR := hX.rows
  have hlen : (cplL v k).length = ch v k := cpl_len v k
  rw [hlen] at hR ⊢
  simp (implicitDefEqProofs := false) (disch := omega) only [W2, opds, Nat.testBit, Nat.reduceAdd, Nat.reduceShiftRight, Nat.reduceAnd, Nat.reduceBNe, Nat.reduceMul]
  generalize hM2 : (AMem.put M1 N1 (some (.cells [.int .i64 (v : Int), .slice (some ⟨rb, 0, none⟩) (ch v k) UNK] 0 false true)) : FM) = M2
  have d2 : M2 N1 = some (.cells [.int .i64 (v : Int), .slice (some ⟨rb, 0, none⟩) (ch v k) UNK] 0 false true) := by rw [← hM2]; exact fput_same _ _ _
  have hR2 : Rows M2 (N1 + 1) (.slice (some ⟨rb, 0, none⟩) (ch v k) UNK) (cplL v k) := hR.frame (by omega) fun b hb => by rw [← hM2, fput_ne _ _ _ _ (by omega)]
  have hrb := hX.lt
  have b2 : M2 rb = some (.cells vs 1 false false) := by rw [← hM2, fput_ne _ _ _ _ (by omega)]; exact hX.blk
  have hpos := ch_pos kv
  have hvl : vs.length = ch v k := by rw [hX.len, hlen]
  have hct : ctake vs (ch v k) = some vs := cells_all hvl.symm
  have hrow : ∀ g ∈ cplL (v : Int) (k : Int), g.length = k := fun g hg => (cpl_fm (D := v) (k := k) g hg).1
  have hS := K.check_spec (E := E) (Y := Y) T.e16 T.e26 M2 (N1 + 1) (v : Int) _ (cplL v k) hR2 (by omega) (fun g hg => by rw [hrow g hg]; omega)
  rw [show K.checkV (v : Int) (cplL v k) = _ from (cpl_check (D := v) (k := k) (by omega) k2 kv (by omega)).2] at hS
  have fzn := f1 n (Nat.le_refl _)
  have fza : Nat.mod (bit N1) (bit n) = 0 := frz_bit (by omega)
  refine use_pure hS fun _ => ?_
  simp (implicitDefEqProofs := false) (disch := omega) only [W2, opds, Nat.testBit, Nat.reduceAdd, Nat.reduceShiftRight, Nat.reduceAnd, Nat.reduceBNe, Nat.reduceMul, d2, b2, hct, hX.ones, app_cp_eq]
  generalize hM5 : (AMem.put (AMem.put (AMem.put (AMem.put M2 (N1 + 1) (some (.cells [] 1 false true))) (N1 + 2) none) (N1 + 3) (some (.cells (vs ++ vs) 1 true true))) (N1 + 4) (some (.cells [.int .i64 (v : Int), .slice (some ⟨N1 + 3, 0, none⟩) (ch v k + ch v k) UNK] 0 false true)) : FM) = M5
  have o5 : ∀ b, b < N1 + 1 → M5 b = M2 b := fun b hb => by rw [← hM5, fput_ne _ _ _ _ (by omega), fput_ne _ _ _ _ (by omega), fput_ne _ _ _ _ (by omega), fput_ne _ _ _ _ (by omega)]
  have t5 : M5 (N1 + 3) = some (.cells (vs ++ vs) 1 true true) := by rw [← hM5, fput_ne _ _ _ _ (by omega)]; exact fput_same _ _ _
  have d5 : M5 N1 = _ := (o5 N1 (by omega)).trans d2
  have b5 : M5 rb = _ := (o5 rb (by omega)).trans b2
  have row2 : ∀ (i : Nat) x g, vs[i]? = some x → (cplL (v : Int) (k : Int))[i]? = some g → Ints M2 (N1 + 1) x g := fun i x g hx hg => (hX.row i x g hx hg).frame (by omega) fun b hb => by rw [← hM2, fput_ne _ _ _ _ (by omega)]
  have row5 : ∀ (i : Nat) x g, vs[i]? = some x → (cplL (v : Int) (k : Int))[i]? = some g → Ints M5 (N1 + 5) x g := fun i x g hx hg => (row2 i x g hx hg).frame (by omega) o5
  have hRt := rows_mk (show N1 + 3 < N1 + 5 by omega) t5 (rows_app hX.len row5 hX.len row5)
  have hl2 : (cplL (v : Int) (k : Int) ++ cplL (v : Int) (k : Int)).length = ch v k + ch v k := by rw [List.length_append, hlen]
  rw [hl2] at hRt
  have hS2 := K.check_spec (E := E) (Y := Y) T.e16 T.e26 M5 (N1 + 5) (v : Int) _ _ hRt (by omega) (fun g hg => by rw [List.mem_append, or_self] at hg; rw [hrow g hg]; omega)
  rw [show K.checkV (v : Int) (cplL (v : Int) (k : Int) ++ cplL (v : Int) (k : Int)) = _ from twice_check (D := v) (k := k) (by omega) k2 kv (by omega)] at hS2
  refine use_pure hS2 fun _ => ?_
  have hr70 := ch_small (v - 1) (by omega) (k - 1) (by omega)
  have hl70 := ch_small (v - 2) (by omega) (k - 2) (by omega)
  generalize ch (v - 1) (k - 1) = r at *
  generalize ch (v - 2) (k - 2) = lam at *
  have e2r : (2 : Int) * (r : Int) = ((2 * r : Nat) : Int) := by omega
  have e2l : (2 : Int) * (lam : Int) = ((2 * lam : Nat) : Int) := by omega
  have hr70 := ch_small (v - 1) (by omega) (k - 1) (by omega)
  have hl70 := ch_small (v - 2) (by omega) (k - 2) (by omega)
  generalize ch (v - 1) (k - 1) = r at *
  generalize ch (v - 2) (k - 2) = lam at *
  have e2r : (2 : Int) * (r : Int) = ((2 * r : Nat) : Int) := by omega
  have e2l : (2 : Int) * (lam : Int) = ((2 * lam : Nat) : Int) := by omega
  have hr70 := ch_small (v - 1) (by omega) (k - 1) (by omega)
  have hl70 := ch_small (v - 2) (by omega) (k - 2) (by omega)
  generalize ch (v - 1) (k - 1) = r at *
  generalize ch (v - 2) (k - 2) = lam at *
  have e2r : (2 : Int) * (r : Int) = ((2 * r : Nat) : Int) := by omega
  have e2l : (2 : Int) * (lam : Int) = ((2 * lam : Nat) : Int) := by omega
  have hcu := conv_u8 hu
  have hrem := fun (t : Nat) => binV_rem_nat (t := t) (a := u) (b := ch v k) (by omega)
  have hulen : u % ch v k < ch v k := Nat.mod_lt _ hpos
  have hst := fun (i : Nat) (hi : i ≤ ch v k) => slc_to (M := AMem.put M5 (N1 + 5) (some (.cells [] 1 false true))) (N := N1 + 6) (i := i) hi (by omega) ((fput_ne _ _ _ _ (by omega)).trans b5)
  simp (implicitDefEqProofs := false) (disch := omega) only [W2, opds, Nat.testBit, Nat.reduceAdd, Nat.reduceShiftRight, Nat.reduceAnd, Nat.reduceBNe, Nat.reduceMul, d5, b5, hcu, hrem, Option.toList_none, Option.toList_some, s_slc, oev_some, oev_none]
  generalize hi : u % ch v k = i at *
  have hilt : i < (cplL (v : Int) (k : Int)).length := by omega
  have hless : K.checkV (v : Int) ((cplL (v : Int) (k : Int)).take i ++ (cplL (v : Int) (k : Int)).drop (i + 1)) = K.errT := less_check (D := v) (k := k) (by omega) k2 kv (by omega) hilt
  have hwl := without_len (cplL (v : Int) (k : Int)) hilt
  have hsub : ∀ g ∈ (cplL (v : Int) (k : Int)).take i ++ (cplL (v : Int) (k : Int)).drop (i + 1), g ∈ cplL (v : Int) (k : Int) := fun g hg => by
    rcases List.mem_append.1 hg with hg | hg
    · exact List.mem_of_mem_take hg
    · exact List.mem_of_mem_drop hg
  have row5' : ∀ (j : Nat) x g, vs[j]? = some x → (cplL (v : Int) (k : Int))[j]? = some g → Ints M5 (N1 + 1) x g := fun j x g hx hg => (row2 j x g hx hg).frame (by omega) o5
  have hti : ctake vs i = some (vs.take i) := by rw [ctake_eq, if_pos (by omega)]
  have hdi : ctake (ldrop vs (i + 1)) (ch v k - (i + 1)) = some (vs.drop (i + 1)) := by rw [ldrop_eq, cells_all (by rw [List.length_drop, hvl])]
  have htt : ctake (vs.take i) i = some (vs.take i) := cells_all (by rw [List.length_take]; omega)
  have on1 : (vs.take i).all Am.one = true := List.all_eq_true.2 fun x hx => List.all_eq_true.1 hX.ones x (List.mem_of_mem_take hx)
  have on2 : (vs.drop (i + 1)).all Am.one = true := List.all_eq_true.2 fun x hx => List.all_eq_true.1 hX.ones x (List.mem_of_mem_drop hx)
  have htl : (vs.take i).length = ((cplL (v : Int) (k : Int)).take i).length := by rw [List.length_take, List.length_take, hX.len]
  have hdl : (vs.drop (i + 1)).length = ((cplL (v : Int) (k : Int)).drop (i + 1)).length := by rw [List.length_drop, List.length_drop, hX.len]
  rw [hst i (by omega)]
  have hsf := slc_from (M := AMem.put M5 (N1 + 5) (some (.cells [] 1 false true))) (N := N1 + 6) (i := i + 1) (len := ch v k) (by omega) (by omega) (by omega) ((fput_ne _ _ _ _ (by omega)).trans b5)
  by_cases hi0 : i = 0
  · subst hi0
    have ae := fun (r : Nat) => app_e0 (M := AMem.put M5 (N1 + 5) (some (.cells [] 1 false true))) (N := N1 + 6) (b := N1 + 5) (opn := false) (r := r) (by omega) (fput_same _ _ _)
    by_cases hB : ch v k = 1
    · rw [if_neg (by omega)] at hsf
      simp (implicitDefEqProofs := false) (disch := omega) only [W2, opds, Nat.testBit, Nat.reduceAdd, Nat.reduceShiftRight, Nat.reduceAnd, Nat.reduceBNe, Nat.reduceMul, d5, b5, Option.toList_none, Option.toList_some, s_slc, oev_some, oev_none, hsf, ae]
      generalize hM7 : (AMem.put (AMem.put M5 (N1 + 5) (some (.cells [] 1 false true))) (N1 + 6) (some (.cells [.int .i64 (v : Int), .slice (some ⟨N1 + 5, 0, none⟩) 0 0] 0 false true)) : FM) = M7
      have d7 : M7 (N1 + 6) = some (.cells [.int .i64 (v : Int), .slice (some ⟨N1 + 5, 0, none⟩) 0 0] 0 false true) := by rw [← hM7]; exact fput_same _ _ _
      have o7 : ∀ b, b < N1 + 5 → M7 b = M5 b := fun b hb => by rw [← hM7]; rw [fput_ne _ _ _ _ (by omega), fput_ne _ _ _ _ (by omega)]
      have row7 : ∀ (j : Nat) x g, vs[j]? = some x → (cplL (v : Int) (k : Int))[j]? = some g → Ints M7 (N1 + 7) x g := fun j x g hx hg => (row5' j x g hx hg).frame (by omega) fun b hb => o7 b (by omega)
      have h70 : (cplL (v : Int) (k : Int)).take 0 ++ (cplL (v : Int) (k : Int)).drop (0 + 1) = [] := List.length_eq_zero_iff.1 (by omega)
      have b7 : M7 (N1 + 5) = some (.cells [] 1 false true) := by rw [← hM7, fput_ne _ _ _ _ (by omega)]; exact fput_same _ _ _
      have hR7 : Rows M7 (N1 + 7) (.slice (some ⟨N1 + 5, 0, none⟩) 0 0) ((cplL (v : Int) (k : Int)).take 0 ++ (cplL (v : Int) (k : Int)).drop (0 + 1)) := by
        rw [h70]
        exact ⟨[], .inr (.inl ⟨N1 + 5, 0, 0, [], false, true, rfl, by omega, b7, fun i x hx => by simp at hx⟩), rfl, fun i x g hx => by simp at hx⟩
      have hS3 := K.check_spec (E := E) (Y := Y) T.e16 T.e26 M7 (N1 + 7) (v : Int) _ _ hR7 (by omega) (fun g hg => by rw [hrow g (hsub g hg)]; omega)
      rw [hless] at hS3
      refine use_pure hS3 fun _ => ?_
      simp (implicitDefEqProofs := false) (disch := omega) only [W2, opds, Nat.testBit, Nat.reduceAdd, Nat.reduceShiftRight, Nat.reduceAnd, Nat.reduceBNe, Nat.reduceMul, K.errT, fzn, fza, e2r, e2l, frz_bit]
    · rw [if_pos (by omega)] at hsf
      simp (implicitDefEqProofs := false) (disch := omega) only [W2, opds, Nat.testBit, Nat.reduceAdd, Nat.reduceShiftRight, Nat.reduceAnd, Nat.reduceBNe, Nat.reduceMul, d5, b5, Option.toList_none, Option.toList_some, s_slc, oev_some, oev_none, hsf, ae, hdi, on2, app_cp_eq]
      generalize hM7 : (AMem.put (AMem.put (AMem.put M5 (N1 + 5) (some (.cells [] 1 false true))) (N1 + 6) (some (.cells (vs.drop 1) 1 true true))) (N1 + 7) (some (.cells [.int .i64 (v : Int), .slice (some ⟨N1 + 6, 0, none⟩) (ch v k - 1) UNK] 0 false true)) : FM) = M7
      have d7 : M7 (N1 + 7) = some (.cells [.int .i64 (v : Int), .slice (some ⟨N1 + 6, 0, none⟩) (ch v k - 1) UNK] 0 false true) := by rw [← hM7]; exact fput_same _ _ _
      have o7 : ∀ b, b < N1 + 5 → M7 b = M5 b := fun b hb => by rw [← hM7]; rw [fput_ne _ _ _ _ (by omega), fput_ne _ _ _ _ (by omega), fput_ne _ _ _ _ (by omega)]
      have row7 : ∀ (j : Nat) x g, vs[j]? = some x → (cplL (v : Int) (k : Int))[j]? = some g → Ints M7 (N1 + 8) x g := fun j x g hx hg => (row5' j x g hx hg).frame (by omega) fun b hb => o7 b (by omega)
      have b7 : M7 (N1 + 6) = some (.cells (vs.drop 1) 1 true true) := by rw [← hM7, fput_ne _ _ _ _ (by omega)]; exact fput_same _ _ _
      have hR7 : Rows M7 (N1 + 8) (.slice (some ⟨N1 + 6, 0, none⟩) (ch v k - 1) UNK) ((cplL (v : Int) (k : Int)).take 0 ++ (cplL (v : Int) (k : Int)).drop (0 + 1)) := by
        have h1 := rows_mk (N := N1 + 8) (by omega) b7 (gs := (cplL (v : Int) (k : Int)).drop 1) ⟨hdl, fun j x g hx hg => by rw [List.getElem?_drop] at hx hg; exact row7 _ x g hx hg⟩
        rw [List.length_drop, hlen] at h1
        exact h1
      have hS3 := K.check_spec (E := E) (Y := Y) T.e16 T.e26 M7 (N1 + 8) (v : Int) _ _ hR7 (by omega) (fun g hg => by rw [hrow g (hsub g hg)]; omega)
      rw [hless] at hS3
      refine use_pure hS3 fun _ => ?_
      simp (implicitDefEqProofs := false) (disch := omega) only [W2, opds, Nat.testBit, Nat.reduceAdd, Nat.reduceShiftRight, Nat.reduceAnd, Nat.reduceBNe, Nat.reduceMul, K.errT, fzn, fza]
  · clear hsf
    by_cases hB : i + 1 < ch v k
    · have hsf2 := slc_from (M := AMem.put (AMem.put M5 (N1 + 5) (some (.cells [] 1 false true))) (N1 + 6) (some (.cells (vs.take i) 1 true true))) (N := N1 + 7) (i := i + 1) (len := ch v k) (by omega) (by omega) (by omega) ((fput_ne _ _ _ _ (by omega)).trans ((fput_ne _ _ _ _ (by omega)).trans b5))
      rw [if_pos hB] at hsf2
      simp (implicitDefEqProofs := false) (disch := omega) only [W2, opds, Nat.testBit, Nat.reduceAdd, Nat.reduceShiftRight, Nat.reduceAnd, Nat.reduceBNe, Nat.reduceMul, d5, b5, hsf2, hdi, htt, on2, Option.toList_none, Option.toList_some, s_slc, oev_some, oev_none, hti, on1, app_cp_eq]
      generalize hM7 : (AMem.put (AMem.put (AMem.put (AMem.put M5 (N1 + 5) (some (.cells [] 1 false true))) (N1 + 6) none) (N1 + 7) (some (.cells (vs.take i ++ vs.drop (i + 1)) 1 true true))) (N1 + 8) (some (.cells [.int .i64 (v : Int), .slice (some ⟨N1 + 7, 0, none⟩) (i + (ch v k - (i + 1))) UNK] 0 false true)) : FM) = M7
      have d7 : M7 (N1 + 8) = some (.cells [.int .i64 (v : Int), .slice (some ⟨N1 + 7, 0, none⟩) (i + (ch v k - (i + 1))) UNK] 0 false true) := by rw [← hM7]; exact fput_same _ _ _
      have o7 : ∀ b, b < N1 + 5 → M7 b = M5 b := fun b hb => by rw [← hM7]; rw [fput_ne _ _ _ _ (by omega), fput_ne _ _ _ _ (by omega), fput_ne _ _ _ _ (by omega), fput_ne _ _ _ _ (by omega)]
      have row7 : ∀ (j : Nat) x g, vs[j]? = some x → (cplL (v : Int) (k : Int))[j]? = some g → Ints M7 (N1 + 9) x g := fun j x g hx hg => (row5' j x g hx hg).frame (by omega) fun b hb => o7 b (by omega)
      have b7 : M7 (N1 + 7) = some (.cells (vs.take i ++ vs.drop (i + 1)) 1 true true) := by rw [← hM7, fput_ne _ _ _ _ (by omega)]; exact fput_same _ _ _
      have hR7 : Rows M7 (N1 + 9) (.slice (some ⟨N1 + 7, 0, none⟩) (i + (ch v k - (i + 1))) UNK) ((cplL (v : Int) (k : Int)).take i ++ (cplL (v : Int) (k : Int)).drop (i + 1)) := by
        have h1 := rows_mk (N := N1 + 9) (by omega) b7 (rows_app htl (fun j x g hx hg => by rw [List.getElem?_take] at hx hg; split at hx <;> split at hg <;> first | exact row7 j x g hx hg | cases hx | cases hg) hdl (fun j x g hx hg => by rw [List.getElem?_drop] at hx hg; exact row7 _ x g hx hg))
        rw [List.length_append, List.length_take, List.length_drop, hlen, Nat.min_eq_left (by omega)] at h1
        exact h1
      have hS3 := K.check_spec (E := E) (Y := Y) T.e16 T.e26 M7 (N1 + 9) (v : Int) _ _ hR7 (by omega) (fun g hg => by rw [hrow g (hsub g hg)]; omega)
      rw [hless] at hS3
      refine use_pure hS3 fun _ => ?_
      simp (implicitDefEqProofs := false) (disch := omega) only [W2, opds, Nat.testBit, Nat.reduceAdd, Nat.reduceShiftRight, Nat.reduceAnd, Nat.reduceBNe, Nat.reduceMul, K.errT, fzn, fza]
    · have hsf2 := slc_from (M := AMem.put (AMem.put M5 (N1 + 5) (some (.cells [] 1 false true))) (N1 + 6) (some (.cells (vs.take i) 1 true true))) (N := N1 + 7) (i := i + 1) (len := ch v k) (by omega) (by omega) (by omega) ((fput_ne _ _ _ _ (by omega)).trans ((fput_ne _ _ _ _ (by omega)).trans b5))
      rw [if_neg hB] at hsf2
      simp (implicitDefEqProofs := false) (disch := omega) only [W2, opds, Nat.testBit, Nat.reduceAdd, Nat.reduceShiftRight, Nat.reduceAnd, Nat.reduceBNe, Nat.reduceMul, d5, b5, hsf2, htt, Option.toList_none, Option.toList_some, s_slc, oev_some, oev_none, hti, on1, app_cp_eq]
      generalize hM7 : (AMem.put (AMem.put (AMem.put (AMem.put M5 (N1 + 5) (some (.cells [] 1 false true))) (N1 + 6) none) (N1 + 7) (some (.cells (vs.take i ++ []) 1 true true))) (N1 + 8) (some (.cells [.int .i64 (v : Int), .slice (some ⟨N1 + 7, 0, none⟩) i UNK] 0 false true)) : FM) = M7
      have d7 : M7 (N1 + 8) = some (.cells [.int .i64 (v : Int), .slice (some ⟨N1 + 7, 0, none⟩) i UNK] 0 false true) := by rw [← hM7]; exact fput_same _ _ _
      have o7 : ∀ b, b < N1 + 5 → M7 b = M5 b := fun b hb => by rw [← hM7]; rw [fput_ne _ _ _ _ (by omega), fput_ne _ _ _ _ (by omega), fput_ne _ _ _ _ (by omega), fput_ne _ _ _ _ (by omega)]
      have row7 : ∀ (j : Nat) x g, vs[j]? = some x → (cplL (v : Int) (k : Int))[j]? = some g → Ints M7 (N1 + 9) x g := fun j x g hx hg => (row5' j x g hx hg).frame (by omega) fun b hb => o7 b (by omega)
      have b7 : M7 (N1 + 7) = some (.cells (vs.take i) 1 true true) := by rw [← hM7, fput_ne _ _ _ _ (by omega), List.append_nil]; exact fput_same _ _ _
      have hR7 : Rows M7 (N1 + 9) (.slice (some ⟨N1 + 7, 0, none⟩) i UNK) ((cplL (v : Int) (k : Int)).take i ++ (cplL (v : Int) (k : Int)).drop (i + 1)) := by
        have h1 := rows_mk (N := N1 + 9) (by omega) b7 (gs := (cplL (v : Int) (k : Int)).take i) ⟨htl, fun j x g hx hg => by rw [List.getElem?_take] at hx hg; split at hx <;> split at hg <;> first | exact row7 j x g hx hg | cases hx | cases hg⟩
        rw [List.length_take, hlen, Nat.min_eq_left (by omega)] at h1
        have h0 : (cplL (v : Int) (k : Int)).drop (i + 1) = [] := List.drop_eq_nil_of_le (by omega)
        rw [h0, List.append_nil]
        exact h1
      have hS3 := K.check_spec (E := E) (Y := Y) T.e16 T.e26 M7 (N1 + 9) (v : Int) _ _ hR7 (by omega) (fun g hg => by rw [hrow g (hsub g hg)]; omega)
      rw [hless] at hS3
      refine use_pure hS3 fun _ => ?_
      simp (implicitDefEqProofs := false) (disch := omega) only [W2, opds, Nat.testBit, Nat.reduceAdd, Nat.reduceShiftRight, Nat.reduceAnd, Nat.reduceBNe, Nat.reduceMul, K.errT, fzn, fza]
end Go.Am.C07
namespace Go.Am.C07
open Go Go.Am Go.Am.V
set_option maxRecDepth 1000000
theorem designTwice_calls (z : Nat) (hz : z < 65536) (u : Nat) (hu : u < 256) (w : World) : Calls Proofs.Try.prog 9 #[.int .u16 z, .int .u8 u] w fun e w' => e = .returned (.bool true) ∧ RowKit.Below w.heap.size w w' :=
  callsD_of (args := [.int .u16 z, .int .u8 u]) (fun m n => designTwice_exec enD awakeD z hz u hu m n) rfl w
end Go.Am.C07
