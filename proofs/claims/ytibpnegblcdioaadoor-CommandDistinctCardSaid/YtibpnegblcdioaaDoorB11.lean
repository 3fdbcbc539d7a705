/- The machine and its runs, part 11: AnStrY. -/
import Derived.Lib.Split
import Derived.Lib.Join
import Derived.Lib.Strings
import Derived.Test.YtibpnegblcdioaaDoorB10
set_option linter.unusedVariables false
set_option linter.unusedSimpArgs false
set_option linter.unusedSectionVars false
namespace Go.Am.V
open Go Go.Am Go.RowKit
def Enters (P : Program) (f : Nat) : Prop := ∃ fn c, P.funcs[f]? = some fn ∧ fn.name ≠ "runtime.NumGoroutine" ∧ fn.body = some c
theorem args_flat {ρ : Ren} {args : List Value} {args' : Array Value} (hargs : LRel ρ args args'.toList) (h1 : args.all flat = true) : args' = args.toArray := by
  apply Array.ext'
  apply List.ext_getElem?
  intro i
  show args'.toList[i]? = args[i]?
  cases ha : args[i]? with
  | none =>
    have hl := hargs.1
    rw [List.getElem?_eq_none_iff] at ha ⊢
    omega
  | some x =>
    have hi : i < args'.toList.length := by rw [← hargs.1]; exact (List.getElem?_eq_some_iff.1 ha).1
    have hy : args'.toList[i]? = some args'.toList[i] := List.getElem?_eq_getElem hi
    have := (hargs.2 i _ _ ha hy).flat_eq (List.all_eq_true.1 h1 x (List.mem_of_getElem? ha))
    rw [hy, this]
def splitL (s sep : ByteArray) : List ByteArray := Lib.splitB sep 0 (Lib.countB s sep) s
noncomputable def splitA (sf : Nat) : Nat → List Value → FM → Nat → OR FM := fun f args m n =>
  cond (Nat.beq f sf) (match args with
    | [.string s, .string sep] => cond (Nat.blt s.size 4294967281 && Nat.ble 1 sep.size && Nat.blt (Lib.countB s sep) 4294967281)
        (.ok (.slice (some ⟨n, 0, none⟩) (Lib.countB s sep + 1) (Lib.countB s sep + 1)) (AMem.put m n (some (.cells ((splitL s sep).map Value.string) 1 false true))) (n + 1) 0 (bit n)) .no
    | _ => .no) .no
theorem splitA_ok {sf f : Nat} {args : List Value} {m : FM} {n : Nat} {v : Value} {m' : FM} {n' r w : Nat} (h : splitA sf f args m n = .ok v m' n' r w) :
    f = sf ∧ ∃ s sep, args = [.string s, .string sep] ∧ s.size < 4294967281 ∧ 1 ≤ sep.size ∧ Lib.countB s sep < 4294967281 ∧ v = .slice (some ⟨n, 0, none⟩) (Lib.countB s sep + 1) (Lib.countB s sep + 1) ∧ m' = AMem.put m n (some (.cells ((splitL s sep).map Value.string) 1 false true)) ∧ n' = n + 1 ∧ r = 0 ∧ w = bit n := by
  unfold splitA at h
  cases hb : Nat.beq f sf
  · rw [hb] at h; cases h
  · rw [hb, cond_true] at h
    split at h
    · rename_i s sep
      cases hc : (Nat.blt s.size 4294967281 && Nat.ble 1 sep.size && Nat.blt (Lib.countB s sep) 4294967281)
      · rw [hc] at h; cases h
      · rw [hc, cond_true] at h
        simp only [Bool.and_eq_true] at hc
        injection h with e1 e2 e3 e4 e5
        exact ⟨Nat.eq_of_beq_eq_true hb, s, sep, rfl, Nat.le_of_ble_eq_true hc.1.1, Nat.le_of_ble_eq_true hc.1.2, Nat.le_of_ble_eq_true hc.2, e1.symm, e2.symm, e3.symm, e4.symm, e5.symm⟩
    · cases h
theorem split_loc (sf : Nat) : CallLoc (splitA sf) := by
  intro f args m n v m' n' r wm h
  obtain ⟨_, s, sep, _, _, _, _, _, rfl, rfl, _, rfl⟩ := splitA_ok h
  exact newb_loc (O := .cells ((splitL s sep).map Value.string) 1 false true) (f := slcP 0 0 0) (newb_fm ..)
def SplitOk (P : Program) (sf : Nat) : Prop := Enters P sf ∧ ∃ t, ∀ (s sep : ByteArray), s.size < 4294967281 → 1 ≤ sep.size → ∀ B w, Glob B w → Calls P sf #[.string s, .string sep] w fun e w' =>
  e = .returned (.slice (some ⟨w.heap.size, 0, none⟩) (Lib.countB s sep + 1) (Lib.countB s sep + 1)) ∧ w' = w.alloc (.cells ((splitL s sep).map Value.string).toArray t)
theorem split_sim {P : Program} {sf : Nat} (h : SplitOk P sf) : CallSim P (splitA sf) := by
  intro f args m n v m' n' r wm hr ρ V w B F args' hargs hF hag hm hfree
  obtain ⟨rfl, s, sep, rfl, h1, h2, h3, rfl, rfl, rfl, rfl, rfl⟩ := splitA_ok hr
  obtain rfl := args_flat hargs rfl
  obtain ⟨he, t, hc⟩ := h
  refine ⟨he, (hc s sep h1 h2 B w hm.gl).mono ?_⟩
  rintro e w' ⟨rfl, rfl⟩
  have hlim : AMem.lim m n = true := rfl
  obtain ⟨ρ', hn, hp⟩ := Post.new hm hlim hfree (.cells ((splitL s sep).map Value.string) 1 false true) (.cells ((splitL s sep).map Value.string).toArray t) (Lib.countB s sep + 1) (fun ρ' hle => by
    refine ⟨rfl, _, t, (0, 0), heap_alloc w _, fun i x hx => ⟨x, ?_, ?_⟩, fun _ => ⟨hm.le, rfl⟩, (fun h => by cases h), by simp⟩
    · show ((splitL s sep).map Value.string).toArray[0 + i]? = some x
      rw [Nat.zero_add]; simpa using hx
    · have hx2 := List.mem_of_getElem? hx
      obtain ⟨y, _, rfl⟩ := List.mem_map.1 hx2
      exact .flat rfl) rfl
  exact ⟨ρ', _, rfl, VRel.slice (o := 0) hn (Nat.le_refl _) (fun h => by unfold UNK at h; omega) (fun _ => rfl) (by unfold VAG; omega), hp⟩
def strsOf : List Value → Option (List ByteArray)
  | [] => some []
  | .string s :: l => (strsOf l).map (s :: ·)
  | _ => none
theorem strsOf_eq : ∀ {l : List Value} {xs : List ByteArray}, strsOf l = some xs → l = xs.map Value.string
  | [], xs, h => by injection h with h; subst h; rfl
  | v :: l, xs, h => by
    cases v with
    | string s =>
      cases hl : strsOf l with
      | none => unfold strsOf at h; rw [hl] at h; cases h
      | some ys =>
        unfold strsOf at h
        rw [hl] at h
        injection h with h
        subst h
        rw [strsOf_eq hl]; rfl
    | _ => cases h
def joinS (xs : List ByteArray) (sep : ByteArray) : ByteArray := ⟨(Lib.join (xs.map (·.data.toList)) sep.data.toList).toArray⟩
noncomputable def joinA (jf : Nat) : Nat → List Value → FM → Nat → OR FM := fun f args m n =>
  cond (Nat.beq f jf) (match args with
    | [.slice none 0 0, .string sep] => .ok (.string ⟨#[]⟩) m n 0 0
    | [.slice (some ⟨b, o, none⟩) l c, .string sep] => match getb m n b with
      | some (.cells cs sz opn wr) => match (ctake (ldrop cs o) l).bind strsOf with
        | some xs => cond (Nat.blt 0 l && Nat.blt l 140737488355328 && Nat.ble (joinS xs sep).size 140737488355328 && Nat.beq sz 1) (.ok (.string (joinS xs sep)) m n (bit b) 0) .no
        | none => .no
      | _ => .no
    | _ => .no) .no
def JoinOk (P : Program) (jf : Nat) : Prop := Enters P jf ∧ (∀ (sep : ByteArray) B w, Glob B w → Calls P jf #[.slice none 0 0, .string sep] w fun e w' => e = .returned (.string ⟨#[]⟩) ∧ Below w.heap.size w w') ∧
  ∀ (bk o c : Nat) (xs : List ByteArray) (sep : ByteArray) B (w : World), Glob B w → (∀ (j : Nat) x, xs[j]? = some x → w.cell? ⟨bk, o + j, none⟩ = some (.string x)) → bk < w.heap.size → xs.length ≤ 140737488355328 → xs.length ≤ c → (joinS xs sep).size ≤ 140737488355328 →
    Calls P jf #[.slice (some ⟨bk, o, none⟩) xs.length c, .string sep] w fun e w' => e = .returned (.string (joinS xs sep)) ∧ Below w.heap.size w w'
theorem joinA_ok {jf f : Nat} {args : List Value} {m : FM} {n : Nat} {v : Value} {m' : FM} {n' r w : Nat} (h : joinA jf f args m n = .ok v m' n' r w) :
    f = jf ∧ m' = m ∧ n' = n ∧ w = 0 ∧ ((∃ sep, args = [.slice none 0 0, .string sep] ∧ v = .string ⟨#[]⟩) ∨
      ∃ b o l c sep cs opn wr xs, args = [.slice (some ⟨b, o, none⟩) l c, .string sep] ∧ getb m n b = some (.cells cs 1 opn wr) ∧ ctake (ldrop cs o) l = some (xs.map Value.string) ∧ 0 < l ∧ l < 140737488355328 ∧ (joinS xs sep).size ≤ 140737488355328 ∧ v = .string (joinS xs sep) ∧ r = bit b) := by
  unfold joinA at h
  cases hb : Nat.beq f jf
  · rw [hb] at h; cases h
  · rw [hb, cond_true] at h
    have hf := Nat.eq_of_beq_eq_true hb
    split at h
    · rename_i sep
      injection h with e1 e2 e3 e4 e5
      exact ⟨hf, e2.symm, e3.symm, e5.symm, .inl ⟨sep, rfl, e1.symm⟩⟩
    · rename_i b o l c sep
      split at h
      · rename_i cs sz opn wr hg
        split at h
        · rename_i xs hx
          cases hc : (Nat.blt 0 l && Nat.blt l 140737488355328 && Nat.ble (joinS xs sep).size 140737488355328 && Nat.beq sz 1)
          · rw [hc] at h; cases h
          · rw [hc, cond_true] at h
            simp only [Bool.and_eq_true] at hc
            injection h with e1 e2 e3 e4 e5
            obtain ⟨l', hl, hs⟩ := Option.bind_eq_some_iff.1 hx
            have hsz := Nat.eq_of_beq_eq_true hc.2
            subst hsz
            exact ⟨hf, e2.symm, e3.symm, e5.symm, .inr ⟨b, o, l, c, sep, cs, opn, wr, xs, rfl, hg, by rw [hl, strsOf_eq hs], Nat.le_of_ble_eq_true hc.1.1.1, Nat.le_of_ble_eq_true hc.1.1.2, Nat.le_of_ble_eq_true hc.1.2, e1.symm, e4.symm⟩⟩
        · cases h
      · cases h
    · cases h
theorem join_loc (jf : Nat) : CallLoc (joinA jf) := by
  intro f args m n v m' n' r wm h
  obtain ⟨_, rfl, rfl, rfl, _⟩ := joinA_ok h
  exact Loc.refl _ _
theorem join_sim {P : Program} {jf : Nat} (h : JoinOk P jf) : CallSim P (joinA jf) := by
  intro f args m n v m' n' r wm hr ρ V w B F args' hargs hF hag hm hfree
  obtain ⟨he, h0, h1⟩ := h
  obtain ⟨e0, e1, e2, e3, hj⟩ := joinA_ok hr
  clear hr
  subst e0; subst e1; subst e2; subst e3
  rcases hj with ⟨sep, rfl, rfl⟩ | ⟨b, o, l, c, sep, cs, opn, wr, xs, rfl, hg, hx, hl0, hl1, hl2, rfl, rfl⟩
  · obtain rfl := args_flat hargs rfl
    refine ⟨he, (h0 sep B w hm.gl).mono ?_⟩
    rintro e w' ⟨rfl, hb⟩
    exact ⟨ρ, _, rfl, .flat rfl, Post.of_below hm hb⟩
  · refine ⟨he, ?_⟩
    obtain ⟨a1, hg1, hr1⟩ := hargs.get (i := 0) rfl
    obtain ⟨a2, hg2, hr2⟩ := hargs.get (i := 1) rfl
    have hl := hargs.1
    obtain ⟨l'⟩ := args'
    simp only [List.length_cons, List.length_nil] at hl
    replace hg1 : l'[0]? = some a1 := hg1
    replace hg2 : l'[1]? = some a2 := hg2
    obtain ⟨x1, x2, rfl⟩ : ∃ x1 x2, l' = [x1, x2] := by
      match l', hl with
      | [x1, x2], _ => exact ⟨_, _, rfl⟩
    injection hg1 with e1; injection hg2 with e2
    subst e1; subst e2
    have e3 := hr2.flat_eq rfl
    subst e3
    have hxl : xs.length = l := by
      have e := ctake_eq (ldrop cs o) l
      rw [hx] at e
      split at e
      · injection e with e
        have := congrArg List.length e
        rw [List.length_map, List.length_take] at this
        omega
      · cases e
    have hcs : ∀ (j : Nat) y, xs[j]? = some y → cs[o + j]? = some (.string y) := fun j y hy => by
      have e := ctake_eq (ldrop cs o) l
      rw [hx] at e
      split at e
      · injection e with e
        have h3 : (xs.map Value.string)[j]? = ((ldrop cs o).take l)[j]? := by rw [e]
        rw [List.getElem?_map, hy, List.getElem?_take] at h3
        have hjl : j < l := by have := (List.getElem?_eq_some_iff.1 hy).1; omega
        rw [if_pos hjl, ldrop_eq, List.getElem?_drop] at h3
        exact h3.symm
      · cases e
    obtain ⟨hbn, hget⟩ := getb_some hg
    have hVb : V b = some (.cells cs 1 opn wr) := by
      rw [hag b hbn (hF b (by rw [lor_test, bit_test]; simp))]; exact hget
    cases hr1 with
    | flat hf => simp [flat] at hf
    | vag => omega
    | slice hp hn hu hk hv =>
      rename_i c' p
      obtain ⟨_, cc, e, fz, hheap, hcells, _, _⟩ := hm.blk b p _ hp hVb
      have hfr := hm.fresh b p hp
      subst hxl
      refine (h1 p.blk (p.base + o) c' xs sep B w hm.gl (fun j y hy => ?_) hfr (by omega) hn hl2).mono ?_
      · obtain ⟨z, hz, hrz⟩ := hcells (o + j) _ (hcs j y hy)
        have := hrz.flat_eq rfl
        subst this
        unfold World.cell?
        simp only [hheap]
        rw [Nat.add_assoc]
        exact hz
      · rintro e w' ⟨rfl, hb⟩
        exact ⟨ρ, _, rfl, .flat rfl, Post.of_below hm hb⟩
end Go.Am.V
