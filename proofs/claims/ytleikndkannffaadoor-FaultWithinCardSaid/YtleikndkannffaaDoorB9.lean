/- The machine and its runs, part 9: AnEql An13f AnStr An13sh AnPureY AnStrY An13y An13g An13h An13i. -/
import Derived.Laws.StructEq
import Derived.Laws.Strings
import Derived.Shelf.Strings.Builder1
import Derived.Shelf.Strings.Builder2
import Derived.Shelf.Strings.OnBuilder
import Derived.Shelf.Utf8.RuneCount
import Derived.Shelf.Strconv.Atoi
import Derived.Shelf.Strconv.Itoa0
import Derived.Shelf.Strconv.Itoa1
import Derived.Shelf.LaysM
import Derived.Shelf.Strconv.Itoa2
import Derived.Shelf.Strconv.Itoa3
import Derived.Shelf.Strconv.AtoiErrFast
import Derived.Shelf.Strconv.ParseIntEmpty
import Derived.Shelf.Strconv.AtoiFail
import Derived.Shelf.Strconv.Clone
import Derived.Shelf.Strconv.SyntaxError
import Derived.Shelf.LaysC
import Derived.Shelf.Strconv.ToError
import Derived.Shelf.Strconv.Lower
import Derived.Shelf.Strconv.ParseUint10
import Derived.Shelf.Strconv.ParseUint10Empty
import Derived.Shelf.Strconv.ParseUint10Any
import Derived.Shelf.Strconv.ParseInt10
import Derived.Shelf.Strconv.AtoiLong
import Derived.Shelf.Strconv.AtoiInnerAll
import Derived.Shelf.Strconv.RangeError
import Derived.Shelf.Strconv.ToErrorRange
import Derived.Shelf.Strconv.AtoiAll
import Derived.Shelf.Strings.Search1
import Derived.Shelf.Strings.Search2
import Derived.Shelf.Strings.Search3
import Derived.Shelf.Strings.Cut
import Derived.Shelf.Strings.Count
import Derived.Shelf.Strings.Shaped
import Derived.Shelf.Strings.Split
import Derived.Shelf.Strings.SplitShaped
import Derived.Shelf.Unicode.Decode
import Derived.Shelf.Strings.RuneCount
import Derived.Shelf.Strings.Explode
import Derived.Shelf.Unicode.DecodeSlow
import Derived.Shelf.Unicode.DecodeAny
import Derived.Test.YtleikndkannffaaDoorProg
import Derived.Lib.Split
import Derived.Lib.Join
import Derived.Lib.Strings
import Derived.WalkSmall
import Derived.Lib.AtoiErrMem
import Derived.Sort.Grow
import Derived.Lib.ItoaLen
import Derived.Test.YtleikndkannffaaDoorB8
set_option linter.unusedVariables false
set_option linter.unusedSimpArgs false
set_option linter.unusedSectionVars false
namespace Go.Am
open Go
section
variable {P : Program}
theorem pr_bind {α β : Type} (s : Sem α) (f : α → Sem β) : pureRun P (s >>= f) = (pureRun P s).bind fun a => pureRun P (f a) := by
  show pureRun P (s.bind f) = _
  induction s with
  | pure a => rfl
  | program k ih => exact ih P
  | _ => rfl
theorem pr_program : pureRun P program = some P := rfl
theorem pr_underlying {t : TypeId} {d : TypeDesc} (h : P.underlying t = some d) : pureRun P (underlying t) = some d := by
  unfold underlying
  rw [pr_bind, pr_program]
  show pureRun P (match P.underlying t with | some d => pure d | none => stuck "no such type") = some d
  rw [h]; rfl
theorem pr_part {t : TypeId} {k : IntKind} {cs : Array Value} {off : Nat} {v : Value} (h : P.underlying t = some (.int k)) (hv : cs[off]? = some v) : pureRun P (part t cs off) = some v := by
  have h1 : pureRun P (isAgg t) = some false := by
    unfold isAgg
    rw [pr_bind, pr_underlying h]; rfl
  unfold part
  rw [pr_bind, h1]
  show pureRun P (match cs[off]? with | some v => pure v | none => stuck "part: no such cell") = some v
  rw [hv]; rfl
theorem pr_equal_int {d : Nat} {t : TypeId} {k : IntKind} {a b : Int} (h : P.underlying t = some (.int k)) : pureRun P (Op.equalIn (d + 1) t (.int k a) (.int k b)) = some (a == b) := by
  unfold Op.equalIn
  rw [pr_bind, pr_underlying h]
  show pureRun P (if k = k then pure (a == b) else stuck "==: kinds differ") = _
  rw [if_pos rfl]; rfl
theorem pr_equal_struct (d : Nat) (t : TypeId) (xs ys : Array Value) (ht : P.underlying t = some (.struct (P.fieldsOf t))) (hp : P.stoodInHeld t = false) :
    pureRun P (Op.equalIn (d + 1) t (.agg xs) (.agg ys)) = pureRun P (Op.eqFields d xs ys (P.fieldsOf t).toList) := by
  simp only [Op.equalIn, pr_bind, pr_underlying ht, pr_program, hp, Bool.false_eq_true, if_false, Option.bind_some]
  rw [← Array.forIn_toList]
  generalize (P.fieldsOf t).toList = fs
  clear ht
  induction fs with
  | nil => rfl
  | cons f fs ih =>
    simp only [List.forIn_cons, Op.eqFields, pr_bind]
    split
    · rw [pr_bind, pr_bind]
      cases pureRun P (part f.type xs f.offset) with
      | none => rfl
      | some a =>
        simp only [Option.bind_some]
        rw [pr_bind, pr_bind]
        cases pureRun P (part f.type ys f.offset) with
        | none => rfl
        | some b =>
          simp only [Option.bind_some]
          rw [pr_bind, pr_bind]
          cases pureRun P (Op.equalIn d f.type a b) with
          | none => rfl
          | some r =>
            cases r
            · rfl
            · exact ih
    · exact ih
def okFields (P : Program) : List Field → Nat → Bool
  | [], _ => true
  | f :: fs, i => (f.name != "_") && f.offset == i && (match P.underlying f.type with | some (.int .i64) => true | _ => false) && okFields P fs (i + 1)
def intsT (P : Program) (t n : Nat) : Bool :=
  (match P.underlying t with | some (.struct _) => true | _ => false) && okFields P (P.fieldsOf t).toList 0 && (P.fieldsOf t).toList.length == n && !P.stoodInHeld t && !P.eqGuardType P.depth t
theorem pr_fields {d : Nat} {asl bs : List Int} : ∀ (fs : List Field) (i : Nat), okFields P fs i = true → asl.length = i + fs.length → bs.length = i + fs.length →
    pureRun P (Op.eqFields (d + 1) (asl.map (Value.int .i64)).toArray (bs.map (Value.int .i64)).toArray fs) = some (decide (asl.drop i = bs.drop i))
  | [], i, _, ha, hb => by
    rw [List.drop_eq_nil_of_le (by simp at ha; omega), List.drop_eq_nil_of_le (by simp at hb; omega)]
    rfl
  | f :: fs, i, h, ha, hb => by
    rw [okFields, Bool.and_eq_true, Bool.and_eq_true, Bool.and_eq_true] at h
    obtain ⟨⟨⟨h1, h2⟩, h3⟩, h4⟩ := h
    have hn : f.name ≠ "_" := by simpa using h1
    have ho : f.offset = i := by simpa using h2
    have hu : P.underlying f.type = some (.int .i64) := by
      split at h3
      · assumption
      · cases h3
    rw [List.length_cons] at ha hb
    have hai : i < asl.length := by omega
    have hbi : i < bs.length := by omega
    have ih := pr_fields (d := d) (asl := asl) (bs := bs) fs (i + 1) h4 (by omega) (by omega)
    rw [Op.eqFields, if_pos hn, pr_bind, pr_part hu (v := .int .i64 asl[i]) (by rw [ho]; simp [hai]), Option.bind_some, pr_bind, pr_part hu (v := .int .i64 bs[i]) (by rw [ho]; simp [hbi]), Option.bind_some, pr_bind, pr_equal_int hu, Option.bind_some]
    rw [List.drop_eq_getElem_cons hai, List.drop_eq_getElem_cons hbi]
    by_cases he : asl[i] = bs[i]
    · have hb2 : (!(asl[i] == bs[i])) = false := by simp [he]
      rw [hb2]
      show pureRun P (Op.eqFields (d + 1) _ _ fs) = _
      rw [ih]
      congr 1
      rw [he]
      simp only [List.cons.injEq, true_and]
    · have hb2 : (!(asl[i] == bs[i])) = true := by simp [he]
      rw [hb2]
      show some false = _
      simp only [List.cons.injEq, he, false_and, decide_false]
theorem binV_ints {t n : Nat} (h : intsT P t n = true) {asl bs : List Int} (ha : asl.length = n) (hb : bs.length = n) : binV P .eql t (.agg (asl.map (Value.int .i64)).toArray) (.agg (bs.map (Value.int .i64)).toArray) = some (.bool (decide (asl = bs))) := by
  rw [intsT, Bool.and_eq_true, Bool.and_eq_true, Bool.and_eq_true, Bool.and_eq_true] at h
  obtain ⟨⟨⟨⟨h1, h2⟩, h3⟩, h4⟩, h5⟩ := h
  have hu : P.underlying t = some (.struct (P.fieldsOf t)) := by
    unfold Program.fieldsOf
    split at h1
    · rename_i fs hfs; rw [hfs]
    · cases h1
  have hl : (P.fieldsOf t).toList.length = n := by simpa using h3
  have hp : P.stoodInHeld t = false := by simpa using h4
  have hg : P.eqGuardType P.depth t = false := by simpa using h5
  have hfree : ∀ l : List Int, addrFree (.agg (l.map (Value.int .i64)).toArray) = true := fun l => by
    show (l.map (Value.int .i64)).all Am.flat = true
    rw [List.all_map, List.all_eq_true]; intro x _; rfl
  show cond (addrFree _ && addrFree _ && notIface _) (flatO (pureRun P _)) none = _
  rw [hfree, hfree]
  show flatO (pureRun P (do eqGuard .eql t (.tmp 0) (.tmp 0) (.agg _) (.agg _); binOp .eql t (.agg _) (.agg _))) = _
  have e1 : pureRun P (eqGuard .eql t (.tmp 0) (.tmp 0) (.agg (asl.map (Value.int .i64)).toArray) (.agg (bs.map (Value.int .i64)).toArray)) = some () := by
    show pureRun P (program >>= fun p => program >>= fun q => if (!p.eqGuardType q.depth t) = true then pure () else _) = some ()
    rw [pr_bind, pr_program, Option.bind_some, pr_bind, pr_program, Option.bind_some, hg]; rfl
  rw [pr_bind, e1, Option.bind_some]
  show flatO (pureRun P (Op.equal t (.agg _) (.agg _) >>= fun r => pure (.bool r))) = _
  rw [pr_bind]
  have e2 : pureRun P (Op.equal t (.agg (asl.map (Value.int .i64)).toArray) (.agg (bs.map (Value.int .i64)).toArray)) = some (decide (asl = bs)) := by
    show pureRun P (Op.equalIn (9999 + 1) t _ _) = _
    rw [pr_equal_struct _ _ _ _ hu hp]
    have := pr_fields (P := P) (d := 9998) (asl := asl) (bs := bs) _ 0 h2 (by omega) (by omega)
    simpa using this
  rw [e2]; rfl
theorem binV_ints_ne {t n : Nat} (h : intsT P t n = true) {asl bs : List Int} (ha : asl.length = n) (hb : bs.length = n) : binV P .neq t (.agg (asl.map (Value.int .i64)).toArray) (.agg (bs.map (Value.int .i64)).toArray) = some (.bool (!decide (asl = bs))) := by
  rw [intsT, Bool.and_eq_true, Bool.and_eq_true, Bool.and_eq_true, Bool.and_eq_true] at h
  obtain ⟨⟨⟨⟨h1, h2⟩, h3⟩, h4⟩, h5⟩ := h
  have hu : P.underlying t = some (.struct (P.fieldsOf t)) := by
    unfold Program.fieldsOf
    split at h1
    · rename_i fs hfs; rw [hfs]
    · cases h1
  have hl : (P.fieldsOf t).toList.length = n := by simpa using h3
  have hp : P.stoodInHeld t = false := by simpa using h4
  have hg : P.eqGuardType P.depth t = false := by simpa using h5
  have hfree : ∀ l : List Int, addrFree (.agg (l.map (Value.int .i64)).toArray) = true := fun l => by
    show (l.map (Value.int .i64)).all Am.flat = true
    rw [List.all_map, List.all_eq_true]; intro x _; rfl
  show cond (addrFree _ && addrFree _ && notIface _) (flatO (pureRun P _)) none = _
  rw [hfree, hfree]
  show flatO (pureRun P (do eqGuard .neq t (.tmp 0) (.tmp 0) (.agg _) (.agg _); binOp .neq t (.agg _) (.agg _))) = _
  have e1 : pureRun P (eqGuard .neq t (.tmp 0) (.tmp 0) (.agg (asl.map (Value.int .i64)).toArray) (.agg (bs.map (Value.int .i64)).toArray)) = some () := by
    show pureRun P (program >>= fun p => program >>= fun q => if (!p.eqGuardType q.depth t) = true then pure () else _) = some ()
    rw [pr_bind, pr_program, Option.bind_some, pr_bind, pr_program, Option.bind_some, hg]; rfl
  rw [pr_bind, e1, Option.bind_some]
  show flatO (pureRun P (Op.equal t (.agg _) (.agg _) >>= fun r => pure (.bool (!r)))) = _
  rw [pr_bind]
  have e2 : pureRun P (Op.equal t (.agg (asl.map (Value.int .i64)).toArray) (.agg (bs.map (Value.int .i64)).toArray)) = some (decide (asl = bs)) := by
    show pureRun P (Op.equalIn (9999 + 1) t _ _) = _
    rw [pr_equal_struct _ _ _ _ hu hp]
    have := pr_fields (P := P) (d := 9998) (asl := asl) (bs := bs) _ 0 h2 (by omega) (by omega)
    simpa using this
  rw [e2]; rfl
theorem eql_ints3 {t : Nat} (h : intsT P t 3 = true) (a b x c d y : Int) : binV P .eql t (.agg #[.int .i64 a, .int .i64 b, .int .i64 x]) (.agg #[.int .i64 c, .int .i64 d, .int .i64 y]) = some (.bool (decide (a = c ∧ b = d ∧ x = y))) := by
  have := binV_ints h (asl := [a, b, x]) (bs := [c, d, y]) rfl rfl
  rw [show decide (a = c ∧ b = d ∧ x = y) = decide ([a, b, x] = [c, d, y]) by simp]
  exact this
end
end Go.Am
namespace Go.Am.C13
open Go Go.Am
variable {E : Nat → Option AFn} {Y : Nat → List Value → FM → Nat → OR FM}
theorem neq32 (f g : Flt) : binV PG .neq 32 (.agg #[.int .i64 f.at_, .int .i64 f.kind, .int .i64 f.to]) (.agg #[.int .i64 g.at_, .int .i64 g.kind, .int .i64 g.to]) = some (.bool (!decide (f.at_ = g.at_ ∧ f.kind = g.kind ∧ f.to = g.to))) := by
  have h := binV_ints_ne (P := PG) (t := 32) (n := 3) (by kernel_rfl) (asl := [f.at_, f.kind, f.to]) (bs := [g.at_, g.kind, g.to]) rfl rfl
  simpa using h
def sameF (f g : Flt) : Bool := decide (f.at_ = g.at_ ∧ f.kind = g.kind ∧ f.to = g.to)
theorem sameF_iff {f g : Flt} : sameF f g = true ↔ f = g := by
  cases f; cases g
  simp [sameF]
def sameB : List Flt → List Flt → Bool
  | [], [] => true
  | f :: l, g :: k => sameF f g && sameB l k
  | _, _ => false
theorem sameB_iff : ∀ {l k : List Flt}, sameB l k = true ↔ l = k
  | [], [] => by simp [sameB]
  | f :: l, [] => by simp [sameB]
  | [], g :: k => by simp [sameB]
  | f :: l, g :: k => by simp [sameB, sameF_iff, sameB_iff]
theorem same_L0 {m : FM} {n : Nat} {av bv : Value} {l k : List Flt} (h : FlS m n av l) (h2 : FlS m n bv k) (hs : l.length ≤ 9223372036854775807) (hlk : l.length = k.length) (t : Bool) (x4 : Value) {Q : AX → List Value → FM → Nat → Nat → Prop}
    (hT : t = true → ∀ e, Q (.exit 0) e m n 0) (hF : t = false → ∀ e, Q (.ret (.bool false)) e m n 0) :
    ∀ d j, j + d = l.length → ∀ (x0 x2 x3 : Value), sameB (l.drop j) (k.drop j) = t → Gv (execW PG E Y ac15L0 [x0, .int .i64 (j : Int), x2, x3, x4, av, bv] m n) Q := by
  intro d
  induction d with
  | zero =>
    intro j hj x0 x2 x3 hp
    obtain rfl : j = l.length := by omega
    rw [List.drop_length, hlk, List.drop_length] at hp
    refine wr_loopN (L := ac15L0) (b := ac15L0b) rfl ?_
    simp only [ac15L0b]
    simp (implicitDefEqProofs := false) (disch := omega) only [WPs, opds, List.all_cons, List.all_nil, List.cons_append, List.nil_append, cond_true, cond_false, eq_self, List.map_cons, List.map_nil, Nat.reduceAdd, Nat.testBit, Nat.reduceShiftRight, Nat.reduceAnd, Nat.reduceBNe, Nat.reduceMul, h.len]
    exact hT hp.symm _
  | succ d ih =>
    intro j hj x0 x2 x3 hp
    have hjl : j < l.length := by omega
    have hjk : j < k.length := by omega
    obtain ⟨b, o, cells, opn, wr, i1, i2, i3, i4⟩ := h.at hjl
    obtain ⟨b', o', cells', opn', wr', j1, j2, j3, j4⟩ := h2.at hjk
    rw [List.drop_eq_getElem_cons hjl, List.drop_eq_getElem_cons hjk] at hp
    have ih' := ih (j + 1) (by omega)
    generalize l[j] = f at i4 hp
    generalize k[j] = g at j4 hp
    simp only [sameB] at hp
    have hb1 := h.bel n (Nat.le_refl _)
    have hb2 := h2.bel n (Nat.le_refl _)
    simp only [Flt.cells] at i4 j4
    refine wr_loopN (L := ac15L0) (b := ac15L0b) rfl ?_
    simp only [ac15L0b]
    cases hsf : sameF f g with
    | true =>
      rw [hsf, Bool.true_and] at hp
      have hsf' : decide (f.at_ = g.at_ ∧ f.kind = g.kind ∧ f.to = g.to) = true := hsf
      simp (implicitDefEqProofs := false) (disch := omega) only [WPs, opds, List.all_cons, List.all_nil, List.cons_append, List.nil_append, cond_true, cond_false, eq_self, List.map_cons, List.map_nil, Nat.reduceAdd, Nat.testBit, Nat.reduceShiftRight, Nat.reduceAnd, Nat.reduceBNe, Nat.reduceMul, h.len, i1, i3, i4, j1, j3, j4, hb1, hb2, neq32, hsf', Bool.not_true, Bool.not_false]
      exact wr_end (ih' _ _ _ hp) fun X e m n w hq => by simpa only [zero_lor'] using hq
    | false =>
      rw [hsf, Bool.false_and] at hp
      have hsf' : decide (f.at_ = g.at_ ∧ f.kind = g.kind ∧ f.to = g.to) = false := hsf
      simp (implicitDefEqProofs := false) (disch := omega) only [WPs, opds, List.all_cons, List.all_nil, List.cons_append, List.nil_append, cond_true, cond_false, eq_self, List.map_cons, List.map_nil, Nat.reduceAdd, Nat.testBit, Nat.reduceShiftRight, Nat.reduceAnd, Nat.reduceBNe, Nat.reduceMul, h.len, i1, i3, i4, j1, j3, j4, hb1, hb2, neq32, hsf', Bool.not_true, Bool.not_false]
      exact hF hp.symm _
theorem sameB_len : ∀ {l k : List Flt}, l.length ≠ k.length → sameB l k = false
  | [], [], h => absurd rfl h
  | [], _ :: _, _ => rfl
  | _ :: _, [], _ => rfl
  | f :: l, g :: k, h => by
    rw [sameB, sameB_len (by simpa using h), Bool.and_false]
theorem same_spec (hE : E 15 = some ac15) (m : FM) (n : Nat) (av bv : Value) (l k : List Flt) (h : FlS m n av l) (h2 : FlS m n bv k) (hs : l.length ≤ 9223372036854775807) (hs2 : k.length ≤ 9223372036854775807) : Pure (callW PG E Y 15 [av, bv] m n) m n (.bool (sameB l k)) := by
  refine pure_spec hE rfl rfl ?_
  simp only [ac15]
  by_cases hlk : l.length = k.length
  · simp (implicitDefEqProofs := false) (disch := omega) only [WPs, opds, List.all_cons, List.all_nil, List.cons_append, List.nil_append, cond_true, cond_false, eq_self, List.map_cons, List.map_nil, Nat.reduceAdd, Nat.testBit, Nat.reduceShiftRight, Nat.reduceAnd, Nat.reduceBNe, Nat.reduceMul, h.len, h2.len, decide_eq_false (show ¬ ((l.length : Int) ≠ (k.length : Int)) by omega)]
    refine wr_kont (same_L0 h h2 hs hlk (sameB l k) _ (fun ht e rr => ?_) (fun ht e rr => ?_) l.length 0 (by omega) _ _ _ rfl)
    · rw [ht]; simp (implicitDefEqProofs := false) (disch := omega) only [WPs, opds, List.all_cons, List.all_nil, List.cons_append, List.nil_append, cond_true, cond_false, eq_self, List.map_cons, List.map_nil, Nat.reduceAdd, Nat.testBit, Nat.reduceShiftRight, Nat.reduceAnd, Nat.reduceBNe, Nat.reduceMul]
    · rw [ht]; simp (implicitDefEqProofs := false) (disch := omega) only [WPs, opds, List.all_cons, List.all_nil, List.cons_append, List.nil_append, cond_true, cond_false, eq_self, List.map_cons, List.map_nil, Nat.reduceAdd, Nat.testBit, Nat.reduceShiftRight, Nat.reduceAnd, Nat.reduceBNe, Nat.reduceMul]
  · rw [sameB_len hlk]
    simp (implicitDefEqProofs := false) (disch := omega) only [WPs, opds, List.all_cons, List.all_nil, List.cons_append, List.nil_append, cond_true, cond_false, eq_self, List.map_cons, List.map_nil, Nat.reduceAdd, Nat.testBit, Nat.reduceShiftRight, Nat.reduceAnd, Nat.reduceBNe, Nat.reduceMul, h.len, h2.len, decide_eq_true (show ((l.length : Int) ≠ (k.length : Int)) by omega)]
end Go.Am.C13
namespace Go.Am
open Go
def bt (s : ByteArray) (i : Nat) : Nat := (s.data.toList.getD i 0).toNat
theorem str_ext {a b : ByteArray} (h : a.data.toList = b.data.toList) : a = b := by
  cases a; cases b; simp only [ByteArray.mk.injEq]; exact Array.toList_inj.1 h
theorem beq_str (a b : ByteArray) : (a.toList == b.toList) = decide (a = b) := by
  rw [ByteArray.toList_eq, ByteArray.toList_eq]
  by_cases h : a = b
  · subst h; simp
  · rw [decide_eq_false h]
    simp only [beq_eq_false_iff_ne, ne_eq]
    exact fun e => h (str_ext e)

section
variable {P : Program} {rec : Nat → List Value → FM → Nat → OR FM} {e : List Value} {m : FM} {n : Nat}
theorem eql_str (t : Nat) (a b : ByteArray) : binV P .eql t (.string a) (.string b) = some (.bool (decide (a = b))) := by
  rw [← beq_str]; rfl
theorem t_pur (op : POp) (xs : List Opd) : stepA P rec e m n (.pur op xs) = valO m n (purV P op (evs e xs)) := rfl
end
end Go.Am
namespace Go.Proofs
open Go.Shelf
def Tryd.lays156_ren : Go.Shelf.Ren := ⟨fun | 156 => 24 | 165 => 34 | 166 => 35 | 169 => 36 | 240 => 45 | 241 => 46 | 276 => 60 | 277 => 61 | n => n, fun | 31 => 39 | 9 => 9 | 3 => 3 | 4 => 4 | 0 => 0 | 20 => 20 | 72 => 60 | 76 => 50 | 70 => 57 | 37 => 58 | 75 => 49 | 127 => 68 | 164 => 83 | 5 => 5 | 80 => 62 | n => n, fun | n => n⟩
theorem Tryd.lays156 : Go.Proofs.Lays.n156 Tryd.prog Tryd.lays156_ren := {
  mixed := by kernel_rfl
  f156 := Tryd.func24.trans (congrArg some (by kernel_rfl))
  f165 := Tryd.func34.trans (congrArg some (by kernel_rfl))
  f166 := Tryd.func35.trans (congrArg some (by kernel_rfl))
  f169 := Tryd.func36.trans (congrArg some (by kernel_rfl))
  f240 := Tryd.func45.trans (congrArg some (by kernel_rfl))
  f241 := Tryd.func46.trans (congrArg some (by kernel_rfl))
  f276 := Tryd.func60.trans (congrArg some (by kernel_rfl))
  f277 := Tryd.func61.trans (congrArg some (by kernel_rfl))
  t0 := Tryd.underlying0
  a0 := Tryd.isAgg0
  z0 := Tryd.sizeOf0
  v0 := Tryd.zeroValue0
  t3 := Tryd.underlying3
  a3 := Tryd.isAgg3
  z3 := Tryd.sizeOf3
  v3 := Tryd.zeroValue3
  t4 := Tryd.underlying4
  a4 := Tryd.isAgg4
  z4 := Tryd.sizeOf4
  v4 := Tryd.zeroValue4
  t9 := Tryd.underlying9
  a9 := Tryd.isAgg9
  z9 := Tryd.sizeOf9
  v9 := Tryd.zeroValue9
  t20 := Tryd.underlying20
  a20 := Tryd.isAgg20
  z20 := Tryd.sizeOf20
  v20 := Tryd.zeroValue20
  t31 := Tryd.underlying39
  a31 := Tryd.isAgg39
  z31 := Tryd.sizeOf39
  v31 := Tryd.zeroValue39
  t37 := Tryd.underlying58
  a37 := Tryd.isAgg58
  z37 := Tryd.sizeOf58
  v37 := Tryd.zeroValue58
  t70 := Tryd.underlying57
  a70 := Tryd.isAgg57
  z70 := Tryd.sizeOf57
  v70 := Tryd.zeroValue57
  t72 := Tryd.underlying60
  a72 := Tryd.isAgg60
  z72 := Tryd.sizeOf60
  v72 := Tryd.zeroValue60
  t75 := Tryd.underlying49
  a75 := Tryd.isAgg49
  z75 := Tryd.sizeOf49
  v75 := Tryd.zeroValue49
  t76 := Tryd.underlying50
  a76 := Tryd.isAgg50
  z76 := Tryd.sizeOf50
  v76 := Tryd.zeroValue50
  t127 := Tryd.underlying68
  a127 := Tryd.isAgg68
  z127 := Tryd.sizeOf68
  v127 := Tryd.zeroValue68
  t164 := Tryd.underlying83
  a164 := Tryd.isAgg83
  z164 := Tryd.sizeOf83
  v164 := Tryd.zeroValue83 }
theorem Tryd.Builder_Extra_156 : Builder.Extra Tryd.prog Tryd.lays156_ren := {
  sizeBuilder := by kernel_rfl
  liesBuilder := by kernel_rfl
  t5 := Tryd.underlying5
  a5 := Tryd.isAgg5
  z5 := Tryd.sizeOf5
  v5 := Tryd.zeroValue5
  infoByte := by kernel_rfl
  cellsByte := by kernel_rfl
  sizeByte := by kernel_rfl
  neB5 := by decide }
open Go.RowKit in
theorem Tryd.strings_Join_none (a : Option Addr) (c : Nat) (sep : ByteArray) (w : World) :
    Calls Tryd.prog 24 #[.slice a 0 c, .string sep] w fun e w' => e = .returned (.string ⟨#[]⟩) ∧ w' = w := Any.strings_Join_none Tryd.lays156 Tryd.Builder_Extra_156 a c sep w
open Go.RowKit in
theorem Tryd.strings_Join (bk o c : Nat) (xs : List ByteArray) (sep : ByteArray) (w : World) (hcells : ∀ (j : Nat) x, xs[j]? = some x → w.cell? ⟨bk, o + j, none⟩ = some (.string x)) (hbk : bk < w.heap.size) (hN : xs.length ≤ 140737488355328) (hcap : xs.length ≤ c) (hlen : (Lib.join (xs.map (·.data.toList)) sep.data.toList).length ≤ 140737488355328) :
    Calls Tryd.prog 24 #[.slice (some ⟨bk, o, none⟩) xs.length c, .string sep] w fun e w' => e = .returned (.string ⟨(Lib.join (xs.map (·.data.toList)) sep.data.toList).toArray⟩) ∧ Below w.heap.size w w' := Any.strings_Join Tryd.lays156 Tryd.Builder_Extra_156 bk o c xs sep w hcells hbk hN hcap hlen
def Tryd.laysM171_ren : Go.Shelf.Ren := ⟨fun | 171 => 23 | 243 => 33 | 246 => 44 | 283 => 56 | 284 => 57 | 285 => 58 | 286 => 59 | 129 => 73 | 317 => 72 | 318 => 74 | 319 => 75 | 320 => 76 | 337 => 82 | 338 => 83 | n => n, fun | 3 => 3 | 9 => 9 | 2 => 2 | 4 => 4 | 171 => 77 | 0 => 0 | 53 => 78 | 37 => 58 | 5 => 5 | 173 => 81 | 212 => 97 | 51 => 98 | 20 => 20 | 213 => 99 | 46 => 88 | 232 => 112 | 233 => 113 | n => n, fun | 17 => 3 | 18 => 6 | 19 => 7 | n => n⟩
theorem Tryd.laysM171 : Go.Proofs.LaysM.n171 Tryd.prog Tryd.laysM171_ren := {
  mixed := by kernel_rfl
  f129 := Tryd.func73.trans (congrArg some (by kernel_rfl))
  f171 := Tryd.func23.trans (congrArg some (by kernel_rfl))
  f243 := Tryd.func33.trans (congrArg some (by kernel_rfl))
  f246 := Tryd.func44.trans (congrArg some (by kernel_rfl))
  f283 := Tryd.func56.trans (congrArg some (by kernel_rfl))
  f284 := Tryd.func57.trans (congrArg some (by kernel_rfl))
  f285 := Tryd.func58.trans (congrArg some (by kernel_rfl))
  f286 := Tryd.func59.trans (congrArg some (by kernel_rfl))
  f317 := Tryd.func72.trans (congrArg some (by kernel_rfl))
  f318 := Tryd.func74.trans (congrArg some (by kernel_rfl))
  f319 := Tryd.func75.trans (congrArg some (by kernel_rfl))
  f320 := Tryd.func76.trans (congrArg some (by kernel_rfl))
  f337 := Tryd.func82.trans (congrArg some (by kernel_rfl))
  f338 := Tryd.func83.trans (congrArg some (by kernel_rfl))
  t0 := Tryd.underlying0
  a0 := Tryd.isAgg0
  z0 := Tryd.sizeOf0
  v0 := Tryd.zeroValue0
  t2 := Tryd.underlying2
  a2 := Tryd.isAgg2
  z2 := Tryd.sizeOf2
  v2 := Tryd.zeroValue2
  t3 := Tryd.underlying3
  a3 := Tryd.isAgg3
  z3 := Tryd.sizeOf3
  v3 := Tryd.zeroValue3
  t4 := Tryd.underlying4
  a4 := Tryd.isAgg4
  z4 := Tryd.sizeOf4
  v4 := Tryd.zeroValue4
  t5 := Tryd.underlying5
  a5 := Tryd.isAgg5
  z5 := Tryd.sizeOf5
  v5 := Tryd.zeroValue5
  t9 := Tryd.underlying9
  a9 := Tryd.isAgg9
  z9 := Tryd.sizeOf9
  v9 := Tryd.zeroValue9
  t20 := Tryd.underlying20
  a20 := Tryd.isAgg20
  z20 := Tryd.sizeOf20
  v20 := Tryd.zeroValue20
  t37 := Tryd.underlying58
  a37 := Tryd.isAgg58
  z37 := Tryd.sizeOf58
  v37 := Tryd.zeroValue58
  t46 := Tryd.underlying88
  a46 := Tryd.isAgg88
  z46 := Tryd.sizeOf88
  v46 := Tryd.zeroValue88
  t51 := Tryd.underlying98
  a51 := Tryd.isAgg98
  z51 := Tryd.sizeOf98
  v51 := Tryd.zeroValue98
  t53 := Tryd.underlying78
  a53 := Tryd.isAgg78
  z53 := Tryd.sizeOf78
  v53 := Tryd.zeroValue78
  t171 := Tryd.underlying77
  a171 := Tryd.isAgg77
  z171 := Tryd.sizeOf77
  v171 := Tryd.zeroValue77
  t173 := Tryd.underlying81
  a173 := Tryd.isAgg81
  z173 := Tryd.sizeOf81
  v173 := Tryd.zeroValue81
  t212 := Tryd.underlying97
  a212 := Tryd.isAgg97
  z212 := Tryd.sizeOf97
  v212 := Tryd.zeroValue97
  t213 := Tryd.underlying99
  a213 := Tryd.isAgg99
  z213 := Tryd.sizeOf99
  t232 := Tryd.underlying112
  a232 := Tryd.isAgg112
  z232 := Tryd.sizeOf112
  v232 := Tryd.zeroValue112
  t233 := Tryd.underlying113
  a233 := Tryd.isAgg113
  z233 := Tryd.sizeOf113
  v233 := Tryd.zeroValue113
  g17 := by kernel_rfl
  g18 := by kernel_rfl
  g19 := by kernel_rfl
  i0 := by kernel_rfl
  i2 := by kernel_rfl
  i3 := by kernel_rfl
  i4 := by kernel_rfl
  i5 := by kernel_rfl
  i9 := by kernel_rfl
  i20 := by kernel_rfl
  i37 := by kernel_rfl
  i46 := by kernel_rfl
  i51 := by kernel_rfl
  i53 := by kernel_rfl
  i171 := by kernel_rfl
  i173 := by kernel_rfl
  i212 := by kernel_rfl
  i232 := by kernel_rfl
  i233 := by kernel_rfl
  m17 := by kernel_rfl
  m18 := by kernel_rfl
  m19 := by kernel_rfl }
open Go.RowKit Go.Sort Go.Lib in
theorem Tryd.strconv_Itoa (n : Int) (h0 : -9223372036854775808 ≤ n) (h1 : n ≤ 9223372036854775807) (w : World) (htab : Lib.TabIs Tryd.prog w "internal/strconv.uint64pow10" .u64 Lib.pow10Tab) :
    Calls Tryd.prog 23 #[.int .i64 n] w fun e w' => e = .returned (.string ⟨(Lib.itoa n).toArray⟩) ∧ ∃ k os, w' = grow (w.drewN k) os := Any.strconv_Itoa Tryd.laysM171 n h0 h1 w htab
def Tryd.laysC172_ren : Go.Shelf.Ren := ⟨fun | 172 => 29 | 244 => 40 | 245 => 41 | 247 => 48 | 279 => 49 | 280 => 50 | 281 => 51 | 282 => 52 | 287 => 66 | 316 => 67 | 171 => 23 | 205 => 68 | 321 => 79 | 322 => 80 | 243 => 33 | 246 => 44 | 283 => 56 | 284 => 57 | 285 => 58 | 286 => 59 | 129 => 73 | 317 => 72 | 318 => 74 | 319 => 75 | 320 => 76 | 337 => 82 | 338 => 83 | n => n, fun | 9 => 9 | 3 => 3 | 75 => 49 | 76 => 50 | 4 => 4 | 5 => 5 | 167 => 70 | 37 => 58 | 0 => 0 | 85 => 71 | 2 => 2 | 168 => 73 | 53 => 78 | 175 => 89 | 46 => 88 | 210 => 92 | 127 => 68 | 145 => 106 | 143 => 104 | 21 => 21 | 171 => 77 | 173 => 81 | 212 => 97 | 51 => 98 | 20 => 20 | 213 => 99 | 232 => 112 | 233 => 113 | 80 => 62 | n => n, fun | 15 => 1 | 16 => 2 | 17 => 3 | 18 => 6 | 19 => 7 | n => n⟩
theorem Tryd.laysC172 : Go.Proofs.LaysC.n172 Tryd.prog Tryd.laysC172_ren := {
  mixed := by kernel_rfl
  f129 := Tryd.func73.trans (congrArg some (by kernel_rfl))
  f171 := Tryd.func23.trans (congrArg some (by kernel_rfl))
  f172 := Tryd.func29.trans (congrArg some (by kernel_rfl))
  f205 := Tryd.func68.trans (congrArg some (by kernel_rfl))
  f243 := Tryd.func33.trans (congrArg some (by kernel_rfl))
  f244 := Tryd.func40.trans (congrArg some (by kernel_rfl))
  f245 := Tryd.func41.trans (congrArg some (by kernel_rfl))
  f246 := Tryd.func44.trans (congrArg some (by kernel_rfl))
  f247 := Tryd.func48.trans (congrArg some (by kernel_rfl))
  f279 := Tryd.func49.trans (congrArg some (by kernel_rfl))
  f280 := Tryd.func50.trans (congrArg some (by kernel_rfl))
  f281 := Tryd.func51.trans (congrArg some (by kernel_rfl))
  f282 := Tryd.func52.trans (congrArg some (by kernel_rfl))
  f283 := Tryd.func56.trans (congrArg some (by kernel_rfl))
  f284 := Tryd.func57.trans (congrArg some (by kernel_rfl))
  f285 := Tryd.func58.trans (congrArg some (by kernel_rfl))
  f286 := Tryd.func59.trans (congrArg some (by kernel_rfl))
  f287 := Tryd.func66.trans (congrArg some (by kernel_rfl))
  f316 := Tryd.func67.trans (congrArg some (by kernel_rfl))
  f317 := Tryd.func72.trans (congrArg some (by kernel_rfl))
  f318 := Tryd.func74.trans (congrArg some (by kernel_rfl))
  f319 := Tryd.func75.trans (congrArg some (by kernel_rfl))
  f320 := Tryd.func76.trans (congrArg some (by kernel_rfl))
  f321 := Tryd.func79.trans (congrArg some (by kernel_rfl))
  f322 := Tryd.func80.trans (congrArg some (by kernel_rfl))
  f337 := Tryd.func82.trans (congrArg some (by kernel_rfl))
  f338 := Tryd.func83.trans (congrArg some (by kernel_rfl))
  t0 := Tryd.underlying0
  a0 := Tryd.isAgg0
  z0 := Tryd.sizeOf0
  v0 := Tryd.zeroValue0
  t2 := Tryd.underlying2
  a2 := Tryd.isAgg2
  z2 := Tryd.sizeOf2
  v2 := Tryd.zeroValue2
  t3 := Tryd.underlying3
  a3 := Tryd.isAgg3
  z3 := Tryd.sizeOf3
  v3 := Tryd.zeroValue3
  t4 := Tryd.underlying4
  a4 := Tryd.isAgg4
  z4 := Tryd.sizeOf4
  v4 := Tryd.zeroValue4
  t5 := Tryd.underlying5
  a5 := Tryd.isAgg5
  z5 := Tryd.sizeOf5
  v5 := Tryd.zeroValue5
  t9 := Tryd.underlying9
  a9 := Tryd.isAgg9
  z9 := Tryd.sizeOf9
  v9 := Tryd.zeroValue9
  t20 := Tryd.underlying20
  a20 := Tryd.isAgg20
  z20 := Tryd.sizeOf20
  v20 := Tryd.zeroValue20
  t21 := Tryd.underlying21
  a21 := Tryd.isAgg21
  z21 := Tryd.sizeOf21
  v21 := Tryd.zeroValue21
  t37 := Tryd.underlying58
  a37 := Tryd.isAgg58
  z37 := Tryd.sizeOf58
  v37 := Tryd.zeroValue58
  t46 := Tryd.underlying88
  a46 := Tryd.isAgg88
  z46 := Tryd.sizeOf88
  v46 := Tryd.zeroValue88
  t51 := Tryd.underlying98
  a51 := Tryd.isAgg98
  z51 := Tryd.sizeOf98
  v51 := Tryd.zeroValue98
  t53 := Tryd.underlying78
  a53 := Tryd.isAgg78
  z53 := Tryd.sizeOf78
  v53 := Tryd.zeroValue78
  t75 := Tryd.underlying49
  a75 := Tryd.isAgg49
  z75 := Tryd.sizeOf49
  v75 := Tryd.zeroValue49
  t76 := Tryd.underlying50
  a76 := Tryd.isAgg50
  z76 := Tryd.sizeOf50
  v76 := Tryd.zeroValue50
  t85 := Tryd.underlying71
  a85 := Tryd.isAgg71
  z85 := Tryd.sizeOf71
  v85 := Tryd.zeroValue71
  t127 := Tryd.underlying68
  a127 := Tryd.isAgg68
  z127 := Tryd.sizeOf68
  v127 := Tryd.zeroValue68
  t143 := Tryd.underlying104
  a143 := Tryd.isAgg104
  z143 := Tryd.sizeOf104
  v143 := Tryd.zeroValue104
  t145 := Tryd.underlying106
  a145 := Tryd.isAgg106
  z145 := Tryd.sizeOf106
  v145 := Tryd.zeroValue106
  t167 := Tryd.underlying70
  a167 := Tryd.isAgg70
  z167 := Tryd.sizeOf70
  v167 := Tryd.zeroValue70
  t168 := Tryd.underlying73
  a168 := Tryd.isAgg73
  z168 := Tryd.sizeOf73
  v168 := Tryd.zeroValue73
  t171 := Tryd.underlying77
  a171 := Tryd.isAgg77
  z171 := Tryd.sizeOf77
  v171 := Tryd.zeroValue77
  t173 := Tryd.underlying81
  a173 := Tryd.isAgg81
  z173 := Tryd.sizeOf81
  v173 := Tryd.zeroValue81
  t175 := Tryd.underlying89
  a175 := Tryd.isAgg89
  z175 := Tryd.sizeOf89
  v175 := Tryd.zeroValue89
  t210 := Tryd.underlying92
  a210 := Tryd.isAgg92
  z210 := Tryd.sizeOf92
  v210 := Tryd.zeroValue92
  t212 := Tryd.underlying97
  a212 := Tryd.isAgg97
  z212 := Tryd.sizeOf97
  v212 := Tryd.zeroValue97
  t213 := Tryd.underlying99
  a213 := Tryd.isAgg99
  z213 := Tryd.sizeOf99
  t232 := Tryd.underlying112
  a232 := Tryd.isAgg112
  z232 := Tryd.sizeOf112
  v232 := Tryd.zeroValue112
  t233 := Tryd.underlying113
  a233 := Tryd.isAgg113
  z233 := Tryd.sizeOf113
  v233 := Tryd.zeroValue113
  g15 := by kernel_rfl
  g16 := by kernel_rfl
  g17 := by kernel_rfl
  g18 := by kernel_rfl
  g19 := by kernel_rfl
  t80 := Tryd.underlying62
  a80 := Tryd.isAgg62
  z80 := Tryd.sizeOf62
  v80 := Tryd.zeroValue62
  i0 := by kernel_rfl
  i2 := by kernel_rfl
  i3 := by kernel_rfl
  i4 := by kernel_rfl
  i5 := by kernel_rfl
  i9 := by kernel_rfl
  i20 := by kernel_rfl
  i21 := by kernel_rfl
  i37 := by kernel_rfl
  i46 := by kernel_rfl
  i51 := by kernel_rfl
  i53 := by kernel_rfl
  i75 := by kernel_rfl
  i76 := by kernel_rfl
  i80 := by kernel_rfl
  i85 := by kernel_rfl
  i127 := by kernel_rfl
  i143 := by kernel_rfl
  i145 := by kernel_rfl
  i167 := by kernel_rfl
  i168 := by kernel_rfl
  i171 := by kernel_rfl
  i173 := by kernel_rfl
  i175 := by kernel_rfl
  i210 := by kernel_rfl
  i212 := by kernel_rfl
  i232 := by kernel_rfl
  i233 := by kernel_rfl
  m15 := by kernel_rfl
  m16 := by kernel_rfl
  m17 := by kernel_rfl
  m18 := by kernel_rfl
  m19 := by kernel_rfl
  c0 := by kernel_rfl
  c2 := by kernel_rfl
  c3 := by kernel_rfl
  c4 := by kernel_rfl
  c5 := by kernel_rfl
  c9 := by kernel_rfl
  c20 := by kernel_rfl
  c21 := by kernel_rfl
  c37 := by kernel_rfl
  c46 := by kernel_rfl
  c51 := by kernel_rfl
  c53 := by kernel_rfl
  c75 := by kernel_rfl
  c76 := by kernel_rfl
  c80 := by kernel_rfl
  c85 := by kernel_rfl
  c127 := by kernel_rfl
  c143 := by kernel_rfl
  c145 := by kernel_rfl
  c167 := by kernel_rfl
  c168 := by kernel_rfl
  c171 := by kernel_rfl
  c173 := by kernel_rfl
  c175 := by kernel_rfl
  c210 := by kernel_rfl
  c212 := by kernel_rfl
  c213 := by kernel_rfl
  c232 := by kernel_rfl
  c233 := by kernel_rfl }
open Go.RowKit in
theorem Tryd.strconv_Atoi_ok (s : ByteArray) (hmax : s.size ≤ 9223372036854775806) (v : Int) (h : Lib.atoiAll s.data.toList = .ok v) (w : World) :
    Calls Tryd.prog 29 #[.string s] w fun e w' => e = .returned (.tuple #[.int .i64 v, .nilIface]) ∧ (w' = w ∨ ∃ t, w' = Lib.bytesWorld w 5 t) := Any.strconv_Atoi_ok Tryd.laysC172 s hmax v h w
def Tryd.lays145_ren : Go.Shelf.Ren := ⟨fun | 145 => 27 | 220 => 39 | 219 => 47 | 217 => 62 | 225 => 63 | 224 => 64 | 267 => 65 | 266 => 77 | 314 => 78 | n => n, fun | 9 => 9 | 4 => 4 | 59 => 45 | 3 => 3 | 5 => 5 | 46 => 88 | 146 => 101 | 51 => 98 | n => n, fun | 1 => 0 | n => n⟩
theorem Tryd.lays145 : Go.Proofs.Lays.n145 Tryd.prog Tryd.lays145_ren := {
  mixed := by kernel_rfl
  f145 := Tryd.func27.trans (congrArg some (by kernel_rfl))
  f217 := Tryd.func62.trans (congrArg some (by kernel_rfl))
  f219 := Tryd.func47.trans (congrArg some (by kernel_rfl))
  f220 := Tryd.func39.trans (congrArg some (by kernel_rfl))
  f224 := Tryd.func64.trans (congrArg some (by kernel_rfl))
  f225 := Tryd.func63.trans (congrArg some (by kernel_rfl))
  f266 := Tryd.func77.trans (congrArg some (by kernel_rfl))
  f267 := Tryd.func65.trans (congrArg some (by kernel_rfl))
  f314 := Tryd.func78.trans (congrArg some (by kernel_rfl))
  t3 := Tryd.underlying3
  a3 := Tryd.isAgg3
  z3 := Tryd.sizeOf3
  v3 := Tryd.zeroValue3
  t4 := Tryd.underlying4
  a4 := Tryd.isAgg4
  z4 := Tryd.sizeOf4
  v4 := Tryd.zeroValue4
  t5 := Tryd.underlying5
  a5 := Tryd.isAgg5
  z5 := Tryd.sizeOf5
  v5 := Tryd.zeroValue5
  t9 := Tryd.underlying9
  a9 := Tryd.isAgg9
  z9 := Tryd.sizeOf9
  v9 := Tryd.zeroValue9
  t46 := Tryd.underlying88
  a46 := Tryd.isAgg88
  z46 := Tryd.sizeOf88
  v46 := Tryd.zeroValue88
  t51 := Tryd.underlying98
  a51 := Tryd.isAgg98
  z51 := Tryd.sizeOf98
  v51 := Tryd.zeroValue98
  t59 := Tryd.underlying45
  a59 := Tryd.isAgg45
  z59 := Tryd.sizeOf45
  v59 := Tryd.zeroValue45
  t146 := Tryd.underlying101
  a146 := Tryd.isAgg101
  z146 := Tryd.sizeOf101
  v146 := Tryd.zeroValue101
  g1 := by kernel_rfl }
open Go.RowKit Go.Lib in
theorem Tryd.strings_Cut (s sep : ByteArray) (m : Int) (w : World) (hs : s.size < 4294967281) (hm : w.cell? ⟨0, 0, none⟩ = some (.int .i64 m)) :
    Calls Tryd.prog 27 #[.string s, .string sep] w fun e w' => e = .returned (.tuple #[.string ⟨(Lib.cut s.data.toList sep.data.toList).1.toArray⟩, .string ⟨(Lib.cut s.data.toList sep.data.toList).2.1.toArray⟩, .bool (Lib.cut s.data.toList sep.data.toList).2.2]) ∧ ∃ n, w' = w.drewN n := Any.strings_Cut Tryd.lays145 s sep m w hs hm
def Tryd.lays146_ren : Go.Shelf.Ren := ⟨fun | 146 => 30 | 221 => 42 | 268 => 53 | 138 => 54 | 143 => 55 | 195 => 69 | 197 => 70 | 218 => 71 | 219 => 47 | 260 => 81 | 217 => 62 | 225 => 63 | 224 => 64 | 267 => 65 | 266 => 77 | 314 => 78 | n => n, fun | 9 => 9 | 31 => 39 | 3 => 3 | 4 => 4 | 0 => 0 | 105 => 94 | 21 => 21 | 5 => 5 | 46 => 88 | 119 => 108 | 139 => 111 | 138 => 110 | 146 => 101 | 51 => 98 | n => n, fun | 1 => 0 | 3 => 4 | 4 => 5 | n => n⟩
theorem Tryd.lays146 : Go.Proofs.Lays.n146 Tryd.prog Tryd.lays146_ren := {
  mixed := by kernel_rfl
  f138 := Tryd.func54.trans (congrArg some (by kernel_rfl))
  f143 := Tryd.func55.trans (congrArg some (by kernel_rfl))
  f146 := Tryd.func30.trans (congrArg some (by kernel_rfl))
  f195 := Tryd.func69.trans (congrArg some (by kernel_rfl))
  f197 := Tryd.func70.trans (congrArg some (by kernel_rfl))
  f217 := Tryd.func62.trans (congrArg some (by kernel_rfl))
  f218 := Tryd.func71.trans (congrArg some (by kernel_rfl))
  f219 := Tryd.func47.trans (congrArg some (by kernel_rfl))
  f221 := Tryd.func42.trans (congrArg some (by kernel_rfl))
  f224 := Tryd.func64.trans (congrArg some (by kernel_rfl))
  f225 := Tryd.func63.trans (congrArg some (by kernel_rfl))
  f260 := Tryd.func81.trans (congrArg some (by kernel_rfl))
  f266 := Tryd.func77.trans (congrArg some (by kernel_rfl))
  f267 := Tryd.func65.trans (congrArg some (by kernel_rfl))
  f268 := Tryd.func53.trans (congrArg some (by kernel_rfl))
  f314 := Tryd.func78.trans (congrArg some (by kernel_rfl))
  t0 := Tryd.underlying0
  a0 := Tryd.isAgg0
  z0 := Tryd.sizeOf0
  v0 := Tryd.zeroValue0
  t3 := Tryd.underlying3
  a3 := Tryd.isAgg3
  z3 := Tryd.sizeOf3
  v3 := Tryd.zeroValue3
  t4 := Tryd.underlying4
  a4 := Tryd.isAgg4
  z4 := Tryd.sizeOf4
  v4 := Tryd.zeroValue4
  t5 := Tryd.underlying5
  a5 := Tryd.isAgg5
  z5 := Tryd.sizeOf5
  v5 := Tryd.zeroValue5
  t9 := Tryd.underlying9
  a9 := Tryd.isAgg9
  z9 := Tryd.sizeOf9
  v9 := Tryd.zeroValue9
  t21 := Tryd.underlying21
  a21 := Tryd.isAgg21
  z21 := Tryd.sizeOf21
  v21 := Tryd.zeroValue21
  t31 := Tryd.underlying39
  a31 := Tryd.isAgg39
  z31 := Tryd.sizeOf39
  v31 := Tryd.zeroValue39
  t46 := Tryd.underlying88
  a46 := Tryd.isAgg88
  z46 := Tryd.sizeOf88
  v46 := Tryd.zeroValue88
  t51 := Tryd.underlying98
  a51 := Tryd.isAgg98
  z51 := Tryd.sizeOf98
  v51 := Tryd.zeroValue98
  t105 := Tryd.underlying94
  a105 := Tryd.isAgg94
  z105 := Tryd.sizeOf94
  v105 := Tryd.zeroValue94
  t119 := Tryd.underlying108
  a119 := Tryd.isAgg108
  z119 := Tryd.sizeOf108
  t138 := Tryd.underlying110
  a138 := Tryd.isAgg110
  z138 := Tryd.sizeOf110
  v138 := Tryd.zeroValue110
  t139 := Tryd.underlying111
  a139 := Tryd.isAgg111
  z139 := Tryd.sizeOf111
  v139 := Tryd.zeroValue111
  t146 := Tryd.underlying101
  a146 := Tryd.isAgg101
  z146 := Tryd.sizeOf101
  v146 := Tryd.zeroValue101
  g1 := by kernel_rfl
  g3 := by kernel_rfl
  g4 := by kernel_rfl }
open Go.RowKit Go.Lib in
theorem Tryd.strings_Split (s sep : ByteArray) (m : Int) (w : World) (hs : s.size < 4294967281) (hm : w.cell? ⟨0, 0, none⟩ = some (.int .i64 m)) (h1 : 1 ≤ sep.size) :
    Calls Tryd.prog 30 #[.string s, .string sep] w fun e w' =>
      e = .returned (.slice (some ⟨w.heap.size, 0, none⟩) (Lib.countB s sep + 1) (Lib.countB s sep + 1)) ∧ w' = w.alloc (.cells ((Lib.splitB sep 0 (Lib.countB s sep) s).map Value.string).toArray 9) := Any.strings_Split Tryd.lays146 (by kernel_rfl) s sep m w hs hm h1
end Go.Proofs
namespace Go.Am.V
open Go Go.Am Go.RowKit
structure PFn where
  f : Nat
  g : List Value → Option Value
noncomputable def pfnA (p : PFn) : Nat → List Value → FM → Nat → OR FM := fun f args m n =>
  cond (Nat.beq f p.f) (Option.rec (motive := fun _ => OR FM) .no (fun v => .ok v m n 0 0) (p.g args)) .no
structure PFn.Ok (P : Program) (p : PFn) : Prop where
  ent : ∃ fn c, P.funcs[p.f]? = some fn ∧ fn.name ≠ "runtime.NumGoroutine" ∧ fn.body = some c
  flats : ∀ args v, p.g args = some v → args.all flat = true ∧ addrFree v = true
  runs : ∀ args v, p.g args = some v → ∀ B w, Glob B w → B ≤ w.heap.size → Calls P p.f args.toArray w fun e w' => e = .returned v ∧ Below w.heap.size w w'
theorem pfn_ok {p : PFn} {f : Nat} {args : List Value} {m : FM} {n : Nat} {v : Value} {m' : FM} {n' r w : Nat} (h : pfnA p f args m n = .ok v m' n' r w) : f = p.f ∧ p.g args = some v ∧ m' = m ∧ n' = n ∧ r = 0 ∧ w = 0 := by
  unfold pfnA at h
  cases hb : Nat.beq f p.f
  · rw [hb] at h; cases h
  · rw [hb, cond_true] at h
    cases hg : p.g args with
    | none => rw [hg] at h; cases h
    | some v' =>
      rw [hg] at h
      injection h with e1 e2 e3 e4 e5
      exact ⟨Nat.eq_of_beq_eq_true hb, by rw [e1], e2.symm, e3.symm, e4.symm, e5.symm⟩
theorem pfn_loc (p : PFn) : CallLoc (pfnA p) := by
  intro f args m n v m' n' r wm h
  obtain ⟨_, _, rfl, rfl, _, rfl⟩ := pfn_ok h
  exact Loc.refl _ _
theorem pfn_sim {P : Program} {p : PFn} (h : p.Ok P) : CallSim P (pfnA p) := by
  intro f args m n v m' n' r wm hr ρ V w B F args' hargs hF hag hm hfree
  obtain ⟨rfl, hg, rfl, rfl, rfl, rfl⟩ := pfn_ok hr
  obtain ⟨h1, h2⟩ := h.flats args v hg
  have e : args' = args.toArray := by
    apply Array.ext'
    apply List.ext_getElem?
    intro i
    show args'.toList[i]? = args[i]?
    cases ha : args[i]? with
    | none =>
      have hl := hargs.1
      rw [List.getElem?_eq_none_iff] at ha ⊢
      omega
    | some x =>
      have hi : i < args'.toList.length := by rw [← hargs.1]; exact (List.getElem?_eq_some_iff.1 ha).1
      have hy : args'.toList[i]? = some args'.toList[i] := List.getElem?_eq_getElem hi
      have := (hargs.2 i _ _ ha hy).flat_eq (List.all_eq_true.1 h1 x (List.mem_of_getElem? ha))
      rw [hy, this]
  subst e
  refine ⟨h.ent, (h.runs args v hg B w hm.gl hm.le).mono ?_⟩
  rintro e w' ⟨rfl, hb⟩
  exact ⟨ρ, v, rfl, addrFree_rel ρ h2, Post.of_below hm hb⟩
noncomputable def pfnF (p : PFn) : FCal := fun f args m n =>
  Bool.rec (motive := fun _ => FR) .no (Option.rec (motive := fun _ => FR) .no (fun v => .pv (ofV v)) (p.g (pmap toV args))) (Nat.beq f p.f)
noncomputable def pfnsA (l : List PFn) (Y : Nat → List Value → FM → Nat → OR FM) : Nat → List Value → FM → Nat → OR FM := l.foldr (fun p r => altA (pfnA p) r) Y
noncomputable def pfnsF (l : List PFn) (Y : FCal) : FCal := List.rec (motive := fun _ => FCal) Y (fun p _ r => altF (pfnF p) r) l
theorem pfns_loc {l : List PFn} {Y : Nat → List Value → FM → Nat → OR FM} (hY : CallLoc Y) : CallLoc (pfnsA l Y) := by
  induction l with
  | nil => exact hY
  | cons p l ih => exact alt_loc (pfn_loc p) ih
theorem pfns_sim {P : Program} {l : List PFn} {Y : Nat → List Value → FM → Nat → OR FM} (hY : CallSim P Y) (hl : ∀ p ∈ l, p.Ok P) : CallSim P (pfnsA l Y) := by
  induction l with
  | nil => exact hY
  | cons p l ih => exact alt_sim (pfn_sim (hl p (List.mem_cons_self ..))) (ih fun q hq => hl q (List.mem_cons_of_mem _ hq))
theorem pfns_apart {tab : List (Nat × AFn)} {l : List PFn} {Y : Nat → List Value → FM → Nat → OR FM} (hY : Apart tab Y) (hl : ∀ p ∈ l, look tab p.f = none) : Apart tab (pfnsA l Y) := by
  induction l with
  | nil => exact hY
  | cons p l ih =>
    intro f fn hf args m n
    show altA (pfnA p) (pfnsA l Y) f args m n = .no
    unfold altA
    have h1 : pfnA p f args m n = .no := by
      unfold pfnA
      cases hb : Nat.beq f p.f
      · rfl
      · have := Nat.eq_of_beq_eq_true hb
        subst this
        rw [hl p (List.mem_cons_self ..)] at hf; cases hf
    rw [h1]
    exact ih (fun q hq => hl q (List.mem_cons_of_mem _ hq)) f fn hf args m n
end Go.Am.V
namespace Go.Am.V
open Go Go.Am Go.RowKit
def Enters (P : Program) (f : Nat) : Prop := ∃ fn c, P.funcs[f]? = some fn ∧ fn.name ≠ "runtime.NumGoroutine" ∧ fn.body = some c
theorem args_flat {ρ : Ren} {args : List Value} {args' : Array Value} (hargs : LRel ρ args args'.toList) (h1 : args.all flat = true) : args' = args.toArray := by
  apply Array.ext'
  apply List.ext_getElem?
  intro i
  show args'.toList[i]? = args[i]?
  cases ha : args[i]? with
  | none =>
    have hl := hargs.1
    rw [List.getElem?_eq_none_iff] at ha ⊢
    omega
  | some x =>
    have hi : i < args'.toList.length := by rw [← hargs.1]; exact (List.getElem?_eq_some_iff.1 ha).1
    have hy : args'.toList[i]? = some args'.toList[i] := List.getElem?_eq_getElem hi
    have := (hargs.2 i _ _ ha hy).flat_eq (List.all_eq_true.1 h1 x (List.mem_of_getElem? ha))
    rw [hy, this]
def splitL (s sep : ByteArray) : List ByteArray := Lib.splitB sep 0 (Lib.countB s sep) s
noncomputable def splitA (sf : Nat) : Nat → List Value → FM → Nat → OR FM := fun f args m n =>
  cond (Nat.beq f sf) (match args with
    | [.string s, .string sep] => cond (Nat.blt s.size 4294967281 && Nat.ble 1 sep.size && Nat.blt (Lib.countB s sep) 4294967281)
        (.ok (.slice (some ⟨n, 0, none⟩) (Lib.countB s sep + 1) (Lib.countB s sep + 1)) (AMem.put m n (some (.cells ((splitL s sep).map Value.string) 1 false true))) (n + 1) 0 (bit n)) .no
    | _ => .no) .no
theorem splitA_ok {sf f : Nat} {args : List Value} {m : FM} {n : Nat} {v : Value} {m' : FM} {n' r w : Nat} (h : splitA sf f args m n = .ok v m' n' r w) :
    f = sf ∧ ∃ s sep, args = [.string s, .string sep] ∧ s.size < 4294967281 ∧ 1 ≤ sep.size ∧ Lib.countB s sep < 4294967281 ∧ v = .slice (some ⟨n, 0, none⟩) (Lib.countB s sep + 1) (Lib.countB s sep + 1) ∧ m' = AMem.put m n (some (.cells ((splitL s sep).map Value.string) 1 false true)) ∧ n' = n + 1 ∧ r = 0 ∧ w = bit n := by
  unfold splitA at h
  cases hb : Nat.beq f sf
  · rw [hb] at h; cases h
  · rw [hb, cond_true] at h
    split at h
    · rename_i s sep
      cases hc : (Nat.blt s.size 4294967281 && Nat.ble 1 sep.size && Nat.blt (Lib.countB s sep) 4294967281)
      · rw [hc] at h; cases h
      · rw [hc, cond_true] at h
        simp only [Bool.and_eq_true] at hc
        injection h with e1 e2 e3 e4 e5
        exact ⟨Nat.eq_of_beq_eq_true hb, s, sep, rfl, Nat.le_of_ble_eq_true hc.1.1, Nat.le_of_ble_eq_true hc.1.2, Nat.le_of_ble_eq_true hc.2, e1.symm, e2.symm, e3.symm, e4.symm, e5.symm⟩
    · cases h
theorem split_loc (sf : Nat) : CallLoc (splitA sf) := by
  intro f args m n v m' n' r wm h
  obtain ⟨_, s, sep, _, _, _, _, _, rfl, rfl, _, rfl⟩ := splitA_ok h
  exact newb_loc (O := .cells ((splitL s sep).map Value.string) 1 false true) (f := slcP 0 0 0) (newb_fm ..)
def SplitOk (P : Program) (sf : Nat) : Prop := Enters P sf ∧ ∃ t, ∀ (s sep : ByteArray), s.size < 4294967281 → 1 ≤ sep.size → ∀ B w, Glob B w → Calls P sf #[.string s, .string sep] w fun e w' =>
  e = .returned (.slice (some ⟨w.heap.size, 0, none⟩) (Lib.countB s sep + 1) (Lib.countB s sep + 1)) ∧ w' = w.alloc (.cells ((splitL s sep).map Value.string).toArray t)
theorem split_sim {P : Program} {sf : Nat} (h : SplitOk P sf) : CallSim P (splitA sf) := by
  intro f args m n v m' n' r wm hr ρ V w B F args' hargs hF hag hm hfree
  obtain ⟨rfl, s, sep, rfl, h1, h2, h3, rfl, rfl, rfl, rfl, rfl⟩ := splitA_ok hr
  obtain rfl := args_flat hargs rfl
  obtain ⟨he, t, hc⟩ := h
  refine ⟨he, (hc s sep h1 h2 B w hm.gl).mono ?_⟩
  rintro e w' ⟨rfl, rfl⟩
  have hlim : AMem.lim m n = true := rfl
  obtain ⟨ρ', hn, hp⟩ := Post.new hm hlim hfree (.cells ((splitL s sep).map Value.string) 1 false true) (.cells ((splitL s sep).map Value.string).toArray t) (Lib.countB s sep + 1) (fun ρ' hle => by
    refine ⟨rfl, _, t, (0, 0), heap_alloc w _, fun i x hx => ⟨x, ?_, ?_⟩, fun _ => ⟨hm.le, rfl⟩, (fun h => by cases h), by simp⟩
    · show ((splitL s sep).map Value.string).toArray[0 + i]? = some x
      rw [Nat.zero_add]; simpa using hx
    · have hx2 := List.mem_of_getElem? hx
      obtain ⟨y, _, rfl⟩ := List.mem_map.1 hx2
      exact .flat rfl) rfl
  exact ⟨ρ', _, rfl, VRel.slice (o := 0) hn (Nat.le_refl _) (fun h => by unfold UNK at h; omega) (fun _ => rfl) (by unfold VAG; omega), hp⟩
def strsOf : List Value → Option (List ByteArray)
  | [] => some []
  | .string s :: l => (strsOf l).map (s :: ·)
  | _ => none
theorem strsOf_eq : ∀ {l : List Value} {xs : List ByteArray}, strsOf l = some xs → l = xs.map Value.string
  | [], xs, h => by injection h with h; subst h; rfl
  | v :: l, xs, h => by
    cases v with
    | string s =>
      cases hl : strsOf l with
      | none => unfold strsOf at h; rw [hl] at h; cases h
      | some ys =>
        unfold strsOf at h
        rw [hl] at h
        injection h with h
        subst h
        rw [strsOf_eq hl]; rfl
    | _ => cases h
def joinS (xs : List ByteArray) (sep : ByteArray) : ByteArray := ⟨(Lib.join (xs.map (·.data.toList)) sep.data.toList).toArray⟩
noncomputable def joinA (jf : Nat) : Nat → List Value → FM → Nat → OR FM := fun f args m n =>
  cond (Nat.beq f jf) (match args with
    | [.slice none 0 0, .string sep] => .ok (.string ⟨#[]⟩) m n 0 0
    | [.slice (some ⟨b, o, none⟩) l c, .string sep] => match getb m n b with
      | some (.cells cs sz opn wr) => match (ctake (ldrop cs o) l).bind strsOf with
        | some xs => cond (Nat.blt 0 l && Nat.blt l 140737488355328 && Nat.ble (joinS xs sep).size 140737488355328 && Nat.beq sz 1) (.ok (.string (joinS xs sep)) m n (bit b) 0) .no
        | none => .no
      | _ => .no
    | _ => .no) .no
def JoinOk (P : Program) (jf : Nat) : Prop := Enters P jf ∧ (∀ (sep : ByteArray) B w, Glob B w → Calls P jf #[.slice none 0 0, .string sep] w fun e w' => e = .returned (.string ⟨#[]⟩) ∧ Below w.heap.size w w') ∧
  ∀ (bk o c : Nat) (xs : List ByteArray) (sep : ByteArray) B (w : World), Glob B w → (∀ (j : Nat) x, xs[j]? = some x → w.cell? ⟨bk, o + j, none⟩ = some (.string x)) → bk < w.heap.size → xs.length ≤ 140737488355328 → xs.length ≤ c → (joinS xs sep).size ≤ 140737488355328 →
    Calls P jf #[.slice (some ⟨bk, o, none⟩) xs.length c, .string sep] w fun e w' => e = .returned (.string (joinS xs sep)) ∧ Below w.heap.size w w'
theorem joinA_ok {jf f : Nat} {args : List Value} {m : FM} {n : Nat} {v : Value} {m' : FM} {n' r w : Nat} (h : joinA jf f args m n = .ok v m' n' r w) :
    f = jf ∧ m' = m ∧ n' = n ∧ w = 0 ∧ ((∃ sep, args = [.slice none 0 0, .string sep] ∧ v = .string ⟨#[]⟩) ∨
      ∃ b o l c sep cs opn wr xs, args = [.slice (some ⟨b, o, none⟩) l c, .string sep] ∧ getb m n b = some (.cells cs 1 opn wr) ∧ ctake (ldrop cs o) l = some (xs.map Value.string) ∧ 0 < l ∧ l < 140737488355328 ∧ (joinS xs sep).size ≤ 140737488355328 ∧ v = .string (joinS xs sep) ∧ r = bit b) := by
  unfold joinA at h
  cases hb : Nat.beq f jf
  · rw [hb] at h; cases h
  · rw [hb, cond_true] at h
    have hf := Nat.eq_of_beq_eq_true hb
    split at h
    · rename_i sep
      injection h with e1 e2 e3 e4 e5
      exact ⟨hf, e2.symm, e3.symm, e5.symm, .inl ⟨sep, rfl, e1.symm⟩⟩
    · rename_i b o l c sep
      split at h
      · rename_i cs sz opn wr hg
        split at h
        · rename_i xs hx
          cases hc : (Nat.blt 0 l && Nat.blt l 140737488355328 && Nat.ble (joinS xs sep).size 140737488355328 && Nat.beq sz 1)
          · rw [hc] at h; cases h
          · rw [hc, cond_true] at h
            simp only [Bool.and_eq_true] at hc
            injection h with e1 e2 e3 e4 e5
            obtain ⟨l', hl, hs⟩ := Option.bind_eq_some_iff.1 hx
            have hsz := Nat.eq_of_beq_eq_true hc.2
            subst hsz
            exact ⟨hf, e2.symm, e3.symm, e5.symm, .inr ⟨b, o, l, c, sep, cs, opn, wr, xs, rfl, hg, by rw [hl, strsOf_eq hs], Nat.le_of_ble_eq_true hc.1.1.1, Nat.le_of_ble_eq_true hc.1.1.2, Nat.le_of_ble_eq_true hc.1.2, e1.symm, e4.symm⟩⟩
        · cases h
      · cases h
    · cases h
theorem join_loc (jf : Nat) : CallLoc (joinA jf) := by
  intro f args m n v m' n' r wm h
  obtain ⟨_, rfl, rfl, rfl, _⟩ := joinA_ok h
  exact Loc.refl _ _
theorem join_sim {P : Program} {jf : Nat} (h : JoinOk P jf) : CallSim P (joinA jf) := by
  intro f args m n v m' n' r wm hr ρ V w B F args' hargs hF hag hm hfree
  obtain ⟨he, h0, h1⟩ := h
  obtain ⟨e0, e1, e2, e3, hj⟩ := joinA_ok hr
  clear hr
  subst e0; subst e1; subst e2; subst e3
  rcases hj with ⟨sep, rfl, rfl⟩ | ⟨b, o, l, c, sep, cs, opn, wr, xs, rfl, hg, hx, hl0, hl1, hl2, rfl, rfl⟩
  · obtain rfl := args_flat hargs rfl
    refine ⟨he, (h0 sep B w hm.gl).mono ?_⟩
    rintro e w' ⟨rfl, hb⟩
    exact ⟨ρ, _, rfl, .flat rfl, Post.of_below hm hb⟩
  · refine ⟨he, ?_⟩
    obtain ⟨a1, hg1, hr1⟩ := hargs.get (i := 0) rfl
    obtain ⟨a2, hg2, hr2⟩ := hargs.get (i := 1) rfl
    have hl := hargs.1
    obtain ⟨l'⟩ := args'
    simp only [List.length_cons, List.length_nil] at hl
    replace hg1 : l'[0]? = some a1 := hg1
    replace hg2 : l'[1]? = some a2 := hg2
    obtain ⟨x1, x2, rfl⟩ : ∃ x1 x2, l' = [x1, x2] := by
      match l', hl with
      | [x1, x2], _ => exact ⟨_, _, rfl⟩
    injection hg1 with e1; injection hg2 with e2
    subst e1; subst e2
    have e3 := hr2.flat_eq rfl
    subst e3
    have hxl : xs.length = l := by
      have e := ctake_eq (ldrop cs o) l
      rw [hx] at e
      split at e
      · injection e with e
        have := congrArg List.length e
        rw [List.length_map, List.length_take] at this
        omega
      · cases e
    have hcs : ∀ (j : Nat) y, xs[j]? = some y → cs[o + j]? = some (.string y) := fun j y hy => by
      have e := ctake_eq (ldrop cs o) l
      rw [hx] at e
      split at e
      · injection e with e
        have h3 : (xs.map Value.string)[j]? = ((ldrop cs o).take l)[j]? := by rw [e]
        rw [List.getElem?_map, hy, List.getElem?_take] at h3
        have hjl : j < l := by have := (List.getElem?_eq_some_iff.1 hy).1; omega
        rw [if_pos hjl, ldrop_eq, List.getElem?_drop] at h3
        exact h3.symm
      · cases e
    obtain ⟨hbn, hget⟩ := getb_some hg
    have hVb : V b = some (.cells cs 1 opn wr) := by
      rw [hag b hbn (hF b (by rw [lor_test, bit_test]; simp))]; exact hget
    cases hr1 with
    | flat hf => simp [flat] at hf
    | vag => omega
    | slice hp hn hu hk hv =>
      rename_i c' p
      obtain ⟨_, cc, e, fz, hheap, hcells, _, _⟩ := hm.blk b p _ hp hVb
      have hfr := hm.fresh b p hp
      subst hxl
      refine (h1 p.blk (p.base + o) c' xs sep B w hm.gl (fun j y hy => ?_) hfr (by omega) hn hl2).mono ?_
      · obtain ⟨z, hz, hrz⟩ := hcells (o + j) _ (hcs j y hy)
        have := hrz.flat_eq rfl
        subst this
        unfold World.cell?
        simp only [hheap]
        rw [Nat.add_assoc]
        exact hz
      · rintro e w' ⟨rfl, hb⟩
        exact ⟨ρ, _, rfl, .flat rfl, Post.of_below hm hb⟩
end Go.Am.V
namespace Go.Am.C13
open Go Go.Am Go.Am.V Go.RowKit Go.Sort
set_option maxRecDepth 1000000
noncomputable def gItoa : List Value → Option Value
  | [.int .i64 n] => cond (inI64 n) (some (.string ⟨(Lib.itoa n).toArray⟩)) none
  | _ => none
noncomputable def gCut : List Value → Option Value
  | [.string s, .string sep] => cond (Nat.blt s.size 4294967281) (some (.tuple #[.string ⟨(Lib.cut s.data.toList sep.data.toList).1.toArray⟩, .string ⟨(Lib.cut s.data.toList sep.data.toList).2.1.toArray⟩, .bool (Lib.cut s.data.toList sep.data.toList).2.2])) none
  | _ => none
noncomputable def gAtoi : List Value → Option Value
  | [.string s] => cond (Nat.blt s.size 4294967281) (match Lib.atoiAll s.data.toList with
    | .ok v => some (.tuple #[.int .i64 v, .nilIface])
    | _ => none) none
  | _ => none
noncomputable def pItoa : PFn := ⟨23, gItoa⟩
noncomputable def pCut : PFn := ⟨27, gCut⟩
noncomputable def pAtoi : PFn := ⟨29, gAtoi⟩
theorem below_grow' (w : World) (k : Nat) (os : Array Obj) : Below w.heap.size w (grow (w.drewN k) os) :=
  (below_drewN (Below.refl w.heap.size w) k).trans ⟨rfl, rfl, rfl, by show (w.drewN k).heap.size ≤ ((w.drewN k).heap ++ os).size; rw [Array.size_append]; omega, fun j hj => by show ((w.drewN k).heap ++ os)[j]? = _; rw [Array.getElem?_append_left]; exact Nat.lt_of_lt_of_le hj (below_drewN (Below.refl w.heap.size w) k).size⟩
theorem itoa_ok : pItoa.Ok PG where
  ent := ⟨_, _, Proofs.Tryd.func23, by decide +kernel, rfl⟩
  flats := fun args v h => by
    match args, h with
    | [.int .i64 n], h =>
      have h : cond (inI64 n) _ _ = some v := h
      cases hi : inI64 n
      · rw [hi] at h; cases h
      · rw [hi] at h; injection h with h; subst h; exact ⟨rfl, rfl⟩
  runs := fun args v h B w hg hB => by
    match args, h with
    | [.int .i64 n], h =>
      have h : cond (inI64 n) _ _ = some v := h
      cases hi : inI64 n
      · rw [hi] at h; cases h
      · rw [hi] at h; injection h with h; subst h
        have hb : -9223372036854775808 ≤ n ∧ n ≤ 9223372036854775807 := by
          cases n with
          | ofNat a => have := Nat.le_of_ble_eq_true hi; exact ⟨by have : (0 : Int) ≤ Int.ofNat a := Int.natCast_nonneg a; omega, by show (a : Int) ≤ _; omega⟩
          | negSucc a => have := Nat.le_of_ble_eq_true hi; exact ⟨by omega, by omega⟩
        refine (Proofs.Tryd.strconv_Itoa n hb.1 hb.2 w hg.here.2).mono ?_
        rintro e w' ⟨rfl, k, os, rfl⟩
        exact ⟨rfl, below_grow' w k os⟩
theorem cut_ok : pCut.Ok PG where
  ent := ⟨_, _, Proofs.Tryd.func27, by decide +kernel, rfl⟩
  flats := fun args v h => by
    match args, h with
    | [.string s, .string sep], h =>
      have h : cond (Nat.blt s.size 4294967281) _ _ = some v := h
      cases hi : Nat.blt s.size 4294967281
      · rw [hi] at h; cases h
      · rw [hi] at h; injection h with h; subst h; exact ⟨rfl, rfl⟩
  runs := fun args v h B w hg hB => by
    match args, h with
    | [.string s, .string sep], h =>
      have h : cond (Nat.blt s.size 4294967281) _ _ = some v := h
      cases hi : Nat.blt s.size 4294967281
      · rw [hi] at h; cases h
      · rw [hi] at h; injection h with h; subst h
        obtain ⟨m, hm⟩ := hg.here.1
        refine (Proofs.Tryd.strings_Cut s sep m w (Nat.le_of_ble_eq_true hi) hm).mono ?_
        rintro e w' ⟨rfl, k, rfl⟩
        exact ⟨rfl, below_drewN (Below.refl _ w) k⟩
theorem atoi_ok : pAtoi.Ok PG where
  ent := ⟨_, _, Proofs.Tryd.func29, by decide +kernel, rfl⟩
  flats := fun args v h => by
    match args, h with
    | [.string s], h =>
      have h : cond (Nat.blt s.size 4294967281) (match Lib.atoiAll s.data.toList with
        | .ok v => some (Value.tuple #[.int .i64 v, .nilIface])
        | _ => none) none = some v := h
      cases hi : Nat.blt s.size 4294967281
      · rw [hi] at h; cases h
      · rw [hi, cond_true] at h
        split at h
        · injection h with h; subst h; exact ⟨rfl, rfl⟩
        · cases h
  runs := fun args v h B w hg hB => by
    match args, h with
    | [.string s], h =>
      have h : cond (Nat.blt s.size 4294967281) (match Lib.atoiAll s.data.toList with
        | .ok v => some (Value.tuple #[.int .i64 v, .nilIface])
        | _ => none) none = some v := h
      cases hi : Nat.blt s.size 4294967281
      · rw [hi] at h; cases h
      · rw [hi, cond_true] at h
        split at h
        · rename_i z hz
          injection h with h; subst h
          have := Nat.le_of_ble_eq_true hi
          refine (Proofs.Tryd.strconv_Atoi_ok s (by omega) z hz w).mono ?_
          rintro e w' ⟨rfl, rfl | ⟨t, rfl⟩⟩
          · exact ⟨rfl, Below.refl _ _⟩
          · exact ⟨rfl, Lib.bytesWorld_below w 5 t⟩
        · cases h
theorem split_okP : SplitOk PG 30 := ⟨⟨_, _, Proofs.Tryd.func30, by decide +kernel, rfl⟩, 9, fun s sep h1 h2 B w hg => by
  obtain ⟨m, hm⟩ := hg.here.1
  exact Proofs.Tryd.strings_Split s sep m w h1 hm h2⟩
theorem join_okP : JoinOk PG 24 := ⟨⟨_, _, Proofs.Tryd.func24, by decide +kernel, rfl⟩, fun sep B w hg => by
  refine (Proofs.Tryd.strings_Join_none none 0 sep w).mono ?_
  rintro e w' ⟨rfl, rfl⟩
  exact ⟨rfl, Below.refl _ _⟩, fun bk o c xs sep B w hg h1 h2 h3 h4 h5 =>
  Proofs.Tryd.strings_Join bk o c xs sep w h1 h2 h3 h4 (by
    have : (joinS xs sep).size = (Lib.join (xs.map (·.data.toList)) sep.data.toList).length := by simp [joinS, ByteArray.size]
    omega)⟩
noncomputable def Y13 : Nat → List Value → FM → Nat → OR FM := pfnsA [pItoa, pCut, pAtoi] (altA (splitA 30) (joinA 24))
theorem y13_loc : CallLoc Y13 := pfns_loc (alt_loc (split_loc 30) (join_loc 24))
theorem y13_sim : CallSim PG Y13 := pfns_sim (alt_sim (split_sim split_okP) (join_sim join_okP)) fun p hp => by
  simp only [List.mem_cons, List.not_mem_nil, or_false] at hp
  rcases hp with rfl | rfl | rfl
  · exact itoa_ok
  · exact cut_ok
  · exact atoi_ok
end Go.Am.C13
namespace Go.Am.C13
open Go Go.Am Go.Am.V
variable {E : Nat → Option AFn} {Y : Nat → List Value → FM → Nat → OR FM}
theorem add_str {P : Program} (t : Nat) {a b : ByteArray} (h : a.size + b.size ≤ 9223372036854775807) : binV P .add t (.string a) (.string b) = some (.string (a ++ b)) := by
  show flatO (pureRun P (if ((a.size + b.size : Nat) : Int) > IntKind.i64.max then _ else pure (.string (a ++ b)))) = _
  have hm : IntKind.i64.max = 9223372036854775807 := by kernel_rfl
  rw [if_neg (by rw [hm]; omega)]
  rfl
def W8 : List ByteArray := [⟨#[]⟩, ⟨#[100, 114, 111, 112]⟩, ⟨#[116, 101, 97, 114]⟩, ⟨#[115, 116, 114, 97, 121]⟩, ⟨#[102, 97, 105, 108]⟩, ⟨#[111, 116, 104, 101, 114]⟩, ⟨#[115, 108, 111, 119]⟩, ⟨#[100, 105, 101]⟩]
theorem words_spec (hE : E 22 = some ac22) (m : FM) (n : Nat) : Pure (callW PG E Y 22 [] m n) m n (.agg (W8.map Value.string).toArray) := by
  refine pure_spec hE rfl rfl ?_
  simp only [ac22]
  simp (implicitDefEqProofs := false) (disch := omega) only [WPs, opds, List.all_cons, List.all_nil, List.cons_append, List.nil_append, cond_true, cond_false, eq_self, List.map_cons, List.map_nil, Nat.reduceAdd, Nat.testBit, Nat.reduceShiftRight, Nat.reduceAnd, Nat.reduceBNe, Nat.reduceMul]
  rfl
def wordB (k : Int) : ByteArray := W8.getD k.toNat ⟨#[]⟩
def itoaB (n : Int) : ByteArray := ⟨(Lib.itoa n).toArray⟩
def aimP (k : Int) : Prop := k = 3 ∨ k = 5
def fltT (f : Flt) : ByteArray := if aimsB f.kind = true then wordB f.kind ++ ⟨#[32]⟩ ++ itoaB f.at_ ++ (⟨#[32, 116, 111, 32]⟩ ++ itoaB f.to) else wordB f.kind ++ ⟨#[32]⟩ ++ itoaB f.at_
structure LibY (E : Nat → Option AFn) (Y : Nat → List Value → FM → Nat → OR FM) : Prop where
  itoa : ∀ (m : FM) (n : Nat) (z : Int), -9223372036854775808 ≤ z → z ≤ 9223372036854775807 → Pure (callW PG E Y 23 [.int .i64 z] m n) m n (.string (itoaB z))
  cut : ∀ (m : FM) (n : Nat) (s sep : ByteArray), s.size < 4294967281 → ∃ r, callW PG E Y 27 [.string s, .string sep] m n = .ok (.tuple #[.string ⟨(Lib.cut s.data.toList sep.data.toList).1.toArray⟩, .string ⟨(Lib.cut s.data.toList sep.data.toList).2.1.toArray⟩, .bool (Lib.cut s.data.toList sep.data.toList).2.2]) m n r 0
  atoi : ∀ (m : FM) (n : Nat) (s : ByteArray) (z : Int), s.size < 4294967281 → Lib.atoiAll s.data.toList = .ok z → ∃ r, callW PG E Y 29 [.string s] m n = .ok (.tuple #[.int .i64 z, .nilIface]) m n r 0
  split : ∀ (m : FM) (n : Nat) (s sep : ByteArray), s.size < 4294967281 → 1 ≤ sep.size → Lib.countB s sep < 4294967281 → ∃ r, callW PG E Y 30 [.string s, .string sep] m n = .ok (.slice (some ⟨n, 0, none⟩) (Lib.countB s sep + 1) (Lib.countB s sep + 1)) (AMem.put m n (some (.cells ((splitL s sep).map Value.string) 1 false true))) (n + 1) r (bit n)
  join0 : ∀ (m : FM) (n : Nat) (sep : ByteArray), Pure (callW PG E Y 24 [.slice none 0 0, .string sep] m n) m n (.string ⟨#[]⟩)
  join : ∀ (m : FM) (n b c : Nat) (opn wr : Bool) (xs : List ByteArray) (sep : ByteArray), b < n → m b = some (.cells (xs.map Value.string) 1 opn wr) → 0 < xs.length → xs.length < 140737488355328 → (joinS xs sep).size ≤ 140737488355328 → Pure (callW PG E Y 24 [.slice (some ⟨b, 0, none⟩) xs.length c, .string sep] m n) m n (.string (joinS xs sep))
def StrZ (M : FM) (n0 N : Nat) (v : Value) (l : List ByteArray) : Prop := SlZ 1 M n0 N v l.length (l.map Value.string)
theorem StrZ.nil (M : FM) (n0 N : Nat) : StrZ M n0 N (.slice none 0 0) [] := .inl ⟨rfl, rfl, rfl⟩
theorem app_strZ {M : FM} {n0 N : Nat} {v : Value} {l : List ByteArray} (h : StrZ M n0 N v l) (s : ByteArray) (ya : Option Addr) (yc ry : Nat) (h0 : n0 ≤ N) (hl : l.length ≤ 1000000) :
    Rt (appO 1 16 M N v (.slice ya 1 yc) (shown M N 1 v) (some ([.string s], ry))) fun v' M' N' w => N' = N + 1 ∧ StrZ M' n0 N' v' (l ++ [s]) ∧ (∀ b, b < n0 → M' b = M b) ∧ ∀ j, j ≤ n0 → Nat.mod w (bit j) = 0 :=
  (app_slZ h ya yc ry h0 (by omega) (zs := [.string s]) rfl rfl (by omega) (by omega)).mono fun v' M' N' w h => ⟨h.n, by
    have := h.s
    rw [StrZ, List.length_append, List.length_singleton, List.map_append]; exact this, h.low, h.w⟩
theorem word_at {k : Int} (h1 : 1 ≤ k) (h2 : k ≤ 7) : purV PG (.ind 8) [.agg (W8.map Value.string).toArray, .int .i64 k] = some (.string (wordB k)) ∧ (wordB k).size ≤ 5 := by
  rcases (by omega : k = 1 ∨ k = 2 ∨ k = 3 ∨ k = 4 ∨ k = 5 ∨ k = 6 ∨ k = 7) with rfl | rfl | rfl | rfl | rfl | rfl | rfl <;> exact ⟨rfl, by decide⟩
theorem size_app (a b : ByteArray) : (a ++ b).size = a.size + b.size := ByteArray.size_append
theorem itoa_size {z : Int} (h0 : -9223372036854775808 ≤ z) (h1 : z ≤ 9223372036854775807) : (itoaB z).size ≤ 21 := by
  have := Lib.itoa_length_le z h0 h1
  simpa [itoaB, ByteArray.size] using this
theorem w8_below (k : Nat) : (List.map Value.string W8).all (belowF k) = true := rfl
theorem text_L0 (L : LibY E Y) (hW : E 22 = some ac22) (hA : E 21 = some ac21) {m : FM} {n : Nat} {lv : Value} {fs : List Flt} (h : FlS m n lv fs) (hs : fs.length ≤ 1000) (hfit : ∀ f ∈ fs, 1 ≤ f.kind ∧ f.kind ≤ 7 ∧ 0 ≤ f.at_ ∧ f.at_ ≤ 9223372036854775807 ∧ 0 ≤ f.to ∧ f.to ≤ 9223372036854775807) (x4 x5 x6 : Value) {Q : AX → List Value → FM → Nat → Nat → Prop}
    (hQ : ∀ pv x2 M N' w, n ≤ N' → (∀ b, b < n → M b = m b) → (∀ j, j ≤ n → Nat.mod w (bit j) = 0) → StrZ M n N' pv (fs.map fltT) → Q (.exit 0) [pv, x2, .int .i64 (fs.length : Int), x4, x5, x6, lv] M N' w) :
    ∀ d j, j + d = fs.length → ∀ (M : FM) (N' w0 : Nat) (pv x2 : Value), n ≤ N' → (∀ b, b < n → M b = m b) → (∀ j, j ≤ n → Nat.mod w0 (bit j) = 0) → StrZ M n N' pv ((fs.take j).map fltT) →
    Gv (execW PG E Y ac12L0 [pv, .int .i64 (j : Int), x2, .int .i64 (fs.length : Int), x4, x5, x6, lv] M N') fun X e m n w => Q X e m n (Nat.lor w0 w) := by
  intro d
  induction d with
  | zero =>
    intro j hj M N' w0 pv x2 hN hM hw hZ
    obtain rfl : j = fs.length := by omega
    rw [List.take_length] at hZ
    refine wr_loopN (L := ac12L0) (b := ac12L0b) rfl ?_
    simp only [ac12L0b]
    simp (implicitDefEqProofs := false) (disch := omega) only [WPs, opds, List.all_cons, List.all_nil, List.cons_append, List.nil_append, cond_true, cond_false, eq_self, List.map_cons, List.map_nil, Nat.reduceAdd, Nat.testBit, Nat.reduceShiftRight, Nat.reduceAnd, Nat.reduceBNe, Nat.reduceMul]
    exact hQ _ _ _ _ _ hN hM hw hZ
  | succ d ih =>
    intro j hj M N' w0 pv x2 hN hM hw hZ
    have hjl : j < fs.length := by omega
    obtain ⟨b, o, cells, opn, wr, i1, i2, i3, i4⟩ := (h.frame hN hM).at hjl
    have ih' := ih (j + 1) (by omega)
    rw [List.take_add_one, List.getElem?_eq_getElem hjl, Option.toList_some, List.map_append] at ih'
    have hf := hfit fs[j] (List.getElem_mem hjl)
    generalize fs[j] = f at i4 ih' hf
    obtain ⟨k1, k2, k3, k4, k5, k6⟩ := hf
    obtain ⟨hwd, hws⟩ := word_at k1 k2
    have hi1 := itoa_size (z := f.at_) (by omega) k4
    have hi2 := itoa_size (z := f.to) (by omega) k6
    generalize hM0 : (AMem.put M N' (some (.cells f.cells 0 false true)) : FM) = M0
    have hM0b' : ∀ b, b < N' → M0 b = M b := fun b hb => by rw [← hM0, fput_ne _ _ _ _ (by omega)]
    have hM0b : ∀ b, b < n → M0 b = m b := fun b hb => by rw [hM0b' b (by omega)]; exact hM b hb
    have hbx : M0 N' = some (.cells f.cells 0 false true) := by rw [← hM0]; exact fput_same _ _ _
    have hZ1 : ∀ B, StrZ (AMem.put M0 (N' + 1) B) n (N' + 1 + 1) pv ((fs.take j).map fltT) := fun B => SlZ.frame hZ (by omega) fun b _ hb => by rw [fput_ne _ _ _ _ (by omega)]; exact hM0b' b hb
    simp only [Flt.cells] at i4 hM0 hbx
    have s1 : (⟨#[32]⟩ : ByteArray).size = 1 := rfl
    have s4 : (⟨#[32, 116, 111, 32]⟩ : ByteArray).size = 4 := rfl
    have a1 := add_str (P := PG) 9 (a := wordB f.kind) (b := ⟨#[32]⟩) (by omega)
    have a2 := add_str (P := PG) 9 (a := wordB f.kind ++ ⟨#[32]⟩) (b := itoaB f.at_) (by rw [size_app]; omega)
    refine wr_loopN (L := ac12L0) (b := ac12L0b) rfl ?_
    simp only [ac12L0b]
    simp (implicitDefEqProofs := false) (disch := omega) only [WPs, opds, List.all_cons, List.all_nil, List.cons_append, List.nil_append, cond_true, cond_false, eq_self, List.map_cons, List.map_nil, Nat.reduceAdd, Nat.testBit, Nat.reduceShiftRight, Nat.reduceAnd, Nat.reduceBNe, Nat.reduceMul, i1, i3, i4, hM0, hbx]
    refine use_pureX (words_spec hW _ _) fun _ => ?_
    have hb8 := w8_below (N' + 1)
    simp (implicitDefEqProofs := false) (disch := omega) only [WPs, opds, List.all_cons, List.all_nil, List.cons_append, List.nil_append, cond_true, cond_false, eq_self, List.map_cons, List.map_nil, Nat.reduceAdd, Nat.testBit, Nat.reduceShiftRight, Nat.reduceAnd, Nat.reduceBNe, Nat.reduceMul, hbx, hwd, a1, t_pur, hb8]
    refine use_pureX (L.itoa _ _ f.at_ (by omega) k4) fun _ => ?_
    simp (implicitDefEqProofs := false) (disch := omega) only [WPs, opds, List.all_cons, List.all_nil, List.cons_append, List.nil_append, cond_true, cond_false, eq_self, List.map_cons, List.map_nil, Nat.reduceAdd, Nat.testBit, Nat.reduceShiftRight, Nat.reduceAnd, Nat.reduceBNe, Nat.reduceMul, a2, hbx]
    refine use_pure (aims_spec hA _ _ _) fun _ => ?_
    cases hai : aimsB f.kind with
    | true =>
      have hT : fltT f = wordB f.kind ++ ⟨#[32]⟩ ++ itoaB f.at_ ++ (⟨#[32, 116, 111, 32]⟩ ++ itoaB f.to) := by rw [fltT, if_pos hai]
      have a3 := add_str (P := PG) 9 (a := ⟨#[32, 116, 111, 32]⟩) (b := itoaB f.to) (by omega)
      have a4 := add_str (P := PG) 9 (a := wordB f.kind ++ ⟨#[32]⟩ ++ itoaB f.at_) (b := ⟨#[32, 116, 111, 32]⟩ ++ itoaB f.to) (by simp only [size_app]; omega)
      simp (implicitDefEqProofs := false) (disch := omega) only [WPs, opds, List.all_cons, List.all_nil, List.cons_append, List.nil_append, cond_true, cond_false, eq_self, List.map_cons, List.map_nil, Nat.reduceAdd, Nat.testBit, Nat.reduceShiftRight, Nat.reduceAnd, Nat.reduceBNe, Nat.reduceMul, hbx]
      refine use_pure (L.itoa _ _ f.to (by omega) k6) fun _ => ?_
      simp (implicitDefEqProofs := false) (disch := omega) only [WPs, opds, List.all_cons, List.all_nil, List.cons_append, List.nil_append, cond_true, cond_false, eq_self, List.map_cons, List.map_nil, Nat.reduceAdd, Nat.testBit, Nat.reduceShiftRight, Nat.reduceAnd, Nat.reduceBNe, Nat.reduceMul, a3, a4]
      rw [← hT]
      refine use_rt (app_strZ (hZ1 _) (fltT f) _ _ _ (by omega) (by rw [List.length_map, List.length_take]; omega)) fun v2 M2 N2 r2 w2 ⟨q1, q2, q3, q4⟩ => ?_
      subst q1
      simp (implicitDefEqProofs := false) (disch := omega) only [WPs, opds, List.all_cons, List.all_nil, List.cons_append, List.nil_append, cond_true, cond_false, eq_self, List.map_cons, List.map_nil, Nat.reduceAdd, Nat.testBit, Nat.reduceShiftRight, Nat.reduceAnd, Nat.reduceBNe, Nat.reduceMul]
      refine wr_end (ih' M2 (N' + 3) (Nat.lor w0 (Nat.lor (Nat.lor (bit N') (bit N')) (Nat.lor (bit (N' + 1)) w2))) v2 _ (by omega) (fun b hb => by rw [q3 b hb, fput_ne _ _ _ _ (by omega), hM0b b hb]) (fun i hi => by simp only [frz_iff]; exact ⟨hw i hi, ⟨frz_bit (by omega), frz_bit (by omega)⟩, frz_bit (by omega), q4 i hi⟩) q2) fun X e m n w hq => ?_
      rw [← lor_assoc']; exact hq
    | false =>
      have hT : fltT f = wordB f.kind ++ ⟨#[32]⟩ ++ itoaB f.at_ := by rw [fltT, if_neg (by rw [hai]; decide)]
      simp (implicitDefEqProofs := false) (disch := omega) only [WPs, opds, List.all_cons, List.all_nil, List.cons_append, List.nil_append, cond_true, cond_false, eq_self, List.map_cons, List.map_nil, Nat.reduceAdd, Nat.testBit, Nat.reduceShiftRight, Nat.reduceAnd, Nat.reduceBNe, Nat.reduceMul]
      rw [← hT]
      refine use_rt (app_strZ (hZ1 _) (fltT f) _ _ _ (by omega) (by rw [List.length_map, List.length_take]; omega)) fun v2 M2 N2 r2 w2 ⟨q1, q2, q3, q4⟩ => ?_
      subst q1
      simp (implicitDefEqProofs := false) (disch := omega) only [WPs, opds, List.all_cons, List.all_nil, List.cons_append, List.nil_append, cond_true, cond_false, eq_self, List.map_cons, List.map_nil, Nat.reduceAdd, Nat.testBit, Nat.reduceShiftRight, Nat.reduceAnd, Nat.reduceBNe, Nat.reduceMul]
      refine wr_end (ih' M2 (N' + 3) (Nat.lor w0 (Nat.lor (Nat.lor (bit N') (bit N')) (Nat.lor (bit (N' + 1)) w2))) v2 _ (by omega) (fun b hb => by rw [q3 b hb, fput_ne _ _ _ _ (by omega), hM0b b hb]) (fun i hi => by simp only [frz_iff]; exact ⟨hw i hi, ⟨frz_bit (by omega), frz_bit (by omega)⟩, frz_bit (by omega), q4 i hi⟩) q2) fun X e m n w hq => ?_
      rw [← lor_assoc']; exact hq
def semi : ByteArray := ⟨#[59, 32]⟩
def textB (fs : List Flt) : ByteArray := if validB fs = true then joinS (fs.map fltT) semi else ⟨#[]⟩
theorem join_len (sep : List UInt8) (B : Nat) : ∀ xs : List (List UInt8), (∀ x ∈ xs, x.length ≤ B) → (Lib.join xs sep).length ≤ xs.length * (B + sep.length)
  | [], _ => Nat.zero_le _
  | x :: r, h => by
    rw [Lib.join_cons, List.length_append]
    have h1 := h x (List.mem_cons_self ..)
    have h2 : ∀ r : List (List UInt8), (∀ x ∈ r, x.length ≤ B) → (Lib.joinTail sep r).length ≤ r.length * (B + sep.length) := fun r => by
      induction r with
      | nil => exact fun _ => Nat.zero_le _
      | cons y r ih =>
        intro hr
        have h3 := ih fun x hx => hr x (List.mem_cons_of_mem _ hx)
        have h4 := hr y (List.mem_cons_self ..)
        have e : Lib.joinTail sep (y :: r) = (sep ++ y) ++ Lib.joinTail sep r := by simp [Lib.joinTail]
        rw [e, List.length_append, List.length_append, List.length_cons, Nat.add_mul, Nat.one_mul]
        omega
    have h5 := h2 r fun x hx => h x (List.mem_cons_of_mem _ hx)
    rw [List.length_cons, Nat.add_mul, Nat.one_mul]
    omega
theorem flt_fit {fs : List Flt} (hv : validB fs = true) (hi : ∀ f ∈ fs, f.at_ ≤ 9223372036854775807 ∧ f.to ≤ 9223372036854775807) : ∀ f ∈ fs, 1 ≤ f.kind ∧ f.kind ≤ 7 ∧ 0 ≤ f.at_ ∧ f.at_ ≤ 9223372036854775807 ∧ 0 ≤ f.to ∧ f.to ≤ 9223372036854775807 := by
  have key : ∀ (l : List Flt) (p : Int), okFs p l = true → ∀ f ∈ l, 1 ≤ f.kind ∧ f.kind ≤ 7 ∧ 0 ≤ f.to := fun l => by
    induction l with
    | nil => exact fun _ _ f hf => by cases hf
    | cons x l ih =>
      intro p h f hf
      simp only [okFs, Bool.and_eq_true] at h
      rcases List.mem_cons.1 hf with rfl | hf
      · obtain ⟨_, h2, h3, h4, _⟩ := okF_iff.1 h.1
        exact ⟨h2, h3, h4⟩
      · exact ih _ h.2 f hf
  intro f hf
  obtain ⟨h1, h2, h3⟩ := key fs (-1) hv f hf
  have h4 := okFs_lt hv f hf
  exact ⟨h1, h2, by omega, (hi f hf).1, h3, (hi f hf).2⟩
theorem fltT_size {f : Flt} (h : 1 ≤ f.kind ∧ f.kind ≤ 7 ∧ 0 ≤ f.at_ ∧ f.at_ ≤ 9223372036854775807 ∧ 0 ≤ f.to ∧ f.to ≤ 9223372036854775807) : (fltT f).size ≤ 52 := by
  obtain ⟨k1, k2, k3, k4, k5, k6⟩ := h
  have h1 := (word_at k1 k2).2
  have h2 := itoa_size (z := f.at_) (by omega) k4
  have h3 := itoa_size (z := f.to) (by omega) k6
  have s1 : (⟨#[32]⟩ : ByteArray).size = 1 := rfl
  have s4 : (⟨#[32, 116, 111, 32]⟩ : ByteArray).size = 4 := rfl
  rw [fltT]
  split <;> (simp only [size_app]; omega)
theorem text_spec (L : LibY E Y) (hE : E 12 = some ac12) (hV : E 10 = some ac10) (hW : E 22 = some ac22) (hA : E 21 = some ac21) (m : FM) (n : Nat) (lv : Value) (fs : List Flt) (h : FlS m n lv fs) (hs : fs.length ≤ 1000) (hi : ∀ f ∈ fs, f.at_ ≤ 9223372036854775807 ∧ f.to ≤ 9223372036854775807) : Pure (callW PG E Y 12 [lv] m n) m n (.string (textB fs)) := by
  refine pure_spec hE rfl rfl ?_
  simp only [ac12]
  simp (implicitDefEqProofs := false) (disch := omega) only [WPs, opds, List.all_cons, List.all_nil, List.cons_append, List.nil_append, cond_true, cond_false, eq_self, List.map_cons, List.map_nil, Nat.reduceAdd, Nat.testBit, Nat.reduceShiftRight, Nat.reduceAnd, Nat.reduceBNe, Nat.reduceMul]
  refine use_pure (valid_spec hV hA m n lv fs h (by omega)) fun _ => ?_
  cases hv : validB fs with
  | false =>
    rw [show textB fs = ⟨#[]⟩ by rw [textB, if_neg (by rw [hv]; decide)]]
    simp (implicitDefEqProofs := false) (disch := omega) only [WPs, opds, List.all_cons, List.all_nil, List.cons_append, List.nil_append, cond_true, cond_false, eq_self, List.map_cons, List.map_nil, Nat.reduceAdd, Nat.testBit, Nat.reduceShiftRight, Nat.reduceAnd, Nat.reduceBNe, Nat.reduceMul]
  | true =>
    have hfit := flt_fit hv hi
    rw [show textB fs = joinS (fs.map fltT) semi by rw [textB, if_pos hv]]
    simp (implicitDefEqProofs := false) (disch := omega) only [WPs, opds, List.all_cons, List.all_nil, List.cons_append, List.nil_append, cond_true, cond_false, eq_self, List.map_cons, List.map_nil, Nat.reduceAdd, Nat.testBit, Nat.reduceShiftRight, Nat.reduceAnd, Nat.reduceBNe, Nat.reduceMul, h.len]
    refine wr_kont (text_L0 L hW hA h hs hfit _ _ _ (fun pv x2 M N' w hN hM hw hZ rr => ?_) fs.length 0 (by omega) m n 0 _ _ (Nat.le_refl _) (fun _ _ => rfl) (fun _ _ => Nat.zero_mod _) (StrZ.nil _ _ _))
    have fz := hw n (Nat.le_refl _)
    rcases hZ with ⟨h1, _, rfl⟩ | ⟨hp, _, b, rfl, _, hb, hbm⟩
    · have hfs : fs = [] := by
        rw [List.length_map] at h1
        exact List.length_eq_zero_iff.1 h1
      subst hfs
      simp (implicitDefEqProofs := false) (disch := omega) only [WPs, opds, List.all_cons, List.all_nil, List.cons_append, List.nil_append, cond_true, cond_false, eq_self, List.map_cons, List.map_nil, Nat.reduceAdd, Nat.testBit, Nat.reduceShiftRight, Nat.reduceAnd, Nat.reduceBNe, Nat.reduceMul]
      refine use_pure (L.join0 _ _ _) fun _ => ?_
      simp (implicitDefEqProofs := false) (disch := omega) only [WPs, opds, List.all_cons, List.all_nil, List.cons_append, List.nil_append, cond_true, cond_false, eq_self, List.map_cons, List.map_nil, Nat.reduceAdd, Nat.testBit, Nat.reduceShiftRight, Nat.reduceAnd, Nat.reduceBNe, Nat.reduceMul, fz]
      rfl
    · simp (implicitDefEqProofs := false) (disch := omega) only [WPs, opds, List.all_cons, List.all_nil, List.cons_append, List.nil_append, cond_true, cond_false, eq_self, List.map_cons, List.map_nil, Nat.reduceAdd, Nat.testBit, Nat.reduceShiftRight, Nat.reduceAnd, Nat.reduceBNe, Nat.reduceMul]
      refine use_pure (L.join M N' b UNK true true (fs.map fltT) ⟨#[59, 32]⟩ hb hbm hp (by rw [List.length_map]; omega) (by
        have hj := join_len semi.data.toList 52 ((fs.map fltT).map (·.data.toList)) (fun x hx => by
          rw [List.map_map] at hx
          obtain ⟨f, hf, rfl⟩ := List.mem_map.1 hx
          exact fltT_size (hfit f hf))
        rw [List.length_map, List.length_map] at hj
        have e : (joinS (fs.map fltT) ⟨#[59, 32]⟩).size = (Lib.join ((fs.map fltT).map (·.data.toList)) semi.data.toList).length := by simp [joinS, ByteArray.size, semi]
        have s2 : semi.data.toList.length = 2 := rfl
        rw [s2] at hj
        omega)) fun _ => ?_
      simp (implicitDefEqProofs := false) (disch := omega) only [WPs, opds, List.all_cons, List.all_nil, List.cons_append, List.nil_append, cond_true, cond_false, eq_self, List.map_cons, List.map_nil, Nat.reduceAdd, Nat.testBit, Nat.reduceShiftRight, Nat.reduceAnd, Nat.reduceBNe, Nat.reduceMul, fz]
      rfl
end Go.Am.C13
namespace Go.Am.C13
open Go Go.Am Go.Am.V
variable {E : Nat → Option AFn} {Y : Nat → List Value → FM → Nat → OR FM}
theorem chg_spec {P : Program} {m : FM} {n : Nat} {f : Nat} {fn : AFn} {args : List Value} {R : Value → FM → Nat → Nat → Prop} (hE : E f = some fn) (ha : llen args = fn.na) (h : ∀ Q : AX → List Value → FM → Nat → Nat → Prop, (∀ v e m' n' w, (addrFree v = true → Nat.mod w (bit n) = 0 → R v m n 0) → (¬ (addrFree v = true ∧ Nat.mod w (bit n) = 0) → R v m' n' w) → Q (.ret v) e m' n' w) → Wr P E Y [] 0 (execW P E Y fn.code args m n) Q) : Rt (callW P E Y f args m n) R := by
  rw [callW_fn hE ha]
  obtain ⟨X, e', m', n', r, w, hx, v, rfl, h1, h2⟩ := Gv_some (wr_start (h (fun X _ m' n' w => ∃ v, X = .ret v ∧ (addrFree v = true → Nat.mod w (bit n) = 0 → R v m n 0) ∧ (¬ (addrFree v = true ∧ Nat.mod w (bit n) = 0) → R v m' n' w)) fun v _ m' n' w k1 k2 => ⟨v, rfl, k1, k2⟩))
  rw [hx, leave_ret]
  by_cases hc : addrFree v = true ∧ Nat.mod w (bit n) = 0
  · rw [leaveA_free hc.1 hc.2]; exact h1 hc.1 hc.2
  · have : leaveA m n v m' n' r w = .ok v m' n' r w := by
      unfold leaveA
      have hb : (addrFree v && Nat.beq (Nat.mod w (bit n)) 0) = false := by
        cases h3 : addrFree v
        · rfl
        · cases h4 : Nat.beq (Nat.mod w (bit n)) 0
          · rfl
          · exact absurd ⟨h3, Nat.eq_of_beq_eq_true h4⟩ hc
      rw [hb]; rfl
    rw [this]; exact h2 hc
theorem ex0 (a b c : Value) : extrV 0 (.tuple #[a, b, c]) = some a := rfl
theorem ex1 (a b c : Value) : extrV 1 (.tuple #[a, b, c]) = some b := rfl
theorem ex2 (a b c : Value) : extrV 2 (.tuple #[a, b, c]) = some c := rfl
theorem ey0 (a b : Value) : extrV 0 (.tuple #[a, b]) = some a := rfl
theorem ey1 (a b : Value) : extrV 1 (.tuple #[a, b]) = some b := rfl
def cutL (s sep : ByteArray) : ByteArray := ⟨(Lib.cut s.data.toList sep.data.toList).1.toArray⟩
def cutR (s sep : ByteArray) : ByteArray := ⟨(Lib.cut s.data.toList sep.data.toList).2.1.toArray⟩
def cutF (s sep : ByteArray) : Bool := (Lib.cut s.data.toList sep.data.toList).2.2
theorem word_spec (L : LibY E Y) (hE : E 26 = some ac26) {M : FM} {N rb ob : Nat} {s sep : ByteArray} {ok : Bool} (hrb : rb < N) (hob : ob < N) (hne : rb ≠ ob) (hr : M rb = some (.cells [.string s] 0 false true)) (ho : M ob = some (.cells [.bool ok] 0 false true)) (hs : s.size < 4294967281) :
    Rt (callW PG E Y 26 [.string sep, .pointer (some ⟨rb, 0, none⟩), .pointer (some ⟨ob, 0, none⟩)] M N) fun v M' N' w => v = .string (cutL s sep) ∧ N ≤ N' ∧ M' rb = some (.cells [.string (cutR s sep)] 0 false true) ∧ M' ob = some (.cells [.bool (ok && cutF s sep)] 0 false true) ∧ (∀ b, b < N → b ≠ rb → b ≠ ob → M' b = M b) ∧ ∀ j, j ≤ rb → j ≤ ob → Nat.mod w (bit j) = 0 := by
  refine chg_spec hE rfl fun Q hQ => ?_
  obtain ⟨rc, hc⟩ := L.cut M N s sep hs
  have hL : (⟨(Lib.cut s.data.toList sep.data.toList).1.toArray⟩ : ByteArray) = cutL s sep := rfl
  have hR : (⟨(Lib.cut s.data.toList sep.data.toList).2.1.toArray⟩ : ByteArray) = cutR s sep := rfl
  have hF : (Lib.cut s.data.toList sep.data.toList).2.2 = cutF s sep := rfl
  rw [hL, hR, hF] at hc
  simp only [ac26]
  cases ok with
  | true =>
    simp (implicitDefEqProofs := false) (disch := omega) only [WPs, opds, List.all_cons, List.all_nil, List.cons_append, List.nil_append, cond_true, cond_false, eq_self, List.map_cons, List.map_nil, Nat.reduceAdd, Nat.testBit, Nat.reduceShiftRight, Nat.reduceAnd, Nat.reduceBNe, Nat.reduceMul, hr, ho, hc, ex0, ex1, ex2]
    have hno : ¬ Nat.mod (Nat.lor (bit ob) (bit rb)) (bit N) = 0 := fun hw => by
      have := mod_bit hw rb hrb
      rw [lor_test, bit_test, bit_test] at this
      simp at this
    exact hQ _ _ _ _ _ (fun _ hw => absurd hw hno) (fun _ => ⟨rfl, Nat.le_refl _, fput_same _ _ _, by rw [fput_ne _ _ _ _ (fun e => hne e.symm), fput_same]; rfl, fun b hb h1 h2 => by rw [fput_ne _ _ _ _ h1, fput_ne _ _ _ _ h2], fun j h1 h2 => by simp only [frz_iff]; exact ⟨frz_bit h2, frz_bit h1⟩⟩)
  | false =>
    simp (implicitDefEqProofs := false) (disch := omega) only [WPs, opds, List.all_cons, List.all_nil, List.cons_append, List.nil_append, cond_true, cond_false, eq_self, List.map_cons, List.map_nil, Nat.reduceAdd, Nat.testBit, Nat.reduceShiftRight, Nat.reduceAnd, Nat.reduceBNe, Nat.reduceMul, hr, ho, hc, ex0, ex1, ex2]
    have hno : ¬ Nat.mod (Nat.lor (bit ob) (bit rb)) (bit N) = 0 := fun hw => by
      have := mod_bit hw rb hrb
      rw [lor_test, bit_test, bit_test] at this
      simp at this
    exact hQ _ _ _ _ _ (fun _ hw => absurd hw hno) (fun _ => ⟨rfl, Nat.le_refl _, fput_same _ _ _, by rw [fput_ne _ _ _ _ (fun e => hne e.symm), fput_same]; rfl, fun b hb h1 h2 => by rw [fput_ne _ _ _ _ h1, fput_ne _ _ _ _ h2], fun j h1 h2 => by simp only [frz_iff]; exact ⟨frz_bit h2, frz_bit h1⟩⟩)
theorem number_spec (L : LibY E Y) (hE : E 28 = some ac28) {M : FM} {N ob : Nat} {s : ByteArray} {ok : Bool} {z : Int} (hob : ob < N) (ho : M ob = some (.cells [.bool ok] 0 false true)) (hs : s.size < 4294967281) (hz : Lib.atoiAll s.data.toList = .ok z) (h0 : -9223372036854775808 ≤ z) (h1 : z ≤ 9223372036854775807) :
    Rt (callW PG E Y 28 [.string s, .pointer (some ⟨ob, 0, none⟩)] M N) fun v M' N' w => v = .int .i64 z ∧ N ≤ N' ∧ M' ob = some (.cells [.bool (ok && decide (itoaB z = s))] 0 false true) ∧ (∀ b, b < N → b ≠ ob → M' b = M b) ∧ ∀ j, j ≤ ob → Nat.mod w (bit j) = 0 := by
  refine chg_spec hE rfl fun Q hQ => ?_
  obtain ⟨rc, hc⟩ := L.atoi M N s z hs hz
  have hn : purV PG (.isn .eql 49) [.nilIface] = some (.bool true) := by kernel_rfl
  simp only [ac28]
  cases ok with
  | true =>
    simp (implicitDefEqProofs := false) (disch := omega) only [WPs, opds, List.all_cons, List.all_nil, List.cons_append, List.nil_append, cond_true, cond_false, eq_self, List.map_cons, List.map_nil, Nat.reduceAdd, Nat.testBit, Nat.reduceShiftRight, Nat.reduceAnd, Nat.reduceBNe, Nat.reduceMul, ho, hc, ey0, ey1, t_pur, hn]
    refine use_pure (L.itoa _ _ z h0 h1) fun _ => ?_
    simp (implicitDefEqProofs := false) (disch := omega) only [WPs, opds, List.all_cons, List.all_nil, List.cons_append, List.nil_append, cond_true, cond_false, eq_self, List.map_cons, List.map_nil, Nat.reduceAdd, Nat.testBit, Nat.reduceShiftRight, Nat.reduceAnd, Nat.reduceBNe, Nat.reduceMul, eql_str, ho]
    have hno : ¬ Nat.mod (bit ob) (bit N) = 0 := fun hw => by
      have := mod_bit hw ob hob
      rw [bit_test] at this
      simp at this
    exact hQ _ _ _ _ _ (fun _ hw => absurd hw hno) (fun _ => ⟨rfl, Nat.le_refl _, by rw [fput_same]; rfl, fun b hb h1 => fput_ne _ _ _ _ h1, fun j h1 => frz_bit h1⟩)
  | false =>
    simp (implicitDefEqProofs := false) (disch := omega) only [WPs, opds, List.all_cons, List.all_nil, List.cons_append, List.nil_append, cond_true, cond_false, eq_self, List.map_cons, List.map_nil, Nat.reduceAdd, Nat.testBit, Nat.reduceShiftRight, Nat.reduceAnd, Nat.reduceBNe, Nat.reduceMul, ho, hc, ey0, ey1, t_pur, hn]
    have hno : ¬ Nat.mod (bit ob) (bit N) = 0 := fun hw => by
      have := mod_bit hw ob hob
      rw [bit_test] at this
      simp at this
    exact hQ _ _ _ _ _ (fun _ hw => absurd hw hno) (fun _ => ⟨rfl, Nat.le_refl _, by rw [fput_same]; rfl, fun b hb h1 => fput_ne _ _ _ _ h1, fun j h1 => frz_bit h1⟩)
end Go.Am.C13
namespace Go.Am.C13
open Go Go.Am Go.Am.V
variable {E : Nat → Option AFn} {Y : Nat → List Value → FM → Nat → OR FM}
def kindTo (nm : ByteArray) : Nat → Int
  | 0 => 0
  | k + 1 => if 0 < k ∧ W8.getD k ⟨#[]⟩ = nm then (k : Int) else kindTo nm k
theorem w8_at {k : Nat} (h : k < 8) : purV PG (.ind 8) [.agg (W8.map Value.string).toArray, .int .i64 (k : Int)] = some (.string (W8.getD k ⟨#[]⟩)) := by
  rcases (by omega : k = 0 ∨ k = 1 ∨ k = 2 ∨ k = 3 ∨ k = 4 ∨ k = 5 ∨ k = 6 ∨ k = 7) with rfl | rfl | rfl | rfl | rfl | rfl | rfl | rfl <;> rfl
theorem kind_L0 {M0 : FM} {N fb : Nat} {nm : ByteArray} {a t : Int} (hfb : fb < N) (ys : List Value) {Q : AX → List Value → FM → Nat → Nat → Prop}
    (hQ : ∀ M w, M fb = some (.cells [.int .i64 a, .int .i64 (kindTo nm 8), .int .i64 t] 0 false true) → (∀ b, b ≠ fb → M b = M0 b) → (∀ j, j ≤ fb → Nat.mod w (bit j) = 0) → ∀ x0 x1, Q (.exit 2) (x0 :: x1 :: .agg (W8.map Value.string).toArray :: .string nm :: .pointer (some ⟨fb, 0, none⟩) :: ys) M N w) :
    ∀ d k, k + d = 8 → ∀ (M : FM) (w0 : Nat) (x1 : Value), M fb = some (.cells [.int .i64 a, .int .i64 (kindTo nm k), .int .i64 t] 0 false true) → (∀ b, b ≠ fb → M b = M0 b) → (∀ j, j ≤ fb → Nat.mod w0 (bit j) = 0) →
    Gv (execW PG E Y ac14L0 (.int .i64 (k : Int) :: x1 :: .agg (W8.map Value.string).toArray :: .string nm :: .pointer (some ⟨fb, 0, none⟩) :: ys) M N) fun X e m n w => Q X e m n (Nat.lor w0 w) := by
  intro d
  induction d with
  | zero =>
    intro k hk M w0 x1 hM hMb hw
    obtain rfl : k = 8 := by omega
    refine wr_loopN (L := ac14L0) (b := ac14L0b) rfl ?_
    simp only [ac14L0b]
    simp (implicitDefEqProofs := false) (disch := omega) only [WPs, opds, List.all_cons, List.all_nil, List.cons_append, List.nil_append, cond_true, cond_false, eq_self, List.map_cons, List.map_nil, Nat.reduceAdd, Nat.testBit, Nat.reduceShiftRight, Nat.reduceAnd, Nat.reduceBNe, Nat.reduceMul]
    exact hQ _ _ hM hMb hw _ _
  | succ d ih =>
    intro k hk M w0 x1 hM hMb hw
    have hk8 := w8_at (k := k) (by omega)
    refine wr_loopN (L := ac14L0) (b := ac14L0b) rfl ?_
    simp only [ac14L0b]
    by_cases h0 : 0 < k
    · by_cases he : W8.getD k ⟨#[]⟩ = nm
      · have hkt : kindTo nm (k + 1) = (k : Int) := by rw [kindTo, if_pos ⟨h0, he⟩]
        simp (implicitDefEqProofs := false) (disch := omega) only [WPs, opds, List.all_cons, List.all_nil, List.cons_append, List.nil_append, cond_true, cond_false, eq_self, List.map_cons, List.map_nil, Nat.reduceAdd, Nat.testBit, Nat.reduceShiftRight, Nat.reduceAnd, Nat.reduceBNe, Nat.reduceMul, t_pur, hk8, eql_str, decide_eq_true he, hM, decide_eq_true (show (0 : Int) < (k : Int) by omega)]
        refine wr_end (ih (k + 1) (by omega) _ (Nat.lor w0 (bit fb)) _ (by rw [fput_same, hkt]) (fun b hb => by rw [fput_ne _ _ _ _ hb]; exact hMb b hb) (fun j hj => by simp only [frz_iff]; exact ⟨hw j hj, frz_bit hj⟩)) fun X e m n w hq => ?_
        rw [← lor_assoc']; exact hq
      · have hkt : kindTo nm (k + 1) = kindTo nm k := by rw [kindTo, if_neg fun h => he h.2]
        simp (implicitDefEqProofs := false) (disch := omega) only [WPs, opds, List.all_cons, List.all_nil, List.cons_append, List.nil_append, cond_true, cond_false, eq_self, List.map_cons, List.map_nil, Nat.reduceAdd, Nat.testBit, Nat.reduceShiftRight, Nat.reduceAnd, Nat.reduceBNe, Nat.reduceMul, t_pur, hk8, eql_str, decide_eq_false he, decide_eq_true (show (0 : Int) < (k : Int) by omega)]
        exact wr_end (ih (k + 1) (by omega) M w0 _ (by rw [hkt]; exact hM) hMb hw) fun X e m n w hq => by simpa only [zero_lor'] using hq
    · have hkt : kindTo nm (k + 1) = kindTo nm k := by rw [kindTo, if_neg fun h => h0 h.1]
      simp (implicitDefEqProofs := false) (disch := omega) only [WPs, opds, List.all_cons, List.all_nil, List.cons_append, List.nil_append, cond_true, cond_false, eq_self, List.map_cons, List.map_nil, Nat.reduceAdd, Nat.testBit, Nat.reduceShiftRight, Nat.reduceAnd, Nat.reduceBNe, Nat.reduceMul, t_pur, hk8, decide_eq_false (show ¬ (0 : Int) < (k : Int) by omega)]
      exact wr_end (ih (k + 1) (by omega) M w0 _ (by rw [hkt]; exact hM) hMb hw) fun X e m n w hq => by simpa only [zero_lor'] using hq
end Go.Am.C13
