/- The machine and its runs, part 11: AmEql AmEqA Am40b Am40q AmSz Am40p AmLst. -/
import Derived.Laws.StructEq
import Derived.Test.YtkadpnfidbgmmaaDoorB10
set_option linter.unusedVariables false
set_option linter.unusedSimpArgs false
set_option linter.unusedSectionVars false
namespace Go.Am
open Go
section
variable {P : Program}
theorem pr_bind {α β : Type} (s : Sem α) (f : α → Sem β) : pureRun P (s >>= f) = (pureRun P s).bind fun a => pureRun P (f a) := by
  show pureRun P (s.bind f) = _
  induction s with
  | pure a => rfl
  | program k ih => exact ih P
  | _ => rfl
theorem pr_pure {α : Type} (a : α) : pureRun P (pure a : Sem α) = some a := rfl
theorem pr_program : pureRun P program = some P := rfl
theorem pr_underlying {t : TypeId} {d : TypeDesc} (h : P.underlying t = some d) : pureRun P (underlying t) = some d := by
  unfold underlying
  rw [pr_bind, pr_program]
  show pureRun P (match P.underlying t with | some d => pure d | none => stuck "no such type") = some d
  rw [h]; rfl
theorem pr_part {t : TypeId} {k : IntKind} {cs : Array Value} {off : Nat} {v : Value} (h : P.underlying t = some (.int k)) (hv : cs[off]? = some v) : pureRun P (part t cs off) = some v := by
  have h1 : pureRun P (isAgg t) = some false := by
    unfold isAgg
    rw [pr_bind, pr_underlying h]; rfl
  unfold part
  rw [pr_bind, h1]
  show pureRun P (match cs[off]? with | some v => pure v | none => stuck "part: no such cell") = some v
  rw [hv]; rfl
theorem pr_equal_int {d : Nat} {t : TypeId} {k : IntKind} {a b : Int} (h : P.underlying t = some (.int k)) : pureRun P (Op.equalIn (d + 1) t (.int k a) (.int k b)) = some (a == b) := by
  unfold Op.equalIn
  rw [pr_bind, pr_underlying h]
  show pureRun P (if k = k then pure (a == b) else stuck "==: kinds differ") = _
  rw [if_pos rfl]; rfl
theorem pr_equal_struct (d : Nat) (t : TypeId) (xs ys : Array Value) (ht : P.underlying t = some (.struct (P.fieldsOf t))) (hp : P.stoodInHeld t = false) :
    pureRun P (Op.equalIn (d + 1) t (.agg xs) (.agg ys)) = pureRun P (Op.eqFields d xs ys (P.fieldsOf t).toList) := by
  simp only [Op.equalIn, pr_bind, pr_underlying ht, pr_program, hp, Bool.false_eq_true, if_false, Option.bind_some]
  rw [← Array.forIn_toList]
  generalize (P.fieldsOf t).toList = fs
  clear ht
  induction fs with
  | nil => rfl
  | cons f fs ih =>
    simp only [List.forIn_cons, Op.eqFields, pr_bind]
    split
    · rw [pr_bind, pr_bind]
      cases pureRun P (part f.type xs f.offset) with
      | none => rfl
      | some a =>
        simp only [Option.bind_some]
        rw [pr_bind, pr_bind]
        cases pureRun P (part f.type ys f.offset) with
        | none => rfl
        | some b =>
          simp only [Option.bind_some]
          rw [pr_bind, pr_bind]
          cases pureRun P (Op.equalIn d f.type a b) with
          | none => rfl
          | some r =>
            cases r
            · rfl
            · exact ih
    · exact ih
def okFields (P : Program) : List Field → Nat → Bool
  | [], _ => true
  | f :: fs, i => (f.name != "_") && f.offset == i && (match P.underlying f.type with | some (.int .i64) => true | _ => false) && okFields P fs (i + 1)
/-- a struct of n integers -/
def intsT (P : Program) (t n : Nat) : Bool :=
  (match P.underlying t with | some (.struct _) => true | _ => false) && okFields P (P.fieldsOf t).toList 0 && (P.fieldsOf t).toList.length == n && !P.stoodInHeld t && !P.eqGuardType P.depth t
theorem pr_fields {d : Nat} {asl bs : List Int} : ∀ (fs : List Field) (i : Nat), okFields P fs i = true → asl.length = i + fs.length → bs.length = i + fs.length →
    pureRun P (Op.eqFields (d + 1) (asl.map (Value.int .i64)).toArray (bs.map (Value.int .i64)).toArray fs) = some (decide (asl.drop i = bs.drop i))
  | [], i, _, ha, hb => by
    rw [List.drop_eq_nil_of_le (by simp at ha; omega), List.drop_eq_nil_of_le (by simp at hb; omega)]
    rfl
  | f :: fs, i, h, ha, hb => by
    rw [okFields, Bool.and_eq_true, Bool.and_eq_true, Bool.and_eq_true] at h
    obtain ⟨⟨⟨h1, h2⟩, h3⟩, h4⟩ := h
    have hn : f.name ≠ "_" := by simpa using h1
    have ho : f.offset = i := by simpa using h2
    have hu : P.underlying f.type = some (.int .i64) := by
      split at h3
      · assumption
      · cases h3
    rw [List.length_cons] at ha hb
    have hai : i < asl.length := by omega
    have hbi : i < bs.length := by omega
    have ih := pr_fields (d := d) (asl := asl) (bs := bs) fs (i + 1) h4 (by omega) (by omega)
    rw [Op.eqFields, if_pos hn, pr_bind, pr_part hu (v := .int .i64 asl[i]) (by rw [ho]; simp [hai]), Option.bind_some, pr_bind, pr_part hu (v := .int .i64 bs[i]) (by rw [ho]; simp [hbi]), Option.bind_some, pr_bind, pr_equal_int hu, Option.bind_some]
    rw [List.drop_eq_getElem_cons hai, List.drop_eq_getElem_cons hbi]
    by_cases he : asl[i] = bs[i]
    · have hb2 : (!(asl[i] == bs[i])) = false := by simp [he]
      rw [hb2]
      show pureRun P (Op.eqFields (d + 1) _ _ fs) = _
      rw [ih]
      congr 1
      rw [he]
      simp only [List.cons.injEq, true_and]
    · have hb2 : (!(asl[i] == bs[i])) = true := by simp [he]
      rw [hb2]
      show some false = _
      simp only [List.cons.injEq, he, false_and, decide_false]
theorem binV_ints {t n : Nat} (h : intsT P t n = true) {asl bs : List Int} (ha : asl.length = n) (hb : bs.length = n) : binV P .eql t (.agg (asl.map (Value.int .i64)).toArray) (.agg (bs.map (Value.int .i64)).toArray) = some (.bool (decide (asl = bs))) := by
  rw [intsT, Bool.and_eq_true, Bool.and_eq_true, Bool.and_eq_true, Bool.and_eq_true] at h
  obtain ⟨⟨⟨⟨h1, h2⟩, h3⟩, h4⟩, h5⟩ := h
  have hu : P.underlying t = some (.struct (P.fieldsOf t)) := by
    unfold Program.fieldsOf
    split at h1
    · rename_i fs hfs; rw [hfs]
    · cases h1
  have hl : (P.fieldsOf t).toList.length = n := by simpa using h3
  have hp : P.stoodInHeld t = false := by simpa using h4
  have hg : P.eqGuardType P.depth t = false := by simpa using h5
  have hfree : ∀ l : List Int, addrFree (.agg (l.map (Value.int .i64)).toArray) = true := fun l => by
    show (l.map (Value.int .i64)).all Am.flat = true
    rw [List.all_map, List.all_eq_true]; intro x _; rfl
  show cond (addrFree _ && addrFree _ && notIface _) (flatO (pureRun P _)) none = _
  rw [hfree, hfree]
  show flatO (pureRun P (do eqGuard .eql t (.tmp 0) (.tmp 0) (.agg _) (.agg _); binOp .eql t (.agg _) (.agg _))) = _
  have e1 : pureRun P (eqGuard .eql t (.tmp 0) (.tmp 0) (.agg (asl.map (Value.int .i64)).toArray) (.agg (bs.map (Value.int .i64)).toArray)) = some () := by
    show pureRun P (program >>= fun p => program >>= fun q => if (!p.eqGuardType q.depth t) = true then pure () else _) = some ()
    rw [pr_bind, pr_program, Option.bind_some, pr_bind, pr_program, Option.bind_some, hg]; rfl
  rw [pr_bind, e1, Option.bind_some]
  show flatO (pureRun P (Op.equal t (.agg _) (.agg _) >>= fun r => pure (.bool r))) = _
  rw [pr_bind]
  have e2 : pureRun P (Op.equal t (.agg (asl.map (Value.int .i64)).toArray) (.agg (bs.map (Value.int .i64)).toArray)) = some (decide (asl = bs)) := by
    show pureRun P (Op.equalIn (9999 + 1) t _ _) = _
    rw [pr_equal_struct _ _ _ _ hu hp]
    have := pr_fields (P := P) (d := 9998) (asl := asl) (bs := bs) _ 0 h2 (by omega) (by omega)
    simpa using this
  rw [e2]; rfl
theorem binV_ints_ne {t n : Nat} (h : intsT P t n = true) {asl bs : List Int} (ha : asl.length = n) (hb : bs.length = n) : binV P .neq t (.agg (asl.map (Value.int .i64)).toArray) (.agg (bs.map (Value.int .i64)).toArray) = some (.bool (!decide (asl = bs))) := by
  rw [intsT, Bool.and_eq_true, Bool.and_eq_true, Bool.and_eq_true, Bool.and_eq_true] at h
  obtain ⟨⟨⟨⟨h1, h2⟩, h3⟩, h4⟩, h5⟩ := h
  have hu : P.underlying t = some (.struct (P.fieldsOf t)) := by
    unfold Program.fieldsOf
    split at h1
    · rename_i fs hfs; rw [hfs]
    · cases h1
  have hl : (P.fieldsOf t).toList.length = n := by simpa using h3
  have hp : P.stoodInHeld t = false := by simpa using h4
  have hg : P.eqGuardType P.depth t = false := by simpa using h5
  have hfree : ∀ l : List Int, addrFree (.agg (l.map (Value.int .i64)).toArray) = true := fun l => by
    show (l.map (Value.int .i64)).all Am.flat = true
    rw [List.all_map, List.all_eq_true]; intro x _; rfl
  show cond (addrFree _ && addrFree _ && notIface _) (flatO (pureRun P _)) none = _
  rw [hfree, hfree]
  show flatO (pureRun P (do eqGuard .neq t (.tmp 0) (.tmp 0) (.agg _) (.agg _); binOp .neq t (.agg _) (.agg _))) = _
  have e1 : pureRun P (eqGuard .neq t (.tmp 0) (.tmp 0) (.agg (asl.map (Value.int .i64)).toArray) (.agg (bs.map (Value.int .i64)).toArray)) = some () := by
    show pureRun P (program >>= fun p => program >>= fun q => if (!p.eqGuardType q.depth t) = true then pure () else _) = some ()
    rw [pr_bind, pr_program, Option.bind_some, pr_bind, pr_program, Option.bind_some, hg]; rfl
  rw [pr_bind, e1, Option.bind_some]
  show flatO (pureRun P (Op.equal t (.agg _) (.agg _) >>= fun r => pure (.bool (!r)))) = _
  rw [pr_bind]
  have e2 : pureRun P (Op.equal t (.agg (asl.map (Value.int .i64)).toArray) (.agg (bs.map (Value.int .i64)).toArray)) = some (decide (asl = bs)) := by
    show pureRun P (Op.equalIn (9999 + 1) t _ _) = _
    rw [pr_equal_struct _ _ _ _ hu hp]
    have := pr_fields (P := P) (d := 9998) (asl := asl) (bs := bs) _ 0 h2 (by omega) (by omega)
    simpa using this
  rw [e2]; rfl
theorem eql_ints2 {t : Nat} (h : intsT P t 2 = true) (a b c d : Int) : binV P .eql t (.agg #[.int .i64 a, .int .i64 b]) (.agg #[.int .i64 c, .int .i64 d]) = some (.bool (decide (a = c ∧ b = d))) := by
  have := binV_ints h (asl := [a, b]) (bs := [c, d]) rfl rfl
  rw [show decide (a = c ∧ b = d) = decide ([a, b] = [c, d]) by simp]
  exact this
theorem neq_ints2 {t : Nat} (h : intsT P t 2 = true) (a b c d : Int) : binV P .neq t (.agg #[.int .i64 a, .int .i64 b]) (.agg #[.int .i64 c, .int .i64 d]) = some (.bool (!decide (a = c ∧ b = d))) := by
  have := binV_ints_ne h (asl := [a, b]) (bs := [c, d]) rfl rfl
  rw [show decide (a = c ∧ b = d) = decide ([a, b] = [c, d]) by simp]
  exact this
theorem eql_ints3 {t : Nat} (h : intsT P t 3 = true) (a b x c d y : Int) : binV P .eql t (.agg #[.int .i64 a, .int .i64 b, .int .i64 x]) (.agg #[.int .i64 c, .int .i64 d, .int .i64 y]) = some (.bool (decide (a = c ∧ b = d ∧ x = y))) := by
  have := binV_ints h (asl := [a, b, x]) (bs := [c, d, y]) rfl rfl
  rw [show decide (a = c ∧ b = d ∧ x = y) = decide ([a, b, x] = [c, d, y]) by simp]
  exact this
end
end Go.Am
namespace Go.Am
open Go
section
variable {P : Program}
def eqItemsA (d : Nat) (e : TypeId) (xs ys : Array Value) : List Nat → Sem Bool
  | [] => pure true
  | i :: is => do
    let a ← part e xs (i * 1)
    let b ← part e ys (i * 1)
    let r ← Op.equalIn d e a b
    if (!r) = true then pure false else eqItemsA d e xs ys is
theorem pr_sizeOf {e n : Nat} (h : isSz P e n = true) : pureRun P (sizeOf e) = some n := by
  obtain ⟨i, hi, hs⟩ := isSz_run h
  unfold sizeOf typeInfo
  rw [pr_bind, pr_bind, pr_program, Option.bind_some, hi]
  show some i.size = some n
  rw [hs]
theorem pr_equal_array (d : Nat) {t e : TypeId} {n : Nat} (xs ys : Array Value) (hu : P.underlying t = some (.array n e)) (hi : isSz P e 1 = true) :
    pureRun P (Op.equalIn (d + 1) t (.agg xs) (.agg ys)) = pureRun P (eqItemsA d e xs ys (List.range' 0 n)) := by
  simp only [Op.equalIn, pr_bind, pr_underlying hu, pr_sizeOf hi, Option.bind_some]
  simp only [Std.Legacy.Range.forIn_eq_forIn_range', Std.Legacy.Range.size, Nat.sub_zero, Nat.add_one_sub_one, Nat.div_one]
  generalize List.range' 0 n = is
  induction is with
  | nil => rfl
  | cons j is ih =>
    simp only [List.forIn_cons, eqItemsA, pr_bind]
    cases pureRun P (part e xs (j * 1)) with
    | none => rfl
    | some a =>
      simp only [Option.bind_some]
      cases pureRun P (part e ys (j * 1)) with
      | none => rfl
      | some b =>
        simp only [Option.bind_some]
        cases pureRun P (Op.equalIn d e a b) with
        | none => rfl
        | some r =>
          cases r
          · rfl
          · exact ih
theorem pr_items {d : Nat} {e : TypeId} {asl bs : List Int} (hu : P.underlying e = some (.int .u8)) : ∀ (k j : Nat), asl.length = j + k → bs.length = j + k →
    pureRun P (eqItemsA (d + 1) e (asl.map (Value.int .u8)).toArray (bs.map (Value.int .u8)).toArray (List.range' j k)) = some (decide (asl.drop j = bs.drop j))
  | 0, j, ha, hb => by
    rw [List.drop_eq_nil_of_le (by omega), List.drop_eq_nil_of_le (by omega)]
    rfl
  | k + 1, j, ha, hb => by
    have hai : j < asl.length := by omega
    have hbi : j < bs.length := by omega
    have ih := pr_items (d := d) (asl := asl) (bs := bs) hu k (j + 1) (by omega) (by omega)
    rw [List.range'_succ, eqItemsA, pr_bind, pr_part hu (v := .int .u8 asl[j]) (by simp [hai]), Option.bind_some, pr_bind, pr_part hu (v := .int .u8 bs[j]) (by simp [hbi]), Option.bind_some, pr_bind, pr_equal_int hu, Option.bind_some]
    rw [List.drop_eq_getElem_cons hai, List.drop_eq_getElem_cons hbi]
    by_cases he : asl[j] = bs[j]
    · have hb2 : (!(asl[j] == bs[j])) = false := by simp [he]
      rw [hb2]
      show pureRun P (eqItemsA (d + 1) e _ _ (List.range' (j + 1) k)) = _
      rw [ih]
      congr 1
      rw [he]
      simp only [List.cons.injEq, true_and]
    · have hb2 : (!(asl[j] == bs[j])) = true := by simp [he]
      rw [hb2]
      show some false = _
      simp only [List.cons.injEq, he, false_and, decide_false]
/-- an array type of bytes -/
def bytesT (P : Program) (t n e : Nat) : Bool :=
  (match P.underlying t with | some (.array k f) => k == n && f == e | _ => false) && (match P.underlying e with | some (.int .u8) => true | _ => false) && isSz P e 1 && !P.eqGuardType P.depth t
theorem pr_bytes {t n e : Nat} (h : bytesT P t n e = true) (op : BinOp) (hop : op = .eql ∨ op = .neq) {asl bs : List Int} (ha : asl.length = n) (hb : bs.length = n) :
    binV P op t (.agg (asl.map (Value.int .u8)).toArray) (.agg (bs.map (Value.int .u8)).toArray) = some (.bool (match op with | .neq => !decide (asl = bs) | _ => decide (asl = bs))) := by
  rw [bytesT, Bool.and_eq_true, Bool.and_eq_true, Bool.and_eq_true] at h
  obtain ⟨⟨⟨h1, h2⟩, h3⟩, h5⟩ := h
  have hu : P.underlying t = some (.array n e) := by
    split at h1
    · rename_i k f hk
      simp only [Bool.and_eq_true, beq_iff_eq] at h1
      rw [hk, h1.1, h1.2]
    · cases h1
  have he : P.underlying e = some (.int .u8) := by
    split at h2
    · assumption
    · cases h2
  have hg : P.eqGuardType P.depth t = false := by simpa using h5
  have hfree : ∀ l : List Int, addrFree (.agg (l.map (Value.int .u8)).toArray) = true := fun l => by
    show (l.map (Value.int .u8)).all Am.flat = true
    rw [List.all_map, List.all_eq_true]; intro x _; rfl
  have e2 : pureRun P (Op.equal t (.agg (asl.map (Value.int .u8)).toArray) (.agg (bs.map (Value.int .u8)).toArray)) = some (decide (asl = bs)) := by
    show pureRun P (Op.equalIn (9999 + 1) t _ _) = _
    rw [pr_equal_array _ _ _ hu h3]
    have := pr_items (P := P) (d := 9998) (asl := asl) (bs := bs) he n 0 (by omega) (by omega)
    simpa using this
  have e1 : ∀ op, op = .eql ∨ op = .neq → pureRun P (eqGuard op t (.tmp 0) (.tmp 0) (.agg (asl.map (Value.int .u8)).toArray) (.agg (bs.map (Value.int .u8)).toArray)) = some () := by
    intro op ho
    have : pureRun P (program >>= fun p => program >>= fun q => if (!p.eqGuardType q.depth t) = true then pure () else (do if ← Op.eqGuardIn Op.maxDepth t (.agg (asl.map (Value.int .u8)).toArray) (.agg (bs.map (Value.int .u8)).toArray) then unsupported (.noEntry "binop/eql: two nil values of an interface type with methods, in a part of a struct or an array"))) = some () := by
      rw [pr_bind, pr_program, Option.bind_some, pr_bind, pr_program, Option.bind_some, hg]; rfl
    rcases ho with rfl | rfl <;> exact this
  show cond (addrFree _ && addrFree _ && notIface _) (flatO (pureRun P _)) none = _
  rw [hfree, hfree]
  show flatO (pureRun P (do eqGuard op t (.tmp 0) (.tmp 0) (.agg _) (.agg _); binOp op t (.agg _) (.agg _))) = _
  rw [pr_bind, e1 op hop, Option.bind_some]
  rcases hop with rfl | rfl
  · show flatO (pureRun P (Op.equal t (.agg _) (.agg _) >>= fun r => pure (.bool r))) = _
    rw [pr_bind, e2]; rfl
  · show flatO (pureRun P (Op.equal t (.agg _) (.agg _) >>= fun r => pure (.bool (!r)))) = _
    rw [pr_bind, e2]; rfl
end
end Go.Am
namespace Go.Am.C40
open Go Go.Am
variable {E : Nat → Option AFn} {Y : Nat → List Value → FM → Nat → OR FM}
/-- a command: its fields, its data's blocks -/
structure Cmd where
  tag : Int
  kind : Int
  ord : Int
  force : Bool
  vol : ByteArray
  oth : ByteArray
  at_ : Int
  len : Int
  data : List (List Int)
/-- the cells of a command, its data being 'd' -/
def Cmd.cells (c : Cmd) (d : Value) : List Value := [.int .i64 c.tag, .int .i64 c.kind, .int .i64 c.ord, .bool c.force, .string c.vol, .string c.oth, .int .i64 c.at_, .int .i64 c.len, d]
def cmdV (c : Cmd) (d : Value) : Value := .agg #[.int .i64 c.tag, .int .i64 c.kind, .int .i64 c.ord, .bool c.force, .string c.vol, .string c.oth, .int .i64 c.at_, .int .i64 c.len, d]
/-- numbers and texts of a machine's size -/
structure Cmd.Fit (c : Cmd) : Prop where
  tag : -9223372036854775808 ≤ c.tag ∧ c.tag < 9223372036854775808
  kind : -9223372036854775808 ≤ c.kind ∧ c.kind < 9223372036854775808
  ord : -9223372036854775808 ≤ c.ord ∧ c.ord < 9223372036854775808
  at_ : -9223372036854775808 ≤ c.at_ ∧ c.at_ < 9223372036854775808
  len : -9223372036854775808 ≤ c.len ∧ c.len < 9223372036854775808
  vol : c.vol.size ≤ 9223372036854775807
  oth : c.oth.size ≤ 9223372036854775807
  data : c.data.length ≤ 9223372036854775807
def u8s (l : List Int) : List Value := l.map (Value.int .u8)
/-- the slice v shows the blocks ds -/
def DatV (m : FM) (n : Nat) (v : Value) (ds : List (List Int)) : Prop :=
  ∃ a c, v = .slice a ds.length c ∧ belowV n v = true ∧ (ds = [] ∨ ∃ b o cs opn wr, a = some ⟨b, o, none⟩ ∧ b < n ∧ m b = some (.cells cs 8 opn wr) ∧ ∀ i (h : i < ds.length), ds[i].length = 8 ∧ cellsAt cs (o + i * 8) 8 = some (u8s ds[i]))
theorem DatV.len {m : FM} {n : Nat} {v : Value} {ds : List (List Int)} (h : DatV m n v ds) : lenV false v = some (.int .i64 (ds.length : Int)) := by
  obtain ⟨a, c, rfl, _⟩ := h; rfl
theorem DatV.one {m : FM} {n : Nat} {v : Value} {ds : List (List Int)} (h : DatV m n v ds) : Am.one v = true := by
  obtain ⟨a, c, rfl, _⟩ := h; rfl
theorem DatV.bel {m : FM} {n : Nat} {v : Value} {ds : List (List Int)} (h : DatV m n v ds) (k : Nat) (hk : n ≤ k) : belowV k v = true := by
  obtain ⟨a, c, rfl, hb, _⟩ := h
  cases a with
  | none => exact hb
  | some a => exact blt_true (show a.block < k from Nat.lt_of_lt_of_le (Nat.le_of_ble_eq_true hb) hk)
theorem DatV.frame {m m' : FM} {n n' : Nat} {v : Value} {ds : List (List Int)} (h : DatV m n v ds) (hn : n ≤ n') (hf : ∀ b, b < n → m' b = m b) : DatV m' n' v ds := by
  have hb := h.bel n' hn
  obtain ⟨a, c, rfl, _, h⟩ := h
  refine ⟨a, c, rfl, hb, ?_⟩
  rcases h with h | ⟨b, o, cs, opn, wr, h1, h2, h3, h4⟩
  · exact .inl h
  · exact .inr ⟨b, o, cs, opn, wr, h1, by omega, (hf b h2).trans h3, h4⟩
theorem DatV.nil (m : FM) (n : Nat) : DatV m n (.slice none 0 0) [] := ⟨none, 0, rfl, rfl, .inl rfl⟩
theorem DatV.at {m : FM} {n : Nat} {v : Value} {ds : List (List Int)} (h : DatV m n v ds) {i : Nat} (hi : i < ds.length) :
    ∃ b o cs opn wr, idxV 8 i v = some (.pointer (some ⟨b, o, none⟩)) ∧ b < n ∧ m b = some (.cells cs 8 opn wr) ∧ ds[i].length = 8 ∧ ctake (ldrop cs o) 8 = some (u8s ds[i]) := by
  obtain ⟨a, c, rfl, _, h⟩ := h
  rcases h with rfl | ⟨b, o, cs, opn, wr, rfl, h2, h3, h4⟩
  · simp at hi
  · exact ⟨b, o + i * 8, cs, opn, wr, idx_mk hi, h2, h3, h4 i hi⟩
def insideP (a l : Int) : Prop := 0 ≤ a ∧ 1 ≤ l ∧ a ≤ 65536 ∧ l ≤ 65536 ∧ a + l ≤ 65536
instance (a l : Int) : Decidable (insideP a l) := by unfold insideP; infer_instance
theorem inside_spec (hE : E 37 = some ac37) (m : FM) (n : Nat) (a l : Int) (ha : -9223372036854775808 ≤ a ∧ a < 9223372036854775808) (hl : -9223372036854775808 ≤ l ∧ l < 9223372036854775808) :
    Pure (callW PG E Y 37 [.int .i64 a, .int .i64 l] m n) m n (.bool (decide (insideP a l))) := by
  refine pure_spec hE rfl rfl ?_
  simp only [ac37]
  by_cases c1 : a < 0
  · rw [decide_eq_false (show ¬ insideP a l from fun h => by have := h.1; omega)]
    simp (implicitDefEqProofs := false) (disch := omega) only [WPs, opds, List.all_cons, List.all_nil, List.cons_append, List.nil_append, cond_true, cond_false, eq_self, List.map_cons, List.map_nil, Nat.reduceAdd, Nat.testBit, Nat.reduceShiftRight, Nat.reduceAnd, Nat.reduceBNe, Nat.reduceMul]
  by_cases c2 : l < 1
  · rw [decide_eq_false (show ¬ insideP a l from fun h => by have := h.2.1; omega)]
    simp (implicitDefEqProofs := false) (disch := omega) only [WPs, opds, List.all_cons, List.all_nil, List.cons_append, List.nil_append, cond_true, cond_false, eq_self, List.map_cons, List.map_nil, Nat.reduceAdd, Nat.testBit, Nat.reduceShiftRight, Nat.reduceAnd, Nat.reduceBNe, Nat.reduceMul]
  by_cases c3 : 65536 < a
  · rw [decide_eq_false (show ¬ insideP a l from fun h => by have := h.2.2.1; omega)]
    simp (implicitDefEqProofs := false) (disch := omega) only [WPs, opds, List.all_cons, List.all_nil, List.cons_append, List.nil_append, cond_true, cond_false, eq_self, List.map_cons, List.map_nil, Nat.reduceAdd, Nat.testBit, Nat.reduceShiftRight, Nat.reduceAnd, Nat.reduceBNe, Nat.reduceMul]
  have : decide (insideP a l) = decide (l ≤ 65536 - a) := decide_eq_decide.2 ⟨fun h => by have := h.2.2.2.2; omega, fun h => ⟨by omega, by omega, by omega, by omega, by omega⟩⟩
  rw [this]
  simp (implicitDefEqProofs := false) (disch := omega) only [WPs, opds, List.all_cons, List.all_nil, List.cons_append, List.nil_append, cond_true, cond_false, eq_self, List.map_cons, List.map_nil, Nat.reduceAdd, Nat.testBit, Nat.reduceShiftRight, Nat.reduceAnd, Nat.reduceBNe, Nat.reduceMul]
theorem within_spec (hE : E 40 = some ac40) (m : FM) (n : Nat) (a l : Int) (ha : -9223372036854775808 ≤ a ∧ a < 9223372036854775808) (hl : -9223372036854775808 ≤ l ∧ l < 9223372036854775808) :
    Pure (callW PG E Y 40 [.int .i64 a, .int .i64 l] m n) m n (.bool (decide (insideP a l))) := by
  refine pure_spec hE rfl rfl ?_
  simp only [ac40]
  by_cases c1 : a < 0
  · rw [decide_eq_false (show ¬ insideP a l from fun h => by have := h.1; omega)]
    simp (implicitDefEqProofs := false) (disch := omega) only [WPs, opds, List.all_cons, List.all_nil, List.cons_append, List.nil_append, cond_true, cond_false, eq_self, List.map_cons, List.map_nil, Nat.reduceAdd, Nat.testBit, Nat.reduceShiftRight, Nat.reduceAnd, Nat.reduceBNe, Nat.reduceMul]
  by_cases c2 : l < 1
  · rw [decide_eq_false (show ¬ insideP a l from fun h => by have := h.2.1; omega)]
    simp (implicitDefEqProofs := false) (disch := omega) only [WPs, opds, List.all_cons, List.all_nil, List.cons_append, List.nil_append, cond_true, cond_false, eq_self, List.map_cons, List.map_nil, Nat.reduceAdd, Nat.testBit, Nat.reduceShiftRight, Nat.reduceAnd, Nat.reduceBNe, Nat.reduceMul]
  by_cases c3 : 65536 < a
  · rw [decide_eq_false (show ¬ insideP a l from fun h => by have := h.2.2.1; omega)]
    simp (implicitDefEqProofs := false) (disch := omega) only [WPs, opds, List.all_cons, List.all_nil, List.cons_append, List.nil_append, cond_true, cond_false, eq_self, List.map_cons, List.map_nil, Nat.reduceAdd, Nat.testBit, Nat.reduceShiftRight, Nat.reduceAnd, Nat.reduceBNe, Nat.reduceMul]
  by_cases c4 : 65536 < l
  · rw [decide_eq_false (show ¬ insideP a l from fun h => by have := h.2.2.2.1; omega)]
    simp (implicitDefEqProofs := false) (disch := omega) only [WPs, opds, List.all_cons, List.all_nil, List.cons_append, List.nil_append, cond_true, cond_false, eq_self, List.map_cons, List.map_nil, Nat.reduceAdd, Nat.testBit, Nat.reduceShiftRight, Nat.reduceAnd, Nat.reduceBNe, Nat.reduceMul]
  have : decide (insideP a l) = decide (a + l ≤ 65536) := decide_eq_decide.2 ⟨fun h => h.2.2.2.2, fun h => ⟨by omega, by omega, by omega, by omega, by omega⟩⟩
  rw [this]
  simp (implicitDefEqProofs := false) (disch := omega) only [WPs, opds, List.all_cons, List.all_nil, List.cons_append, List.nil_append, cond_true, cond_false, eq_self, List.map_cons, List.map_nil, Nat.reduceAdd, Nat.testBit, Nat.reduceShiftRight, Nat.reduceAnd, Nat.reduceBNe, Nat.reduceMul]
def onlyC (c : Cmd) : Cmd := { tag := c.tag, kind := c.kind, ord := c.ord, force := false, vol := ⟨#[]⟩, oth := ⟨#[]⟩, at_ := 0, len := 0, data := [] }
theorem only_spec (hE : E 35 = some ac35) (m : FM) (n : Nat) (c : Cmd) (d : Value) (hd : one d = true) :
    Pure (callW PG E Y 35 [cmdV c d] m n) m n (cmdV (onlyC c) (.slice none 0 0)) := by
  refine pure_spec hE rfl rfl ?_
  simp only [ac35, cmdV, onlyC]
  simp (implicitDefEqProofs := false) (disch := omega) only [WPs, opds, List.all_cons, List.all_nil, List.cons_append, List.nil_append, cond_true, cond_false, eq_self, List.map_cons, List.map_nil, Nat.reduceAdd, Nat.testBit, Nat.reduceShiftRight, Nat.reduceAnd, Nat.reduceBNe, Nat.reduceMul]
theorem t51 : bytesT PG 51 8 5 = true := by kernel_rfl
theorem neq51 {a b : List Int} (ha : a.length = 8) (hb : b.length = 8) : binV PG .neq 51 (.agg (u8s a).toArray) (.agg (u8s b).toArray) = some (.bool (!decide (a = b))) := pr_bytes t51 .neq (.inr rfl) ha hb
theorem u8s_llen {l : List Int} (h : l.length = 8) : llen (u8s l) = 8 := by rw [llen_eq, u8s, List.length_map, h]
theorem u8s_one (l : List Int) : (u8s l).all one = true := by rw [u8s, List.all_map, List.all_eq_true]; intro x _; rfl
theorem cover_all : ∀ (zs cs : List Value), zs.length = cs.length → cover cs zs = some cs
  | [], [], _ => rfl
  | z :: zs, c :: cs, h => by
    show ocons c (cover cs zs) = _
    rw [cover_all zs cs (by simpa using h)]; rfl
  | [], _ :: _, h => by simp at h
  | _ :: _, [], h => by simp at h
theorem u8s_set {l : List Int} (h : l.length = 8) : cover (u8s l) [.int .u8 0, .int .u8 0, .int .u8 0, .int .u8 0, .int .u8 0, .int .u8 0, .int .u8 0, .int .u8 0] = some (u8s l) := by
  exact cover_all _ _ (by rw [u8s, List.length_map, h]; rfl)
theorem u8s_all {l : List Int} (h : l.length = 8) : ctake (u8s l) 8 = some (u8s l) := by
  rw [ctake_eq, if_pos (by rw [u8s, List.length_map, h]; exact Nat.le_refl _), List.take_of_length_le (by rw [u8s, List.length_map, h]; exact Nat.le_refl _)]
theorem u8s_bel (l : List Int) (k : Nat) : (u8s l).all (belowF k) = true := by rw [u8s, List.all_map, List.all_eq_true]; intro x _; rfl
theorem lor_asc (a b c : Nat) : Nat.lor (Nat.lor a b) c = Nat.lor a (Nat.lor b c) := Nat.or_assoc a b c
theorem same_L0 (m0 : FM) (n0 pa pb : Nat) (c d : Cmd) (cd dd : Value) (hpa : pa < n0) (hpb : pb < n0) (hA : m0 pa = some (.cells (c.cells cd) 0 false true)) (hB : m0 pb = some (.cells (d.cells dd) 0 false true))
    (hc : DatV m0 n0 cd c.data) (hd : DatV m0 n0 dd d.data) (hl : d.data.length = c.data.length) (hs : c.data.length ≤ 9223372036854775807) {Q : AX → List Value → FM → Nat → Nat → Prop} (x9 x10 : Value)
    (hQt : c.data = d.data → ∀ x0 x1 x2 x3 x4 x5 M N w, n0 ≤ N → (∀ b, b < n0 → M b = m0 b) → Nat.mod w (bit n0) = 0 → Q (.exit 0) [x0, x1, x2, x3, x4, x5, .pointer (some ⟨pb, 0, none⟩), .pointer (some ⟨pa, 0, none⟩), x9, x10] M N w)
    (hQf : c.data ≠ d.data → ∀ e' M N w, n0 ≤ N → (∀ b, b < n0 → M b = m0 b) → Nat.mod w (bit n0) = 0 → Q (.ret (.bool false)) e' M N w) : ∀ k j, j + k = c.data.length → c.data.take j = d.data.take j → ∀ (m : FM) (n : Nat) (w0 : Nat), n0 ≤ n → (∀ b, b < n0 → m b = m0 b) → Nat.mod w0 (bit n0) = 0 → ∀ x0 x2 x5 x6 : Value,
    Gv (execW PG E Y ac38L0 [x0, .int .i64 (j : Int), x2, .int .i64 (c.data.length : Int), cd, x5, x6, .pointer (some ⟨pb, 0, none⟩), .pointer (some ⟨pa, 0, none⟩), x9, x10] m n) fun X e M N w => Q X e M N (Nat.lor w0 w) := by
  intro k
  induction k with
  | zero =>
    intro j hj ht m n w0 hn hf hw x0 x2 x5 x6
    refine wr_loopN (L := ac38L0) (b := ac38L0b) rfl ?_
    simp only [ac38L0b]
    simp (implicitDefEqProofs := false) (disch := omega) only [WPs, opds, List.all_cons, List.all_nil, List.cons_append, List.nil_append, cond_true, cond_false, eq_self, List.map_cons, List.map_nil, Nat.reduceAdd, Nat.testBit, Nat.reduceShiftRight, Nat.reduceAnd, Nat.reduceBNe, Nat.reduceMul]
    refine hQt ?_ _ _ _ _ _ _ _ _ _ hn hf hw
    rw [← List.take_of_length_le (show c.data.length ≤ j by omega), ht, List.take_of_length_le (show d.data.length ≤ j by omega)]
  | succ k ih =>
    intro j hj ht m n w0 hn hf hw x0 x2 x5 x6
    have hjc : j < c.data.length := by omega
    have hjd : j < d.data.length := by omega
    obtain ⟨b1, o1, cs1, p1, q1, i1, i2, i3, i4, i5⟩ := hc.at hjc
    obtain ⟨b2, o2, cs2, p2, q2, g1, g2, g3, g4, g5⟩ := hd.at hjd
    refine wr_loopN (L := ac38L0) (b := ac38L0b) rfl ?_
    simp only [ac38L0b]
    by_cases he : c.data[j] = d.data[j]
    · have hne : (!decide (c.data[j] = d.data[j])) = false := by rw [decide_eq_true he]; rfl
      simp (implicitDefEqProofs := false) (disch := omega) only [WPs, opds, List.all_cons, List.all_nil, List.cons_append, List.nil_append, cond_true, cond_false, eq_self, List.map_cons, List.map_nil, Nat.reduceAdd, Nat.testBit, Nat.reduceShiftRight, Nat.reduceAnd, Nat.reduceBNe, Nat.reduceMul, i1, hf, i3, i5, u8s_llen i4, u8s_one, u8s_set i4, u8s_all i4, hB, Cmd.cells, g1, g3, g5, neq51 i4 g4, hd.bel, u8s_bel, Bool.and_self, hne]
      have ht' : c.data.take (j + 1) = d.data.take (j + 1) := by
        rw [List.take_succ_eq_append_getElem hjc, List.take_succ_eq_append_getElem hjd, ht, he]
      refine wr_end' ((ih (j + 1) (by omega) ht' (AMem.put m n (some (.cells (u8s c.data[j]) 0 false true)) : FM) (n + 1) (Nat.lor w0 (Nat.lor (bit n) (bit n))) (by omega) (fun b hb => ?_) ?_ _ _ _ _).mono fun X e m n w hq => ?_)
      · simp (implicitDefEqProofs := false) (disch := omega) only [WPs, opds, List.all_cons, List.all_nil, List.cons_append, List.nil_append, cond_true, cond_false, eq_self, List.map_cons, List.map_nil, Nat.reduceAdd, Nat.testBit, Nat.reduceShiftRight, Nat.reduceAnd, Nat.reduceBNe, Nat.reduceMul, hf]
      · simp (implicitDefEqProofs := false) (disch := omega) only [WPs, opds, List.all_cons, List.all_nil, List.cons_append, List.nil_append, cond_true, cond_false, eq_self, List.map_cons, List.map_nil, Nat.reduceAdd, Nat.testBit, Nat.reduceShiftRight, Nat.reduceAnd, Nat.reduceBNe, Nat.reduceMul, hw]
      · rw [lor_asc] at hq; exact hq
    · have hne : (!decide (c.data[j] = d.data[j])) = true := by rw [decide_eq_false he]; rfl
      simp (implicitDefEqProofs := false) (disch := omega) only [WPs, opds, List.all_cons, List.all_nil, List.cons_append, List.nil_append, cond_true, cond_false, eq_self, List.map_cons, List.map_nil, Nat.reduceAdd, Nat.testBit, Nat.reduceShiftRight, Nat.reduceAnd, Nat.reduceBNe, Nat.reduceMul, i1, hf, i3, i5, u8s_llen i4, u8s_one, u8s_set i4, u8s_all i4, hB, Cmd.cells, g1, g3, g5, neq51 i4 g4, hd.bel, u8s_bel, Bool.and_self, hne]
      refine hQf (fun h => he ?_) _ _ _ _ (by omega) (fun b hb => ?_) ?_
      · simp only [h]
      · simp (implicitDefEqProofs := false) (disch := omega) only [WPs, opds, List.all_cons, List.all_nil, List.cons_append, List.nil_append, cond_true, cond_false, eq_self, List.map_cons, List.map_nil, Nat.reduceAdd, Nat.testBit, Nat.reduceShiftRight, Nat.reduceAnd, Nat.reduceBNe, Nat.reduceMul, hf]
      · simp (implicitDefEqProofs := false) (disch := omega) only [WPs, opds, List.all_cons, List.all_nil, List.cons_append, List.nil_append, cond_true, cond_false, eq_self, List.map_cons, List.map_nil, Nat.reduceAdd, Nat.testBit, Nat.reduceShiftRight, Nat.reduceAnd, Nat.reduceBNe, Nat.reduceMul, hw]
theorem same_L (m0 : FM) (n0 pa pb : Nat) (c d : Cmd) (cd dd : Value) (hpa : pa < n0) (hpb : pb < n0) (hA : m0 pa = some (.cells (c.cells cd) 0 false true)) (hB : m0 pb = some (.cells (d.cells dd) 0 false true))
    (hc : DatV m0 n0 cd c.data) (hd : DatV m0 n0 dd d.data) (hl : d.data.length = c.data.length) (hs : c.data.length ≤ 9223372036854775807) (x0 x2 x5 x6 x9 x10 : Value) {Q : AX → List Value → FM → Nat → Nat → Prop}
    (hQt : c.data = d.data → ∀ x0 x1 x2 x3 x4 x5 M N w, n0 ≤ N → (∀ b, b < n0 → M b = m0 b) → Nat.mod w (bit n0) = 0 → Q (.exit 0) [x0, x1, x2, x3, x4, x5, .pointer (some ⟨pb, 0, none⟩), .pointer (some ⟨pa, 0, none⟩), x9, x10] M N w)
    (hQf : c.data ≠ d.data → ∀ e' M N w, n0 ≤ N → (∀ b, b < n0 → M b = m0 b) → Nat.mod w (bit n0) = 0 → Q (.ret (.bool false)) e' M N w) :
    Gv (execW PG E Y ac38L0 [x0, .int .i64 0, x2, .int .i64 (c.data.length : Int), cd, x5, x6, .pointer (some ⟨pb, 0, none⟩), .pointer (some ⟨pa, 0, none⟩), x9, x10] m0 n0) Q :=
  (same_L0 m0 n0 pa pb c d cd dd hpa hpb hA hB hc hd hl hs x9 x10 hQt hQf c.data.length 0 (by omega) (by rw [List.take_zero, List.take_zero]) m0 n0 0 (Nat.le_refl _) (fun b hb => rfl) (frz_zero _) x0 x2 x5 x6).mono fun X e M N w hq => by simpa only [zero_lor'] using hq
/-- two commands are the same -/
def sameB (c d : Cmd) : Bool := decide (c.data = d.data) && (decide (c.tag = d.tag) && (decide (c.kind = d.kind) && (decide (c.ord = d.ord) && (decide (c.force = d.force) && (decide (c.vol = d.vol) && (decide (c.oth = d.oth) && (decide (c.at_ = d.at_) && decide (c.len = d.len))))))))
theorem eql_bools (t : Nat) (ht : PG.underlying t = some .bool) (a b : Bool) : binV PG .eql t (.bool a) (.bool b) = some (.bool (decide (a = b))) := by
  show flatO (pureRun PG (do eqGuard .eql t (.tmp 0) (.tmp 0) (.bool a) (.bool b); binOp .eql t (.bool a) (.bool b))) = _
  rw [pr_bind]
  show flatO (pureRun PG (Op.equal t (.bool a) (.bool b) >>= fun r => pure (.bool r))) = _
  rw [pr_bind]
  have : pureRun PG (Op.equal t (.bool a) (.bool b)) = some (a == b) := by
    show pureRun PG (Op.equalIn (9999 + 1) t _ _) = _
    unfold Op.equalIn
    rw [pr_bind, pr_underlying ht]; rfl
  rw [this]
  cases a <;> cases b <;> rfl
theorem t4 : PG.underlying 4 = some .bool := by kernel_rfl
theorem same_spec (hE : E 38 = some ac38) (m : FM) (n : Nat) (c d : Cmd) (cd dd : Value) (hc : DatV m n cd c.data) (hd : DatV m n dd d.data) (hs : c.data.length ≤ 9223372036854775807) (hs' : d.data.length ≤ 9223372036854775807) :
    Pure (callW PG E Y 38 [cmdV c cd, cmdV d dd] m n) m n (.bool (sameB c d)) := by
  refine pure_spec hE rfl rfl ?_
  simp only [ac38, cmdV]
  by_cases h0 : c.data.length = d.data.length
  · simp (implicitDefEqProofs := false) (disch := omega) only [WPs, opds, List.all_cons, List.all_nil, List.cons_append, List.nil_append, cond_true, cond_false, eq_self, List.map_cons, List.map_nil, Nat.reduceAdd, Nat.testBit, Nat.reduceShiftRight, Nat.reduceAnd, Nat.reduceBNe, Nat.reduceMul, hc.one, hd.one, hc.len, hd.len]
    have hc' : DatV (AMem.put (AMem.put m n (some (.cells (c.cells cd) 0 false true))) (n + 1) (some (.cells (d.cells dd) 0 false true)) : FM) (n + 2) cd c.data := hc.frame (by omega) fun b hb => by rw [fput_ne _ _ _ _ (by omega), fput_ne _ _ _ _ (by omega)]
    have hd' : DatV (AMem.put (AMem.put m n (some (.cells (c.cells cd) 0 false true))) (n + 1) (some (.cells (d.cells dd) 0 false true)) : FM) (n + 2) dd d.data := hd.frame (by omega) fun b hb => by rw [fput_ne _ _ _ _ (by omega), fput_ne _ _ _ _ (by omega)]
    refine wr_cps (same_L (AMem.put (AMem.put m n (some (.cells (c.cells cd) 0 false true))) (n + 1) (some (.cells (d.cells dd) 0 false true)) : FM) (n + 2) n (n + 1) c d cd dd (by omega) (by omega) (by rw [fput_ne _ _ _ _ (by omega)]; exact fput_same _ _ _) (fput_same _ _ _) hc' hd' h0.symm hs _ _ _ _ _ _ (fun hdat x0 x1 x2 x3 x4 x5 M N w h1 h2 h3 r1 => ?_) (fun hdat e' M N w h1 h2 h3 r1 => ?_))
    · have hMa : M n = some (.cells (c.cells cd) 0 false true) := by rw [h2 n (by omega), fput_ne _ _ _ _ (by omega)]; exact fput_same _ _ _
      have hMb : M (n + 1) = some (.cells (d.cells dd) 0 false true) := by rw [h2 (n + 1) (by omega)]; exact fput_same _ _ _
      have hw : Nat.mod w (bit n) = 0 := frz_down h3 (by omega)
      have hd0 := decide_eq_true hdat
      unfold sameB
      by_cases e0 : c.tag = d.tag
      case neg =>
        simp only [hd0, decide_eq_false e0, Bool.true_and, Bool.false_and, Bool.and_false]
        simp (implicitDefEqProofs := false) (disch := omega) only [WPs, opds, List.all_cons, List.all_nil, List.cons_append, List.nil_append, cond_true, cond_false, eq_self, List.map_cons, List.map_nil, Nat.reduceAdd, Nat.testBit, Nat.reduceShiftRight, Nat.reduceAnd, Nat.reduceBNe, Nat.reduceMul, hMa, hMb, Cmd.cells, hw, eql_bools 4 t4, STs, decide_eq_false e0]
      by_cases e1 : c.kind = d.kind
      case neg =>
        simp only [hd0, decide_eq_true e0, decide_eq_false e1, Bool.true_and, Bool.false_and, Bool.and_false]
        simp (implicitDefEqProofs := false) (disch := omega) only [WPs, opds, List.all_cons, List.all_nil, List.cons_append, List.nil_append, cond_true, cond_false, eq_self, List.map_cons, List.map_nil, Nat.reduceAdd, Nat.testBit, Nat.reduceShiftRight, Nat.reduceAnd, Nat.reduceBNe, Nat.reduceMul, hMa, hMb, Cmd.cells, hw, eql_bools 4 t4, STs, decide_eq_true e0, decide_eq_false e1]
      by_cases e2 : c.ord = d.ord
      case neg =>
        simp only [hd0, decide_eq_true e0, decide_eq_true e1, decide_eq_false e2, Bool.true_and, Bool.false_and, Bool.and_false]
        simp (implicitDefEqProofs := false) (disch := omega) only [WPs, opds, List.all_cons, List.all_nil, List.cons_append, List.nil_append, cond_true, cond_false, eq_self, List.map_cons, List.map_nil, Nat.reduceAdd, Nat.testBit, Nat.reduceShiftRight, Nat.reduceAnd, Nat.reduceBNe, Nat.reduceMul, hMa, hMb, Cmd.cells, hw, eql_bools 4 t4, STs, decide_eq_true e0, decide_eq_true e1, decide_eq_false e2]
      by_cases e3 : c.force = d.force
      case neg =>
        simp only [hd0, decide_eq_true e0, decide_eq_true e1, decide_eq_true e2, decide_eq_false e3, Bool.true_and, Bool.false_and, Bool.and_false]
        simp (implicitDefEqProofs := false) (disch := omega) only [WPs, opds, List.all_cons, List.all_nil, List.cons_append, List.nil_append, cond_true, cond_false, eq_self, List.map_cons, List.map_nil, Nat.reduceAdd, Nat.testBit, Nat.reduceShiftRight, Nat.reduceAnd, Nat.reduceBNe, Nat.reduceMul, hMa, hMb, Cmd.cells, hw, eql_bools 4 t4, STs, decide_eq_true e0, decide_eq_true e1, decide_eq_true e2, decide_eq_false e3]
      by_cases e4 : c.vol = d.vol
      case neg =>
        simp only [hd0, decide_eq_true e0, decide_eq_true e1, decide_eq_true e2, decide_eq_true e3, decide_eq_false e4, Bool.true_and, Bool.false_and, Bool.and_false]
        simp (implicitDefEqProofs := false) (disch := omega) only [WPs, opds, List.all_cons, List.all_nil, List.cons_append, List.nil_append, cond_true, cond_false, eq_self, List.map_cons, List.map_nil, Nat.reduceAdd, Nat.testBit, Nat.reduceShiftRight, Nat.reduceAnd, Nat.reduceBNe, Nat.reduceMul, hMa, hMb, Cmd.cells, hw, eql_bools 4 t4, STs, decide_eq_true e0, decide_eq_true e1, decide_eq_true e2, decide_eq_true e3, decide_eq_false e4]
      by_cases e5 : c.oth = d.oth
      case neg =>
        simp only [hd0, decide_eq_true e0, decide_eq_true e1, decide_eq_true e2, decide_eq_true e3, decide_eq_true e4, decide_eq_false e5, Bool.true_and, Bool.false_and, Bool.and_false]
        simp (implicitDefEqProofs := false) (disch := omega) only [WPs, opds, List.all_cons, List.all_nil, List.cons_append, List.nil_append, cond_true, cond_false, eq_self, List.map_cons, List.map_nil, Nat.reduceAdd, Nat.testBit, Nat.reduceShiftRight, Nat.reduceAnd, Nat.reduceBNe, Nat.reduceMul, hMa, hMb, Cmd.cells, hw, eql_bools 4 t4, STs, decide_eq_true e0, decide_eq_true e1, decide_eq_true e2, decide_eq_true e3, decide_eq_true e4, decide_eq_false e5]
      by_cases e6 : c.at_ = d.at_
      case neg =>
        simp only [hd0, decide_eq_true e0, decide_eq_true e1, decide_eq_true e2, decide_eq_true e3, decide_eq_true e4, decide_eq_true e5, decide_eq_false e6, Bool.true_and, Bool.false_and, Bool.and_false]
        simp (implicitDefEqProofs := false) (disch := omega) only [WPs, opds, List.all_cons, List.all_nil, List.cons_append, List.nil_append, cond_true, cond_false, eq_self, List.map_cons, List.map_nil, Nat.reduceAdd, Nat.testBit, Nat.reduceShiftRight, Nat.reduceAnd, Nat.reduceBNe, Nat.reduceMul, hMa, hMb, Cmd.cells, hw, eql_bools 4 t4, STs, decide_eq_true e0, decide_eq_true e1, decide_eq_true e2, decide_eq_true e3, decide_eq_true e4, decide_eq_true e5, decide_eq_false e6]
      simp only [hd0, decide_eq_true e0, decide_eq_true e1, decide_eq_true e2, decide_eq_true e3, decide_eq_true e4, decide_eq_true e5, decide_eq_true e6, Bool.true_and]
      simp (implicitDefEqProofs := false) (disch := omega) only [WPs, opds, List.all_cons, List.all_nil, List.cons_append, List.nil_append, cond_true, cond_false, eq_self, List.map_cons, List.map_nil, Nat.reduceAdd, Nat.testBit, Nat.reduceShiftRight, Nat.reduceAnd, Nat.reduceBNe, Nat.reduceMul, hMa, hMb, Cmd.cells, hw, eql_bools 4 t4, STs, decide_eq_true e0, decide_eq_true e1, decide_eq_true e2, decide_eq_true e3, decide_eq_true e4, decide_eq_true e5, decide_eq_true e6]
    · have : sameB c d = false := by unfold sameB; rw [decide_eq_false hdat]; rfl
      rw [this]
      have hw : Nat.mod w (bit n) = 0 := frz_down h3 (by omega)
      simp (implicitDefEqProofs := false) (disch := omega) only [WPs, opds, List.all_cons, List.all_nil, List.cons_append, List.nil_append, cond_true, cond_false, eq_self, List.map_cons, List.map_nil, Nat.reduceAdd, Nat.testBit, Nat.reduceShiftRight, Nat.reduceAnd, Nat.reduceBNe, Nat.reduceMul, hw]
  · have : sameB c d = false := by unfold sameB; rw [decide_eq_false (fun h => h0 (by rw [h]))]; rfl
    rw [this]
    simp (implicitDefEqProofs := false) (disch := omega) only [WPs, opds, List.all_cons, List.all_nil, List.cons_append, List.nil_append, cond_true, cond_false, eq_self, List.map_cons, List.map_nil, Nat.reduceAdd, Nat.testBit, Nat.reduceShiftRight, Nat.reduceAnd, Nat.reduceBNe, Nat.reduceMul, hc.one, hd.one, hc.len, hd.len]
end Go.Am.C40
namespace Go.Am.C40q
/-- a table of n entries -/
def tbl {α : Type} (n : Nat) (f : Nat → α) : List α := (List.range n).map f
def updF {α : Type} (f : Nat → α) (k : Nat) (x : α) : Nat → α := fun i => if i = k then x else f i
theorem tbl_len {α : Type} (n : Nat) (f : Nat → α) : (tbl n f).length = n := by simp [tbl]
theorem tbl_at {α : Type} {n i : Nat} (f : Nat → α) (h : i < n) : (tbl n f)[i]? = some (f i) := by simp [tbl, h]
theorem tbl_set {α : Type} (n k : Nat) (f : Nat → α) (x : α) : (tbl n f).set k x = tbl n (updF f k x) := by
  apply List.ext_getElem?
  intro i
  rw [List.getElem?_set]
  by_cases hi : i < n
  · rw [tbl_at _ hi, tbl_len]
    by_cases hk : k = i
    · subst hk; simp [hi, updF, tbl_at]
    · rw [if_neg hk, tbl_at _ hi]; simp [updF, Ne.symm hk]
  · rw [show (tbl n (updF f k x))[i]? = none from List.getElem?_eq_none (by rw [tbl_len]; omega)]
    by_cases hk : k = i
    · rw [if_pos hk, if_neg (by rw [tbl_len]; omega)]
    · rw [if_neg hk]; exact List.getElem?_eq_none (by rw [tbl_len]; omega)
theorem tbl_rep {α : Type} (n : Nat) (x : α) : List.replicate n x = tbl n (fun _ => x) := by
  apply List.ext_getElem?
  intro i
  by_cases hi : i < n
  · rw [tbl_at _ hi, List.getElem?_replicate, if_pos hi]
  · rw [List.getElem?_eq_none (by simp; omega), List.getElem?_eq_none (by rw [tbl_len]; omega)]
theorem tbl_congr {α : Type} {n : Nat} {f g : Nat → α} (h : ∀ i, i < n → f i = g i) : tbl n f = tbl n g := by
  apply List.map_congr_left
  intro i hi
  exact h i (List.mem_range.1 hi)
theorem updF_same {α : Type} (f : Nat → α) (k : Nat) (x : α) : updF f k x k = x := by simp [updF]
theorem updF_ne {α : Type} (f : Nat → α) {k i : Nat} (x : α) (h : i ≠ k) : updF f k x i = f i := by simp [updF, h]
/-- how many are done -/
def cnt (D : Nat → Bool) : Nat → Nat
  | 0 => 0
  | n + 1 => cnt D n + (if D n then 1 else 0)
theorem cnt_le (D : Nat → Bool) : ∀ n, cnt D n ≤ n
  | 0 => Nat.le_refl _
  | n + 1 => by have := cnt_le D n; simp only [cnt]; split <;> omega
theorem cnt_all {D : Nat → Bool} : ∀ {n}, cnt D n = n → ∀ i, i < n → D i = true
  | 0, _, i, hi => by omega
  | n + 1, h, i, hi => by
    have h1 := cnt_le D n
    simp only [cnt] at h
    split at h
    next hd =>
      rcases Nat.lt_or_ge i n with h2 | h2
      · exact cnt_all (by omega) i h2
      · rw [show i = n by omega]; exact hd
    next => omega
theorem cnt_full {D : Nat → Bool} : ∀ {n}, (∀ i, i < n → D i = true) → cnt D n = n
  | 0, _ => rfl
  | n + 1, h => by simp only [cnt]; rw [cnt_full fun i hi => h i (by omega), if_pos (h n (by omega))]
theorem cnt_none : ∀ n, cnt (fun _ => false) n = 0
  | 0 => rfl
  | n + 1 => by simp [cnt, cnt_none n]
theorem cnt_congr {D D' : Nat → Bool} : ∀ {n}, (∀ i, i < n → D i = D' i) → cnt D n = cnt D' n
  | 0, _ => rfl
  | n + 1, h => by simp only [cnt]; rw [cnt_congr fun i hi => h i (by omega), h n (by omega)]
theorem cnt_upd {D : Nat → Bool} {k : Nat} (hk : D k = false) : ∀ {n}, k < n → cnt (updF D k true) n = cnt D n + 1
  | n + 1, h => by
    simp only [cnt]
    rcases Nat.lt_or_ge k n with h1 | h1
    · rw [cnt_upd hk h1, updF_ne _ _ (by omega : n ≠ k)]; omega
    · obtain rfl : k = n := by omega
      rw [updF_same, hk, cnt_congr (D' := D) fun i hi => updF_ne _ _ (by omega)]; simp
theorem cnt_below {D : Nat → Bool} {n i : Nat} (hi : i ≤ n) (h : ∀ k, i ≤ k → k < n → D k = false) : cnt D n ≤ i := by
  induction n with
  | zero => simp [cnt]
  | succ n ih =>
    rcases Nat.lt_or_ge n i with h1 | h1
    · have := cnt_le D (n + 1); omega
    · simp only [cnt]; rw [h n h1 (by omega)]
      have := ih h1 (fun k h2 h3 => h k h2 (by omega))
      simpa using this
theorem cnt_above {D : Nat → Bool} {n i : Nat} (hi : i ≤ n) (h : ∀ k, k < i → D k = true) : i ≤ cnt D n := by
  induction n with
  | zero => omega
  | succ n ih =>
    rcases Nat.lt_or_ge n i with h1 | h1
    · rw [cnt_full fun k hk => h k (by omega)]; exact hi
    · simp only [cnt]; have := ih h1; omega
theorem cnt_some {D : Nat → Bool} : ∀ {n}, cnt D n < n → ∃ i, i < n ∧ D i = false ∧ ∀ k, k < i → D k = true
  | 0, h => by omega
  | n + 1, h => by
    rcases Nat.lt_or_ge (cnt D n) n with h1 | h1
    · obtain ⟨i, h2, h3⟩ := cnt_some h1
      exact ⟨i, by omega, h3⟩
    · have h2 := cnt_le D n
      have h3 := cnt_all (D := D) (n := n) (by omega)
      refine ⟨n, by omega, ?_, h3⟩
      cases hd : D n
      · rfl
      · simp only [cnt, hd] at h; simp at h; omega
section
variable (bf : Nat → Nat → Bool)
/-- may the i-th command be executed? -/
def free (D : Nat → Bool) (i : Nat) : Bool := !D i && (List.range i).all fun k => D k || !bf k i
def elig (n : Nat) (D : Nat → Bool) : List Nat := (List.range n).filter (free bf D)
variable {bf}
theorem free_iff {D : Nat → Bool} {i : Nat} : free bf D i = true ↔ D i = false ∧ ∀ k, k < i → bf k i = true → D k = true := by
  simp only [free, Bool.and_eq_true, Bool.not_eq_true', List.all_eq_true, List.mem_range, Bool.or_eq_true]
  refine ⟨fun ⟨h1, h2⟩ => ⟨h1, fun k hk hb => ?_⟩, fun ⟨h1, h2⟩ => ⟨h1, fun k hk => ?_⟩⟩
  · rcases h2 k hk with h | h
    · exact h
    · rw [hb] at h; cases h
  · cases hb : bf k i
    · exact .inr rfl
    · exact .inl (h2 k hk hb)
theorem mem_elig {n : Nat} {D : Nat → Bool} {i : Nat} : i ∈ elig bf n D ↔ i < n ∧ free bf D i = true := by
  simp [elig]
theorem elig_succ (n : Nat) (D : Nat → Bool) : elig bf (n + 1) D = elig bf n D ++ (if free bf D n then [n] else []) := by
  simp only [elig, List.range_succ, List.filter_append, List.filter_cons, List.filter_nil]
theorem elig_len (n : Nat) (D : Nat → Bool) : (elig bf n D).length ≤ n := by
  have := List.length_filter_le (free bf D) (List.range n)
  simpa [elig] using this
theorem free_congr {D D' : Nat → Bool} {i : Nat} (h : ∀ k, k ≤ i → D k = D' k) : free bf D i = free bf D' i := by
  rw [Bool.eq_iff_iff, free_iff, free_iff, h i (Nat.le_refl _)]
  exact ⟨fun ⟨h1, h2⟩ => ⟨h1, fun k hk hb => by rw [← h k (by omega)]; exact h2 k hk hb⟩, fun ⟨h1, h2⟩ => ⟨h1, fun k hk hb => by rw [h k (by omega)]; exact h2 k hk hb⟩⟩
theorem elig_congr {n : Nat} {D D' : Nat → Bool} (h : ∀ k, k < n → D k = D' k) : elig bf n D = elig bf n D' := by
  apply List.filter_congr
  intro i hi
  exact free_congr fun k hk => h k (by have := List.mem_range.1 hi; omega)
theorem elig_some {n : Nat} {D : Nat → Bool} (h : cnt D n < n) : elig bf n D ≠ [] := by
  obtain ⟨i, hi, h1, h2⟩ := cnt_some h
  intro he
  have : i ∈ elig bf n D := mem_elig.2 ⟨hi, free_iff.2 ⟨h1, fun k hk _ => h2 k hk⟩⟩
  rw [he] at this; cases this
theorem elig_full {n : Nat} {D : Nat → Bool} (h : ∀ i, i < n → D i = true) : elig bf n D = [] := by
  apply List.eq_nil_iff_forall_not_mem.2
  intro i hi
  obtain ⟨h1, h2⟩ := mem_elig.1 hi
  have := (free_iff.1 h2).1
  rw [h i h1] at this; cases this
variable (bf)
/-- does an order respect the list, where D is done? -/
def resp (n : Nat) (D : Nat → Bool) : List Int → Bool
  | [] => true
  | x :: o => decide (0 ≤ x) && decide (x < n) && free bf D x.toNat && resp n (updF D x.toNat true) o
def after (D : Nat → Bool) : List Int → Nat → Bool
  | [] => D
  | x :: o => after (updF D x.toNat true) o
def respects (n : Nat) (o : List Int) : Bool := decide (o.length = n) && resp bf n (fun _ => false) o
variable {bf}
theorem resp_snoc {n : Nat} {x : Int} : ∀ {o : List Int} {D : Nat → Bool}, resp bf n D (o ++ [x]) = (resp bf n D o && (decide (0 ≤ x) && decide (x < n) && free bf (after D o) x.toNat))
  | [], D => by simp [resp, after]
  | y :: o, D => by
    show (_ && resp bf n (updF D y.toNat true) (o ++ [x])) = ((_ && resp bf n (updF D y.toNat true) o) && (decide (0 ≤ x) && decide (x < n) && free bf (after (updF D y.toNat true) o) x.toNat))
    rw [resp_snoc, ← Bool.and_assoc]
theorem resp_append {n : Nat} {b : List Int} : ∀ {o : List Int} {D : Nat → Bool}, resp bf n D (o ++ b) = (resp bf n D o && resp bf n (after D o) b)
  | [], D => by simp [resp, after]
  | y :: o, D => by
    show (_ && resp bf n (updF D y.toNat true) (o ++ b)) = ((_ && resp bf n (updF D y.toNat true) o) && resp bf n (after (updF D y.toNat true) o) b)
    rw [resp_append, ← Bool.and_assoc]
theorem after_snoc {x : Int} : ∀ {o : List Int} {D : Nat → Bool}, after D (o ++ [x]) = updF (after D o) x.toNat true
  | [], D => rfl
  | y :: o, D => after_snoc (o := o)
/-- an order under way -/
structure Run (bf : Nat → Nat → Bool) (n : Nat) (o : List Int) (D : Nat → Bool) : Prop where
  ok : resp bf n (fun _ => false) o = true
  af : D = after (fun _ => false) o
  len : o.length = cnt D n
theorem Run.nil (n : Nat) : Run bf n [] (fun _ => false) := ⟨rfl, rfl, by rw [cnt_none]; rfl⟩
theorem Run.step {n k : Nat} {o : List Int} {D : Nat → Bool} (h : Run bf n o D) (hk : k < n) (hf : free bf D k = true) : Run bf n (o ++ [(k : Int)]) (updF D k true) := by
  refine ⟨?_, ?_, ?_⟩
  · rw [resp_snoc, h.ok, ← h.af]
    have h1 : decide ((k : Int) < (n : Int)) = true := decide_eq_true (by omega)
    have h2 : decide (0 ≤ (k : Int)) = true := decide_eq_true (by omega)
    rw [h1, h2]; simpa using hf
  · rw [after_snoc, ← h.af]; rfl
  · rw [List.length_append, h.len, cnt_upd (free_iff.1 hf).1 hk]; rfl
theorem Run.done {n : Nat} {o : List Int} {D : Nat → Bool} (h : Run bf n o D) (hl : o.length = n) : respects bf n o = true := by
  simp only [respects, hl, h.ok, decide_true, Bool.and_self]
theorem Run.all {n : Nat} {o : List Int} {D : Nat → Bool} (h : Run bf n o D) (hl : o.length = n) : ∀ i, i < n → D i = true := cnt_all (h.len ▸ hl)
/-! ### the reference's places -/
def place (n : Nat) : List Int → Nat → (Nat → Nat) → Option (Nat → Nat)
  | [], _, pl => some pl
  | x :: o, i, pl => if 0 ≤ x ∧ x < n ∧ pl x.toNat = 0 then place n o (i + 1) (updF pl x.toNat (i + 1)) else none
def inOrder (bf : Nat → Nat → Bool) (n : Nat) (pl : Nat → Nat) : Bool := (List.range n).all fun k => (List.range k).all fun i => !(bf i k && decide (pl k < pl i))
def refResp (bf : Nat → Nat → Bool) (n : Nat) (o : List Int) : Bool := decide (o.length = n) && match place n o 0 (fun _ => 0) with | none => false | some pl => inOrder bf n pl
/-- what a place's table is -/
structure PlInv (n i : Nat) (D : Nat → Bool) (pl : Nat → Nat) : Prop where
  d : ∀ x, D x = true ↔ pl x ≠ 0
  le : ∀ x, pl x ≤ i
  ne : ∀ x y, x ≠ y → pl x ≠ 0 → pl x ≠ pl y
theorem PlInv.step {n i k : Nat} {D : Nat → Bool} {pl : Nat → Nat} (h : PlInv n i D pl) (hk : pl k = 0) : PlInv n (i + 1) (updF D k true) (updF pl k (i + 1)) where
  d := fun x => by
    by_cases hx : x = k
    · subst hx; simp [updF]
    · rw [updF_ne _ _ hx, updF_ne _ _ hx]; exact h.d x
  le := fun x => by
    by_cases hx : x = k
    · subst hx; rw [updF_same]; exact Nat.le_refl _
    · rw [updF_ne _ _ hx]; have := h.le x; omega
  ne := fun x y hxy hx => by
    by_cases h1 : x = k
    · subst h1
      rw [updF_same, updF_ne _ _ (Ne.symm hxy)]; have := h.le y; omega
    · rw [updF_ne _ _ h1] at hx ⊢
      by_cases h2 : y = k
      · subst h2; rw [updF_same]; have := h.le x; omega
      · rw [updF_ne _ _ h2]; exact h.ne x y hxy hx
theorem place_keeps {n : Nat} : ∀ {o : List Int} {i : Nat} {D : Nat → Bool} {pl pl' : Nat → Nat}, PlInv n i D pl → place n o i pl = some pl' → (∀ x, pl x ≠ 0 → pl' x = pl x) ∧ (∀ x, pl x = 0 → pl' x = 0 ∨ i < pl' x) ∧ PlInv n (i + o.length) (after D o) pl'
  | [], i, D, pl, pl', hI, h => by
    injection h with h; subst h
    exact ⟨fun _ _ => rfl, fun _ h => .inl h, hI⟩
  | x :: o, i, D, pl, pl', hI, h => by
    unfold place at h
    split at h
    next hc =>
      obtain ⟨h1, h2, h3⟩ := place_keeps (hI.step hc.2.2) h
      refine ⟨fun y hy => ?_, fun y hy => ?_, ?_⟩
      · have hne : y ≠ x.toNat := by rintro rfl; exact hy hc.2.2
        rw [h1 y (by rw [updF_ne _ _ hne]; exact hy), updF_ne _ _ hne]
      · by_cases hyx : y = x.toNat
        · subst hyx
          rw [h1 _ (by rw [updF_same]; omega), updF_same]; exact .inr (by omega)
        · rcases h2 y (by rw [updF_ne _ _ hyx]; exact hy) with h | h
          · exact .inl h
          · exact .inr (by omega)
      · rw [List.length_cons, show i + (o.length + 1) = i + 1 + o.length by omega]; exact h3
    next => cases h
theorem resp_place {n : Nat} : ∀ {o : List Int} {i : Nat} {D : Nat → Bool} {pl : Nat → Nat}, PlInv n i D pl → (resp bf n D o = true ↔ ∃ pl', place n o i pl = some pl' ∧ ∀ k, D k = false → pl' k ≠ 0 → ∀ j, j < k → bf j k = true → pl' j ≠ 0 ∧ pl' j < pl' k)
  | [], i, D, pl, hI => by
    refine ⟨fun _ => ⟨pl, rfl, fun k hk h => ?_⟩, fun _ => rfl⟩
    have := (hI.d k).2 h
    rw [hk] at this; cases this
  | x :: o, i, D, pl, hI => by
    show (_ && resp bf n (updF D x.toNat true) o) = true ↔ ∃ pl', place n (x :: o) i pl = some pl' ∧ _
    unfold place
    by_cases hc : 0 ≤ x ∧ x < n ∧ pl x.toNat = 0
    · rw [if_pos hc]
      have hS := hI.step hc.2.2
      have ih := resp_place (o := o) hS
      have hD : D x.toNat = false := by
        cases h : D x.toNat
        · rfl
        · exact absurd hc.2.2 ((hI.d _).1 h)
      simp only [Bool.and_eq_true, decide_eq_true_eq]
      rw [ih, free_iff]
      constructor
      · rintro ⟨⟨⟨_, _⟩, _, hf⟩, pl', h1, h2⟩
        obtain ⟨k1, k2, k3⟩ := place_keeps hS h1
        have hx : pl' x.toNat = i + 1 := by rw [k1 _ (by rw [updF_same]; omega), updF_same]
        refine ⟨pl', h1, fun k hk hp j hj hb => ?_⟩
        by_cases hkx : k = x.toNat
        · subst hkx
          have hd := (hI.d j).1 (hf j hj hb)
          have hne : j ≠ x.toNat := by omega
          have := k1 j (by rw [updF_ne _ _ hne]; exact hd)
          rw [updF_ne _ _ hne] at this
          have hle := hI.le j
          exact ⟨by omega, by omega⟩
        · exact h2 k (by rw [updF_ne _ _ hkx]; exact hk) hp j hj hb
      · rintro ⟨pl', h1, h2⟩
        obtain ⟨k1, k2, k3⟩ := place_keeps hS h1
        have hx : pl' x.toNat = i + 1 := by rw [k1 _ (by rw [updF_same]; omega), updF_same]
        refine ⟨⟨⟨hc.1, hc.2.1⟩, hD, fun j hj hb => ?_⟩, pl', h1, fun k hk hp => ?_⟩
        · obtain ⟨g1, g2⟩ := h2 x.toNat hD (by omega) j hj hb
          rw [hI.d]
          intro h0
          have hne : j ≠ x.toNat := by omega
          rcases k2 j (by rw [updF_ne _ _ hne]; exact h0) with h | h
          · exact g1 h
          · omega
        · have hkx : k ≠ x.toNat := by rintro rfl; rw [updF_same] at hk; cases hk
          rw [updF_ne _ _ hkx] at hk
          exact h2 k hk hp
    · rw [if_neg hc]
      refine ⟨fun h => ?_, fun ⟨_, h, _⟩ => (by cases h)⟩
      simp only [Bool.and_eq_true, decide_eq_true_eq] at h
      obtain ⟨⟨⟨h1, h2⟩, h3⟩, _⟩ := h
      exfalso
      have hd := (free_iff.1 h3).1
      refine hc ⟨h1, h2, ?_⟩
      by_cases h0 : pl x.toNat = 0
      · exact h0
      · have := (hI.d _).2 h0
        rw [hd] at this; cases this
theorem place_cnt {n : Nat} : ∀ {o : List Int} {i : Nat} {D : Nat → Bool} {pl pl' : Nat → Nat}, PlInv n i D pl → place n o i pl = some pl' → cnt (after D o) n = cnt D n + o.length
  | [], i, D, pl, pl', hI, h => rfl
  | x :: o, i, D, pl, pl', hI, h => by
    unfold place at h
    split at h
    next hc =>
      have hD : D x.toNat = false := by
        cases h : D x.toNat
        · rfl
        · exact absurd hc.2.2 ((hI.d _).1 h)
      have := place_cnt (hI.step hc.2.2) h
      show cnt (after (updF D x.toNat true) o) n = _
      rw [this, cnt_upd hD (by omega), List.length_cons]; omega
    next => cases h
theorem inOrder_iff {n : Nat} {pl : Nat → Nat} : inOrder bf n pl = true ↔ ∀ k, k < n → ∀ i, i < k → bf i k = true → pl i ≤ pl k := by
  simp only [inOrder, List.all_eq_true, List.mem_range, Bool.not_eq_true', Bool.and_eq_false_iff, decide_eq_false_iff_not]
  refine ⟨fun h k hk i hi hb => ?_, fun h k hk i hi => ?_⟩
  · rcases h k hk i hi with h | h
    · rw [hb] at h; cases h
    · omega
  · cases hb : bf i k
    · exact .inl rfl
    · have := h k hk i hi hb; exact .inr (by omega)
theorem place_range {n : Nat} : ∀ {o : List Int} {i : Nat} {pl pl' : Nat → Nat}, (∀ x, n ≤ x → pl x = 0) → place n o i pl = some pl' → ∀ x, n ≤ x → pl' x = 0
  | [], i, pl, pl', h0, h => by injection h with h; subst h; exact h0
  | x :: o, i, pl, pl', h0, h => by
    unfold place at h
    split at h
    next hc => exact place_range (fun y hy => by rw [updF_ne _ _ (by omega)]; exact h0 y hy) h
    next => cases h
theorem respects_ref (n : Nat) (o : List Int) : respects bf n o = refResp bf n o := by
  unfold respects refResp
  by_cases hl : o.length = n
  · rw [decide_eq_true hl, Bool.true_and, Bool.true_and]
    have hI : PlInv n 0 (fun _ => false) (fun _ => 0) := ⟨fun x => by simp, fun _ => Nat.le_refl _, fun x y _ h => absurd rfl h⟩
    rw [Bool.eq_iff_iff, resp_place hI]
    constructor
    · rintro ⟨pl', h1, h2⟩
      rw [h1]
      show inOrder bf n pl' = true
      rw [inOrder_iff]
      obtain ⟨k1, k2, k3⟩ := place_keeps hI h1
      have hc := place_cnt hI h1
      rw [cnt_none, hl, Nat.zero_add] at hc
      intro k hk i hi hb
      have := h2 k rfl ((k3.d k).1 (cnt_all hc k hk)) i hi hb
      omega
    · intro h
      cases h1 : place n o 0 (fun _ => 0) with
      | none => rw [h1] at h; cases h
      | some pl' =>
        rw [h1] at h
        replace h : inOrder bf n pl' = true := h
        rw [inOrder_iff] at h
        obtain ⟨k1, k2, k3⟩ := place_keeps hI h1
        have hc := place_cnt hI h1
        rw [cnt_none, hl, Nat.zero_add] at hc
        refine ⟨pl', rfl, fun k _ hp j hj hb => ?_⟩
        have hk : k < n := by
          rcases Nat.lt_or_ge k n with h | h
          · exact h
          · exact absurd (place_range (fun _ _ => rfl) h1 k h) hp
        have hj0 := (k3.d j).1 (cnt_all hc j (by omega))
        have h3 := h k hk j hj hb
        have h4 := k3.ne j k (by omega) hj0
        exact ⟨hj0, by omega⟩
  · rw [decide_eq_false hl]; rfl
/-! ### levels -/
/-- the greatest level behind those of the first j commands that must precede the i-th -/
def pm (bf : Nat → Nat → Bool) (L : Nat → Nat) (i : Nat) : Nat → Nat
  | 0 => 0
  | j + 1 => if bf j i then max (pm bf L i j) (L j + 1) else pm bf L i j
def levs (bf : Nat → Nat → Bool) : Nat → Nat → Nat
  | 0 => fun _ => 0
  | i + 1 => updF (levs bf i) i (pm bf (levs bf i) i i)
theorem levs_out : ∀ {i k : Nat}, i ≤ k → levs bf i k = 0
  | 0, _, _ => rfl
  | i + 1, k, h => by show updF _ _ _ k = 0; rw [updF_ne _ _ (by omega)]; exact levs_out (by omega)
theorem levs_stay {k : Nat} : ∀ {i}, k < i → levs bf i k = levs bf (k + 1) k
  | i + 1, h => by
    rcases Nat.lt_or_ge k i with h1 | h1
    · show updF _ _ _ k = _; rw [updF_ne _ _ (by omega)]; exact levs_stay h1
    · rw [show i = k by omega]
theorem pm_le {L : Nat → Nat} {i : Nat} (h : ∀ k, k < i → L k ≤ k) : ∀ {j}, j ≤ i → pm bf L i j ≤ j
  | 0, _ => Nat.le_refl _
  | j + 1, hj => by
    have h1 := pm_le h (j := j) (by omega)
    have h2 := h j (by omega)
    simp only [pm]; split <;> omega
theorem pm_ge {L : Nat → Nat} {i k : Nat} (hb : bf k i = true) : ∀ {j}, k < j → L k + 1 ≤ pm bf L i j
  | j + 1, h => by
    simp only [pm]
    rcases Nat.lt_or_ge k j with h1 | h1
    · have := pm_ge (L := L) hb h1
      split <;> omega
    · obtain rfl : k = j := by omega
      rw [if_pos hb]; omega
theorem levs_le : ∀ (i k : Nat), levs bf i k ≤ k
  | 0, k => Nat.zero_le _
  | i + 1, k => by
    show updF _ _ _ k ≤ k
    by_cases h : k = i
    · subst h; rw [updF_same]; exact pm_le (fun k _ => levs_le _ k) (Nat.le_refl _)
    · rw [updF_ne _ _ h]; exact levs_le i k
theorem levs_lt {n k i : Nat} (hk : k < i) (hi : i < n) (hb : bf k i = true) : levs bf n k < levs bf n i := by
  rw [levs_stay hi, levs_stay (i := n) (k := k) (by omega)]
  show _ < updF _ _ _ i
  rw [updF_same]
  have := pm_ge (L := levs bf i) hb hk
  rw [levs_stay (i := i) hk] at this
  omega
/-! ### by levels -/
/-- done before the i-th command of the level: those of lower levels, and of this level those behind it -/
def byLev (bf : Nat → Nat → Bool) (n nn i : Nat) : Nat → Bool := fun x => decide (x < n) && (decide (levs bf n x < nn) || decide (levs bf n x = nn) && decide (i ≤ x))
theorem byLev_free {n nn i : Nat} (hi : i < n) (hl : levs bf n i = nn) : free bf (byLev bf n nn (i + 1)) i = true := by
  rw [free_iff]
  refine ⟨?_, fun k hk hb => ?_⟩
  · have h1 : decide (levs bf n i < nn) = false := decide_eq_false (by omega)
    have h2 : decide (i + 1 ≤ i) = false := decide_eq_false (by omega)
    simp only [byLev, h1, h2, Bool.and_false, Bool.or_self]
  · have h1 := levs_lt hk hi hb
    have h2 : decide (levs bf n k < nn) = true := decide_eq_true (by omega)
    have h3 : decide (k < n) = true := decide_eq_true (by omega)
    simp only [byLev, h2, h3, Bool.true_or, Bool.and_self]
theorem byLev_step {n nn i : Nat} (hi : i < n) (hl : levs bf n i = nn) : updF (byLev bf n nn (i + 1)) i true = byLev bf n nn i := by
  funext x
  by_cases hx : x = i
  · subst hx; rw [updF_same]; simp [byLev, hi, hl]
  · rw [updF_ne _ _ hx]
    simp only [byLev]
    rw [show decide (i + 1 ≤ x) = decide (i ≤ x) from by rw [decide_eq_decide]; omega]
theorem byLev_skip {n nn i : Nat} (hl : levs bf n i ≠ nn) : byLev bf n nn (i + 1) = byLev bf n nn i := by
  funext x
  by_cases hx : x = i
  · subst hx; simp [byLev, hl]
  · simp only [byLev]
    rw [show decide (i + 1 ≤ x) = decide (i ≤ x) from by rw [decide_eq_decide]; omega]
theorem byLev_start (n : Nat) : byLev bf n 0 n = fun _ => false := by
  funext x
  simp only [byLev]
  by_cases h : x < n
  · have : decide (n ≤ x) = false := decide_eq_false (by omega)
    rw [this]; simp
  · simp [h]
theorem byLev_next (n nn : Nat) : byLev bf n nn 0 = byLev bf n (nn + 1) n := by
  funext x
  simp only [byLev]
  by_cases h : x < n
  · have h2 : decide (n ≤ x) = false := decide_eq_false (by omega)
    rw [h2, Bool.and_false, Bool.or_false]
    simp only [Nat.zero_le, decide_true, Bool.and_true, h, Bool.true_and]
    rw [Bool.eq_iff_iff]
    simp only [Bool.or_eq_true, decide_eq_true_eq]; omega
  · simp [h]
theorem byLev_end {n x : Nat} (h : x < n) : byLev bf n n n x = true := by
  have h1 := levs_le (bf := bf) n x
  have h2 : decide (levs bf n x < n) = true := decide_eq_true (by omega)
  simp only [byLev, h, h2, decide_true, Bool.true_or, Bool.and_self]
/-! ### fences -/
/-- commands that precede and follow all others -/
structure Fen (bf : Nat → Nat → Bool) (n : Nat) (F : Nat → Bool) : Prop where
  l : ∀ i k, i < n → k < n → F i = true → bf i k = true
  r : ∀ i k, i < n → k < n → F k = true → bf i k = true
/-- done so far, one after another asl they became eligible -/
structure Down (bf : Nat → Nat → Bool) (n : Nat) (D : Nat → Bool) : Prop where
  dn : ∀ k, k < n → D k = true → ∀ j, j < k → bf j k = true → D j = true
theorem Down.nil (n : Nat) : Down bf n (fun _ => false) := ⟨fun _ _ h => by cases h⟩
theorem Down.step {n k : Nat} {D : Nat → Bool} (h : Down bf n D) (hk : free bf D k = true) : Down bf n (updF D k true) where
  dn := fun x hx hd j hj hb => by
    obtain ⟨h1, h2⟩ := free_iff.1 hk
    by_cases hjk : j = k
    · subst hjk; exact updF_same _ _ _
    rw [updF_ne _ _ hjk]
    by_cases hxk : x = k
    · subst hxk; exact h2 j hj hb
    · rw [updF_ne _ _ hxk] at hd; exact h.dn x hx hd j hj hb
theorem fence_place {n i k : Nat} {D : Nat → Bool} {F : Nat → Bool} (hF : Fen bf n F) (hD : Down bf n D) (hc : cnt D n = i) (hi : i < n) (hk : k < n) (hf : free bf D k = true) : F k = F i ∧ (F i = true → k = i) := by
  obtain ⟨h1, h2⟩ := free_iff.1 hf
  -- a fence that is eligible stands at the number of what is done
  have key : ∀ f, f < n → F f = true → free bf D f = true → f = i := fun f hfn hFf hff => by
    obtain ⟨g1, g2⟩ := free_iff.1 hff
    have a1 : ∀ j, j < f → D j = true := fun j hj => g2 j hj (hF.r j f (by omega) hfn hFf)
    have a2 : ∀ j, f ≤ j → j < n → D j = false := fun j hj hjn => by
      rcases Nat.eq_or_lt_of_le hj with h | h
      · subst h; exact g1
      · cases hd : D j
        · rfl
        · have := hD.dn j hjn hd f h (hF.l f j hfn hjn hFf)
          rw [g1] at this; cases this
    have b1 := cnt_below (Nat.le_of_lt hfn) a2
    have b2 := cnt_above (Nat.le_of_lt hfn) a1
    omega
  have main : F i = true → k = i := fun hFi => by
    have hdi : D i = false := by
      cases hd : D i
      · rfl
      · have := cnt_above (D := D) (n := n) (i := i + 1) (by omega) fun j hj => by
          rcases Nat.lt_or_ge j i with h | h
          · exact hD.dn i hi hd j h (hF.r j i (by omega) hi hFi)
          · rw [show j = i by omega]; exact hd
        omega
    have habove : ∀ j, i ≤ j → j < n → D j = false := fun j hj hjn => by
      rcases Nat.eq_or_lt_of_le hj with h | h
      · subst h; exact hdi
      · cases hd : D j
        · rfl
        · have := hD.dn j hjn hd i h (hF.l i j hi hjn hFi)
          rw [hdi] at this; cases this
    -- all before i are done
    have hbelow : ∀ j, j < i → D j = true := fun j hj => by
      cases hd : D j
      · exfalso
        have h3 : cnt D n ≤ cnt D i := by
          have : ∀ m, i ≤ m → m ≤ n → cnt D m = cnt D i := by
            intro m h4 h5
            induction m with
            | zero => rw [show i = 0 by omega]
            | succ m ih =>
              rcases Nat.eq_or_lt_of_le h4 with h6 | h6
              · rw [← h6]
              · simp only [cnt]; rw [habove m (by omega) (by omega), ih (by omega) (by omega)]; simp
          rw [this n (by omega) (Nat.le_refl _)]; exact Nat.le_refl _
        have h4 := cnt_le D i
        have h5 := cnt_all (D := D) (n := i) (by omega) j hj
        rw [hd] at h5; cases h5
      · rfl
    rcases Nat.lt_trichotomy k i with h | h | h
    · have := hbelow k h; rw [h1] at this; cases this
    · exact h
    · have := h2 i h (hF.l i k hi hk hFi); rw [hdi] at this; cases this
  refine ⟨?_, main⟩
  cases hFi : F i with
  | true => rw [main hFi]; exact hFi
  | false =>
    cases hFk : F k with
    | false => rfl
    | true => have := key k hk hFk hf; subst this; rw [hFk] at hFi; cases hFi
end
end Go.Am.C40q
namespace Go.Am
open Go
/-- the slice v of len elements of sz cells shows cs, in a block of its own at or above n0 -/
def SlZ (sz : Nat) (M : FM) (n0 N : Nat) (v : Value) (len : Nat) (cs : List Value) : Prop :=
  (len = 0 ∧ cs = [] ∧ v = .slice none 0 0) ∨ (0 < len ∧ cs.length = len * sz ∧ ∃ b, v = .slice (some ⟨b, 0, none⟩) len UNK ∧ n0 ≤ b ∧ b < N ∧ M b = some (.cells cs sz true true))
theorem SlZ.frame {sz : Nat} {M M' : FM} {n0 N N' : Nat} {v : Value} {len : Nat} {cs : List Value} (h : SlZ sz M n0 N v len cs) (hN : N ≤ N') (ht : ∀ b, n0 ≤ b → b < N → M' b = M b) : SlZ sz M' n0 N' v len cs := by
  rcases h with h | ⟨h0, hl, b, h1, h2, h3, h4⟩
  · exact .inl h
  · exact .inr ⟨h0, hl, b, h1, h2, by omega, (ht b h2 h3).trans h4⟩
theorem SlZ.low {sz : Nat} {M : FM} {n0 n1 N : Nat} {v : Value} {len : Nat} {cs : List Value} (h : SlZ sz M n0 N v len cs) (hn : n1 ≤ n0) : SlZ sz M n1 N v len cs := by
  rcases h with h | ⟨h0, hl, b, h1, h2, h3, h4⟩
  · exact .inl h
  · exact .inr ⟨h0, hl, b, h1, by omega, h3, h4⟩
theorem SlZ.len {sz : Nat} {M : FM} {n0 N : Nat} {v : Value} {len : Nat} {cs : List Value} (h : SlZ sz M n0 N v len cs) : lenV false v = some (.int .i64 (len : Int)) := by
  rcases h with ⟨rfl, rfl, rfl⟩ | ⟨_, _, b, rfl, _⟩ <;> rfl
theorem SlZ.bel {sz : Nat} {M : FM} {n0 N : Nat} {v : Value} {len : Nat} {cs : List Value} (h : SlZ sz M n0 N v len cs) (k : Nat) (hk : N ≤ k) : belowV k v = true := by
  rcases h with ⟨_, _, rfl⟩ | ⟨_, _, b, rfl, _, hb, _⟩
  · rfl
  · exact blt_true (show b < k by omega)
theorem SlZ.one {sz : Nat} {M : FM} {n0 N : Nat} {v : Value} {len : Nat} {cs : List Value} (h : SlZ sz M n0 N v len cs) : Am.one v = true := by
  rcases h with ⟨_, _, rfl⟩ | ⟨_, _, b, rfl, _⟩ <;> rfl
/-- an element's address -/
theorem SlZ.at {sz : Nat} {M : FM} {n0 N : Nat} {v : Value} {len : Nat} {cs : List Value} (h : SlZ sz M n0 N v len cs) {i : Nat} (hi : i < len) : ∃ b, idxV sz i v = some (.pointer (some ⟨b, i * sz, none⟩)) ∧ n0 ≤ b ∧ b < N ∧ M b = some (.cells cs sz true true) ∧ cs.length = len * sz := by
  rcases h with ⟨rfl, _, _⟩ | ⟨_, hl, b, rfl, h1, h2, h3⟩
  · omega
  · exact ⟨b, by rw [idx_mk hi, Nat.zero_add], h1, h2, h3, hl⟩
structure AppZ (sz : Nat) (M : FM) (n0 N : Nat) (len : Nat) (cs : List Value) (v' : Value) (M' : FM) (N' w : Nat) : Prop where
  v : v' = .slice (some ⟨N, 0, none⟩) len UNK
  n : N' = N + 1
  s : SlZ sz M' n0 N' v' len cs
  low : ∀ b, b < n0 → M' b = M b
  w : ∀ j, j ≤ n0 → Nat.mod w (bit j) = 0
theorem app_slZ {sz : Nat} {M : FM} {n0 N bytes : Nat} {v : Value} {len : Nat} {cs zs : List Value} (h : SlZ sz M n0 N v len cs) (ya : Option Addr) (yc ry : Nat) (h0 : n0 ≤ N) (hsz : 0 < sz) (hzl : zs.length = sz) (hz : zs.all Am.one = true) (hby : 0 < bytes) (hl : (len + 1) * bytes ≤ 140737488355328) :
    Rt (appO sz bytes M N v (.slice ya 1 yc) (shown M N sz v) (some (zs, ry))) fun v' M' N' w => AppZ sz M n0 N (len + 1) (cs ++ zs) v' M' N' w := by
  rcases h with ⟨rfl, rfl, rfl⟩ | ⟨hp, hcl, b, rfl, hb, hbN, hM⟩
  · rw [shown_nil, appO_mk, appV_mk]
    have hl' : (0 + 1) * bytes ≤ 140737488355328 := by simpa using hl
    rw [show (zs, ry).1.all Am.one = true from hz, blt_true hsz, blt_true hby, ble_true hl', appG_nil (by omega)]
    exact ⟨rfl, rfl, .inr ⟨by omega, by simp [hzl], N, rfl, h0, by omega, fput_same _ _ _⟩, fun b hb => fput_ne _ _ _ _ (by omega), fun j hj => frz_bit (by omega)⟩
  · rw [shown_pos hp, getb_lt hbN, hM, shownB_mk, Nat.beq_refl, cellsAt_mk, ldrop_z, cells_all hcl.symm]
    show Rt (appO sz bytes M N _ _ (some (cs, bit b)) _) _
    rw [appO_mk, appV_mk]
    rw [show (zs, ry).1.all Am.one = true from hz, blt_true hsz, blt_true hby, ble_true hl, appG_unk, getb_lt hbN, hM, appU_mk]
    exact ⟨rfl, rfl, .inr ⟨by omega, by rw [List.length_append, hcl, hzl, Nat.add_mul, Nat.one_mul], N, rfl, h0, by omega, fput_same _ _ _⟩, fun k hk => by rw [fput_ne _ _ _ _ (by omega), fput_ne _ _ _ _ (by omega)], fun j hj => by rw [frz_iff]; exact ⟨frz_bit (by omega), frz_bit (by omega)⟩⟩
end Go.Am
namespace Go.Am.C40
open Go Go.Am C40q
variable {E : Nat → Option AFn} {Y : Nat → List Value → FM → Nat → OR FM}
/-- the slice v shows the commands cs, each with its data -/
def CmdsV (m : FM) (n : Nat) (v : Value) (cs : List (Cmd × Value)) : Prop :=
  (∃ a c, v = .slice a cs.length c ∧ belowV n v = true ∧ (cs = [] ∨ ∃ b o cells opn wr, a = some ⟨b, o, none⟩ ∧ b < n ∧ m b = some (.cells cells 9 opn wr) ∧ ∀ i (h : i < cs.length), ctake (ldrop cells (o + i * 9)) 9 = some (cs[i].1.cells cs[i].2))) ∧
    ∀ c ∈ cs, c.1.Fit ∧ DatV m n c.2 c.1.data
theorem CmdsV.len {m : FM} {n : Nat} {v : Value} {cs : List (Cmd × Value)} (h : CmdsV m n v cs) : lenV false v = some (.int .i64 (cs.length : Int)) := by
  obtain ⟨⟨a, c, rfl, _⟩, _⟩ := h; rfl
theorem CmdsV.one {m : FM} {n : Nat} {v : Value} {cs : List (Cmd × Value)} (h : CmdsV m n v cs) : Am.one v = true := by
  obtain ⟨⟨a, c, rfl, _⟩, _⟩ := h; rfl
theorem CmdsV.bel {m : FM} {n : Nat} {v : Value} {cs : List (Cmd × Value)} (h : CmdsV m n v cs) (k : Nat) (hk : n ≤ k) : belowV k v = true := by
  obtain ⟨⟨a, c, rfl, hb, _⟩, _⟩ := h
  cases a with
  | none => exact hb
  | some a => exact blt_true (show a.block < k from Nat.lt_of_lt_of_le (Nat.le_of_ble_eq_true hb) hk)
theorem CmdsV.belF {m : FM} {n : Nat} {v : Value} {cs : List (Cmd × Value)} (h : CmdsV m n v cs) (k : Nat) (hk : n ≤ k) : belowF k v = true := by
  have := h.bel k hk
  obtain ⟨⟨a, c, rfl, _⟩, _⟩ := h
  exact this
theorem CmdsV.frame {m m' : FM} {n n' : Nat} {v : Value} {cs : List (Cmd × Value)} (h : CmdsV m n v cs) (hn : n ≤ n') (hf : ∀ b, b < n → m' b = m b) : CmdsV m' n' v cs := by
  have hb := h.bel n' hn
  obtain ⟨⟨a, c, rfl, _, h⟩, hd⟩ := h
  refine ⟨⟨a, c, rfl, hb, ?_⟩, fun c hc => ⟨(hd c hc).1, (hd c hc).2.frame hn hf⟩⟩
  rcases h with h | ⟨b, o, cs, opn, wr, h1, h2, h3, h4⟩
  · exact .inl h
  · exact .inr ⟨b, o, cs, opn, wr, h1, by omega, (hf b h2).trans h3, h4⟩
theorem cget_take {l r : List Value} {o k j : Nat} {x : Value} (h : ctake (ldrop l o) k = some r) (hj : j < k) (hx : cget r j = some x) : cget l (o + j) = some x := by
  rw [ctake_eq, ldrop_eq] at h
  split at h
  · injection h with h; subst h
    rw [cget_eq, List.getElem?_take, if_pos hj, List.getElem?_drop] at hx
    rw [cget_eq]; exact hx
  · cases h
/-- the i-th command of a list -/
def cmdAt (cs : List (Cmd × Value)) (i : Nat) : Cmd := (cs[i]?.map (·.1)).getD ⟨0, 0, 0, false, ⟨#[]⟩, ⟨#[]⟩, 0, 0, []⟩
def datAt (cs : List (Cmd × Value)) (i : Nat) : Value := (cs[i]?.map (·.2)).getD (.bool false)
theorem CmdsV.at {m : FM} {n : Nat} {v : Value} {cs : List (Cmd × Value)} (h : CmdsV m n v cs) {i : Nat} (hi : i < cs.length) :
    ∃ b o cells opn wr, idxV 9 i v = some (.pointer (some ⟨b, o, none⟩)) ∧ b < n ∧ m b = some (.cells cells 9 opn wr) ∧ ctake (ldrop cells o) 9 = some ((cmdAt cs i).cells (datAt cs i)) ∧
      cget cells (o + 8) = some (datAt cs i) ∧ cget cells (o + 4) = some (.string (cmdAt cs i).vol) ∧ cget cells (o + 5) = some (.string (cmdAt cs i).oth) ∧ (cmdAt cs i).Fit ∧ DatV m n (datAt cs i) (cmdAt cs i).data := by
  obtain ⟨⟨a, c, rfl, _, h⟩, hd⟩ := h
  have hmem := hd cs[i] (List.getElem_mem hi)
  have e1 : cmdAt cs i = cs[i].1 := by simp [cmdAt, hi]
  have e2 : datAt cs i = cs[i].2 := by simp [datAt, hi]
  rw [e1, e2]
  rcases h with rfl | ⟨b, o, cells, opn, wr, rfl, h2, h3, h4⟩
  · simp at hi
  · have ht := h4 i hi
    exact ⟨b, o + i * 9, cells, opn, wr, idx_mk hi, h2, h3, ht, cget_take ht (by omega) rfl, cget_take ht (by omega) rfl, cget_take ht (by omega) rfl, hmem⟩
def okC (c : Cmd) : Bool := decide (c.data.length ≤ 40) && !decide ((100 : Int) < IntKind.i64.wrap ((c.vol.size + c.oth.size : Nat) : Int))
theorem few_L0 (m : FM) (n : Nat) (lv : Value) (cs : List (Cmd × Value)) (hl : CmdsV m n lv cs) (hs : cs.length ≤ 9223372036854775807) {Q : AX → List Value → FM → Nat → Nat → Prop}
    (hQt : (∀ i, i < cs.length → okC (cmdAt cs i) = true) → ∀ e0 e1 e2, Q (.exit 0) [e0, e1, e2, lv] m n 0) (hQf : ∀ i, i < cs.length → okC (cmdAt cs i) = false → ∀ e', Q (.ret (.bool false)) e' m n 0) : ∀ d j, j + d = cs.length → (∀ i, i < j → okC (cmdAt cs i) = true) → ∀ x0 x2 x3 : Value,
    Gv (execW PG E Y ac14L0 [x0, .int .i64 (j : Int), x2, x3, lv] m n) Q := by
  intro d
  induction d with
  | zero =>
    intro j hj ha x0 x2 x3
    refine wr_loopN (L := ac14L0) (b := ac14L0b) rfl ?_
    simp only [ac14L0b]
    simp (implicitDefEqProofs := false) (disch := omega) only [WPs, opds, List.all_cons, List.all_nil, List.cons_append, List.nil_append, cond_true, cond_false, eq_self, List.map_cons, List.map_nil, Nat.reduceAdd, Nat.testBit, Nat.reduceShiftRight, Nat.reduceAnd, Nat.reduceBNe, Nat.reduceMul, hl.len]
    exact hQt (fun i hi => ha i (by omega)) _ _ _
  | succ d ih =>
    intro j hj ha x0 x2 x3
    have hjl : j < cs.length := by omega
    obtain ⟨b, o, cells, opn, wr, i1, i2, i3, i4, i5, i6, i7, i8, i9⟩ := hl.at hjl
    have z1 := i8.vol
    have z2 := i8.oth
    refine wr_loopN (L := ac14L0) (b := ac14L0b) rfl ?_
    simp only [ac14L0b]
    by_cases c1 : 40 < (cmdAt cs j).data.length
    · simp (implicitDefEqProofs := false) (disch := omega) only [WPs, opds, List.all_cons, List.all_nil, List.cons_append, List.nil_append, cond_true, cond_false, eq_self, List.map_cons, List.map_nil, Nat.reduceAdd, Nat.testBit, Nat.reduceShiftRight, Nat.reduceAnd, Nat.reduceBNe, Nat.reduceMul, hl.len, hl.bel, i1, i3, i5, i6, i7, i9.len, i9.bel]
      exact hQf j hjl (by simp only [okC, Bool.and_eq_false_iff, decide_eq_false_iff_not]; exact .inl (by omega)) _
    by_cases c2 : (100 : Int) < IntKind.i64.wrap (((cmdAt cs j).vol.size + (cmdAt cs j).oth.size : Nat) : Int)
    · simp (implicitDefEqProofs := false) (disch := omega) only [WPs, opds, List.all_cons, List.all_nil, List.cons_append, List.nil_append, cond_true, cond_false, eq_self, List.map_cons, List.map_nil, Nat.reduceAdd, Nat.testBit, Nat.reduceShiftRight, Nat.reduceAnd, Nat.reduceBNe, Nat.reduceMul, hl.len, hl.bel, i1, i3, i5, i6, i7, i9.len, i9.bel]
      exact hQf j hjl (by rw [okC, decide_eq_true c2]; simp) _
    simp (implicitDefEqProofs := false) (disch := omega) only [WPs, opds, List.all_cons, List.all_nil, List.cons_append, List.nil_append, cond_true, cond_false, eq_self, List.map_cons, List.map_nil, Nat.reduceAdd, Nat.testBit, Nat.reduceShiftRight, Nat.reduceAnd, Nat.reduceBNe, Nat.reduceMul, hl.len, hl.bel, i1, i3, i5, i6, i7, i9.len, i9.bel]
    exact wr_end' ((ih (j + 1) (by omega) (fun i hi => by
      rcases Nat.lt_or_ge i j with h | h
      · exact ha i h
      · rw [show i = j by omega]; rw [okC, decide_eq_false c2, decide_eq_true (show (cmdAt cs j).data.length ≤ 40 by omega)]; rfl) _ _ _).mono fun X e m n w hq => by simpa only [zero_lor'] using hq)
def fewB (cs : List (Cmd × Value)) : Bool := (List.range cs.length).all (fun i => okC (cmdAt cs i)) && decide (cs.length ≤ 14)
theorem few_spec (hE : E 14 = some ac14) (m : FM) (n : Nat) (lv : Value) (cs : List (Cmd × Value)) (hl : CmdsV m n lv cs) (hs : cs.length ≤ 9223372036854775807) :
    Pure (callW PG E Y 14 [lv] m n) m n (.bool (fewB cs)) := by
  refine pure_spec hE rfl rfl ?_
  simp only [ac14]
  simp (implicitDefEqProofs := false) (disch := omega) only [WPs, opds, List.all_cons, List.all_nil, List.cons_append, List.nil_append, cond_true, cond_false, eq_self, List.map_cons, List.map_nil, Nat.reduceAdd, Nat.testBit, Nat.reduceShiftRight, Nat.reduceAnd, Nat.reduceBNe, Nat.reduceMul]
  refine wr_cps (few_L0 m n lv cs hl hs (fun ha e0 e1 e2 r => ?_) (fun i hi hb e' r => ?_) cs.length 0 (by omega) (fun i hi => by omega) _ _ _)
  · have h1 : (List.range cs.length).all (fun i => okC (cmdAt cs i)) = true := List.all_eq_true.2 fun i hi => ha i (List.mem_range.1 hi)
    have h2 : decide ((cs.length : Int) ≤ 14) = decide (cs.length ≤ 14) := by rw [decide_eq_decide]; omega
    by_cases h3 : cs.length ≤ 14
    · simp (implicitDefEqProofs := false) (disch := omega) only [WPs, opds, List.all_cons, List.all_nil, List.cons_append, List.nil_append, cond_true, cond_false, eq_self, List.map_cons, List.map_nil, Nat.reduceAdd, Nat.testBit, Nat.reduceShiftRight, Nat.reduceAnd, Nat.reduceBNe, Nat.reduceMul, hl.len, fewB, h1]
    · simp (implicitDefEqProofs := false) (disch := omega) only [WPs, opds, List.all_cons, List.all_nil, List.cons_append, List.nil_append, cond_true, cond_false, eq_self, List.map_cons, List.map_nil, Nat.reduceAdd, Nat.testBit, Nat.reduceShiftRight, Nat.reduceAnd, Nat.reduceBNe, Nat.reduceMul, hl.len, fewB, h1]
  · have h1 : (List.range cs.length).all (fun i => okC (cmdAt cs i)) = false := by
      rw [← Bool.not_eq_true, List.all_eq_true]
      intro h
      rw [h i (List.mem_range.2 hi)] at hb; cases hb
    simp (implicitDefEqProofs := false) (disch := omega) only [WPs, opds, List.all_cons, List.all_nil, List.cons_append, List.nil_append, cond_true, cond_false, eq_self, List.map_cons, List.map_nil, Nat.reduceAdd, Nat.testBit, Nat.reduceShiftRight, Nat.reduceAnd, Nat.reduceBNe, Nat.reduceMul, fewB, h1, Bool.false_and]
/-- is the i-th command done? -/
def doneB (dn : List Bool) (i : Nat) : Bool := dn.getD i false
theorem isDone_spec (hE : E 28 = some ac28) (m : FM) (n : Nat) (dv : Value) (dn : List Bool) (hd : Sl m n dv (dn.map .bool)) (hs : dn.length ≤ 9223372036854775807) (i : Nat) (hi : i ≤ 9223372036854775807) :
    Pure (callW PG E Y 28 [dv, .int .i64 (i : Int)] m n) m n (.bool (doneB dn i)) := by
  refine pure_spec hE rfl rfl ?_
  have hlen := hd.len
  rw [List.length_map] at hlen
  simp only [ac28]
  by_cases h : i < dn.length
  · obtain ⟨b, o, c, opn, wr, i1, i2, i3, i4⟩ := hd.cell (i := i) (x := .bool (doneB dn i)) (by simp [doneB, h])
    simp (implicitDefEqProofs := false) (disch := omega) only [WPs, opds, List.all_cons, List.all_nil, List.cons_append, List.nil_append, cond_true, cond_false, eq_self, List.map_cons, List.map_nil, Nat.reduceAdd, Nat.testBit, Nat.reduceShiftRight, Nat.reduceAnd, Nat.reduceBNe, Nat.reduceMul, hlen, i1, i3, i4]
  · have : doneB dn i = false := by simp [doneB, Nat.le_of_not_lt h]
    rw [this]
    simp (implicitDefEqProofs := false) (disch := omega) only [WPs, opds, List.all_cons, List.all_nil, List.cons_append, List.nil_append, cond_true, cond_false, eq_self, List.map_cons, List.map_nil, Nat.reduceAdd, Nat.testBit, Nat.reduceShiftRight, Nat.reduceAnd, Nat.reduceBNe, Nat.reduceMul, hlen]
theorem fin_spec (hE : E 27 = some ac27) (m : FM) (n : Nat) (dv : Value) (dn : List Bool) (hd : Sl m n dv (dn.map .bool)) (hs : dn.length ≤ 9223372036854775807) (i : Nat) (hi : i ≤ 9223372036854775807) (b : Nat) (sz : Nat) (opn wr : Bool) (hb : b < n) (hm : m b = some (.cells [dv] sz opn wr)) :
    Pure (callW PG E Y 27 [.int .i64 (i : Int), .pointer (some ⟨b, 0, none⟩)] m n) m n (.bool (doneB dn i)) := by
  refine pure_spec hE rfl rfl ?_
  have hlen := hd.len
  rw [List.length_map] at hlen
  simp only [ac27]
  by_cases h : i < dn.length
  · obtain ⟨b, o, c, opn, wr, i1, i2, i3, i4⟩ := hd.cell (i := i) (x := .bool (doneB dn i)) (by simp [doneB, h])
    simp (implicitDefEqProofs := false) (disch := omega) only [WPs, opds, List.all_cons, List.all_nil, List.cons_append, List.nil_append, cond_true, cond_false, eq_self, List.map_cons, List.map_nil, Nat.reduceAdd, Nat.testBit, Nat.reduceShiftRight, Nat.reduceAnd, Nat.reduceBNe, Nat.reduceMul, hm, hlen, i1, i3, i4]
  · have : doneB dn i = false := by simp [doneB, Nat.le_of_not_lt h]
    rw [this]
    simp (implicitDefEqProofs := false) (disch := omega) only [WPs, opds, List.all_cons, List.all_nil, List.cons_append, List.nil_append, cond_true, cond_false, eq_self, List.map_cons, List.map_nil, Nat.reduceAdd, Nat.testBit, Nat.reduceShiftRight, Nat.reduceAnd, Nat.reduceBNe, Nat.reduceMul, hm, hlen]
end Go.Am.C40
namespace Go.Am
open Go
theorem callv_mk (rec : Nat → List Value → FM → Nat → OR FM) (args : List Value) (m : FM) (n f : Nat) (a c : List Value) : callV rec args m n (.func (.func f) a.toArray c.toArray) = rec f (a ++ args ++ c) m n := rfl
theorem belowV_func (n f : Nat) (a c : List Value) : belowV n (.func (.func f) a.toArray c.toArray) = (a.all (below1 n) && c.all (below1 n)) := rfl
theorem below1_ptr (n b o : Nat) : below1 n (.pointer (some ⟨b, o, none⟩)) = Nat.blt b n := rfl
section
variable {P : Program} {E : Nat → Option AFn} {Y : Nat → List Value → FM → Nat → OR FM} {m : FM} {n : Nat}
/-- a function that writes nothing old: at its end what R says is to be shown, of the memory at the end, or of the memory before where the result bears no address -/
theorem kept_specA {f : Nat} {fn : AFn} {args : List Value} {R : Value → FM → Nat → Prop} (hE : E f = some fn) (ha : llen args = fn.na) (h : ∀ Q : AX → List Value → FM → Nat → Nat → Prop, (∀ v e m' n' w, n ≤ n' → (∀ b, b < n → m' b = m b) → Nat.mod w (bit n) = 0 → (addrFree v = false → R v m' n') → (addrFree v = true → R v m n) → Q (.ret v) e m' n' w) → Wr P E Y [] 0 (execW P E Y fn.code args m n) Q) : Rt (callW P E Y f args m n) fun v m' n' w => n ≤ n' ∧ (∀ b, b < n → m' b = m b) ∧ (∀ j, j ≤ n → Nat.mod w (bit j) = 0) ∧ R v m' n' := by
  rw [callW_fn hE ha]
  obtain ⟨X, e', m', n', r, w, hx, v, rfl, h1, h2, h3, h4, h5⟩ := Gv_some (wr_start (h (fun X _ m' n' w => ∃ v, X = .ret v ∧ n ≤ n' ∧ (∀ b, b < n → m' b = m b) ∧ Nat.mod w (bit n) = 0 ∧ (addrFree v = false → R v m' n') ∧ (addrFree v = true → R v m n)) fun v _ m' n' w k1 k2 k3 k4 k5 => ⟨v, rfl, k1, k2, k3, k4, k5⟩))
  rw [hx, leave_ret]
  cases hv : addrFree v
  · rw [leaveA_keep hv]
    exact ⟨h1, h2, fun j hj => frz_down h3 hj, h4 hv⟩
  · rw [leaveA_free hv h3]
    exact ⟨Nat.le_refl _, fun _ _ => rfl, fun j _ => Nat.zero_mod _, h5 hv⟩
end
section
variable {P : Program} {E : Nat → Option AFn} {Y : Nat → List Value → FM → Nat → OR FM}
/-- what is left to do, asl a condition on what a loop hands over -/
def Kont (P : Program) (E : Nat → Option AFn) (Y : Nat → List Value → FM → Nat → OR FM) (K : List Frm) (w0 : Nat) (Q : AX → List Value → FM → Nat → Nat → Prop) : AX → List Value → FM → Nat → Nat → Prop := fun X e m n w => ∀ r, Wr P E Y K w0 (.ok X e m n r w) Q
theorem wr_kont {K : List Frm} {w0 : Nat} {x : CR FM} {Q : AX → List Value → FM → Nat → Nat → Prop} (h : Gv x fun X e m n w => Kont P E Y K w0 Q X e m n (Nat.lor 0 w)) : Wr P E Y K w0 x Q :=
  wr_cps (h.mono fun X e m n w hq r => by have := hq r; rwa [zero_lor'] at this)
end
/-- a list of numbers that a code owns -/
def IntZ (M : FM) (n0 N : Nat) (v : Value) (xs : List Int) : Prop := SlZ 1 M n0 N v xs.length (xs.map (Value.int .i64))
theorem IntZ.nil (M : FM) (n0 N : Nat) : IntZ M n0 N (.slice none 0 0) [] := .inl ⟨rfl, rfl, rfl⟩
theorem IntZ.ints {M : FM} {n0 N : Nat} {v : Value} {xs : List Int} (h : IntZ M n0 N v xs) : Ints M N v xs := by
  rcases h with ⟨h0, h1, rfl⟩ | ⟨h0, hl, b, rfl, h1, h2, h3⟩
  · exact .inl ⟨rfl, h1⟩
  · exact .inr <| .inl ⟨b, 0, UNK, _, true, true, by rw [List.length_map], h2, h3, fun i x hx => by rw [Nat.zero_add]; exact hx⟩
def natsI (l : List Nat) : List Int := l.map Int.ofNat
theorem natsI_app (a b : List Nat) : natsI (a ++ b) = natsI a ++ natsI b := List.map_append ..
theorem natsI_len (a : List Nat) : (natsI a).length = a.length := List.length_map ..
/-- one more number -/
theorem app_intZ {M : FM} {n0 N : Nat} {v : Value} {xs : List Int} (h : IntZ M n0 N v xs) (z : Int) (ya : Option Addr) (yc ry : Nat) (h0 : n0 ≤ N) (hl : xs.length ≤ 1000000) :
    Rt (appO 1 8 M N v (.slice ya 1 yc) (shown M N 1 v) (some ([.int .i64 z], ry))) fun v' M' N' w => N' = N + 1 ∧ IntZ M' n0 N' v' (xs ++ [z]) ∧ (∀ b, b < n0 → M' b = M b) ∧ ∀ j, j ≤ n0 → Nat.mod w (bit j) = 0 := by
  refine (app_slZ (zs := [.int .i64 z]) h ya yc ry h0 (by omega) rfl rfl (by omega) (by omega)).mono fun v' M' N' w hA => ⟨hA.n, ?_, hA.low, hA.w⟩
  have := hA.s
  unfold IntZ
  rw [List.length_append, List.map_append]
  exact this
theorem IntZ.frame {M M' : FM} {n0 N N' : Nat} {v : Value} {xs : List Int} (h : IntZ M n0 N v xs) (hN : N ≤ N') (ht : ∀ b, n0 ≤ b → b < N → M' b = M b) : IntZ M' n0 N' v xs := SlZ.frame h hN ht
theorem IntZ.free {M m : FM} {n0 N n : Nat} {v : Value} {xs : List Int} (h : IntZ M n0 N v xs) (hv : addrFree v = true) : Ints m n v xs := by
  rcases h with ⟨h0, h1, rfl⟩ | ⟨h0, hl, b, rfl, h1, h2, h3⟩
  · exact .inl ⟨rfl, h1⟩
  · cases hv
end Go.Am
