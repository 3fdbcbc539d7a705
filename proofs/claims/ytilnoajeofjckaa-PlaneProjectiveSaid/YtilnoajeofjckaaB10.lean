/- The machine and its runs, part 10: AmEql AmMapW AmEqA AmArr3 AmStr Am06a Am06b Am06c Am06m Am06ja Am06n Am06p Am06q Am06d Am06e. -/
import Derived.Laws.StructEq
import Derived.Laws.Strings
import Derived.Test.YtilnoajeofjckaaB9
set_option linter.unusedVariables false
set_option linter.unusedSimpArgs false
set_option linter.unusedSectionVars false
namespace Go.Am
open Go
section
variable {P : Program}
theorem pr_bind {α β : Type} (s : Sem α) (f : α → Sem β) : pureRun P (s >>= f) = (pureRun P s).bind fun a => pureRun P (f a) := by
  show pureRun P (s.bind f) = _
  induction s with
  | pure a => rfl
  | program k ih => exact ih P
  | _ => rfl
theorem pr_pure {α : Type} (a : α) : pureRun P (pure a : Sem α) = some a := rfl
theorem pr_program : pureRun P program = some P := rfl
theorem pr_underlying {t : TypeId} {d : TypeDesc} (h : P.underlying t = some d) : pureRun P (underlying t) = some d := by
  unfold underlying
  rw [pr_bind, pr_program]
  show pureRun P (match P.underlying t with | some d => pure d | none => stuck "no such type") = some d
  rw [h]; rfl
theorem pr_part {t : TypeId} {k : IntKind} {cs : Array Value} {off : Nat} {v : Value} (h : P.underlying t = some (.int k)) (hv : cs[off]? = some v) : pureRun P (part t cs off) = some v := by
  have h1 : pureRun P (isAgg t) = some false := by
    unfold isAgg
    rw [pr_bind, pr_underlying h]; rfl
  unfold part
  rw [pr_bind, h1]
  show pureRun P (match cs[off]? with | some v => pure v | none => stuck "part: no such cell") = some v
  rw [hv]; rfl
theorem pr_equal_int {d : Nat} {t : TypeId} {k : IntKind} {a b : Int} (h : P.underlying t = some (.int k)) : pureRun P (Op.equalIn (d + 1) t (.int k a) (.int k b)) = some (a == b) := by
  unfold Op.equalIn
  rw [pr_bind, pr_underlying h]
  show pureRun P (if k = k then pure (a == b) else stuck "==: kinds differ") = _
  rw [if_pos rfl]; rfl
def okFields (P : Program) : List Field → Nat → Bool
  | [], _ => true
  | f :: fs, i => (f.name != "_") && f.offset == i && (match P.underlying f.type with | some (.int .i64) => true | _ => false) && okFields P fs (i + 1)
def intsT (P : Program) (t n : Nat) : Bool :=
  (match P.underlying t with | some (.struct _) => true | _ => false) && okFields P (P.fieldsOf t).toList 0 && (P.fieldsOf t).toList.length == n && !P.stoodInHeld t && !P.eqGuardType P.depth t
end
end Go.Am
namespace Go.Am
open Go
abbrev MI := List (Int × Value)
def mapC (mi : MI) : List (Value × Value) := mi.map fun p => (.int .i64 p.1, p.2)
def idxI (t : Int) : MI → Option Nat
  | [] => none
  | p :: mi => if t = p.1 then some 0 else (idxI t mi).map (· + 1)
def lookI (t : Int) : MI → Option Value
  | [] => none
  | p :: mi => if t = p.1 then some p.2 else lookI t mi
def setI (t : Int) (v : Value) : MI → MI
  | [] => [(t, v)]
  | p :: mi => if t = p.1 then (t, v) :: mi else p :: setI t v mi
def delI (t : Int) : MI → MI
  | [] => []
  | p :: mi => if t = p.1 then mi else p :: delI t mi
variable {P : Program}
section
variable {m : FM} {n b : Nat} {mi : MI} {kt : Nat} {k : IntKind}
theorem s_mp {rec : Nat → List Value → FM → Nat → OR FM} {e : List Value} (op : MOp) (xs : List Opd) : stepA P rec e m n (.mp op xs) = mapV P op (evs e xs) m n := rfl
def lookV (ok : Bool) (z : Value) : Option Value → Value
  | some v => lookR ok v true
  | none => lookR ok z false
theorem one_map (b : Nat) : one (.map (some b)) = true := rfl
theorem cells_mapv (b : Nat) : (Value.map (some b)).cells.toList = [.map (some b)] := rfl
theorem belowV_map (n b : Nat) : belowV n (.map (some b)) = Nat.blt b n := rfl
end
end Go.Am
namespace Go.Am
open Go
section
variable {P : Program}
def eqItemsA (d : Nat) (e : TypeId) (xs ys : Array Value) : List Nat → Sem Bool
  | [] => pure true
  | i :: is => do
    let a ← part e xs (i * 1)
    let b ← part e ys (i * 1)
    let r ← Op.equalIn d e a b
    if (!r) = true then pure false else eqItemsA d e xs ys is
theorem pr_sizeOf {e n : Nat} (h : isSz P e n = true) : pureRun P (sizeOf e) = some n := by
  obtain ⟨i, hi, hs⟩ := isSz_run h
  unfold sizeOf typeInfo
  rw [pr_bind, pr_bind, pr_program, Option.bind_some, hi]
  show some i.size = some n
  rw [hs]
theorem pr_equal_array (d : Nat) {t e : TypeId} {n : Nat} (xs ys : Array Value) (hu : P.underlying t = some (.array n e)) (hi : isSz P e 1 = true) :
    pureRun P (Op.equalIn (d + 1) t (.agg xs) (.agg ys)) = pureRun P (eqItemsA d e xs ys (List.range' 0 n)) := by
  simp only [Op.equalIn, pr_bind, pr_underlying hu, pr_sizeOf hi, Option.bind_some]
  simp only [Std.Legacy.Range.forIn_eq_forIn_range', Std.Legacy.Range.size, Nat.sub_zero, Nat.add_one_sub_one, Nat.div_one]
  generalize List.range' 0 n = is
  induction is with
  | nil => rfl
  | cons j is ih =>
    simp only [List.forIn_cons, eqItemsA, pr_bind]
    cases pureRun P (part e xs (j * 1)) with
    | none => rfl
    | some a =>
      simp only [Option.bind_some]
      cases pureRun P (part e ys (j * 1)) with
      | none => rfl
      | some b =>
        simp only [Option.bind_some]
        cases pureRun P (Op.equalIn d e a b) with
        | none => rfl
        | some r =>
          cases r
          · rfl
          · exact ih
def bytesT (P : Program) (t n e : Nat) : Bool :=
  (match P.underlying t with | some (.array k f) => k == n && f == e | _ => false) && (match P.underlying e with | some (.int .u8) => true | _ => false) && isSz P e 1 && !P.eqGuardType P.depth t
end
end Go.Am
namespace Go.Am
open Go
variable {P : Program}
structure C3 where
  x : Int
  y : Int
  z : Int
  deriving DecidableEq
def C3.v (c : C3) : Value := .agg #[.int .i64 c.x, .int .i64 c.y, .int .i64 c.z]
theorem C3.ext_iff' (a b : C3) : a = b ↔ (a.x = b.x ∧ a.y = b.y ∧ a.z = b.z) := by
  cases a; cases b; simp
structure Arr3 (P : Program) (t e : Nat) : Prop where
  ut : P.underlying t = some (.array 3 e)
  ue : P.underlying e = some (.int .i64)
  se : isSz P e 1 = true
theorem pr_equal_arr3 {d : Nat} {t e : TypeId} (h : Arr3 P t e) (a b : C3) : pureRun P (Op.equalIn (d + 2) t a.v b.v) = some (decide (a = b)) := by
  unfold C3.v
  rw [pr_equal_array (d + 1) _ _ h.ut h.se]
  have h0 : ∀ x y z : Int, pureRun P (part e #[.int .i64 x, .int .i64 y, .int .i64 z] (0 * 1)) = some (.int .i64 x) := fun x y z => pr_part h.ue rfl
  have h1 : ∀ x y z : Int, pureRun P (part e #[.int .i64 x, .int .i64 y, .int .i64 z] (1 * 1)) = some (.int .i64 y) := fun x y z => pr_part h.ue rfl
  have h2 : ∀ x y z : Int, pureRun P (part e #[.int .i64 x, .int .i64 y, .int .i64 z] (2 * 1)) = some (.int .i64 z) := fun x y z => pr_part h.ue rfl
  have hq : ∀ x y : Int, pureRun P (Op.equalIn (d + 1) e (.int .i64 x) (.int .i64 y)) = some (x == y) := fun x y => pr_equal_int h.ue
  rw [show List.range' 0 3 = [0, 1, 2] from rfl]
  have hd : decide (a = b) = (a.x == b.x && (a.y == b.y && a.z == b.z)) := by
    rw [Bool.eq_iff_iff, decide_eq_true_iff, C3.ext_iff']
    simp
  rw [hd]
  cases hx : a.x == b.x <;> cases hy : a.y == b.y <;> cases hz : a.z == b.z <;> simp [eqItemsA, pr_bind, h0, h1, h2, hq, hx, hy, hz, pr_pure] <;> rfl
theorem binV_arr3 {t e : Nat} (h : Arr3 P t e) (hg : P.eqGuardType P.depth t = false) (a b : C3) : binV P .eql t a.v b.v = some (.bool (decide (a = b))) := by
  have h1 : pureRun P (do eqGuard .eql t (.tmp 0) (.tmp 0) a.v b.v; binOp .eql t a.v b.v) = some (.bool (decide (a = b))) := by
    have g : pureRun P (eqGuard .eql t (.tmp 0) (.tmp 0) a.v b.v) = some () := by
      unfold eqGuard C3.v
      rw [if_neg (by decide)]
      show pureRun P (program >>= fun p => program >>= fun q => if (!p.eqGuardType q.depth t) = true then pure () else _) = _
      rw [pr_bind, pr_program, Option.bind_some, pr_bind, pr_program, Option.bind_some, hg]; rfl
    rw [pr_bind, g]
    show pureRun P (do pure (.bool (← Op.equal t a.v b.v)) : Sem Value) = _
    rw [pr_bind]
    show (pureRun P (Op.equalIn 10000 t a.v b.v)).bind _ = _
    rw [pr_equal_arr3 h]; rfl
  show cond (addrFree a.v && addrFree b.v && notIface a.v) (flatO (pureRun P (do eqGuard .eql t (.tmp 0) (.tmp 0) a.v b.v; binOp .eql t a.v b.v))) none = _
  rw [h1]; rfl
theorem binV_arr3_ne {t e : Nat} (h : Arr3 P t e) (hg : P.eqGuardType P.depth t = false) (a b : C3) : binV P .neq t a.v b.v = some (.bool (!decide (a = b))) := by
  have h1 : pureRun P (do eqGuard .neq t (.tmp 0) (.tmp 0) a.v b.v; binOp .neq t a.v b.v) = some (.bool (!decide (a = b))) := by
    have g : pureRun P (eqGuard .neq t (.tmp 0) (.tmp 0) a.v b.v) = some () := by
      unfold eqGuard C3.v
      rw [if_neg (by decide)]
      show pureRun P (program >>= fun p => program >>= fun q => if (!p.eqGuardType q.depth t) = true then pure () else _) = _
      rw [pr_bind, pr_program, Option.bind_some, pr_bind, pr_program, Option.bind_some, hg]; rfl
    rw [pr_bind, g]
    show pureRun P (do pure (.bool (!(← Op.equal t a.v b.v))) : Sem Value) = _
    rw [pr_bind]
    show (pureRun P (Op.equalIn 10000 t a.v b.v)).bind _ = _
    rw [pr_equal_arr3 h]; rfl
  show cond (addrFree a.v && addrFree b.v && notIface a.v) (flatO (pureRun P (do eqGuard .neq t (.tmp 0) (.tmp 0) a.v b.v; binOp .neq t a.v b.v))) none = _
  rw [h1]; rfl
abbrev MC := List (C3 × Value)
def mapC3 (mi : MC) : List (Value × Value) := mi.map fun p => (p.1.v, p.2)
def idxK3 (t : C3) : MC → Option Nat
  | [] => none
  | p :: mi => if t = p.1 then some 0 else (idxK3 t mi).map (· + 1)
def lookK3 (t : C3) : MC → Option Value
  | [] => none
  | p :: mi => if t = p.1 then some p.2 else lookK3 t mi
theorem findAsk_c {kt e : Nat} (h : Arr3 P kt e) (t : C3) : ∀ (mi : MC) (i : Nat), pureRun P (Instr.findAsking kt t.v (entOf ((mapC3 mi).map Prod.fst)) i) = some ((idxK3 t mi).map fun j => (i + j, undef))
  | [], i => rfl
  | p :: mi, i => by
    show pureRun P (do if ← Op.equal kt t.v p.1.v then pure (some (i, undef)) else Instr.findAsking kt t.v (entOf ((mapC3 mi).map Prod.fst)) (i + 1)) = _
    rw [pr_bind]
    show (pureRun P (Op.equalIn 10000 kt t.v p.1.v)).bind _ = _
    rw [pr_equal_arr3 h, Option.bind_some]
    by_cases hp : t = p.1
    · rw [decide_eq_true hp, if_pos rfl, idxK3, if_pos hp]; rfl
    · rw [decide_eq_false hp, if_neg (by decide), findAsk_c h t mi (i + 1), idxK3, if_neg hp]
      cases idxK3 t mi with
      | none => rfl
      | some j => show some (some (i + 1 + j, undef)) = some (some (i + (j + 1), undef)); rw [show i + 1 + j = i + (j + 1) by omega]
theorem keyIdx_c3 {kt ke : Nat} (h : Arr3 P kt ke) (e : Bool) (t : C3) (mi : MC) : keyIdx P e kt t.v ((mapC3 mi).map Prod.fst) = some (idxK3 t mi) := by
  unfold keyIdx
  rw [pr_bind]
  have h1 : pureRun P (Instr.checkKey e 10000 kt t.v) = some () := by
    show pureRun P (underlying kt >>= _) = _
    rw [pr_bind, pr_underlying h.ut, Option.bind_some]
    have h0 : pureRun P (part ke #[.int .i64 t.x, .int .i64 t.y, .int .i64 t.z] (0 * 1)) = some (.int .i64 t.x) := pr_part h.ue rfl
    have h1 : pureRun P (part ke #[.int .i64 t.x, .int .i64 t.y, .int .i64 t.z] (1 * 1)) = some (.int .i64 t.y) := pr_part h.ue rfl
    have h2 : pureRun P (part ke #[.int .i64 t.x, .int .i64 t.y, .int .i64 t.z] (2 * 1)) = some (.int .i64 t.z) := pr_part h.ue rfl
    have hk : ∀ z : Int, pureRun P (Instr.checkKey e 9999 ke (.int .i64 z)) = some () := fun z => by
      show pureRun P (underlying ke >>= _) = _
      rw [pr_bind, pr_underlying h.ue]; rfl
    show pureRun P (do for i in [0:3] do Instr.checkKey e 9999 ke (← part ke #[.int .i64 t.x, .int .i64 t.y, .int .i64 t.z] (i * (← sizeOf ke)))) = _
    simp only [Std.Legacy.Range.forIn_eq_forIn_range', Std.Legacy.Range.size, Nat.sub_zero, Nat.add_one_sub_one, Nat.div_one, List.range', List.forIn_cons, List.forIn_nil, pr_bind, pr_sizeOf h.se, Option.bind_some, h0, h1, h2, hk, pr_pure]
  rw [h1]
  show Option.map _ (pureRun P (underlying kt >>= _)) = _
  rw [pr_bind, pr_underlying h.ut, Option.bind_some]
  show Option.map _ (pureRun P (match Instr.findNow (.array 3 ke) t.v (entOf ((mapC3 mi).map Prod.fst)) 0 with | some r => pure r | none => Instr.findAsking kt t.v (entOf ((mapC3 mi).map Prod.fst)))) = _
  cases mi with
  | nil => rfl
  | cons p mi =>
    have hn : Instr.findNow (.array 3 ke) t.v (entOf ((mapC3 (p :: mi)).map Prod.fst)) 0 = none := rfl
    rw [hn]
    show Option.map _ (pureRun P (Instr.findAsking kt t.v (entOf ((mapC3 (p :: mi)).map Prod.fst)) 0)) = _
    rw [findAsk_c h t (p :: mi) 0]
    cases idxK3 t (p :: mi) with
    | none => rfl
    | some j => show some (some (0 + j)) = _; rw [Nat.zero_add]
section
variable {m : FM} {n b : Nat} {mi : MC} {kt ke : Nat}
theorem mapc_upd (hk : Arr3 P kt ke) (hb : b < n) (hm : m b = some (.map (mapC3 mi))) (t : C3) (hn : idxK3 t mi = none) (v : Value) :
    mapV P (.upd kt) [.map (some b), t.v, v] m n = .ok undef (AMem.put m b (some (.map (mapC3 (mi ++ [(t, v)]))))) n (bit b) (bit b) := by
  show updB P kt m n b t.v v (getb m n b) = _
  rw [getb_lt hb, hm]
  show putM m n b (updE t.v v (mapC3 mi) (keyIdx P false kt t.v ((mapC3 mi).map Prod.fst))) = _
  rw [keyIdx_c3 hk, hn]
  show OR.ok undef (AMem.put m b (some (.map (mapC3 mi ++ [(t.v, v)])))) n (bit b) (bit b) = _
  rw [mapC3, mapC3, List.map_append]; rfl
theorem mapc_mk : mapV P .mk [] m n = .ok (.map (some n)) (AMem.put m n (some (.map (mapC3 [])))) (n + 1) 0 (bit n) := rfl
end
end Go.Am
namespace Go.Am
open Go
def bt (s : ByteArray) (i : Nat) : Nat := (s.data.toList.getD i 0).toNat
section
variable {P : Program} {rec : Nat → List Value → FM → Nat → OR FM} {e : List Value} {m : FM} {n : Nat}
theorem t_pur (op : POp) (xs : List Opd) : stepA P rec e m n (.pur op xs) = valO m n (purV P op (evs e xs)) := rfl
end
end Go.Am
namespace Go.Am.C06
open Go Go.Am
variable {E : Nat → Option AFn} {Y : Nat → List Value → FM → Nat → OR FM}
abbrev Tab := List (List Int)
def tget (T : Tab) (a b : Nat) : Int := (T.getD a []).getD b 0
def square (T : Tab) (q : Nat) : Prop := T.length = q ∧ ∀ r ∈ T, r.length = q
theorem square.row {T : Tab} {q : Nat} (h : square T q) {a : Nat} (ha : a < q) : ∃ r, T[a]? = some r ∧ r.length = q ∧ T.getD a [] = r := by
  have hl : a < T.length := by rw [h.1]; exact ha
  exact ⟨T[a], List.getElem?_eq_getElem hl, h.2 _ (List.getElem_mem hl), by rw [List.getD_eq_getElem?_getD, List.getElem?_eq_getElem hl]; rfl⟩
def FieldM (m : FM) (n : Nat) (pv : Value) (q : Nat) (A M : Tab) : Prop :=
  ∃ b p sv mv, pv = .pointer (some ⟨b, 0, none⟩) ∧ b < n ∧ m b = some (.cells [.int .i64 (q : Int), .int .i64 p, sv, mv] 0 false true) ∧ Rows m n sv A ∧ Rows m n mv M ∧ square A q ∧ square M q
theorem FieldM.frame {m m' : FM} {n n' : Nat} {pv : Value} {q : Nat} {A M : Tab} (h : FieldM m n pv q A M) (hn : n ≤ n') (hf : ∀ b, b < n → m' b = m b) : FieldM m' n' pv q A M := by
  obtain ⟨b, p, sv, mv, h1, h2, h3, h4, h5, h6⟩ := h
  exact ⟨b, p, sv, mv, h1, by omega, (hf b h2).trans h3, h4.frame hn hf, h5.frame hn hf, h6⟩
theorem neq_ptr {P : Program} {t : Nat} (h : isPtrT P t = true) (a : Addr) : binV P .neq t (.pointer (some a)) (.pointer none) = some (.bool true) := by
  show cond (isPtrT P t) (nilBin .neq (some a : Option Addr).isNone) none = _
  rw [h]; rfl
theorem has_spec (hE : E 42 = some ac42) {m : FM} {n : Nat} {pv : Value} {q : Nat} {A M : Tab} (h : FieldM m n pv q A M) (a : Int) : Pure (callW PG E Y 42 [pv, .int .i64 a] m n) m n (.bool (decide (0 ≤ a) && decide (a < (q : Int)))) := by
  obtain ⟨b, p, sv, mv, rfl, h2, h3, _⟩ := h
  refine pure_spec hE rfl rfl ?_
  simp only [ac42]
  have hp := neq_ptr (P := PG) (t := 47) (by kernel_rfl) ⟨b, 0, none⟩
  by_cases h0 : 0 ≤ a
  · simp (implicitDefEqProofs := false) (disch := omega) only [WPs, opds, List.all_cons, List.all_nil, List.cons_append, List.nil_append, cond_true, cond_false, eq_self, List.map_cons, List.map_nil, Nat.reduceAdd, Nat.testBit, Nat.reduceShiftRight, Nat.reduceAnd, Nat.reduceBNe, Nat.reduceMul, hp, h3]
  · simp (implicitDefEqProofs := false) (disch := omega) only [WPs, opds, List.all_cons, List.all_nil, List.cons_append, List.nil_append, cond_true, cond_false, eq_self, List.map_cons, List.map_nil, Nat.reduceAdd, Nat.testBit, Nat.reduceShiftRight, Nat.reduceAnd, Nat.reduceBNe, Nat.reduceMul, hp, h3]
theorem Rows.cell2 {m : FM} {n : Nat} {v : Value} {T : Tab} {q : Nat} (h : Rows m n v T) (hs : square T q) {a b : Nat} (ha : a < q) (hb : b < q) :
    ∃ b1 o1 c1 p1 w1 x b2 o2 c2 p2 w2, idxV 1 a v = some (.pointer (some ⟨b1, o1, none⟩)) ∧ b1 < n ∧ m b1 = some (.cells c1 1 p1 w1) ∧ cget c1 o1 = some x ∧ idxV 1 b x = some (.pointer (some ⟨b2, o2, none⟩)) ∧ b2 < n ∧ m b2 = some (.cells c2 1 p2 w2) ∧ cget c2 o2 = some (.int .i64 (tget T a b)) := by
  obtain ⟨r, h1, h2, h3⟩ := hs.row ha
  have hal : a < T.length := by rw [hs.1]; exact ha
  have hr : T[a] = r := by rw [List.getElem?_eq_getElem hal] at h1; injection h1
  obtain ⟨b1, o1, c1, p1, w1, x, i1, i2, i3, i4, i5⟩ := h.cell hal
  rw [hr] at i5
  obtain ⟨b2, o2, c2, p2, w2, j1, j2, j3, j4⟩ := i5.cell (i := b) (by rw [h2]; exact hb)
  refine ⟨b1, o1, c1, p1, w1, x, b2, o2, c2, p2, w2, i1, i2, i3, i4, j1, j2, j3, ?_⟩
  rw [j4, tget, h3, List.getD_eq_getElem?_getD, List.getElem?_eq_getElem]; rfl
theorem add_spec (hE : E 30 = some ac30) (hH : E 42 = some ac42) {m : FM} {n : Nat} {pv : Value} {q : Nat} {A M : Tab} (h : FieldM m n pv q A M) {a b : Nat} (ha : a < q) (hb : b < q) : Pure (callW PG E Y 30 [pv, .int .i64 (a : Int), .int .i64 (b : Int)] m n) m n (.int .i64 (tget A a b)) := by
  have hh := h
  obtain ⟨bk, p, sv, mv, rfl, h2, h3, h4, h5, h6, h7⟩ := h
  obtain ⟨b1, o1, c1, p1, w1, x, b2, o2, c2, p2, w2, i1, i2, i3, i4, j1, j2, j3, j4⟩ := Rows.cell2 h4 h6 ha hb
  refine pure_spec hE rfl rfl ?_
  simp only [ac30]
  simp (implicitDefEqProofs := false) (disch := omega) only [WPs, opds, List.all_cons, List.all_nil, List.cons_append, List.nil_append, cond_true, cond_false, eq_self, List.map_cons, List.map_nil, Nat.reduceAdd, Nat.testBit, Nat.reduceShiftRight, Nat.reduceAnd, Nat.reduceBNe, Nat.reduceMul]
  refine use_pure (has_spec hH hh _) fun _ => ?_
  rw [decide_eq_true (show (0 : Int) ≤ (a : Int) by omega), decide_eq_true (show (a : Int) < (q : Int) by omega)]
  simp (implicitDefEqProofs := false) (disch := omega) only [WPs, opds, List.all_cons, List.all_nil, List.cons_append, List.nil_append, cond_true, cond_false, eq_self, List.map_cons, List.map_nil, Nat.reduceAdd, Nat.testBit, Nat.reduceShiftRight, Nat.reduceAnd, Nat.reduceBNe, Nat.reduceMul]
  refine use_pure (has_spec hH hh _) fun _ => ?_
  rw [decide_eq_true (show (0 : Int) ≤ (b : Int) by omega), decide_eq_true (show (b : Int) < (q : Int) by omega)]
  simp (implicitDefEqProofs := false) (disch := omega) only [WPs, opds, List.all_cons, List.all_nil, List.cons_append, List.nil_append, cond_true, cond_false, eq_self, List.map_cons, List.map_nil, Nat.reduceAdd, Nat.testBit, Nat.reduceShiftRight, Nat.reduceAnd, Nat.reduceBNe, Nat.reduceMul, h3, i1, i3, i4, j1, j3, j4, nilckV]
theorem mul_spec (hE : E 31 = some ac31) (hH : E 42 = some ac42) {m : FM} {n : Nat} {pv : Value} {q : Nat} {A M : Tab} (h : FieldM m n pv q A M) {a b : Nat} (ha : a < q) (hb : b < q) : Pure (callW PG E Y 31 [pv, .int .i64 (a : Int), .int .i64 (b : Int)] m n) m n (.int .i64 (tget M a b)) := by
  have hh := h
  obtain ⟨bk, p, sv, mv, rfl, h2, h3, h4, h5, h6, h7⟩ := h
  obtain ⟨b1, o1, c1, p1, w1, x, b2, o2, c2, p2, w2, i1, i2, i3, i4, j1, j2, j3, j4⟩ := Rows.cell2 h5 h7 ha hb
  refine pure_spec hE rfl rfl ?_
  simp only [ac31]
  simp (implicitDefEqProofs := false) (disch := omega) only [WPs, opds, List.all_cons, List.all_nil, List.cons_append, List.nil_append, cond_true, cond_false, eq_self, List.map_cons, List.map_nil, Nat.reduceAdd, Nat.testBit, Nat.reduceShiftRight, Nat.reduceAnd, Nat.reduceBNe, Nat.reduceMul]
  refine use_pure (has_spec hH hh _) fun _ => ?_
  rw [decide_eq_true (show (0 : Int) ≤ (a : Int) by omega), decide_eq_true (show (a : Int) < (q : Int) by omega)]
  simp (implicitDefEqProofs := false) (disch := omega) only [WPs, opds, List.all_cons, List.all_nil, List.cons_append, List.nil_append, cond_true, cond_false, eq_self, List.map_cons, List.map_nil, Nat.reduceAdd, Nat.testBit, Nat.reduceShiftRight, Nat.reduceAnd, Nat.reduceBNe, Nat.reduceMul]
  refine use_pure (has_spec hH hh _) fun _ => ?_
  rw [decide_eq_true (show (0 : Int) ≤ (b : Int) by omega), decide_eq_true (show (b : Int) < (q : Int) by omega)]
  simp (implicitDefEqProofs := false) (disch := omega) only [WPs, opds, List.all_cons, List.all_nil, List.cons_append, List.nil_append, cond_true, cond_false, eq_self, List.map_cons, List.map_nil, Nat.reduceAdd, Nat.testBit, Nat.reduceShiftRight, Nat.reduceAnd, Nat.reduceBNe, Nat.reduceMul, h3, i1, i3, i4, j1, j3, j4, nilckV]
def findI (x : Int) : List Int → Nat → Int
  | [], _ => -1
  | y :: l, i => if y = x then (i : Int) else findI x l (i + 1)
theorem index_L0 {m : FM} {n : Nat} {lv : Value} {xs : List Int} (h : Ints m n lv xs) (hs : xs.length < 1000000) (x : Int) (y2 y4 : Value) {R : Int} {Q : AX → List Value → FM → Nat → Nat → Prop}
    (hQ0 : R = -1 → ∀ e, Q (.exit 0) e m n 0) (hQ1 : ∀ e, Q (.ret (.int .i64 R)) e m n 0) :
    ∀ d j, j + d = xs.length → ∀ y0, findI x (xs.drop j) j = R → Gv (execW PG E Y ac51L0 [y0, .int .i64 (j : Int), y2, .int .i64 (xs.length : Int), y4, lv, .int .i64 x] m n) Q := by
  intro d
  induction d with
  | zero =>
    intro j hj y0 hR
    obtain rfl : j = xs.length := by omega
    rw [List.drop_length] at hR
    refine wr_loopN (L := ac51L0) (b := ac51L0b) rfl ?_
    simp only [ac51L0b]
    simp (implicitDefEqProofs := false) (disch := omega) only [WPs, opds, List.all_cons, List.all_nil, List.cons_append, List.nil_append, cond_true, cond_false, eq_self, List.map_cons, List.map_nil, Nat.reduceAdd, Nat.testBit, Nat.reduceShiftRight, Nat.reduceAnd, Nat.reduceBNe, Nat.reduceMul]
    exact hQ0 hR.symm _
  | succ d ih =>
    intro j hj y0 hR
    have hjl : j < xs.length := by omega
    obtain ⟨b, o, c, p, w, i1, i2, i3, i4⟩ := h.cell hjl
    rw [List.drop_eq_getElem_cons hjl, findI] at hR
    refine wr_loopN (L := ac51L0) (b := ac51L0b) rfl ?_
    simp only [ac51L0b]
    by_cases he : xs[j] = x
    · rw [if_pos he] at hR
      subst hR
      simp (implicitDefEqProofs := false) (disch := omega) only [WPs, opds, List.all_cons, List.all_nil, List.cons_append, List.nil_append, cond_true, cond_false, eq_self, List.map_cons, List.map_nil, Nat.reduceAdd, Nat.testBit, Nat.reduceShiftRight, Nat.reduceAnd, Nat.reduceBNe, Nat.reduceMul, i1, i3, i4, he]
      exact hQ1 _
    · rw [if_neg he] at hR
      simp (implicitDefEqProofs := false) (disch := omega) only [WPs, opds, List.all_cons, List.all_nil, List.cons_append, List.nil_append, cond_true, cond_false, eq_self, List.map_cons, List.map_nil, Nat.reduceAdd, Nat.testBit, Nat.reduceShiftRight, Nat.reduceAnd, Nat.reduceBNe, Nat.reduceMul, i1, i3, i4, decide_eq_false (fun e => he e.symm : ¬ x = xs[j])]
      exact wr_end (ih (j + 1) (by omega) _ hR) fun X e m n w hq => by simpa only [zero_lor'] using hq
theorem index_spec (hE : E 51 = some ac51) {m : FM} {n : Nat} {lv : Value} {xs : List Int} (h : Ints m n lv xs) (hs : xs.length < 1000000) (x : Int) : Pure (callW PG E Y 51 [lv, .int .i64 x] m n) m n (.int .i64 (findI x xs 0)) := by
  refine pure_spec hE rfl rfl ?_
  simp only [ac51]
  simp (implicitDefEqProofs := false) (disch := omega) only [WPs, opds, List.all_cons, List.all_nil, List.cons_append, List.nil_append, cond_true, cond_false, eq_self, List.map_cons, List.map_nil, Nat.reduceAdd, Nat.testBit, Nat.reduceShiftRight, Nat.reduceAnd, Nat.reduceBNe, Nat.reduceMul, h.len]
  refine wr_kont (index_L0 h hs x _ _ (R := findI x xs 0) (fun hR e rr => ?_) (fun e rr => ?_) xs.length 0 (by omega) _ rfl)
  · simp (implicitDefEqProofs := false) (disch := omega) only [WPs, opds, List.all_cons, List.all_nil, List.cons_append, List.nil_append, cond_true, cond_false, eq_self, List.map_cons, List.map_nil, Nat.reduceAdd, Nat.testBit, Nat.reduceShiftRight, Nat.reduceAnd, Nat.reduceBNe, Nat.reduceMul]
    rw [hR]
  · simp (implicitDefEqProofs := false) (disch := omega) only [WPs, opds, List.all_cons, List.all_nil, List.cons_append, List.nil_append, cond_true, cond_false, eq_self, List.map_cons, List.map_nil, Nat.reduceAdd, Nat.testBit, Nat.reduceShiftRight, Nat.reduceAnd, Nat.reduceBNe, Nat.reduceMul]
theorem Rows.row {m : FM} {n : Nat} {v : Value} {T : Tab} {q : Nat} (h : Rows m n v T) (hs : square T q) {a : Nat} (ha : a < q) :
    ∃ b1 o1 c1 p1 w1 x, idxV 1 a v = some (.pointer (some ⟨b1, o1, none⟩)) ∧ b1 < n ∧ m b1 = some (.cells c1 1 p1 w1) ∧ cget c1 o1 = some x ∧ Ints m n x (T.getD a []) ∧ (T.getD a []).length = q := by
  obtain ⟨r, h1, h2, h3⟩ := hs.row ha
  have hal : a < T.length := by rw [hs.1]; exact ha
  have hr : T[a] = r := by rw [List.getElem?_eq_getElem hal] at h1; injection h1
  obtain ⟨b1, o1, c1, p1, w1, x, i1, i2, i3, i4, i5⟩ := h.cell hal
  rw [hr] at i5
  exact ⟨b1, o1, c1, p1, w1, x, i1, i2, i3, i4, by rw [h3]; exact i5, by rw [h3]; exact h2⟩
theorem inv_spec (hE : E 46 = some ac46) (hH : E 42 = some ac42) (hI : E 51 = some ac51) {m : FM} {n : Nat} {pv : Value} {q : Nat} {A M : Tab} (h : FieldM m n pv q A M) (hq : q < 1000) {a : Nat} (ha : a < q) : Pure (callW PG E Y 46 [pv, .int .i64 (a : Int)] m n) m n (.int .i64 (findI 1 (M.getD a []) 0)) := by
  have hh := h
  obtain ⟨bk, p, sv, mv, rfl, h2, h3, h4, h5, h6, h7⟩ := h
  obtain ⟨b1, o1, c1, p1, w1, x, i1, i2, i3, i4, i5, i6⟩ := Rows.row h5 h7 ha
  refine pure_spec hE rfl rfl ?_
  simp only [ac46]
  simp (implicitDefEqProofs := false) (disch := omega) only [WPs, opds, List.all_cons, List.all_nil, List.cons_append, List.nil_append, cond_true, cond_false, eq_self, List.map_cons, List.map_nil, Nat.reduceAdd, Nat.testBit, Nat.reduceShiftRight, Nat.reduceAnd, Nat.reduceBNe, Nat.reduceMul]
  refine use_pure (has_spec hH hh _) fun _ => ?_
  rw [decide_eq_true (show (0 : Int) ≤ (a : Int) by omega), decide_eq_true (show (a : Int) < (q : Int) by omega)]
  simp (implicitDefEqProofs := false) (disch := omega) only [WPs, opds, List.all_cons, List.all_nil, List.cons_append, List.nil_append, cond_true, cond_false, eq_self, List.map_cons, List.map_nil, Nat.reduceAdd, Nat.testBit, Nat.reduceShiftRight, Nat.reduceAnd, Nat.reduceBNe, Nat.reduceMul, h3, i1, i3, i4, nilckV]
  refine use_pure (index_spec hI i5 (by omega) _) fun _ => ?_
  simp (implicitDefEqProofs := false) (disch := omega) only [WPs, opds, List.all_cons, List.all_nil, List.cons_append, List.nil_append, cond_true, cond_false, eq_self, List.map_cons, List.map_nil, Nat.reduceAdd, Nat.testBit, Nat.reduceShiftRight, Nat.reduceAnd, Nat.reduceBNe, Nat.reduceMul]
end Go.Am.C06
namespace Go.Am.C06
open Go Go.Am
variable {E : Nat → Option AFn} {Y : Nat → List Value → FM → Nat → OR FM}
def findN : List Int → Nat → Int
  | [], _ => -1
  | y :: l, i => if y = 0 then findN l (i + 1) else (i : Int)
theorem nz_spec (hE : E 45 = some ac45) (m : FM) (n : Nat) (x : Int) : Pure (callW PG E Y 45 [.int .i64 x] m n) m n (.bool (!decide (x = 0))) := by
  refine pure_spec hE rfl rfl ?_
  simp only [ac45]
  simp (implicitDefEqProofs := false) (disch := omega) only [WPs, opds, List.all_cons, List.all_nil, List.cons_append, List.nil_append, cond_true, cond_false, eq_self, List.map_cons, List.map_nil, Nat.reduceAdd, Nat.testBit, Nat.reduceShiftRight, Nat.reduceAnd, Nat.reduceBNe, Nat.reduceMul]
theorem idxF_L0 (h45 : E 45 = some ac45) {m : FM} {n b : Nat} {xs : List Int} (hb : b < n) (hm : m b = some (.cells (xs.map (Value.int .i64)) 0 false true)) (hs : xs.length < 1000000) (y2 y4 : Value) {R : Int} {Q : AX → List Value → FM → Nat → Nat → Prop}
    (hQ0 : R = -1 → ∀ e, Q (.exit 0) e m n 0) (hQ1 : ∀ e, Q (.ret (.int .i64 R)) e m n 0) :
    ∀ d j, j + d = xs.length → ∀ y0, findN (xs.drop j) j = R → Gv (execW PG E Y ac44L0 [y0, .int .i64 (j : Int), y2, .int .i64 (xs.length : Int), y4, .slice (some ⟨b, 0, none⟩) xs.length xs.length, .func (.func 45) #[] #[]] m n) Q := by
  intro d
  induction d with
  | zero =>
    intro j hj y0 hR
    obtain rfl : j = xs.length := by omega
    rw [List.drop_length] at hR
    refine wr_loopN (L := ac44L0) (b := ac44L0b) rfl ?_
    simp only [ac44L0b]
    simp (implicitDefEqProofs := false) (disch := omega) only [WPs, opds, List.all_cons, List.all_nil, List.cons_append, List.nil_append, cond_true, cond_false, eq_self, List.map_cons, List.map_nil, Nat.reduceAdd, Nat.testBit, Nat.reduceShiftRight, Nat.reduceAnd, Nat.reduceBNe, Nat.reduceMul]
    exact hQ0 hR.symm _
  | succ d ih =>
    intro j hj y0 hR
    have hjl : j < xs.length := by omega
    have hc : cget (xs.map (Value.int .i64)) j = some (.int .i64 xs[j]) := by rw [cget_eq, List.getElem?_map, List.getElem?_eq_getElem hjl]; rfl
    rw [List.drop_eq_getElem_cons hjl, findN] at hR
    refine wr_loopN (L := ac44L0) (b := ac44L0b) rfl ?_
    simp only [ac44L0b]
    simp (implicitDefEqProofs := false) (disch := omega) only [WPs, opds, List.all_cons, List.all_nil, List.cons_append, List.nil_append, cond_true, cond_false, eq_self, List.map_cons, List.map_nil, Nat.reduceAdd, Nat.testBit, Nat.reduceShiftRight, Nat.reduceAnd, Nat.reduceBNe, Nat.reduceMul, hm, hc, s_callv, callv_mk]
    refine use_pure (nz_spec h45 _ _ _) fun _ => ?_
    by_cases he : xs[j] = 0
    · rw [if_pos he] at hR
      simp (implicitDefEqProofs := false) (disch := omega) only [WPs, opds, List.all_cons, List.all_nil, List.cons_append, List.nil_append, cond_true, cond_false, eq_self, List.map_cons, List.map_nil, Nat.reduceAdd, Nat.testBit, Nat.reduceShiftRight, Nat.reduceAnd, Nat.reduceBNe, Nat.reduceMul, he]
      exact wr_end (ih (j + 1) (by omega) _ hR) fun X e m n w hq => by simpa only [zero_lor'] using hq
    · rw [if_neg he] at hR
      subst hR
      simp (implicitDefEqProofs := false) (disch := omega) only [WPs, opds, List.all_cons, List.all_nil, List.cons_append, List.nil_append, cond_true, cond_false, eq_self, List.map_cons, List.map_nil, Nat.reduceAdd, Nat.testBit, Nat.reduceShiftRight, Nat.reduceAnd, Nat.reduceBNe, Nat.reduceMul, decide_eq_false he]
      exact hQ1 _
theorem idxF_spec (hE : E 44 = some ac44) (h45 : E 45 = some ac45) {m : FM} {n b : Nat} {xs : List Int} (hb : b < n) (hm : m b = some (.cells (xs.map (Value.int .i64)) 0 false true)) (hs : xs.length < 1000000) : Pure (callW PG E Y 44 [.slice (some ⟨b, 0, none⟩) xs.length xs.length, .func (.func 45) #[] #[]] m n) m n (.int .i64 (findN xs 0)) := by
  refine pure_spec hE rfl rfl ?_
  simp only [ac44]
  simp (implicitDefEqProofs := false) (disch := omega) only [WPs, opds, List.all_cons, List.all_nil, List.cons_append, List.nil_append, cond_true, cond_false, eq_self, List.map_cons, List.map_nil, Nat.reduceAdd, Nat.testBit, Nat.reduceShiftRight, Nat.reduceAnd, Nat.reduceBNe, Nat.reduceMul]
  refine wr_kont (idxF_L0 h45 hb hm hs _ _ (R := findN xs 0) (fun hR e rr => ?_) (fun e rr => ?_) xs.length 0 (by omega) _ rfl)
  · simp (implicitDefEqProofs := false) (disch := omega) only [WPs, opds, List.all_cons, List.all_nil, List.cons_append, List.nil_append, cond_true, cond_false, eq_self, List.map_cons, List.map_nil, Nat.reduceAdd, Nat.testBit, Nat.reduceShiftRight, Nat.reduceAnd, Nat.reduceBNe, Nat.reduceMul]
    rw [hR]
  · simp (implicitDefEqProofs := false) (disch := omega) only [WPs, opds, List.all_cons, List.all_nil, List.cons_append, List.nil_append, cond_true, cond_false, eq_self, List.map_cons, List.map_nil, Nat.reduceAdd, Nat.testBit, Nat.reduceShiftRight, Nat.reduceAnd, Nat.reduceBNe, Nat.reduceMul]
end Go.Am.C06
namespace Go.Am.C06
open Go Go.Am
variable {E : Nat → Option AFn} {Y : Nat → List Value → FM → Nat → OR FM}
theorem wr_unroll {P : Program} {K : List Frm} {w0 : Nat} {Q : AX → List Value → FM → Nat → Nat → Prop} {e : List Value} {m : FM} {n : Nat} {L b : AC} {sh : List (List Nat)} (hL : L = .loop sh b) (h : Wr P E Y (.sq L :: K) w0 (execW P E Y b e m n) Q) : Wr P E Y K w0 (execW P E Y L e m n) Q := by
  subst hL
  rw [w_loop]
  exact h
structure P3 where
  x : Nat
  y : Nat
  z : Nat
  deriving DecidableEq
def P3.c (p : P3) : C3 := ⟨p.x, p.y, p.z⟩
def P3.cells (p : P3) : List Value := [.int .i64 (p.x : Int), .int .i64 (p.y : Int), .int .i64 (p.z : Int)]
def P3.lt (p : P3) (q : Nat) : Prop := p.x < q ∧ p.y < q ∧ p.z < q
structure GoodT (q : Nat) (A M : Tab) : Prop where
  small : q < 1000
  add : ∀ a b, a < q → b < q → ∃ c : Nat, tget A a b = (c : Int) ∧ c < q
  mul : ∀ a b, a < q → b < q → ∃ c : Nat, tget M a b = (c : Int) ∧ c < q
  inv : ∀ a, 0 < a → a < q → ∃ c : Nat, findI 1 (M.getD a []) 0 = (c : Int) ∧ c < q
  neg : ∀ a, a < q → ∃ c : Nat, findI 0 (A.getD a []) 0 = (c : Int) ∧ c < q
def addN (A : Tab) (a b : Nat) : Nat := (tget A a b).toNat
def invN (M : Tab) (a : Nat) : Nat := (findI 1 (M.getD a []) 0).toNat
def negN (A : Tab) (a : Nat) : Nat := (findI 0 (A.getD a []) 0).toNat
theorem GoodT.addE {q : Nat} {A M : Tab} (h : GoodT q A M) {a b : Nat} (ha : a < q) (hb : b < q) : tget A a b = (addN A a b : Int) ∧ addN A a b < q := by
  obtain ⟨c, h1, h2⟩ := h.add a b ha hb
  unfold addN; rw [h1]; exact ⟨rfl, h2⟩
theorem GoodT.mulE {q : Nat} {A M : Tab} (h : GoodT q A M) {a b : Nat} (ha : a < q) (hb : b < q) : tget M a b = (addN M a b : Int) ∧ addN M a b < q := by
  obtain ⟨c, h1, h2⟩ := h.mul a b ha hb
  unfold addN; rw [h1]; exact ⟨rfl, h2⟩
theorem GoodT.invE {q : Nat} {A M : Tab} (h : GoodT q A M) {a : Nat} (h0 : 0 < a) (ha : a < q) : findI 1 (M.getD a []) 0 = (invN M a : Int) ∧ invN M a < q := by
  obtain ⟨c, h1, h2⟩ := h.inv a h0 ha
  unfold invN; rw [h1]; exact ⟨rfl, h2⟩
def scaleP (M : Tab) (k : Nat) (p : P3) : P3 := ⟨addN M p.x k, addN M p.y k, addN M p.z k⟩
def leadP (p : P3) : Nat := if p.x ≠ 0 then p.x else if p.y ≠ 0 then p.y else p.z
def normP (M : Tab) (p : P3) : P3 := if leadP p = 0 then p else scaleP M (invN M (leadP p)) p
def SpaceP (m : FM) (n : Nat) (sv : Value) (q : Nat) (A M : Tab) : Prop :=
  ∃ b pf x y, sv = .pointer (some ⟨b, 0, none⟩) ∧ b < n ∧ m b = some (.cells [pf, x, y] 0 false true) ∧ FieldM m n pf q A M
theorem SpaceP.frame {m m' : FM} {n n' : Nat} {sv : Value} {q : Nat} {A M : Tab} (h : SpaceP m n sv q A M) (hn : n ≤ n') (hf : ∀ b, b < n → m' b = m b) : SpaceP m' n' sv q A M := by
  obtain ⟨b, pf, x, y, h1, h2, h3, h4⟩ := h
  exact ⟨b, pf, x, y, h1, by omega, (hf b h2).trans h3, h4.frame hn hf⟩
theorem FieldM.bel {m : FM} {n : Nat} {pv : Value} {q : Nat} {A M : Tab} (h : FieldM m n pv q A M) (N : Nat) (hN : n ≤ N) : belowV N pv = true := by
  obtain ⟨b, p, sv, mv, rfl, h2, _⟩ := h
  exact blt_true (show b < N by omega)
theorem t_arrs3 {P : Program} (b o : Nat) : purV P (.arrs 3) [.pointer (some ⟨b, o, none⟩)] = some (.slice (some ⟨b, o, none⟩) 3 3) := rfl
theorem lead_at (p : P3) : (leadP p = 0 ∧ findN [(p.x : Int), p.y, p.z] 0 = -1) ∨ (0 < leadP p ∧ ∃ i : Nat, i < 3 ∧ findN [(p.x : Int), p.y, p.z] 0 = (i : Int) ∧ cget p.cells i = some (.int .i64 (leadP p : Int))) := by
  obtain ⟨x, y, z⟩ := p
  unfold leadP P3.cells
  simp only [findN]
  by_cases hx : x = 0
  · by_cases hy : y = 0
    · by_cases hz : z = 0
      · left; simp [hx, hy, hz]
      · right
        refine ⟨by simp [hx, hy]; omega, 2, by omega, ?_, ?_⟩
        · simp [hx, hy, hz]
        · simp [hx, hy]; rfl
    · right
      refine ⟨by simp [hx, hy]; omega, 1, by omega, ?_, ?_⟩
      · simp [hx, hy]
      · simp [hx, hy]; rfl
  · right
    refine ⟨by simp [hx]; omega, 0, by omega, ?_, ?_⟩
    · simp [hx]
    · simp [hx]; rfl
theorem normal_spec (hE : E 33 = some ac33) (h44 : E 44 = some ac44) (h45 : E 45 = some ac45) (h46 : E 46 = some ac46) (h42 : E 42 = some ac42) (h51 : E 51 = some ac51) (h31 : E 31 = some ac31) {m : FM} {n : Nat} {sv : Value} {q : Nat} {A M : Tab} (h : SpaceP m n sv q A M) (hg : GoodT q A M) {p : P3} (hp : p.lt q) : Pure (callW PG E Y 33 [sv, .agg p.cells.toArray] m n) m n (.agg (normP M p).cells.toArray) := by
  obtain ⟨x, y, z⟩ := p
  obtain ⟨hx, hy, hz⟩ := hp
  simp only at hx hy hz
  obtain ⟨sb, pf, sx, sy, rfl, s1, s2, s3⟩ := h
  refine pure_spec hE rfl rfl ?_
  simp only [ac33, P3.cells]
  have fzn : Nat.mod (bit n) (bit n) = 0 := frz_bit (Nat.le_refl _)
  have fzn1 : Nat.mod (bit (n + 1)) (bit n) = 0 := frz_bit (by omega)
  simp (implicitDefEqProofs := false) (disch := omega) only [WPs, opds, List.all_cons, List.all_nil, List.cons_append, List.nil_append, cond_true, cond_false, eq_self, List.map_cons, List.map_nil, Nat.reduceAdd, Nat.testBit, Nat.reduceShiftRight, Nat.reduceAnd, Nat.reduceBNe, Nat.reduceMul, t_pur]
  generalize hM1 : (AMem.put (AMem.put m n (some (.cells [.int .i64 (x : Int), .int .i64 (y : Int), .int .i64 (z : Int)] 0 false true))) (n + 1) (some (.cells [.int .i64 0, .int .i64 0, .int .i64 0] 0 false true)) : FM) = M1
  have b1 : M1 n = some (.cells ([(x : Int), y, z].map (Value.int .i64)) 0 false true) := by rw [← hM1, fput_ne _ _ _ _ (by omega)]; exact fput_same _ _ _
  have b1' : M1 n = some (.cells [.int .i64 (x : Int), .int .i64 (y : Int), .int .i64 (z : Int)] 0 false true) := b1
  have b2 : M1 (n + 1) = some (.cells [.int .i64 0, .int .i64 0, .int .i64 0] 0 false true) := by rw [← hM1]; exact fput_same _ _ _
  have bl : ∀ b, b < n → M1 b = m b := fun b hb => by rw [← hM1, fput_ne _ _ _ _ (by omega), fput_ne _ _ _ _ (by omega)]
  have bs : M1 sb = some (.cells [pf, sx, sy] 0 false true) := (bl sb s1).trans s2
  have hF : FieldM M1 (n + 2) pf q A M := s3.frame (by omega) bl
  have h3 := idxF_spec (Y := Y) h44 h45 (m := M1) (n := n + 2) (b := n) (xs := [(x : Int), y, z]) (by omega) b1 (by simp)
  simp (implicitDefEqProofs := false) (disch := omega) only [WPs, opds, List.all_cons, List.all_nil, List.cons_append, List.nil_append, cond_true, cond_false, eq_self, List.map_cons, List.map_nil, Nat.reduceAdd, Nat.testBit, Nat.reduceShiftRight, Nat.reduceAnd, Nat.reduceBNe, Nat.reduceMul, t_arrs3]
  refine use_pure h3 fun _ => ?_
  rcases lead_at ⟨x, y, z⟩ with ⟨l0, l1⟩ | ⟨l0, i, hi, l1, l2⟩
  · replace l1 : findN [(x : Int), y, z] 0 = -1 := l1
    have hN : normP M ⟨x, y, z⟩ = ⟨x, y, z⟩ := by rw [normP, if_pos l0]
    rw [hN]
    simp (implicitDefEqProofs := false) (disch := omega) only [WPs, opds, List.all_cons, List.all_nil, List.cons_append, List.nil_append, cond_true, cond_false, eq_self, List.map_cons, List.map_nil, Nat.reduceAdd, Nat.testBit, Nat.reduceShiftRight, Nat.reduceAnd, Nat.reduceBNe, Nat.reduceMul, l1, b1', b2]
  · replace l1 : findN [(x : Int), y, z] 0 = (i : Int) := l1
    replace l2 : cget [.int .i64 (x : Int), .int .i64 (y : Int), .int .i64 (z : Int)] i = some (.int .i64 (leadP ⟨x, y, z⟩ : Int)) := l2
    have hN : normP M ⟨x, y, z⟩ = scaleP M (invN M (leadP ⟨x, y, z⟩)) ⟨x, y, z⟩ := by rw [normP, if_neg (by omega)]
    rw [hN]
    have hlt : leadP ⟨x, y, z⟩ < q := by
      unfold leadP
      simp only
      split
      · exact hx
      · split
        · exact hy
        · exact hz
    generalize leadP ⟨x, y, z⟩ = k at *
    obtain ⟨e1, e2⟩ := hg.invE l0 hlt
    have hbp := hF.bel (n + 2) (Nat.le_refl _)
    simp (implicitDefEqProofs := false) (disch := omega) only [WPs, opds, List.all_cons, List.all_nil, List.cons_append, List.nil_append, cond_true, cond_false, eq_self, List.map_cons, List.map_nil, Nat.reduceAdd, Nat.testBit, Nat.reduceShiftRight, Nat.reduceAnd, Nat.reduceBNe, Nat.reduceMul, l1, l2, b1', b2, bs, nilckV, hbp]
    refine use_pureX (inv_spec h46 h42 h51 hF hg.small hlt) fun _ => ?_
    rw [e1]
    generalize invN M k = u at *
    obtain ⟨x1, x2⟩ := hg.mulE hx e2
    obtain ⟨y1, y2⟩ := hg.mulE hy e2
    obtain ⟨z1, z2⟩ := hg.mulE hz e2
    simp (implicitDefEqProofs := false) (disch := omega) only [WPs, opds, List.all_cons, List.all_nil, List.cons_append, List.nil_append, cond_true, cond_false, eq_self, List.map_cons, List.map_nil, Nat.reduceAdd, Nat.testBit, Nat.reduceShiftRight, Nat.reduceAnd, Nat.reduceBNe, Nat.reduceMul]
    refine wr_unroll (L := ac33L0) (b := ac33L0b) rfl ?_
    simp only [ac33L0b]
    simp (implicitDefEqProofs := false) (disch := omega) only [WPs, opds, List.all_cons, List.all_nil, List.cons_append, List.nil_append, cond_true, cond_false, eq_self, List.map_cons, List.map_nil, Nat.reduceAdd, Nat.testBit, Nat.reduceShiftRight, Nat.reduceAnd, Nat.reduceBNe, Nat.reduceMul, bs, nilckV, b1', hbp]
    refine use_pureX (mul_spec h31 h42 hF hx e2) fun _ => ?_
    rw [x1]
    simp (implicitDefEqProofs := false) (disch := omega) only [WPs, opds, List.all_cons, List.all_nil, List.cons_append, List.nil_append, cond_true, cond_false, eq_self, List.map_cons, List.map_nil, Nat.reduceAdd, Nat.testBit, Nat.reduceShiftRight, Nat.reduceAnd, Nat.reduceBNe, Nat.reduceMul, b1']
    have i01 : (0 : Int) + 1 = 1 := rfl
    have i12 : (1 : Int) + 1 = 2 := rfl
    have i23 : (2 : Int) + 1 = 3 := rfl
    have c2 : ∀ (w : Value), (AMem.put M1 n (some (.cells [w, .int .i64 (y : Int), .int .i64 (z : Int)] 0 false true)) : FM) n = some (.cells [w, .int .i64 (y : Int), .int .i64 (z : Int)] 0 false true) := fun _ => fput_same _ _ _
    have bs2 : ∀ (B : Option Blk), (AMem.put M1 n B : FM) sb = some (.cells [pf, sx, sy] 0 false true) := fun B => by rw [fput_ne _ _ _ _ (by omega)]; exact bs
    have hF2 : ∀ (B : Option Blk), FieldM (AMem.put M1 n B) (n + 2) pf q A M := fun B => s3.frame (by omega) fun b hb => by rw [fput_ne _ _ _ _ (by omega)]; exact bl b hb
    refine wr_unroll (L := ac33L0) (b := ac33L0b) rfl ?_
    simp only [ac33L0b]
    simp (implicitDefEqProofs := false) (disch := omega) only [WPs, opds, List.all_cons, List.all_nil, List.cons_append, List.nil_append, cond_true, cond_false, eq_self, List.map_cons, List.map_nil, Nat.reduceAdd, Nat.testBit, Nat.reduceShiftRight, Nat.reduceAnd, Nat.reduceBNe, Nat.reduceMul, bs2, nilckV, c2, hbp, i01]
    refine use_pureX (mul_spec h31 h42 (hF2 _) hy e2) fun _ => ?_
    rw [y1]
    simp (implicitDefEqProofs := false) (disch := omega) only [WPs, opds, List.all_cons, List.all_nil, List.cons_append, List.nil_append, cond_true, cond_false, eq_self, List.map_cons, List.map_nil, Nat.reduceAdd, Nat.testBit, Nat.reduceShiftRight, Nat.reduceAnd, Nat.reduceBNe, Nat.reduceMul, c2]
    refine wr_unroll (L := ac33L0) (b := ac33L0b) rfl ?_
    simp only [ac33L0b]
    simp (implicitDefEqProofs := false) (disch := omega) only [WPs, opds, List.all_cons, List.all_nil, List.cons_append, List.nil_append, cond_true, cond_false, eq_self, List.map_cons, List.map_nil, Nat.reduceAdd, Nat.testBit, Nat.reduceShiftRight, Nat.reduceAnd, Nat.reduceBNe, Nat.reduceMul, bs2, nilckV, hbp, i12]
    refine use_pureX (mul_spec h31 h42 (hF2 _) hz e2) fun _ => ?_
    rw [z1]
    simp (implicitDefEqProofs := false) (disch := omega) only [WPs, opds, List.all_cons, List.all_nil, List.cons_append, List.nil_append, cond_true, cond_false, eq_self, List.map_cons, List.map_nil, Nat.reduceAdd, Nat.testBit, Nat.reduceShiftRight, Nat.reduceAnd, Nat.reduceBNe, Nat.reduceMul]
    refine wr_unroll (L := ac33L0) (b := ac33L0b) rfl ?_
    simp only [ac33L0b]
    have b22 : ∀ (B : Option Blk), (AMem.put M1 n B : FM) (n + 1) = some (.cells [.int .i64 0, .int .i64 0, .int .i64 0] 0 false true) := fun B => by rw [fput_ne _ _ _ _ (by omega)]; exact b2
    simp (implicitDefEqProofs := false) (disch := omega) only [WPs, opds, List.all_cons, List.all_nil, List.cons_append, List.nil_append, cond_true, cond_false, eq_self, List.map_cons, List.map_nil, Nat.reduceAdd, Nat.testBit, Nat.reduceShiftRight, Nat.reduceAnd, Nat.reduceBNe, Nat.reduceMul, b22, i23]
    rfl
end Go.Am.C06
namespace Go.Am.C06
open Go Go.Am Go.Am.V
set_option maxRecDepth 1000000
theorem mix : Proofs.Try.prog.follows .mixedOrders = true := by kernel_rfl
theorem env6 : Env Proofs.Try.prog tab Y5 Yf5 where
  mix := mix
  good := good
  small := by kernel_rfl
  loc := Y5_loc
  sim := Y5_sim
  fast := Yf5_sim
  apart := by
    intro f fn h args m n
    show cond (Nat.beq f 48) (elemY m n args) .no = .no
    cases hb : Nat.beq f 48
    · rfl
    · obtain rfl := Nat.eq_of_beq_eq_true hb
      have h0 : look tab 48 = none := by kernel_rfl
      rw [h0] at h; cases h
def fBs (q p : Nat) (A T : Tab) : List FBlk := ⟨[.i (Int.ofNat q), .i (Int.ofNat p), .s 1 0 q UNK, .s 2 0 q UNK], 0, false, true⟩ :: ⟨(List.range q).map (fun i => FV.s (i + 3) 0 q UNK), 1, true, true⟩ :: ⟨(List.range q).map (fun i => FV.s (i + (3 + q)) 0 q UNK), 1, true, true⟩ :: (A ++ T).map (fun row => ⟨row.map FV.i, 1, true, true⟩)
def fM (q p : Nat) (A T : Tab) (pi : List Nat) : Memo := { f := 29, args := [.int .i64 (Int.ofNat q)], rs := [.p 0 0, .i (Int.ofNat 0)], bs := fBs q p A T, pi := pi }
def A2 : Tab := [[0, 1], [1, 0]]
def T2 : Tab := [[0, 0], [0, 1]]
theorem fit2 : fitsB (fM 2 2 A2 T2 [10, 32, 34, 16, 28, 18, 30]) (fcall Proofs.Try.prog (Fast.treeOf tab) Yf5 5000 6 29 [.i (Int.ofNat 2)] [] 0) = true := by kernel_rfl
theorem sim2 : CallSim Proofs.Try.prog (memoA (fM 2 2 A2 T2 [10, 32, 34, 16, 28, 18, 30])) := env6.memo (fargs := [.i (Int.ofNat 2)]) rfl rfl fit2
def A3 : Tab := [[0, 1, 2], [1, 2, 0], [2, 0, 1]]
def T3 : Tab := [[0, 0, 0], [0, 1, 2], [0, 2, 1]]
theorem fit3 : fitsB (fM 3 3 A3 T3 [10, 56, 58, 20, 36, 52, 22, 38, 54]) (fcall Proofs.Try.prog (Fast.treeOf tab) Yf5 5000 6 29 [.i (Int.ofNat 3)] [] 0) = true := by kernel_rfl
theorem sim3 : CallSim Proofs.Try.prog (memoA (fM 3 3 A3 T3 [10, 56, 58, 20, 36, 52, 22, 38, 54])) := env6.memo (fargs := [.i (Int.ofNat 3)]) rfl rfl fit3
def A4 : Tab := [[0, 1, 2, 3], [1, 0, 3, 2], [2, 3, 0, 1], [3, 2, 1, 0]]
def T4 : Tab := [[0, 0, 0, 0], [0, 1, 2, 3], [0, 2, 3, 1], [0, 3, 1, 2]]
theorem fit4 : fitsB (fM 4 2 A4 T4 [10, 88, 90, 24, 44, 64, 84, 26, 46, 66, 86]) (fcall Proofs.Try.prog (Fast.treeOf tab) Yf5 5000 6 29 [.i (Int.ofNat 4)] [] 0) = true := by kernel_rfl
theorem sim4 : CallSim Proofs.Try.prog (memoA (fM 4 2 A4 T4 [10, 88, 90, 24, 44, 64, 84, 26, 46, 66, 86])) := env6.memo (fargs := [.i (Int.ofNat 4)]) rfl rfl fit4
def A5 : Tab := [[0, 1, 2, 3, 4], [1, 2, 3, 4, 0], [2, 3, 4, 0, 1], [3, 4, 0, 1, 2], [4, 0, 1, 2, 3]]
def T5 : Tab := [[0, 0, 0, 0, 0], [0, 1, 2, 3, 4], [0, 2, 4, 1, 3], [0, 3, 1, 4, 2], [0, 4, 3, 2, 1]]
theorem fit5 : fitsB (fM 5 5 A5 T5 [10, 128, 130, 28, 52, 76, 100, 124, 30, 54, 78, 102, 126]) (fcall Proofs.Try.prog (Fast.treeOf tab) Yf5 5000 6 29 [.i (Int.ofNat 5)] [] 0) = true := by kernel_rfl
theorem sim5 : CallSim Proofs.Try.prog (memoA (fM 5 5 A5 T5 [10, 128, 130, 28, 52, 76, 100, 124, 30, 54, 78, 102, 126])) := env6.memo (fargs := [.i (Int.ofNat 5)]) rfl rfl fit5
def A7 : Tab := [[0, 1, 2, 3, 4, 5, 6], [1, 2, 3, 4, 5, 6, 0], [2, 3, 4, 5, 6, 0, 1], [3, 4, 5, 6, 0, 1, 2], [4, 5, 6, 0, 1, 2, 3], [5, 6, 0, 1, 2, 3, 4], [6, 0, 1, 2, 3, 4, 5]]
def T7 : Tab := [[0, 0, 0, 0, 0, 0, 0], [0, 1, 2, 3, 4, 5, 6], [0, 2, 4, 6, 1, 3, 5], [0, 3, 6, 2, 5, 1, 4], [0, 4, 1, 5, 2, 6, 3], [0, 5, 3, 1, 6, 4, 2], [0, 6, 5, 4, 3, 2, 1]]
theorem fit7 : fitsB (fM 7 7 A7 T7 [10, 232, 234, 36, 68, 100, 132, 164, 196, 228, 38, 70, 102, 134, 166, 198, 230]) (fcall Proofs.Try.prog (Fast.treeOf tab) Yf5 5000 6 29 [.i (Int.ofNat 7)] [] 0) = true := by kernel_rfl
theorem sim7 : CallSim Proofs.Try.prog (memoA (fM 7 7 A7 T7 [10, 232, 234, 36, 68, 100, 132, 164, 196, 228, 38, 70, 102, 134, 166, 198, 230])) := env6.memo (fargs := [.i (Int.ofNat 7)]) rfl rfl fit7
def A8 : Tab := [[0, 1, 2, 3, 4, 5, 6, 7], [1, 0, 3, 2, 5, 4, 7, 6], [2, 3, 0, 1, 6, 7, 4, 5], [3, 2, 1, 0, 7, 6, 5, 4], [4, 5, 6, 7, 0, 1, 2, 3], [5, 4, 7, 6, 1, 0, 3, 2], [6, 7, 4, 5, 2, 3, 0, 1], [7, 6, 5, 4, 3, 2, 1, 0]]
def T8 : Tab := [[0, 0, 0, 0, 0, 0, 0, 0], [0, 1, 2, 3, 4, 5, 6, 7], [0, 2, 4, 6, 3, 1, 7, 5], [0, 3, 6, 5, 7, 4, 1, 2], [0, 4, 3, 7, 6, 2, 5, 1], [0, 5, 1, 4, 2, 7, 3, 6], [0, 6, 7, 1, 5, 3, 2, 4], [0, 7, 5, 2, 1, 6, 4, 3]]
theorem fit8 : fitsB (fM 8 2 A8 T8 [10, 296, 298, 40, 76, 112, 148, 184, 220, 256, 292, 42, 78, 114, 150, 186, 222, 258, 294]) (fcall Proofs.Try.prog (Fast.treeOf tab) Yf5 5000 6 29 [.i (Int.ofNat 8)] [] 0) = true := by kernel_rfl
theorem sim8 : CallSim Proofs.Try.prog (memoA (fM 8 2 A8 T8 [10, 296, 298, 40, 76, 112, 148, 184, 220, 256, 292, 42, 78, 114, 150, 186, 222, 258, 294])) := env6.memo (fargs := [.i (Int.ofNat 8)]) rfl rfl fit8
def A9 : Tab := [[0, 1, 2, 3, 4, 5, 6, 7, 8], [1, 2, 0, 4, 5, 3, 7, 8, 6], [2, 0, 1, 5, 3, 4, 8, 6, 7], [3, 4, 5, 6, 7, 8, 0, 1, 2], [4, 5, 3, 7, 8, 6, 1, 2, 0], [5, 3, 4, 8, 6, 7, 2, 0, 1], [6, 7, 8, 0, 1, 2, 3, 4, 5], [7, 8, 6, 1, 2, 0, 4, 5, 3], [8, 6, 7, 2, 0, 1, 5, 3, 4]]
def T9 : Tab := [[0, 0, 0, 0, 0, 0, 0, 0, 0], [0, 1, 2, 3, 4, 5, 6, 7, 8], [0, 2, 1, 6, 8, 7, 3, 5, 4], [0, 3, 6, 2, 5, 8, 1, 4, 7], [0, 4, 8, 5, 6, 1, 7, 2, 3], [0, 5, 7, 8, 1, 3, 4, 6, 2], [0, 6, 3, 1, 7, 4, 2, 8, 5], [0, 7, 5, 4, 2, 6, 8, 3, 1], [0, 8, 4, 7, 3, 2, 5, 1, 6]]
theorem fit9 : fitsB (fM 9 3 A9 T9 [10, 368, 370, 44, 84, 124, 164, 204, 244, 284, 324, 364, 46, 86, 126, 166, 206, 246, 286, 326, 366]) (fcall Proofs.Try.prog (Fast.treeOf tab) Yf5 5000 6 29 [.i (Int.ofNat 9)] [] 0) = true := by kernel_rfl
theorem sim9 : CallSim Proofs.Try.prog (memoA (fM 9 3 A9 T9 [10, 368, 370, 44, 84, 124, 164, 204, 244, 284, 324, 364, 46, 86, 126, 166, 206, 246, 286, 326, 366])) := env6.memo (fargs := [.i (Int.ofNat 9)]) rfl rfl fit9
end Go.Am.C06
namespace Go.Am.C06
open Go Go.Am Go.Am.V
set_option maxRecDepth 1000000
def arM (f : Nat) (q a b : Nat) (T : Tab) : Memo := { f := f, args := [.int .i64 (Int.ofNat q), .int .i64 (Int.ofNat a), .int .i64 (Int.ofNat b)], rs := [.i (tget T a b)], bs := [], pi := [] }
noncomputable def arB (f q : Nat) (T : Tab) : Bool := (List.range q).all fun a => (List.range q).all fun b => fitsB (arM f q a b T) (fcall Proofs.Try.prog (Fast.treeOf tab) Yf5 5000 6 f [.i (Int.ofNat q), .i (Int.ofNat a), .i (Int.ofNat b)] [] 0)
theorem ar_sim {f q a b : Nat} {T : Tab} (h : arB f q T = true) (ha : a < q) (hb : b < q) : CallSim Proofs.Try.prog (memoA (arM f q a b T)) := by
  unfold arB at h
  simp only [List.all_eq_true, List.mem_range] at h
  exact env6.memo (M := arM f q a b T) (fargs := [.i (Int.ofNat q), .i (Int.ofNat a), .i (Int.ofNat b)]) rfl rfl (h a ha b hb)
theorem ad2 : arB 27 2 A2 = true := by kernel_rfl
theorem mu2 : arB 28 2 T2 = true := by kernel_rfl
theorem ad3 : arB 27 3 A3 = true := by kernel_rfl
theorem mu3 : arB 28 3 T3 = true := by kernel_rfl
theorem ad4 : arB 27 4 A4 = true := by kernel_rfl
theorem mu4 : arB 28 4 T4 = true := by kernel_rfl
theorem ad5 : arB 27 5 A5 = true := by kernel_rfl
theorem mu5 : arB 28 5 T5 = true := by kernel_rfl
theorem ad7 : arB 27 7 A7 = true := by kernel_rfl
theorem mu7 : arB 28 7 T7 = true := by kernel_rfl
def cells3 : List P3 → List FV
  | [] => []
  | p :: l => .i (Int.ofNat p.x) :: .i (Int.ofNat p.y) :: .i (Int.ofNat p.z) :: cells3 l
def coM (q : Nat) (ps : List P3) (pi : List Nat) : Memo := { f := 26, args := [.int .i64 (Int.ofNat q)], rs := [.s 0 0 ps.length UNK], bs := [⟨cells3 ps, 3, true, true⟩], pi := pi }
def Co2 : List P3 := [⟨0, 0, 1⟩, ⟨0, 1, 0⟩, ⟨0, 1, 1⟩, ⟨1, 0, 0⟩, ⟨1, 0, 1⟩, ⟨1, 1, 0⟩, ⟨1, 1, 1⟩]
theorem co2 : fitsB (coM 2 Co2 [13]) (fcall Proofs.Try.prog (Fast.treeOf tab) Yf5 5000 6 26 [.i (Int.ofNat 2)] [] 0) = true := by kernel_rfl
theorem simc2 : CallSim Proofs.Try.prog (memoA (coM 2 Co2 [13])) := env6.memo (fargs := [.i (Int.ofNat 2)]) rfl rfl co2
def Co3 : List P3 := [⟨0, 0, 1⟩, ⟨0, 1, 0⟩, ⟨0, 1, 1⟩, ⟨0, 1, 2⟩, ⟨1, 0, 0⟩, ⟨1, 0, 1⟩, ⟨1, 0, 2⟩, ⟨1, 1, 0⟩, ⟨1, 1, 1⟩, ⟨1, 1, 2⟩, ⟨1, 2, 0⟩, ⟨1, 2, 1⟩, ⟨1, 2, 2⟩]
theorem co3 : fitsB (coM 3 Co3 [25]) (fcall Proofs.Try.prog (Fast.treeOf tab) Yf5 5000 6 26 [.i (Int.ofNat 3)] [] 0) = true := by kernel_rfl
theorem simc3 : CallSim Proofs.Try.prog (memoA (coM 3 Co3 [25])) := env6.memo (fargs := [.i (Int.ofNat 3)]) rfl rfl co3
def Co4 : List P3 := [⟨0, 0, 1⟩, ⟨0, 1, 0⟩, ⟨0, 1, 1⟩, ⟨0, 1, 2⟩, ⟨0, 1, 3⟩, ⟨1, 0, 0⟩, ⟨1, 0, 1⟩, ⟨1, 0, 2⟩, ⟨1, 0, 3⟩, ⟨1, 1, 0⟩, ⟨1, 1, 1⟩, ⟨1, 1, 2⟩, ⟨1, 1, 3⟩, ⟨1, 2, 0⟩, ⟨1, 2, 1⟩, ⟨1, 2, 2⟩, ⟨1, 2, 3⟩, ⟨1, 3, 0⟩, ⟨1, 3, 1⟩, ⟨1, 3, 2⟩, ⟨1, 3, 3⟩]
theorem co4 : fitsB (coM 4 Co4 [41]) (fcall Proofs.Try.prog (Fast.treeOf tab) Yf5 5000 6 26 [.i (Int.ofNat 4)] [] 0) = true := by kernel_rfl
theorem simc4 : CallSim Proofs.Try.prog (memoA (coM 4 Co4 [41])) := env6.memo (fargs := [.i (Int.ofNat 4)]) rfl rfl co4
def Co5 : List P3 := [⟨0, 0, 1⟩, ⟨0, 1, 0⟩, ⟨0, 1, 1⟩, ⟨0, 1, 2⟩, ⟨0, 1, 3⟩, ⟨0, 1, 4⟩, ⟨1, 0, 0⟩, ⟨1, 0, 1⟩, ⟨1, 0, 2⟩, ⟨1, 0, 3⟩, ⟨1, 0, 4⟩, ⟨1, 1, 0⟩, ⟨1, 1, 1⟩, ⟨1, 1, 2⟩, ⟨1, 1, 3⟩, ⟨1, 1, 4⟩, ⟨1, 2, 0⟩, ⟨1, 2, 1⟩, ⟨1, 2, 2⟩, ⟨1, 2, 3⟩, ⟨1, 2, 4⟩, ⟨1, 3, 0⟩, ⟨1, 3, 1⟩, ⟨1, 3, 2⟩, ⟨1, 3, 3⟩, ⟨1, 3, 4⟩, ⟨1, 4, 0⟩, ⟨1, 4, 1⟩, ⟨1, 4, 2⟩, ⟨1, 4, 3⟩, ⟨1, 4, 4⟩]
theorem co5 : fitsB (coM 5 Co5 [61]) (fcall Proofs.Try.prog (Fast.treeOf tab) Yf5 5000 6 26 [.i (Int.ofNat 5)] [] 0) = true := by kernel_rfl
theorem simc5 : CallSim Proofs.Try.prog (memoA (coM 5 Co5 [61])) := env6.memo (fargs := [.i (Int.ofNat 5)]) rfl rfl co5
def Co7 : List P3 := [⟨0, 0, 1⟩, ⟨0, 1, 0⟩, ⟨0, 1, 1⟩, ⟨0, 1, 2⟩, ⟨0, 1, 3⟩, ⟨0, 1, 4⟩, ⟨0, 1, 5⟩, ⟨0, 1, 6⟩, ⟨1, 0, 0⟩, ⟨1, 0, 1⟩, ⟨1, 0, 2⟩, ⟨1, 0, 3⟩, ⟨1, 0, 4⟩, ⟨1, 0, 5⟩, ⟨1, 0, 6⟩, ⟨1, 1, 0⟩, ⟨1, 1, 1⟩, ⟨1, 1, 2⟩, ⟨1, 1, 3⟩, ⟨1, 1, 4⟩, ⟨1, 1, 5⟩, ⟨1, 1, 6⟩, ⟨1, 2, 0⟩, ⟨1, 2, 1⟩, ⟨1, 2, 2⟩, ⟨1, 2, 3⟩, ⟨1, 2, 4⟩, ⟨1, 2, 5⟩, ⟨1, 2, 6⟩, ⟨1, 3, 0⟩, ⟨1, 3, 1⟩, ⟨1, 3, 2⟩, ⟨1, 3, 3⟩, ⟨1, 3, 4⟩, ⟨1, 3, 5⟩, ⟨1, 3, 6⟩, ⟨1, 4, 0⟩, ⟨1, 4, 1⟩, ⟨1, 4, 2⟩, ⟨1, 4, 3⟩, ⟨1, 4, 4⟩, ⟨1, 4, 5⟩, ⟨1, 4, 6⟩, ⟨1, 5, 0⟩, ⟨1, 5, 1⟩, ⟨1, 5, 2⟩, ⟨1, 5, 3⟩, ⟨1, 5, 4⟩, ⟨1, 5, 5⟩, ⟨1, 5, 6⟩, ⟨1, 6, 0⟩, ⟨1, 6, 1⟩, ⟨1, 6, 2⟩, ⟨1, 6, 3⟩, ⟨1, 6, 4⟩, ⟨1, 6, 5⟩, ⟨1, 6, 6⟩]
theorem co7 : fitsB (coM 7 Co7 [113]) (fcall Proofs.Try.prog (Fast.treeOf tab) Yf5 5000 6 26 [.i (Int.ofNat 7)] [] 0) = true := by kernel_rfl
theorem simc7 : CallSim Proofs.Try.prog (memoA (coM 7 Co7 [113])) := env6.memo (fargs := [.i (Int.ofNat 7)]) rfl rfl co7
end Go.Am.C06
namespace Go.Am.C06
open Go Go.Am Go.Am.V
set_option maxRecDepth 1000000
theorem fM_spec {q p : Nat} {A T : Tab} {pi : List Nat} (hA : square A q) (hT : square T q) (m : FM) (n : Nat) : ∃ (m' : FM) (w : Nat), memoA (fM q p A T pi) 29 [.int .i64 (q : Int)] m n = .ok (.tuple #[.pointer (some ⟨n, 0, none⟩), .int .i64 0]) m' (n + (3 + (q + q))) 0 w ∧ (∀ b, b < n → m' b = m b) ∧ (∀ j, j ≤ n → Nat.mod w (bit j) = 0) ∧ FieldM m' (n + (3 + (q + q))) (.pointer (some ⟨n, 0, none⟩)) q A T := by
  have hl : (fM q p A T pi).bs.length = 3 + (q + q) := by
    show (fBs q p A T).length = _
    simp [fBs, hA.1, hT.1]
    omega
  have hself : veqL [.int .i64 (q : Int)] (fM q p A T pi).args = true := by
    show (veqF (.int .i64 (q : Int)) (.int .i64 (Int.ofNat q)) && true) = true
    simp [veqF]
  refine ⟨layA (fun b => n + b) (fM q p A T pi).bs n m, newW n (fM q p A T pi).bs.length, ?_, fun b hb => ?_, fun j hj => ?_, ?_⟩
  · unfold memoA
    rw [show (fM q p A T pi).f = 29 from rfl, Nat.beq_refl, hself, hl]
    rfl
  · rw [layA_get, if_neg (by omega)]
  · apply Nat.eq_of_testBit_eq
    intro i
    rw [mod_test, newW_test, Nat.zero_testBit]
    by_cases h1 : i < j
    · have : decide (n ≤ i) = false := decide_eq_false (by omega)
      simp [this]
    · simp [h1]
  · have get : ∀ i, i < 3 + (q + q) → (layA (fun b => n + b) (fM q p A T pi).bs n m) (n + i) = ((fBs q p A T)[i]?).map (fun b => toB (rnB (fun b => n + b) b)) := fun i hi => by
      rw [layA_get, if_pos (by rw [hl]; omega), Nat.add_sub_cancel_left]; rfl
    have h0 := get 0 (by omega)
    have h1 := get 1 (by omega)
    have h2 := get 2 (by omega)
    generalize layA (fun b => n + b) (fM q p A T pi).bs n m = M at *
    replace h0 : M (n + 0) = some (toB (rnB (fun b => n + b) ⟨[.i (Int.ofNat q), .i (Int.ofNat p), .s 1 0 q UNK, .s 2 0 q UNK], 0, false, true⟩)) := h0
    replace h1 : M (n + 1) = some (toB (rnB (fun b => n + b) ⟨(List.range q).map (fun i => FV.s (i + 3) 0 q UNK), 1, true, true⟩)) := h1
    replace h2 : M (n + 2) = some (toB (rnB (fun b => n + b) ⟨(List.range q).map (fun i => FV.s (i + (3 + q)) 0 q UNK), 1, true, true⟩)) := h2
    rw [rnB_cells] at h0 h1 h2
    rw [List.map_map, List.map_map] at h1 h2
    have row : ∀ i (r : List Int), (A ++ T)[i]? = some r → M (n + (i + 3)) = some (.cells (r.map (Value.int .i64)) 1 true true) := fun i r hr => by
      have hi : i < q + q := by
        have := (List.getElem?_eq_some_iff.1 hr).1
        rw [List.length_append, hA.1, hT.1] at this; exact this
      rw [get (i + 3) (by omega)]
      show (((A ++ T).map (fun row => (⟨row.map FV.i, 1, true, true⟩ : FBlk)))[i]?).map _ = _
      rw [List.getElem?_map, hr]
      show some (toB (rnB (fun b => n + b) ⟨r.map FV.i, 1, true, true⟩)) = _
      rw [rnB_cells, List.map_map, List.map_map]; rfl
    refine ⟨n, p, .slice (some ⟨n + 1, 0, none⟩) q UNK, .slice (some ⟨n + 2, 0, none⟩) q UNK, rfl, by omega, h0, ?_, ?_, hA, hT⟩
    · refine ⟨(List.range q).map (fun i => Value.slice (some ⟨n + (i + 3), 0, none⟩) q UNK), .inr (.inl ⟨n + 1, 0, UNK, _, true, true, by simp, by omega, h1, fun i x hx => by rw [Nat.zero_add]; exact hx⟩), by simp [hA.1], fun i x g hx hg => ?_⟩
      have hi : i < A.length := (List.getElem?_eq_some_iff.1 hg).1
      have hiq : i < q := by rw [← hA.1]; exact hi
      rw [List.getElem?_map, List.getElem?_range hiq] at hx
      injection hx with hx; subst hx
      have hgl : g.length = q := hA.2 g (List.mem_of_getElem? hg)
      exact .inr (.inl ⟨n + (i + 3), 0, UNK, _, true, true, by rw [List.length_map, hgl], by omega, row i g (by rw [List.getElem?_append_left hi]; exact hg), fun j x hx => by rw [Nat.zero_add]; exact hx⟩)
    · refine ⟨(List.range q).map (fun i => Value.slice (some ⟨n + (i + (3 + q)), 0, none⟩) q UNK), .inr (.inl ⟨n + 2, 0, UNK, _, true, true, by simp, by omega, h2, fun i x hx => by rw [Nat.zero_add]; exact hx⟩), by simp [hT.1], fun i x g hx hg => ?_⟩
      have hi : i < T.length := (List.getElem?_eq_some_iff.1 hg).1
      have hiq : i < q := by rw [← hT.1]; exact hi
      rw [List.getElem?_map, List.getElem?_range hiq] at hx
      injection hx with hx; subst hx
      have hgl : g.length = q := hT.2 g (List.mem_of_getElem? hg)
      exact .inr (.inl ⟨n + (i + (3 + q)), 0, UNK, _, true, true, by rw [List.length_map, hgl], by omega, by rw [show i + (3 + q) = (i + q) + 3 by omega]; exact row (i + q) g (by rw [List.getElem?_append_right (by rw [hA.1]; omega), hA.1, Nat.add_sub_cancel]; exact hg), fun j x hx => by rw [Nat.zero_add]; exact hx⟩)
noncomputable def okT (q : Nat) (A T : Tab) : Bool :=
  (List.range q).all fun a => (List.range q).all fun b => decide (0 ≤ tget A a b) && (decide (tget A a b < q) && (decide (0 ≤ tget T a b) && decide (tget T a b < q)))
noncomputable def okT2 (q : Nat) (A T : Tab) : Bool :=
  (List.range q).all fun a => decide (0 ≤ findI 0 (A.getD a []) 0) && (decide (findI 0 (A.getD a []) 0 < q) && (decide (a = 0) || (decide (0 ≤ findI 1 (T.getD a []) 0) && decide (findI 1 (T.getD a []) 0 < q))))
theorem good_of {q : Nat} {A T : Tab} (hq : q < 1000) (h : okT q A T = true) (h2 : okT2 q A T = true) : GoodT q A T := by
  simp only [okT, okT2, List.all_eq_true, List.mem_range, Bool.and_eq_true, Bool.or_eq_true, decide_eq_true_eq] at h h2
  refine ⟨hq, fun a b ha hb => ?_, fun a b ha hb => ?_, fun a h0 ha => ?_, fun a ha => ?_⟩
  · obtain ⟨h3, h4, _⟩ := h a ha b hb
    exact ⟨(tget A a b).toNat, by omega, by omega⟩
  · obtain ⟨_, _, h3, h4⟩ := h a ha b hb
    exact ⟨(tget T a b).toNat, by omega, by omega⟩
  · obtain ⟨_, _, h3⟩ := h2 a ha
    rcases h3 with h3 | h3
    · omega
    · exact ⟨(findI 1 (T.getD a []) 0).toNat, by omega, by omega⟩
  · obtain ⟨h3, h4, _⟩ := h2 a ha
    exact ⟨(findI 0 (A.getD a []) 0).toNat, by omega, by omega⟩
theorem sq2 : square A2 2 ∧ square T2 2 := ⟨⟨rfl, by decide⟩, ⟨rfl, by decide⟩⟩
theorem goodT2 : GoodT 2 A2 T2 := good_of (by omega) (by kernel_rfl) (by kernel_rfl)
theorem sq3 : square A3 3 ∧ square T3 3 := ⟨⟨rfl, by decide⟩, ⟨rfl, by decide⟩⟩
theorem goodT3 : GoodT 3 A3 T3 := good_of (by omega) (by kernel_rfl) (by kernel_rfl)
theorem sq4 : square A4 4 ∧ square T4 4 := ⟨⟨rfl, by decide⟩, ⟨rfl, by decide⟩⟩
theorem goodT4 : GoodT 4 A4 T4 := good_of (by omega) (by kernel_rfl) (by kernel_rfl)
theorem sq5 : square A5 5 ∧ square T5 5 := ⟨⟨rfl, by decide⟩, ⟨rfl, by decide⟩⟩
theorem goodT5 : GoodT 5 A5 T5 := good_of (by omega) (by kernel_rfl) (by kernel_rfl)
theorem sq7 : square A7 7 ∧ square T7 7 := ⟨⟨rfl, by decide⟩, ⟨rfl, by decide⟩⟩
theorem goodT7 : GoodT 7 A7 T7 := good_of (by omega) (by kernel_rfl) (by kernel_rfl)
theorem sq8 : square A8 8 ∧ square T8 8 := ⟨⟨rfl, by decide⟩, ⟨rfl, by decide⟩⟩
theorem goodT8 : GoodT 8 A8 T8 := good_of (by omega) (by kernel_rfl) (by kernel_rfl)
theorem sq9 : square A9 9 ∧ square T9 9 := ⟨⟨rfl, by decide⟩, ⟨rfl, by decide⟩⟩
theorem goodT9 : GoodT 9 A9 T9 := good_of (by omega) (by kernel_rfl) (by kernel_rfl)
end Go.Am.C06
namespace Go.Am.C06
open Go Go.Am Go.Am.V Go.RowKit
set_option maxRecDepth 1000000
abbrev m2 : Memo := fM 2 2 A2 T2 [10, 32, 34, 16, 28, 18, 30]
abbrev m3 : Memo := fM 3 3 A3 T3 [10, 56, 58, 20, 36, 52, 22, 38, 54]
abbrev m4 : Memo := fM 4 2 A4 T4 [10, 88, 90, 24, 44, 64, 84, 26, 46, 66, 86]
abbrev m5 : Memo := fM 5 5 A5 T5 [10, 128, 130, 28, 52, 76, 100, 124, 30, 54, 78, 102, 126]
abbrev m7 : Memo := fM 7 7 A7 T7 [10, 232, 234, 36, 68, 100, 132, 164, 196, 228, 38, 70, 102, 134, 166, 198, 230]
abbrev m8 : Memo := fM 8 2 A8 T8 [10, 296, 298, 40, 76, 112, 148, 184, 220, 256, 292, 42, 78, 114, 150, 186, 222, 258, 294]
abbrev m9 : Memo := fM 9 3 A9 T9 [10, 368, 370, 44, 84, 124, 164, 204, 244, 284, 324, 364, 46, 86, 126, 166, 206, 246, 286, 326, 366]
def notIn : Int → Bool
  | .negSucc _ => true
  | .ofNat n => Nat.rec true (fun n _ => Nat.rec true (fun n _ => Nat.rec false (fun n _ => Nat.rec false (fun n _ => Nat.rec false (fun n _ => Nat.rec false (fun n _ => Nat.rec true (fun n _ => Nat.rec false (fun n _ => Nat.rec false (fun n _ => Nat.rec false (fun _ _ => true) n) n) n) n) n) n) n) n) n) n
def errV : Value := .tuple #[.pointer none, .int .i64 (Int.ofNat 1)]
def isErr : Value → Bool
  | .tuple vs => veqL vs.toList [.pointer none, .int .i64 (Int.ofNat 1)]
  | _ => false
noncomputable def gaveErr (x : OR FM) : Bool := OR.rec (motive := fun _ => Bool) false (fun v _ _ _ _ => isErr v) x
theorem isErr_eq {v : Value} (h : isErr v = true) : v = errV := by
  unfold isErr at h
  split at h
  · rename_i vs
    have := veqL_eq h
    obtain ⟨l⟩ := vs
    replace this : l = _ := this
    rw [this]; rfl
  · cases h
noncomputable abbrev runN (q : Int) : OR FM := callA (look tab) Y5 (exec Proofs.Try.prog (look tab) Y5 300) 29 [.int .i64 q] FM0 0
theorem err_neg (x : Nat) : gaveErr (runN (Int.negSucc x)) = true := by kernel_rfl
theorem err_0 : gaveErr (runN (Int.ofNat 0)) = true := by kernel_rfl
theorem err_1 : gaveErr (runN (Int.ofNat 1)) = true := by kernel_rfl
theorem err_6 : gaveErr (runN (Int.ofNat 6)) = true := by kernel_rfl
theorem err_big (x : Nat) : gaveErr (runN (Int.ofNat (x + 10))) = true := by kernel_rfl
theorem err_run (q : Int) (h : notIn q = true) : gaveErr (runN q) = true := by
  cases q with
  | negSucc x => exact err_neg x
  | ofNat n =>
    match n, h with
    | 0, _ => exact err_0
    | 1, _ => exact err_1
    | 6, _ => exact err_6
    | n + 10, _ => exact err_big n
def mE (q : Int) : Memo := { f := 29, args := [.int .i64 q], rs := [.o (.pointer none), .i (Int.ofNat 1)], bs := [], pi := [] }
theorem simE (q : Int) (h : notIn q = true) : CallSim Proofs.Try.prog (memoA (mE q)) := by
  have hr := err_run q h
  cases hx : runN q with
  | no => rw [hx] at hr; cases hr
  | ok v m n r w =>
    rw [hx] at hr
    have hv := isErr_eq (v := v) hr
    subst hv
    exact memo_sim (M := mE q) rfl (env6.calls 300) hx ⟨rfl, rfl, rfl, List.nodup_nil, fun i b hb => by simp [mE] at hb⟩
theorem veqF_int (k : IntKind) (q : Int) : veqF (.int k q) (.int k q) = true := by simp [veqF]
def errA (f : Nat) (args : List Value) (m : FM) (n : Nat) : OR FM :=
  match args with
  | [.int .i64 q] => cond (Nat.beq f 29 && notIn q) (.ok errV m n 0 0) .no
  | _ => .no
theorem errA_memo {f : Nat} {args : List Value} {m m' : FM} {n n' r w : Nat} {v : Value} (h : errA f args m n = .ok v m' n' r w) : ∃ q, notIn q = true ∧ memoA (mE q) f args m n = .ok v m' n' r w := by
  unfold errA at h
  split at h
  · rename_i q
    cases hc : (Nat.beq f 29 && notIn q)
    · rw [hc] at h; cases h
    · rw [hc] at h
      rw [Bool.and_eq_true] at hc
      refine ⟨q, hc.2, ?_⟩
      rw [← h]
      have hv : veqL [Value.int .i64 q] [Value.int .i64 q] = true := by simp [veqL, veqF_int]
      have hw : newW n 0 = 0 := by show (2 ^ 0 - 1) <<< n = 0; simp
      show cond (Nat.beq f 29 && veqL [Value.int .i64 q] [Value.int .i64 q]) (OR.ok errV m (n + 0) 0 (newW n 0)) OR.no = OR.ok errV m n 0 0
      rw [hc.1, hv, hw]; rfl
  · cases h
theorem errA_loc : CallLoc errA := fun f args m n v m' n' r wm h => by
  obtain ⟨q, _, h⟩ := errA_memo h
  exact memo_loc (mE q) f args m n v m' n' r wm h
theorem errA_sim : CallSim Proofs.Try.prog errA := fun f args m n v m' n' r wm h => by
  obtain ⟨q, hq, h⟩ := errA_memo h
  exact simE q hq f args m n v m' n' r wm h
theorem errA_apart {t : List (Nat × AFn)} (h : look t 29 = none) : V.Apart t errA := by
  intro f fn hf args m n
  unfold errA
  split
  · cases hb : Nat.beq f 29
    · rfl
    · obtain rfl := Nat.eq_of_beq_eq_true hb
      rw [h] at hf; cases hf
  · rfl
def noF : FCal := fun _ _ _ _ => .no
theorem apart5 {t : List (Nat × AFn)} (h : look t 48 = none) : V.Apart t Y5 := by
  intro f fn hf args m n
  show cond (Nat.beq f 48) (elemY m n args) .no = .no
  cases hb : Nat.beq f 48
  · rfl
  · obtain rfl := Nat.eq_of_beq_eq_true hb
    rw [h] at hf; cases hf
noncomputable def tabB : List (Nat × AFn) := [(3, ac3), (4, ac4), (5, ac5), (6, ac6), (7, ac7), (8, ac8), (9, ac9), (10, ac10), (11, ac11), (12, ac12), (13, ac13), (14, ac14), (15, ac15), (16, ac16), (17, ac17), (18, ac18), (19, ac19), (20, ac20), (21, ac21), (22, ac22), (23, ac23), (24, ac24), (25, ac25), (26, ac26), (27, ac27), (28, ac28), (30, ac30), (31, ac31), (32, ac32), (33, ac33), (34, ac34), (35, ac35), (36, ac36), (37, ac37), (38, ac38), (39, ac39), (40, ac40), (41, ac41), (42, ac42), (43, ac43), (44, ac44), (45, ac45), (46, ac46), (47, ac47), (49, ac49), (50, ac50), (51, ac51)]
theorem tabB_good : Good Proofs.Try.prog tabB := (.cons Proofs.Try.func3 chk3 (.cons Proofs.Try.func4 chk4 (.cons Proofs.Try.func5 chk5 (.cons Proofs.Try.func6 chk6 (.cons Proofs.Try.func7 chk7 (.cons Proofs.Try.func8 chk8 (.cons Proofs.Try.func9 chk9 (.cons Proofs.Try.func10 chk10 (.cons Proofs.Try.func11 chk11 (.cons Proofs.Try.func12 chk12 (.cons Proofs.Try.func13 chk13 (.cons Proofs.Try.func14 chk14 (.cons Proofs.Try.func15 chk15 (.cons Proofs.Try.func16 chk16 (.cons Proofs.Try.func17 chk17 (.cons Proofs.Try.func18 chk18 (.cons Proofs.Try.func19 chk19 (.cons Proofs.Try.func20 chk20 (.cons Proofs.Try.func21 chk21 (.cons Proofs.Try.func22 chk22 (.cons Proofs.Try.func23 chk23 (.cons Proofs.Try.func24 chk24 (.cons Proofs.Try.func25 chk25 (.cons Proofs.Try.func26 chk26 (.cons Proofs.Try.func27 chk27 (.cons Proofs.Try.func28 chk28 (.cons Proofs.Try.func30 chk30 (.cons Proofs.Try.func31 chk31 (.cons Proofs.Try.func32 chk32 (.cons Proofs.Try.func33 chk33 (.cons Proofs.Try.func34 chk34 (.cons Proofs.Try.func35 chk35 (.cons Proofs.Try.func36 chk36 (.cons Proofs.Try.func37 chk37 (.cons Proofs.Try.func38 chk38 (.cons Proofs.Try.func39 chk39 (.cons Proofs.Try.func40 chk40 (.cons Proofs.Try.func41 chk41 (.cons Proofs.Try.func42 chk42 (.cons Proofs.Try.func43 chk43 (.cons Proofs.Try.func44 chk44 (.cons Proofs.Try.func45 chk45 (.cons Proofs.Try.func46 chk46 (.cons Proofs.Try.func47 chk47 (.cons Proofs.Try.func49 chk49 (.cons Proofs.Try.func50 chk50 (.cons Proofs.Try.func51 chk51 .nil)))))))))))))))))))))))))))))))))))))))))))))))
def memLB : List Memo := [m2, m3, m4, m5, m7, m8, m9]
theorem envB : Env Proofs.Try.prog tabB (altA errA (memosA memLB Y5)) noF :=
  ⟨mix, tabB_good, by kernel_rfl, alt_loc errA_loc (memos_loc Y5_loc), alt_sim errA_sim (sim_memos Y5_sim (by
    intro M h
    simp only [memLB, List.mem_cons, List.not_mem_nil, or_false] at h
    rcases h with rfl | rfl | rfl | rfl | rfl | rfl | rfl
    · exact sim2
    · exact sim3
    · exact sim4
    · exact sim5
    · exact sim7
    · exact sim8
    · exact sim9)), fun _ _ _ _ => trivial, apart_alt (errA_apart (by kernel_rfl)) (apart_memos (apart5 (by kernel_rfl)) (by
    intro M h
    simp only [memLB, List.mem_cons, List.not_mem_nil, or_false] at h
    rcases h with rfl | rfl | rfl | rfl | rfl | rfl | rfl <;> kernel_rfl))⟩
end Go.Am.C06
namespace Go.Am.C06
open Go Go.Am Go.Am.V Go.RowKit
set_option maxRecDepth 1000000
def mA : Memo := { f := 11, args := [], rs := [.b true], bs := [], pi := [] }
noncomputable abbrev runA : OR FM := callA (look tabB) (altA errA (memosA memLB Y5)) (exec Proofs.Try.prog (look tabB) (altA errA (memosA memLB Y5)) 300) 11 [] FM0 0
theorem awake_run : gaveTA runA = true := by kernel_rfl
theorem simA : CallSim Proofs.Try.prog (memoA mA) := by
  obtain ⟨m, n, r, w, hx⟩ := gaveTA_eq awake_run
  exact memo_sim (M := mA) rfl (envB.calls 300) hx ⟨rfl, rfl, rfl, List.nodup_nil, fun i b hb => by simp [mA] at hb⟩
noncomputable def tabC : List (Nat × AFn) := [(3, ac3), (4, ac4), (5, ac5), (6, ac6), (7, ac7), (8, ac8), (9, ac9), (10, ac10), (12, ac12), (13, ac13), (14, ac14), (15, ac15), (16, ac16), (17, ac17), (18, ac18), (19, ac19), (20, ac20), (21, ac21), (22, ac22), (23, ac23), (24, ac24), (25, ac25), (26, ac26), (27, ac27), (28, ac28), (30, ac30), (31, ac31), (32, ac32), (33, ac33), (34, ac34), (35, ac35), (36, ac36), (37, ac37), (38, ac38), (39, ac39), (40, ac40), (41, ac41), (42, ac42), (43, ac43), (44, ac44), (45, ac45), (46, ac46), (47, ac47), (49, ac49), (50, ac50), (51, ac51)]
def memLC : List Memo := [mA, m2, m3, m4, m5, m7, m8, m9]
end Go.Am.C06
namespace Go.Am.C06
open Go Go.Am
variable {E : Nat → Option AFn} {Y : Nat → List Value → FM → Nat → OR FM}
def dotP (A M : Tab) (p r : P3) : Nat := addN A (addN A (addN A 0 (addN M p.x r.x)) (addN M p.y r.y)) (addN M p.z r.z)
theorem dot_spec (hE : E 24 = some ac24) (h42 : E 42 = some ac42) (h31 : E 31 = some ac31) (h30 : E 30 = some ac30) {m : FM} {n : Nat} {sv : Value} {q : Nat} {A M : Tab} (h : SpaceP m n sv q A M) (hg : GoodT q A M) {p r : P3} (hp : p.lt q) (hr : r.lt q) : Pure (callW PG E Y 24 [sv, .agg p.cells.toArray, .agg r.cells.toArray] m n) m n (.int .i64 (dotP A M p r : Int)) := by
  obtain ⟨x, y, z⟩ := p
  obtain ⟨a, b, c⟩ := r
  obtain ⟨hx, hy, hz⟩ := hp
  obtain ⟨ha, hb, hc⟩ := hr
  simp only at hx hy hz ha hb hc
  obtain ⟨sb, pf, sx, sy, rfl, s1, s2, s3⟩ := h
  obtain ⟨x1, x2⟩ := hg.mulE hx ha
  obtain ⟨y1, y2⟩ := hg.mulE hy hb
  obtain ⟨z1, z2⟩ := hg.mulE hz hc
  have hq0 : 0 < q := by omega
  obtain ⟨u1, u2⟩ := hg.addE hq0 x2
  obtain ⟨v1, v2⟩ := hg.addE u2 y2
  obtain ⟨w1, w2⟩ := hg.addE v2 z2
  have hd : dotP A M ⟨x, y, z⟩ ⟨a, b, c⟩ = addN A (addN A (addN A 0 (addN M x a)) (addN M y b)) (addN M z c) := rfl
  rw [hd]
  generalize addN A (addN A (addN A 0 (addN M x a)) (addN M y b)) (addN M z c) = t3 at *
  generalize addN A (addN A 0 (addN M x a)) (addN M y b) = t2 at *
  generalize addN A 0 (addN M x a) = t1 at *
  generalize addN M x a = e1 at *
  generalize addN M y b = e2 at *
  generalize addN M z c = e3 at *
  refine pure_spec hE rfl rfl ?_
  simp only [ac24, P3.cells]
  have fzn : Nat.mod (bit n) (bit n) = 0 := frz_bit (Nat.le_refl _)
  have fzn1 : Nat.mod (bit (n + 1)) (bit n) = 0 := frz_bit (by omega)
  have i01 : (0 : Int) + 1 = 1 := rfl
  have i12 : (1 : Int) + 1 = 2 := rfl
  have i23 : (2 : Int) + 1 = 3 := rfl
  simp (implicitDefEqProofs := false) (disch := omega) only [WPs, opds, List.all_cons, List.all_nil, List.cons_append, List.nil_append, cond_true, cond_false, eq_self, List.map_cons, List.map_nil, Nat.reduceAdd, Nat.testBit, Nat.reduceShiftRight, Nat.reduceAnd, Nat.reduceBNe, Nat.reduceMul]
  generalize hM1 : (AMem.put (AMem.put m n (some (.cells [.int .i64 (x : Int), .int .i64 (y : Int), .int .i64 (z : Int)] 0 false true))) (n + 1) (some (.cells [.int .i64 (a : Int), .int .i64 (b : Int), .int .i64 (c : Int)] 0 false true)) : FM) = M1
  have b1 : M1 n = some (.cells [.int .i64 (x : Int), .int .i64 (y : Int), .int .i64 (z : Int)] 0 false true) := by rw [← hM1, fput_ne _ _ _ _ (by omega)]; exact fput_same _ _ _
  have b2 : M1 (n + 1) = some (.cells [.int .i64 (a : Int), .int .i64 (b : Int), .int .i64 (c : Int)] 0 false true) := by rw [← hM1]; exact fput_same _ _ _
  have bl : ∀ b, b < n → M1 b = m b := fun b hb => by rw [← hM1, fput_ne _ _ _ _ (by omega), fput_ne _ _ _ _ (by omega)]
  have bs : M1 sb = some (.cells [pf, sx, sy] 0 false true) := (bl sb s1).trans s2
  have hF : FieldM M1 (n + 2) pf q A M := s3.frame (by omega) bl
  have hbp := hF.bel (n + 2) (Nat.le_refl _)
  refine wr_unroll (L := ac24L0) (b := ac24L0b) rfl ?_
  simp only [ac24L0b]
  simp (implicitDefEqProofs := false) (disch := omega) only [WPs, opds, List.all_cons, List.all_nil, List.cons_append, List.nil_append, cond_true, cond_false, eq_self, List.map_cons, List.map_nil, Nat.reduceAdd, Nat.testBit, Nat.reduceShiftRight, Nat.reduceAnd, Nat.reduceBNe, Nat.reduceMul, bs, nilckV, b1, b2, hbp]
  refine use_pureX (mul_spec h31 h42 hF hx ha) fun _ => ?_
  rw [x1]
  simp (implicitDefEqProofs := false) (disch := omega) only [WPs, opds, List.all_cons, List.all_nil, List.cons_append, List.nil_append, cond_true, cond_false, eq_self, List.map_cons, List.map_nil, Nat.reduceAdd, Nat.testBit, Nat.reduceShiftRight, Nat.reduceAnd, Nat.reduceBNe, Nat.reduceMul, hbp]
  refine use_pureX (add_spec h30 h42 hF hq0 x2) fun _ => ?_
  rw [u1]
  simp (implicitDefEqProofs := false) (disch := omega) only [WPs, opds, List.all_cons, List.all_nil, List.cons_append, List.nil_append, cond_true, cond_false, eq_self, List.map_cons, List.map_nil, Nat.reduceAdd, Nat.testBit, Nat.reduceShiftRight, Nat.reduceAnd, Nat.reduceBNe, Nat.reduceMul, i01]
  refine wr_unroll (L := ac24L0) (b := ac24L0b) rfl ?_
  simp only [ac24L0b]
  simp (implicitDefEqProofs := false) (disch := omega) only [WPs, opds, List.all_cons, List.all_nil, List.cons_append, List.nil_append, cond_true, cond_false, eq_self, List.map_cons, List.map_nil, Nat.reduceAdd, Nat.testBit, Nat.reduceShiftRight, Nat.reduceAnd, Nat.reduceBNe, Nat.reduceMul, bs, nilckV, b1, b2, hbp]
  refine use_pureX (mul_spec h31 h42 hF hy hb) fun _ => ?_
  rw [y1]
  simp (implicitDefEqProofs := false) (disch := omega) only [WPs, opds, List.all_cons, List.all_nil, List.cons_append, List.nil_append, cond_true, cond_false, eq_self, List.map_cons, List.map_nil, Nat.reduceAdd, Nat.testBit, Nat.reduceShiftRight, Nat.reduceAnd, Nat.reduceBNe, Nat.reduceMul, hbp]
  refine use_pureX (add_spec h30 h42 hF u2 y2) fun _ => ?_
  rw [v1]
  simp (implicitDefEqProofs := false) (disch := omega) only [WPs, opds, List.all_cons, List.all_nil, List.cons_append, List.nil_append, cond_true, cond_false, eq_self, List.map_cons, List.map_nil, Nat.reduceAdd, Nat.testBit, Nat.reduceShiftRight, Nat.reduceAnd, Nat.reduceBNe, Nat.reduceMul, i12]
  refine wr_unroll (L := ac24L0) (b := ac24L0b) rfl ?_
  simp only [ac24L0b]
  simp (implicitDefEqProofs := false) (disch := omega) only [WPs, opds, List.all_cons, List.all_nil, List.cons_append, List.nil_append, cond_true, cond_false, eq_self, List.map_cons, List.map_nil, Nat.reduceAdd, Nat.testBit, Nat.reduceShiftRight, Nat.reduceAnd, Nat.reduceBNe, Nat.reduceMul, bs, nilckV, b1, b2, hbp]
  refine use_pureX (mul_spec h31 h42 hF hz hc) fun _ => ?_
  rw [z1]
  simp (implicitDefEqProofs := false) (disch := omega) only [WPs, opds, List.all_cons, List.all_nil, List.cons_append, List.nil_append, cond_true, cond_false, eq_self, List.map_cons, List.map_nil, Nat.reduceAdd, Nat.testBit, Nat.reduceShiftRight, Nat.reduceAnd, Nat.reduceBNe, Nat.reduceMul, hbp]
  refine use_pureX (add_spec h30 h42 hF v2 z2) fun _ => ?_
  rw [w1]
  simp (implicitDefEqProofs := false) (disch := omega) only [WPs, opds, List.all_cons, List.all_nil, List.cons_append, List.nil_append, cond_true, cond_false, eq_self, List.map_cons, List.map_nil, Nat.reduceAdd, Nat.testBit, Nat.reduceShiftRight, Nat.reduceAnd, Nat.reduceBNe, Nat.reduceMul, i23]
  refine wr_unroll (L := ac24L0) (b := ac24L0b) rfl ?_
  simp only [ac24L0b]
  simp (implicitDefEqProofs := false) (disch := omega) only [WPs, opds, List.all_cons, List.all_nil, List.cons_append, List.nil_append, cond_true, cond_false, eq_self, List.map_cons, List.map_nil, Nat.reduceAdd, Nat.testBit, Nat.reduceShiftRight, Nat.reduceAnd, Nat.reduceBNe, Nat.reduceMul]
def minP (A M : Tab) (ai bk ak bi : Nat) : Nat := addN A (addN M ai bk) (negN A (addN M ak bi))
def crossP (A M : Tab) (a b : P3) : P3 := normP M ⟨minP A M a.y b.z a.z b.y, minP A M a.z b.x a.x b.z, minP A M a.x b.y a.y b.x⟩
end Go.Am.C06
namespace Go.Am.C06
open Go Go.Am
variable {E : Nat → Option AFn} {Y : Nat → List Value → FM → Nat → OR FM}
def numMC : List P3 → Nat → MC
  | [], _ => []
  | p :: l, i => (p.c, .int .i64 (i : Int)) :: numMC l (i + 1)
theorem numMC_app : ∀ (l : List P3) (p : P3) (i : Nat), numMC (l ++ [p]) i = numMC l i ++ [(p.c, .int .i64 ((i + l.length : Nat) : Int))]
  | [], p, i => rfl
  | r :: l, p, i => by
    show (r.c, _) :: numMC (l ++ [p]) (i + 1) = _
    rw [numMC_app l p (i + 1), List.length_cons, show i + 1 + l.length = i + (l.length + 1) by omega]; rfl
theorem P3.c_inj {p r : P3} (h : p.c = r.c) : p = r := by
  cases p; cases r
  simp only [P3.c, C3.mk.injEq, Int.natCast_inj] at h
  obtain ⟨rfl, rfl, rfl⟩ := h; rfl
theorem idx_new : ∀ {l : List P3} {p : P3} (i : Nat), p ∉ l → idxK3 p.c (numMC l i) = none
  | [], p, i, _ => rfl
  | r :: l, p, i, h => by
    show (if p.c = r.c then some 0 else (idxK3 p.c (numMC l (i + 1))).map (· + 1)) = none
    rw [if_neg fun e => h (by rw [P3.c_inj e]; exact List.mem_cons_self ..), idx_new (i + 1) fun hm => h (List.mem_cons_of_mem _ hm)]; rfl
def p0 : P3 := ⟨0, 0, 0⟩
def stepP (T : Tab) (ps : List P3) (p : P3) : List P3 := if normP T p = p ∧ p ≠ p0 then ps ++ [p] else ps
def foldZ (T : Tab) (x y : Nat) (ps : List P3) : Nat → List P3
  | 0 => ps
  | k + 1 => stepP T (foldZ T x y ps k) ⟨x, y, k⟩
def foldY (T : Tab) (q x : Nat) (ps : List P3) : Nat → List P3
  | 0 => ps
  | k + 1 => foldZ T x k (foldY T q x ps k) q
def foldX (T : Tab) (q : Nat) : Nat → List P3
  | 0 => []
  | k + 1 => foldY T q k (foldX T q k) q
def Low (ps : List P3) (q x y z : Nat) : Prop := ∀ r ∈ ps, r.lt q ∧ (r.x < x ∨ (r.x = x ∧ (r.y < y ∨ (r.y = y ∧ r.z < z))))
theorem Low.not {ps : List P3} {q x y z : Nat} (h : Low ps q x y z) : (⟨x, y, z⟩ : P3) ∉ ps := fun hm => by
  have := (h _ hm).2
  simp only at this
  omega
theorem Low.step {T : Tab} {ps : List P3} {q x y z : Nat} (h : Low ps q x y z) (hx : x < q) (hy : y < q) (hz : z < q) : Low (stepP T ps ⟨x, y, z⟩) q x y (z + 1) := by
  have h1 : Low ps q x y (z + 1) := fun r hr => ⟨(h r hr).1, by have := (h r hr).2; omega⟩
  unfold stepP
  split
  · intro r hr
    rcases List.mem_append.1 hr with hr | hr
    · exact h1 r hr
    · rw [List.mem_singleton] at hr
      subst hr
      exact ⟨⟨hx, hy, hz⟩, .inr ⟨rfl, .inr ⟨rfl, Nat.lt_succ_self _⟩⟩⟩
  · exact h1
def ptCells (ps : List P3) : List Value := (ps.map P3.cells).flatten
structure OpS (m : FM) (n1 sb mb : Nat) (pf : Value) (M' : FM) (N' : Nat) (ps : List P3) : Prop where
  le : n1 ≤ N'
  low : ∀ b, b < n1 → b ≠ sb → b ≠ mb → M' b = m b
  s : ∃ allv, M' sb = some (.cells [pf, allv, .map (some mb)] 0 false true) ∧ SlZ 3 M' n1 N' allv ps.length (ptCells ps)
  mp : M' mb = some (.map (mapC3 (numMC ps 0)))
theorem OpS.alloc {m : FM} {n1 sb mb : Nat} {pf : Value} {M' : FM} {N' : Nat} {ps : List P3} (h : OpS m n1 sb mb pf M' N' ps) (hsb : sb < n1) (hmb : mb < n1) (B : Option Blk) : OpS m n1 sb mb pf (AMem.put M' N' B) (N' + 1) ps := by
  obtain ⟨le, low, ⟨allv, s1, s2⟩, mp⟩ := h
  exact ⟨by omega, fun b h1 h2 h3 => by rw [fput_ne _ _ _ _ (by omega)]; exact low b h1 h2 h3, ⟨allv, by rw [fput_ne _ _ _ _ (by omega)]; exact s1, SlZ.frame s2 (by omega) fun b _ hb => fput_ne _ _ _ _ (by omega)⟩, by rw [fput_ne _ _ _ _ (by omega)]; exact mp⟩
theorem ptCells_app (ps : List P3) (p : P3) : ptCells (ps ++ [p]) = ptCells ps ++ p.cells := by simp [ptCells]
theorem tArr3 : Arr3 PG 53 3 := ⟨by kernel_rfl, by kernel_rfl, by kernel_rfl⟩
theorem tGrd : PG.eqGuardType PG.depth 53 = false := by kernel_rfl
theorem open_L0 (h33 : E 33 = some ac33) (h44 : E 44 = some ac44) (h45 : E 45 = some ac45) (h46 : E 46 = some ac46) (h42 : E 42 = some ac42) (h51 : E 51 = some ac51) (h31 : E 31 = some ac31)
    {m : FM} {nf n1 sb mb : Nat} {pf : Value} {q : Nat} {A T : Tab} (hn1 : nf ≤ mb) (hn2 : nf ≤ sb) (hne : sb ≠ mb) (hsb : sb < n1) (hmb : mb < n1) (hF : FieldM m nf pf q A T) (hg : GoodT q A T) {x y : Nat} (hx : x < q) (hy : y < q) (e1 e2 e4 e5 e7 e9 e10 e11 e12 e13 e14 : Value) {ps0 : List P3} (hlen : ps0.length ≤ 3000000) {Q : AX → List Value → FM → Nat → Nat → Prop}
    (hQ : ∀ M' N' w, OpS m n1 sb mb pf M' N' (foldZ T x y ps0 q) → Low (foldZ T x y ps0 q) q x y q → (∀ j, j ≤ nf → Nat.mod w (bit j) = 0) → Q (.exit 4) [.int .i64 (q : Int), e1, e2, .int .i64 (y : Int), e4, e5, .int .i64 (x : Int), e7, .pointer (some ⟨sb, 0, none⟩), e9, e10, e11, e12, e13, e14, .int .i64 (q : Int)] M' N' w) :
    ∀ d z, z + d = q → ∀ (M' : FM) (N' w0 : Nat), OpS m n1 sb mb pf M' N' (foldZ T x y ps0 z) → Low (foldZ T x y ps0 z) q x y z → (foldZ T x y ps0 z).length ≤ ps0.length + z → (∀ j, j ≤ nf → Nat.mod w0 (bit j) = 0) →
    Gv (execW PG E Y ac23L0 [.int .i64 (z : Int), e1, e2, .int .i64 (y : Int), e4, e5, .int .i64 (x : Int), e7, .pointer (some ⟨sb, 0, none⟩), e9, e10, e11, e12, e13, e14, .int .i64 (q : Int)] M' N') fun X e m n w => Q X e m n (Nat.lor w0 w) := by
  have hq := hg.small
  intro d
  induction d with
  | zero =>
    intro z hz M' N' w0 hS hL hl hw
    obtain rfl : z = q := by omega
    refine wr_loopN (L := ac23L0) (b := ac23L0b) rfl ?_
    simp only [ac23L0b]
    simp (implicitDefEqProofs := false) (disch := omega) only [WPs, opds, List.all_cons, List.all_nil, List.cons_append, List.nil_append, cond_true, cond_false, eq_self, List.map_cons, List.map_nil, Nat.reduceAdd, Nat.testBit, Nat.reduceShiftRight, Nat.reduceAnd, Nat.reduceBNe, Nat.reduceMul]
    exact hQ _ _ _ hS hL hw
  | succ d ih =>
    intro z hz M' N' w0 hS hL hl hw
    have hzq : z < q := by omega
    have ih' := ih (z + 1) (by omega)
    rw [show foldZ T x y ps0 (z + 1) = stepP T (foldZ T x y ps0 z) ⟨x, y, z⟩ from rfl] at ih'
    have hL2 := hL.step (T := T) hx hy hzq
    have hnot := hL.not
    generalize foldZ T x y ps0 z = ps at *
    obtain ⟨le, low, ⟨allv, s1, s2⟩, mp⟩ := hS
    have hF2 : ∀ (B : Option Blk), FieldM (AMem.put M' N' B) (N' + 1) pf q A T := fun B => hF.frame (by omega) fun b hb => by rw [fput_ne _ _ _ _ (by omega)]; exact low b (by omega) (by omega) (by omega)
    have sb2 : ∀ (B : Option Blk), (AMem.put M' N' B : FM) sb = some (.cells [pf, allv, .map (some mb)] 0 false true) := fun B => by rw [fput_ne _ _ _ _ (by omega)]; exact s1
    have hSp : ∀ (B : Option Blk), SpaceP (AMem.put M' N' B) (N' + 1) (.pointer (some ⟨sb, 0, none⟩)) q A T := fun B => ⟨sb, pf, allv, _, rfl, by omega, sb2 B, hF2 B⟩
    refine wr_loopN (L := ac23L0) (b := ac23L0b) rfl ?_
    simp only [ac23L0b]
    simp (implicitDefEqProofs := false) (disch := omega) only [WPs, opds, List.all_cons, List.all_nil, List.cons_append, List.nil_append, cond_true, cond_false, eq_self, List.map_cons, List.map_nil, Nat.reduceAdd, Nat.testBit, Nat.reduceShiftRight, Nat.reduceAnd, Nat.reduceBNe, Nat.reduceMul]
    refine use_pureX (normal_spec (Y := Y) h33 h44 h45 h46 h42 h51 h31 (hSp _) hg (p := ⟨x, y, z⟩) ⟨hx, hy, hzq⟩) fun _ => ?_
    have heq : ∀ r : P3, binV PG .eql 53 (.agg r.cells.toArray) (.agg #[.int .i64 (x : Int), .int .i64 (y : Int), .int .i64 (z : Int)]) = some (.bool (decide (r = ⟨x, y, z⟩))) := fun r => by
      have h1 := binV_arr3 tArr3 tGrd r.c (P3.c ⟨x, y, z⟩)
      rw [decide_eq_decide.2 (⟨P3.c_inj, fun e => by rw [e]⟩ : r.c = P3.c ⟨x, y, z⟩ ↔ r = ⟨x, y, z⟩)] at h1
      exact h1
    have hne0 : binV PG .neq 53 (.agg #[.int .i64 (x : Int), .int .i64 (y : Int), .int .i64 (z : Int)]) (.agg #[.int .i64 0, .int .i64 0, .int .i64 0]) = some (.bool (!decide ((⟨x, y, z⟩ : P3) = p0))) := by
      have h1 := binV_arr3_ne tArr3 tGrd (P3.c ⟨x, y, z⟩) (P3.c p0)
      rw [decide_eq_decide.2 (⟨P3.c_inj, fun e => by rw [e]⟩ : P3.c ⟨x, y, z⟩ = P3.c p0 ↔ (⟨x, y, z⟩ : P3) = p0)] at h1
      exact h1
    have hSO : OpS m n1 sb mb pf M' N' ps := ⟨le, low, ⟨allv, s1, s2⟩, mp⟩
    have hS1 := fun B => hSO.alloc hsb hmb B
    unfold stepP at ih' hL2
    generalize normP T ⟨x, y, z⟩ = r at *
    have hrb : r.cells.all (belowF (N' + 1)) = true := rfl
    have fzN : ∀ j, j ≤ nf → Nat.mod (bit N') (bit j) = 0 := fun j hj => frz_bit (by omega)
    by_cases hr : r = ⟨x, y, z⟩
    · by_cases h0 : (⟨x, y, z⟩ : P3) = p0
      · rw [if_neg fun h => h.2 h0] at ih' hL2
        simp (implicitDefEqProofs := false) (disch := omega) only [WPs, opds, List.all_cons, List.all_nil, List.cons_append, List.nil_append, cond_true, cond_false, eq_self, List.map_cons, List.map_nil, Nat.reduceAdd, Nat.testBit, Nat.reduceShiftRight, Nat.reduceAnd, Nat.reduceBNe, Nat.reduceMul, hrb, heq, hne0, decide_eq_true hr, decide_eq_true h0]
        refine wr_end (ih' _ (N' + 1) (Nat.lor w0 (Nat.lor (bit N') (bit N'))) (hS1 _) hL2 (by omega) (fun j hj => by simp only [frz_iff]; exact ⟨hw j hj, fzN j hj, fzN j hj⟩)) fun X e m n w hq => ?_
        rw [← lor_assoc']; exact hq
      · rw [if_pos ⟨hr, h0⟩] at ih' hL2
        have hab := s2.bel (N' + 1) (by omega)
        have hmap := fun (B : Option Blk) => mapc_upd (P := PG) tArr3 (m := AMem.put M' N' B) (n := N' + 1) (b := mb) (by omega) (by rw [fput_ne _ _ _ _ (by omega)]; exact mp) (P3.c ⟨x, y, z⟩) (idx_new 0 hnot) (.int .i64 (ps.length : Int))
        have hup : ∀ (B : Option Blk), mapV PG (.upd 53) [.map (some mb), .agg #[.int .i64 (x : Int), .int .i64 (y : Int), .int .i64 (z : Int)], .int .i64 (ps.length : Int)] (AMem.put M' N' B) (N' + 1) = .ok undef (AMem.put (AMem.put M' N' B) mb (some (.map (mapC3 (numMC (ps ++ [⟨x, y, z⟩]) 0))))) (N' + 1) (bit mb) (bit mb) := fun B => by
          rw [numMC_app, Nat.zero_add]; exact hmap B
        simp (implicitDefEqProofs := false) (disch := omega) only [WPs, opds, List.all_cons, List.all_nil, List.cons_append, List.nil_append, cond_true, cond_false, eq_self, List.map_cons, List.map_nil, Nat.reduceAdd, Nat.testBit, Nat.reduceShiftRight, Nat.reduceAnd, Nat.reduceBNe, Nat.reduceMul, hrb, heq, hne0, decide_eq_true hr, decide_eq_false h0, sb2, nilckV, hab, s2.len, s_mp, hup, belowV_map]
        generalize hM3 : (AMem.put (AMem.put M' N' (some (.cells [.int .i64 (x : Int), .int .i64 (y : Int), .int .i64 (z : Int)] 0 false true))) mb (some (.map (mapC3 (numMC (ps ++ [⟨x, y, z⟩]) 0)))) : FM) = M3
        have c3 : M3 N' = some (.cells [.int .i64 (x : Int), .int .i64 (y : Int), .int .i64 (z : Int)] 0 false true) := by rw [← hM3, fput_ne _ _ _ _ (by omega)]; exact fput_same _ _ _
        have c3m : M3 mb = some (.map (mapC3 (numMC (ps ++ [⟨x, y, z⟩]) 0))) := by rw [← hM3]; exact fput_same _ _ _
        have c3l : ∀ b, b < N' → b ≠ mb → M3 b = M' b := fun b hb h1 => by rw [← hM3, fput_ne _ _ _ _ h1, fput_ne _ _ _ _ (by omega)]
        have c3s : M3 sb = some (.cells [pf, allv, .map (some mb)] 0 false true) := (c3l sb (by omega) hne).trans s1
        have hab2 := s2.bel (N' + 2) (by omega)
        simp (implicitDefEqProofs := false) (disch := omega) only [WPs, opds, List.all_cons, List.all_nil, List.cons_append, List.nil_append, cond_true, cond_false, eq_self, List.map_cons, List.map_nil, Nat.reduceAdd, Nat.testBit, Nat.reduceShiftRight, Nat.reduceAnd, Nat.reduceBNe, Nat.reduceMul, hab2]
        have hZ3 : ∀ B, SlZ 3 (AMem.put M3 (N' + 1) B) n1 (N' + 2) allv ps.length (ptCells ps) := fun B => SlZ.frame s2 (by omega) fun b h1 h2 => by rw [fput_ne _ _ _ _ (by omega)]; exact c3l b h2 (by omega)
        refine use_rtX (app_slZ (hZ3 _) (some ⟨N' + 1, 0, none⟩) 1 (bit (N' + 1)) (by omega) (by omega) (zs := [.int .i64 (x : Int), .int .i64 (y : Int), .int .i64 (z : Int)]) rfl rfl (by omega) (by omega)) fun v5 M5 N5 r5 w5 hA => ?_
        obtain ⟨av, an, as5, al, aw⟩ := hA
        subst an
        have c5s : M5 sb = some (.cells [pf, allv, .map (some mb)] 0 false true) := by rw [al sb hsb, fput_ne _ _ _ _ (by omega)]; exact c3s
        have c5m : M5 mb = some (.map (mapC3 (numMC (ps ++ [⟨x, y, z⟩]) 0))) := by rw [al mb hmb, fput_ne _ _ _ _ (by omega)]; exact c3m
        have c5l : ∀ b, b < n1 → b ≠ sb → b ≠ mb → M5 b = m b := fun b h1 h2 h3 => by rw [al b h1, fput_ne _ _ _ _ (by omega), c3l b (by omega) h3]; exact low b h1 h2 h3
        subst av
        simp (implicitDefEqProofs := false) (disch := omega) only [WPs, opds, List.all_cons, List.all_nil, List.cons_append, List.nil_append, cond_true, cond_false, eq_self, List.map_cons, List.map_nil, Nat.reduceAdd, Nat.testBit, Nat.reduceShiftRight, Nat.reduceAnd, Nat.reduceBNe, Nat.reduceMul, c5s, nilckV]
        have hlenA : (ps ++ [(⟨x, y, z⟩ : P3)]).length = ps.length + 1 := by rw [List.length_append]; rfl
        refine wr_end (ih' _ (N' + 3) (Nat.lor w0 (Nat.lor (Nat.lor (Nat.lor (bit N') (bit N')) (bit mb)) (Nat.lor (Nat.lor (bit (N' + 1)) w5) (bit sb)))) ⟨by omega, fun b h1 h2 h3 => by rw [fput_ne _ _ _ _ h2]; exact c5l b h1 h2 h3, ⟨_, fput_same _ _ _, ?_⟩, by rw [fput_ne _ _ _ _ (fun e => hne e.symm)]; exact c5m⟩ hL2 (by rw [hlenA]; omega) (fun j hj => ?_)) fun X e m n w hq => ?_
        · rw [hlenA, ptCells_app]
          exact SlZ.frame as5 (Nat.le_refl _) fun b h1 _ => fput_ne _ _ _ _ (by omega)
        · simp only [frz_iff]
          exact ⟨hw j hj, ⟨⟨fzN j hj, fzN j hj⟩, frz_bit (by omega)⟩, ⟨frz_bit (by omega), aw j (by omega)⟩, frz_bit (by omega)⟩
        · rw [← lor_assoc']; exact hq
    · rw [if_neg fun h => hr h.1] at ih' hL2
      simp (implicitDefEqProofs := false) (disch := omega) only [WPs, opds, List.all_cons, List.all_nil, List.cons_append, List.nil_append, cond_true, cond_false, eq_self, List.map_cons, List.map_nil, Nat.reduceAdd, Nat.testBit, Nat.reduceShiftRight, Nat.reduceAnd, Nat.reduceBNe, Nat.reduceMul, hrb, heq, decide_eq_false hr]
      refine wr_end (ih' _ (N' + 1) (Nat.lor w0 (Nat.lor (bit N') (bit N'))) (hS1 _) hL2 (by omega) (fun j hj => by simp only [frz_iff]; exact ⟨hw j hj, fzN j hj, fzN j hj⟩)) fun X e m n w hq => ?_
      rw [← lor_assoc']; exact hq
end Go.Am.C06
