/- The machine and its runs, part Y: An39pu An39sh An39pv An39y. -/
import Derived.Shelf.LaysM
import Derived.Shelf.Strconv.Lower
import Derived.Lib.Strings
import Derived.Lib.Walk
import Derived.Lib.ConvBytes
import Derived.Lib.ParseIntBMem
import Derived.Lib.Hide
import Derived.Laws.Strings3
import Derived.Laws.Closers25
import Derived.Laws.Closers25b
import Derived.WalkKit
import Derived.BigCall
import Derived.BigGuard
import Derived.Shelf.Strings.Builder1
import Derived.Shelf.Strings.Builder2
import Derived.Shelf.Strings.OnBuilder
import Derived.Shelf.Strings.Trim
import Derived.Shelf.Small.Utf8
import Derived.Shelf.Small.Strs
import Derived.Shelf.Strings.BuilderF
import Derived.Shelf.Utf8.RuneCount
import Derived.Shelf.Strings.Builder2Cap
import Derived.Shelf.Strconv.Atoi
import Derived.Shelf.Strconv.Itoa0
import Derived.Shelf.Strconv.Itoa1
import Derived.Shelf.Strconv.Itoa2
import Derived.Shelf.Strconv.Itoa3
import Derived.Shelf.Strconv.AtoiErrFast
import Derived.Shelf.Strconv.ParseIntEmpty
import Derived.Shelf.Strconv.AtoiFail
import Derived.Shelf.Strconv.Clone
import Derived.Shelf.Strconv.SyntaxError
import Derived.Shelf.LaysC
import Derived.Shelf.Strconv.ToError
import Derived.Shelf.Strconv.ParseUint10
import Derived.Shelf.Strconv.ParseUint10Empty
import Derived.Shelf.Strconv.ParseUint10Any
import Derived.Shelf.Strconv.ParseInt10
import Derived.Shelf.Strconv.AtoiLong
import Derived.Shelf.Strconv.AtoiInnerAll
import Derived.Shelf.Strconv.RangeError
import Derived.Shelf.Strconv.ToErrorRange
import Derived.Shelf.Strconv.AtoiAll
import Derived.Shelf.Strconv.ParseUintEmpty
import Derived.Ground.MpProg
import Derived.Shelf.Pu.ParseUintPublic10
import Derived.Shelf.Pu.ErrVarParseUint
import Derived.Shelf.Strings.Search1
import Derived.Shelf.Strings.Search2
import Derived.Shelf.Strings.Search3
import Derived.Shelf.Strings.Cut
import Derived.Shelf.Strings.Count
import Derived.Shelf.Strings.Shaped
import Derived.Shelf.Strings.Split
import Derived.Shelf.Strings.SplitShaped
import Derived.Shelf.Unicode.Decode
import Derived.Shelf.Strings.Runes
import Derived.Shelf.Strings.RuneCount
import Derived.Shelf.Strings.AsciiSet
import Derived.Shelf.Strings.Explode
import Derived.Shelf.Unicode.DecodeSlow
import Derived.Shelf.Unicode.DecodeAny
import Derived.Shelf.Unicode.DecodeLast
import Derived.Test.YtibpnegblcdioaaDoorProg
import Derived.Shelf.Pu.Lays
import Derived.Shelf.Pu.ToError
import Derived.Lib.AtoiErrMem
import Derived.WalkSmall
import Derived.Sort.Grow
import Derived.Test.YtibpnegblcdioaaDoorB11
set_option linter.unusedVariables false
set_option linter.unusedSimpArgs false
set_option linter.unusedSectionVars false
namespace Go.Am.C39
open Go Go.Proofs Go.Shelf Go.RowKit
variable {P : Program} {ρ : Go.Shelf.Ren}
def hexD (c : Nat) : Option Nat := if 48 ≤ c ∧ c ≤ 57 then some (c - 48) else if 97 ≤ (bits .or .u8 (c : Int) 32).toNat ∧ (bits .or .u8 (c : Int) 32).toNat ≤ 102 then some ((bits .or .u8 (c : Int) 32).toNat - 87) else none
def hexP : Nat → List UInt8 → Option Nat
  | acc, [] => some acc
  | acc, c :: l => match hexD c.toNat with
    | some d => hexP (acc * 16 + d) l
    | none => none
def hexT (e : TypeId) : Option Nat → Value
  | some n => .tuple #[.int .u64 (n : Int), .nilIface]
  | none => .tuple #[.int .u64 0, .iface e (.int .i64 2)]
theorem hexP_dig {acc : Nat} {c : UInt8} {l : List UInt8} {d : Nat} (h : hexD c.toNat = some d) : hexP acc (c :: l) = hexP (acc * 16 + d) l := by
  rw [hexP, h]
theorem hexP_no {acc : Nat} {c : UInt8} {l : List UInt8} (h : hexD c.toNat = none) : hexP acc (c :: l) = none := by
  rw [hexP, h]
set_option maxHeartbeats 32000000 in
set_option maxRecDepth 100000 in
theorem parseUint_16 (L : Lays.n287 P ρ) (t : ByteArray) (hsz : t.size = 2) (w : World) :
    Calls P (ρ.f 287) #[.string t, .int .i64 16, .int .i64 8] w fun e w' => e = .returned (hexT (ρ.t 167) (hexP 0 t.data.toList)) ∧ w' = Lib.bytesWorld w (ρ.t 5) t := by
  have hne : t.size ≠ 0 := by omega
  have hmax : t.size ≤ 9223372036854775806 := by omega
  have mixed := L.mixed
  have t9 := L.t9; have a9 := L.a9; have z9 := L.z9; have v9 := L.v9
  have t3 := L.t3; have a3 := L.a3; have z3 := L.z3; have v3 := L.v3
  have t53 := L.t53; have a53 := L.a53; have z53 := L.z53; have v53 := L.v53
  have t75 := L.t75; have a75 := L.a75; have z75 := L.z75; have v75 := L.v75
  have t4 := L.t4; have a4 := L.a4; have z4 := L.z4; have v4 := L.v4
  have t167 := L.t167; have a167 := L.a167; have z167 := L.z167; have v167 := L.v167
  have t5 := L.t5; have a5 := L.a5; have z5 := L.z5; have v5 := L.v5
  have t46 := L.t46; have a46 := L.a46; have z46 := L.z46; have v46 := L.v46
  have t37 := L.t37; have a37 := L.a37; have z37 := L.z37; have v37 := L.v37
  have t0 := L.t0; have a0 := L.a0; have z0 := L.z0; have v0 := L.v0
  have e321 : ∀ args w, (callFunc (ρ.f 321) args).run P w = .ok (.enter (ρ.f 321) args) w := enters_of L.f321 (by kernel_rfl) rfl
  have hemp : t.toList.isEmpty = false := by
    rw [← decide_eq_emptyBytes]
    exact decide_eq_false (fun h => hne (by rw [h]; rfl))
  have hcv := Lib.run_convert_string_bytes (P := P) w (ρ.t 9) (ρ.t 37) (ρ.t 5) t (u := .string) L.t9 L.t37 L.t5
  have hB : ∀ j, j < t.size → (Lib.bytesWorld w (ρ.t 5) t).cell? ⟨w.heap.size, j, none⟩ = some (.int .u8 (t.data.toList.getD j 0).toNat) := fun j hj => Lib.bytesWorld_cell w (ρ.t 5) t j hj
  obtain ⟨W1, hW1⟩ : ∃ W1, W1 = Lib.bytesWorld w (ρ.t 5) t := ⟨_, rfl⟩
  rw [← hW1] at hcv hB ⊢
  clear hW1
  obtain ⟨bs, hL⟩ : ∃ bs, bs = t.data.toList := ⟨_, rfl⟩
  have hLn : bs.length = t.size := by rw [hL, Lib.size_eq]
  rw [← hL] at hB ⊢
  clear hL
  have hmv : IntKind.u64.wrap (IntKind.u64.wrap 256 - 1) = 255 := by
    rw [IntKind.wrap_u64, IntKind.wrap_u64]
    decide
  go_enter L.f287, Body.n287_ntmps ρ
  go_wp2
  go_loop [12, 13, 101] (fun vu vn vi => ∃ (k acc : Nat) (a : Int), vu = .bool false ∧ vn = .int .u64 a ∧ vi = .int .i64 k ∧ k ≤ t.size ∧ Hid (a = (acc : Int) ∧ (acc ≤ 255 ∧ (k ≤ 1 → acc ≤ 15) ∧ (k = 0 → acc = 0)) ∧ hexP 0 bs = hexP acc (bs.drop k)))
    (fun _ _ vi => t.size - (intOf vi).toNat)
  case atStart => exact ⟨0, 0, 0, rfl, rfl, rfl, by omega, rfl, by omega, rfl⟩
  case round =>
    obtain ⟨k, acc, a, rfl, rfl, rfl, hk, hh⟩ := hrel
    obtain ⟨ha, hacc, hdec⟩ := hh.out
    clear hh
    have a0 : 0 ≤ a := by omega
    by_cases hkn : k < t.size
    · have a1 : a ≤ 15 := by omega
      have hc := hB k hkn
      have hdrop : bs.drop k = bs[k]'(by omega) :: bs.drop (k + 1) := List.drop_eq_getElem_cons (by omega)
      have hget : bs.getD k 0 = bs[k]'(by omega) := by simp [List.getD, List.getElem?_eq_getElem (show k < bs.length by omega)]
      rw [hdrop] at hdec
      rw [hget] at hc
      generalize bs[k]'(by omega) = c at hc hdec
      have hc256 : c.toNat < 256 := c.toNat_lt
      clear hB hdrop hget
      by_cases hdig : 48 ≤ c.toNat ∧ c.toNat ≤ 57
      · obtain ⟨hd0, hd1⟩ := hdig
        have hF : hexP acc (c :: bs.drop (k + 1)) = hexP (acc * 16 + (c.toNat - 48)) (bs.drop (k + 1)) := hexP_dig (if_pos ⟨hd0, hd1⟩)
        have HN : Hid (a * 16 + ((c.toNat : Int) - 48) = ((acc * 16 + (c.toNat - 48) : Nat) : Int) ∧ (acc * 16 + (c.toNat - 48) ≤ 255 ∧ (k + 1 ≤ 1 → acc * 16 + (c.toNat - 48) ≤ 15) ∧ (k + 1 = 0 → acc * 16 + (c.toNat - 48) = 0)) ∧ hexP 0 bs = hexP (acc * 16 + (c.toNat - 48)) (bs.drop (k + 1))) := Lib.hid ⟨by omega, by omega, hdec.trans hF⟩
        have iov : a * 16 + ((c.toNat : Int) - 48) ≤ 255 := by omega
        clear hacc hF hdec ha
        go_wp2
        refine ⟨⟨k + 1, acc * 16 + (c.toNat - 48), a * 16 + ((c.toNat : Int) - 48), rfl, (by first | rfl | (congr 1; omega)), (by first | rfl | (congr 1; omega)), by omega, HN⟩, by simp [intOf]; omega⟩
      · have hv0 := bits_lo_u8 .or (c.toNat : Int) 32
        have hv1 := bits_hi_u8 .or (c.toNat : Int) 32
        have hu0 := bits_lo_u8 .or 95 32
        have hu1 := bits_hi_u8 .or 95 32
        obtain ⟨q, hQ⟩ : ∃ q, bits .or .u8 (c.toNat : Int) 32 = q := ⟨_, rfl⟩
        rw [hQ] at hv0 hv1
        by_cases hq : 97 ≤ q ∧ q ≤ 102
        · obtain ⟨hq0, hq1⟩ := hq
          have h95 : ¬ (c.toNat : Int) = 95 := fun h => by
            rw [h] at hQ
            have h127 : bits .or .u8 95 32 = 127 := by decide
            omega
          have hD : hexD c.toNat = some (q.toNat - 87) := by
            rw [hexD, if_neg hdig, hQ, if_pos (by omega)]
          have hF := hexP_dig (acc := acc) (l := bs.drop (k + 1)) hD
          have HN : Hid (a * 16 + (q - 97 + 10) = ((acc * 16 + (q.toNat - 87) : Nat) : Int) ∧ (acc * 16 + (q.toNat - 87) ≤ 255 ∧ (k + 1 ≤ 1 → acc * 16 + (q.toNat - 87) ≤ 15) ∧ (k + 1 = 0 → acc * 16 + (q.toNat - 87) = 0)) ∧ hexP 0 bs = hexP (acc * 16 + (q.toNat - 87)) (bs.drop (k + 1))) := Lib.hid ⟨by omega, by omega, hdec.trans hF⟩
          have iov : a * 16 + (q - 97 + 10) ≤ 255 := by omega
          clear hacc hF hdec ha hD
          go_wp2_with (go_at_fn (ρ.f 321); refine (Any.internal_strconv_lower { L with } _ _).mono ?_; rintro e w' ⟨rfl, rfl⟩; try rw [hQ])
          all_goals refine ⟨⟨k + 1, acc * 16 + (q.toNat - 87), a * 16 + (q - 97 + 10), rfl, (by first | rfl | (congr 1; omega)), (by first | rfl | (congr 1; omega)), by omega, HN⟩, by simp [intOf]; omega⟩
        · have hD : hexD c.toNat = none := by
            rw [hexD, if_neg hdig, hQ, if_neg (by omega)]
          have hF := hexP_no (acc := acc) (l := bs.drop (k + 1)) hD
          rw [hF] at hdec
          clear hacc hF ha hD
          by_cases hq2 : q < 97
          · clear hq
            go_wp2_with (go_at_fn (ρ.f 321); refine (Any.internal_strconv_lower { L with } _ _).mono ?_; rintro e w' ⟨rfl, rfl⟩; try rw [hQ])
            all_goals go_ret2
            all_goals first | exact ⟨rfl, rfl⟩ | exact ⟨by rw [hdec]; rfl, rfl⟩
          · by_cases hq3 : 122 < q
            · clear hq
              go_wp2_with (go_at_fn (ρ.f 321); refine (Any.internal_strconv_lower { L with } _ _).mono ?_; rintro e w' ⟨rfl, rfl⟩; try rw [hQ])
              all_goals go_ret2
              all_goals first | exact ⟨rfl, rfl⟩ | exact ⟨by rw [hdec]; rfl, rfl⟩
            · have hq4 : 103 ≤ q := by omega
              clear hq
              go_wp2_with (go_at_fn (ρ.f 321); refine (Any.internal_strconv_lower { L with } _ _).mono ?_; rintro e w' ⟨rfl, rfl⟩; try rw [hQ])
              all_goals go_ret2
              all_goals first | exact ⟨rfl, rfl⟩ | exact ⟨by rw [hdec]; rfl, rfl⟩
    · have hkk : k = t.size := by omega
      subst hkk
      have hF : hexP acc (bs.drop t.size) = some acc := by rw [List.drop_eq_nil_of_le (by omega)]; rfl
      rw [hF] at hdec
      subst ha
      clear hacc hF a0
      go_wp2
      go_ret2
      exact ⟨rfl, rfl⟩
end Go.Am.C39
namespace Go.Proofs
open Go.Shelf
def Tryd.lays156_ren : Go.Shelf.Ren := ⟨fun | 156 => 31 | 165 => 44 | 166 => 45 | 169 => 46 | 240 => 56 | 241 => 57 | 276 => 84 | 277 => 85 | n => n, fun | 31 => 38 | 9 => 9 | 3 => 3 | 4 => 4 | 0 => 0 | 20 => 20 | 72 => 66 | 76 => 54 | 70 => 64 | 37 => 62 | 75 => 53 | 127 => 75 | 164 => 98 | 5 => 5 | 80 => 68 | n => n, fun | n => n⟩
theorem Tryd.lays156 : Go.Proofs.Lays.n156 Tryd.prog Tryd.lays156_ren := {
  mixed := by kernel_rfl
  f156 := Tryd.func31.trans (congrArg some (by kernel_rfl))
  f165 := Tryd.func44.trans (congrArg some (by kernel_rfl))
  f166 := Tryd.func45.trans (congrArg some (by kernel_rfl))
  f169 := Tryd.func46.trans (congrArg some (by kernel_rfl))
  f240 := Tryd.func56.trans (congrArg some (by kernel_rfl))
  f241 := Tryd.func57.trans (congrArg some (by kernel_rfl))
  f276 := Tryd.func84.trans (congrArg some (by kernel_rfl))
  f277 := Tryd.func85.trans (congrArg some (by kernel_rfl))
  t0 := Tryd.underlying0
  a0 := Tryd.isAgg0
  z0 := Tryd.sizeOf0
  v0 := Tryd.zeroValue0
  t3 := Tryd.underlying3
  a3 := Tryd.isAgg3
  z3 := Tryd.sizeOf3
  v3 := Tryd.zeroValue3
  t4 := Tryd.underlying4
  a4 := Tryd.isAgg4
  z4 := Tryd.sizeOf4
  v4 := Tryd.zeroValue4
  t9 := Tryd.underlying9
  a9 := Tryd.isAgg9
  z9 := Tryd.sizeOf9
  v9 := Tryd.zeroValue9
  t20 := Tryd.underlying20
  a20 := Tryd.isAgg20
  z20 := Tryd.sizeOf20
  v20 := Tryd.zeroValue20
  t31 := Tryd.underlying38
  a31 := Tryd.isAgg38
  z31 := Tryd.sizeOf38
  v31 := Tryd.zeroValue38
  t37 := Tryd.underlying62
  a37 := Tryd.isAgg62
  z37 := Tryd.sizeOf62
  v37 := Tryd.zeroValue62
  t70 := Tryd.underlying64
  a70 := Tryd.isAgg64
  z70 := Tryd.sizeOf64
  v70 := Tryd.zeroValue64
  t72 := Tryd.underlying66
  a72 := Tryd.isAgg66
  z72 := Tryd.sizeOf66
  v72 := Tryd.zeroValue66
  t75 := Tryd.underlying53
  a75 := Tryd.isAgg53
  z75 := Tryd.sizeOf53
  v75 := Tryd.zeroValue53
  t76 := Tryd.underlying54
  a76 := Tryd.isAgg54
  z76 := Tryd.sizeOf54
  v76 := Tryd.zeroValue54
  t127 := Tryd.underlying75
  a127 := Tryd.isAgg75
  z127 := Tryd.sizeOf75
  v127 := Tryd.zeroValue75
  t164 := Tryd.underlying98
  a164 := Tryd.isAgg98
  z164 := Tryd.sizeOf98
  v164 := Tryd.zeroValue98 }
theorem Tryd.Builder_Extra_156 : Builder.Extra Tryd.prog Tryd.lays156_ren := {
  sizeBuilder := by kernel_rfl
  liesBuilder := by kernel_rfl
  t5 := Tryd.underlying5
  a5 := Tryd.isAgg5
  z5 := Tryd.sizeOf5
  v5 := Tryd.zeroValue5
  infoByte := by kernel_rfl
  cellsByte := by kernel_rfl
  sizeByte := by kernel_rfl
  neB5 := by decide }
open Go.RowKit in
theorem Tryd.strings_Join_none (a : Option Addr) (c : Nat) (sep : ByteArray) (w : World) :
    Calls Tryd.prog 31 #[.slice a 0 c, .string sep] w fun e w' => e = .returned (.string ⟨#[]⟩) ∧ w' = w := Any.strings_Join_none Tryd.lays156 Tryd.Builder_Extra_156 a c sep w
open Go.RowKit in
theorem Tryd.strings_Join (bk o c : Nat) (xs : List ByteArray) (sep : ByteArray) (w : World) (hcells : ∀ (j : Nat) x, xs[j]? = some x → w.cell? ⟨bk, o + j, none⟩ = some (.string x)) (hbk : bk < w.heap.size) (hN : xs.length ≤ 140737488355328) (hcap : xs.length ≤ c) (hlen : (Lib.join (xs.map (·.data.toList)) sep.data.toList).length ≤ 140737488355328) :
    Calls Tryd.prog 31 #[.slice (some ⟨bk, o, none⟩) xs.length c, .string sep] w fun e w' => e = .returned (.string ⟨(Lib.join (xs.map (·.data.toList)) sep.data.toList).toArray⟩) ∧ Below w.heap.size w w' := Any.strings_Join Tryd.lays156 Tryd.Builder_Extra_156 bk o c xs sep w hcells hbk hN hcap hlen
def Tryd.laysM171_ren : Go.Shelf.Ren := ⟨fun | 171 => 29 | 243 => 43 | 246 => 55 | 283 => 80 | 284 => 81 | 285 => 82 | 286 => 83 | 129 => 97 | 317 => 96 | 318 => 98 | 319 => 99 | 320 => 100 | 337 => 104 | 338 => 105 | n => n, fun | 3 => 3 | 9 => 9 | 2 => 2 | 4 => 4 | 171 => 93 | 0 => 0 | 53 => 56 | 37 => 62 | 5 => 5 | 173 => 96 | 212 => 113 | 51 => 105 | 20 => 20 | 213 => 114 | 46 => 63 | 232 => 127 | 233 => 128 | n => n, fun | 17 => 3 | 18 => 6 | 19 => 7 | n => n⟩
theorem Tryd.laysM171 : Go.Proofs.LaysM.n171 Tryd.prog Tryd.laysM171_ren := {
  mixed := by kernel_rfl
  f129 := Tryd.func97.trans (congrArg some (by kernel_rfl))
  f171 := Tryd.func29.trans (congrArg some (by kernel_rfl))
  f243 := Tryd.func43.trans (congrArg some (by kernel_rfl))
  f246 := Tryd.func55.trans (congrArg some (by kernel_rfl))
  f283 := Tryd.func80.trans (congrArg some (by kernel_rfl))
  f284 := Tryd.func81.trans (congrArg some (by kernel_rfl))
  f285 := Tryd.func82.trans (congrArg some (by kernel_rfl))
  f286 := Tryd.func83.trans (congrArg some (by kernel_rfl))
  f317 := Tryd.func96.trans (congrArg some (by kernel_rfl))
  f318 := Tryd.func98.trans (congrArg some (by kernel_rfl))
  f319 := Tryd.func99.trans (congrArg some (by kernel_rfl))
  f320 := Tryd.func100.trans (congrArg some (by kernel_rfl))
  f337 := Tryd.func104.trans (congrArg some (by kernel_rfl))
  f338 := Tryd.func105.trans (congrArg some (by kernel_rfl))
  t0 := Tryd.underlying0
  a0 := Tryd.isAgg0
  z0 := Tryd.sizeOf0
  v0 := Tryd.zeroValue0
  t2 := Tryd.underlying2
  a2 := Tryd.isAgg2
  z2 := Tryd.sizeOf2
  v2 := Tryd.zeroValue2
  t3 := Tryd.underlying3
  a3 := Tryd.isAgg3
  z3 := Tryd.sizeOf3
  v3 := Tryd.zeroValue3
  t4 := Tryd.underlying4
  a4 := Tryd.isAgg4
  z4 := Tryd.sizeOf4
  v4 := Tryd.zeroValue4
  t5 := Tryd.underlying5
  a5 := Tryd.isAgg5
  z5 := Tryd.sizeOf5
  v5 := Tryd.zeroValue5
  t9 := Tryd.underlying9
  a9 := Tryd.isAgg9
  z9 := Tryd.sizeOf9
  v9 := Tryd.zeroValue9
  t20 := Tryd.underlying20
  a20 := Tryd.isAgg20
  z20 := Tryd.sizeOf20
  v20 := Tryd.zeroValue20
  t37 := Tryd.underlying62
  a37 := Tryd.isAgg62
  z37 := Tryd.sizeOf62
  v37 := Tryd.zeroValue62
  t46 := Tryd.underlying63
  a46 := Tryd.isAgg63
  z46 := Tryd.sizeOf63
  v46 := Tryd.zeroValue63
  t51 := Tryd.underlying105
  a51 := Tryd.isAgg105
  z51 := Tryd.sizeOf105
  v51 := Tryd.zeroValue105
  t53 := Tryd.underlying56
  a53 := Tryd.isAgg56
  z53 := Tryd.sizeOf56
  v53 := Tryd.zeroValue56
  t171 := Tryd.underlying93
  a171 := Tryd.isAgg93
  z171 := Tryd.sizeOf93
  v171 := Tryd.zeroValue93
  t173 := Tryd.underlying96
  a173 := Tryd.isAgg96
  z173 := Tryd.sizeOf96
  v173 := Tryd.zeroValue96
  t212 := Tryd.underlying113
  a212 := Tryd.isAgg113
  z212 := Tryd.sizeOf113
  v212 := Tryd.zeroValue113
  t213 := Tryd.underlying114
  a213 := Tryd.isAgg114
  z213 := Tryd.sizeOf114
  t232 := Tryd.underlying127
  a232 := Tryd.isAgg127
  z232 := Tryd.sizeOf127
  v232 := Tryd.zeroValue127
  t233 := Tryd.underlying128
  a233 := Tryd.isAgg128
  z233 := Tryd.sizeOf128
  v233 := Tryd.zeroValue128
  g17 := by kernel_rfl
  g18 := by kernel_rfl
  g19 := by kernel_rfl
  i0 := by kernel_rfl
  i2 := by kernel_rfl
  i3 := by kernel_rfl
  i4 := by kernel_rfl
  i5 := by kernel_rfl
  i9 := by kernel_rfl
  i20 := by kernel_rfl
  i37 := by kernel_rfl
  i46 := by kernel_rfl
  i51 := by kernel_rfl
  i53 := by kernel_rfl
  i171 := by kernel_rfl
  i173 := by kernel_rfl
  i212 := by kernel_rfl
  i232 := by kernel_rfl
  i233 := by kernel_rfl
  m17 := by kernel_rfl
  m18 := by kernel_rfl
  m19 := by kernel_rfl }
open Go.RowKit Go.Sort Go.Lib in
theorem Tryd.strconv_Itoa (n : Int) (h0 : -9223372036854775808 ≤ n) (h1 : n ≤ 9223372036854775807) (w : World) (htab : Lib.TabIs Tryd.prog w "internal/strconv.uint64pow10" .u64 Lib.pow10Tab) :
    Calls Tryd.prog 29 #[.int .i64 n] w fun e w' => e = .returned (.string ⟨(Lib.itoa n).toArray⟩) ∧ ∃ k os, w' = grow (w.drewN k) os := Any.strconv_Itoa Tryd.laysM171 n h0 h1 w htab
def Tryd.lays287_ren : Go.Shelf.Ren := ⟨fun | 287 => 53 | 321 => 75 | 322 => 76 | n => n, fun | 9 => 9 | 3 => 3 | 53 => 56 | 75 => 53 | 4 => 4 | 167 => 86 | 5 => 5 | 46 => 63 | 37 => 62 | 0 => 0 | 21 => 21 | 80 => 68 | n => n, fun | n => n⟩
theorem Tryd.lays287 : Go.Proofs.Lays.n287 Tryd.prog Tryd.lays287_ren := {
  mixed := by kernel_rfl
  f287 := Tryd.func53.trans (congrArg some (by kernel_rfl))
  f321 := Tryd.func75.trans (congrArg some (by kernel_rfl))
  f322 := Tryd.func76.trans (congrArg some (by kernel_rfl))
  t0 := Tryd.underlying0
  a0 := Tryd.isAgg0
  z0 := Tryd.sizeOf0
  v0 := Tryd.zeroValue0
  t3 := Tryd.underlying3
  a3 := Tryd.isAgg3
  z3 := Tryd.sizeOf3
  v3 := Tryd.zeroValue3
  t4 := Tryd.underlying4
  a4 := Tryd.isAgg4
  z4 := Tryd.sizeOf4
  v4 := Tryd.zeroValue4
  t5 := Tryd.underlying5
  a5 := Tryd.isAgg5
  z5 := Tryd.sizeOf5
  v5 := Tryd.zeroValue5
  t9 := Tryd.underlying9
  a9 := Tryd.isAgg9
  z9 := Tryd.sizeOf9
  v9 := Tryd.zeroValue9
  t21 := Tryd.underlying21
  a21 := Tryd.isAgg21
  z21 := Tryd.sizeOf21
  v21 := Tryd.zeroValue21
  t37 := Tryd.underlying62
  a37 := Tryd.isAgg62
  z37 := Tryd.sizeOf62
  v37 := Tryd.zeroValue62
  t46 := Tryd.underlying63
  a46 := Tryd.isAgg63
  z46 := Tryd.sizeOf63
  v46 := Tryd.zeroValue63
  t53 := Tryd.underlying56
  a53 := Tryd.isAgg56
  z53 := Tryd.sizeOf56
  v53 := Tryd.zeroValue56
  t75 := Tryd.underlying53
  a75 := Tryd.isAgg53
  z75 := Tryd.sizeOf53
  v75 := Tryd.zeroValue53
  t167 := Tryd.underlying86
  a167 := Tryd.isAgg86
  z167 := Tryd.sizeOf86
  v167 := Tryd.zeroValue86 }
open Go.RowKit in
theorem Tryd.internal_strconv_ParseUint_10 (t : ByteArray) (hne : t.size ≠ 0) (hmax : t.size ≤ 9223372036854775806) (w : World) :
    Calls Tryd.prog 53 #[.string t, .int .i64 10, .int .i64 0] w fun e w' => e = .returned (Lib.uintTuple 86 (Lib.parseUint10 0 t.data.toList)) ∧ w' = Lib.bytesWorld w 5 t := Any.internal_strconv_ParseUint_10 Tryd.lays287 t hne hmax w
def Tryd.laysC172_ren : Go.Shelf.Ren := ⟨fun | 172 => 40 | 244 => 51 | 245 => 52 | 247 => 70 | 279 => 71 | 280 => 72 | 281 => 73 | 282 => 74 | 287 => 53 | 316 => 92 | 171 => 29 | 205 => 93 | 321 => 75 | 322 => 76 | 243 => 43 | 246 => 55 | 283 => 80 | 284 => 81 | 285 => 82 | 286 => 83 | 129 => 97 | 317 => 96 | 318 => 98 | 319 => 99 | 320 => 100 | 337 => 104 | 338 => 105 | n => n, fun | 9 => 9 | 3 => 3 | 75 => 53 | 76 => 54 | 4 => 4 | 5 => 5 | 167 => 86 | 37 => 62 | 0 => 0 | 85 => 87 | 2 => 2 | 168 => 89 | 53 => 56 | 175 => 57 | 46 => 63 | 210 => 110 | 127 => 75 | 145 => 120 | 143 => 118 | 21 => 21 | 171 => 93 | 173 => 96 | 212 => 113 | 51 => 105 | 20 => 20 | 213 => 114 | 232 => 127 | 233 => 128 | 80 => 68 | n => n, fun | 15 => 1 | 16 => 2 | 17 => 3 | 18 => 6 | 19 => 7 | n => n⟩
theorem Tryd.laysC172 : Go.Proofs.LaysC.n172 Tryd.prog Tryd.laysC172_ren := {
  mixed := by kernel_rfl
  f129 := Tryd.func97.trans (congrArg some (by kernel_rfl))
  f171 := Tryd.func29.trans (congrArg some (by kernel_rfl))
  f172 := Tryd.func40.trans (congrArg some (by kernel_rfl))
  f205 := Tryd.func93.trans (congrArg some (by kernel_rfl))
  f243 := Tryd.func43.trans (congrArg some (by kernel_rfl))
  f244 := Tryd.func51.trans (congrArg some (by kernel_rfl))
  f245 := Tryd.func52.trans (congrArg some (by kernel_rfl))
  f246 := Tryd.func55.trans (congrArg some (by kernel_rfl))
  f247 := Tryd.func70.trans (congrArg some (by kernel_rfl))
  f279 := Tryd.func71.trans (congrArg some (by kernel_rfl))
  f280 := Tryd.func72.trans (congrArg some (by kernel_rfl))
  f281 := Tryd.func73.trans (congrArg some (by kernel_rfl))
  f282 := Tryd.func74.trans (congrArg some (by kernel_rfl))
  f283 := Tryd.func80.trans (congrArg some (by kernel_rfl))
  f284 := Tryd.func81.trans (congrArg some (by kernel_rfl))
  f285 := Tryd.func82.trans (congrArg some (by kernel_rfl))
  f286 := Tryd.func83.trans (congrArg some (by kernel_rfl))
  f287 := Tryd.func53.trans (congrArg some (by kernel_rfl))
  f316 := Tryd.func92.trans (congrArg some (by kernel_rfl))
  f317 := Tryd.func96.trans (congrArg some (by kernel_rfl))
  f318 := Tryd.func98.trans (congrArg some (by kernel_rfl))
  f319 := Tryd.func99.trans (congrArg some (by kernel_rfl))
  f320 := Tryd.func100.trans (congrArg some (by kernel_rfl))
  f321 := Tryd.func75.trans (congrArg some (by kernel_rfl))
  f322 := Tryd.func76.trans (congrArg some (by kernel_rfl))
  f337 := Tryd.func104.trans (congrArg some (by kernel_rfl))
  f338 := Tryd.func105.trans (congrArg some (by kernel_rfl))
  t0 := Tryd.underlying0
  a0 := Tryd.isAgg0
  z0 := Tryd.sizeOf0
  v0 := Tryd.zeroValue0
  t2 := Tryd.underlying2
  a2 := Tryd.isAgg2
  z2 := Tryd.sizeOf2
  v2 := Tryd.zeroValue2
  t3 := Tryd.underlying3
  a3 := Tryd.isAgg3
  z3 := Tryd.sizeOf3
  v3 := Tryd.zeroValue3
  t4 := Tryd.underlying4
  a4 := Tryd.isAgg4
  z4 := Tryd.sizeOf4
  v4 := Tryd.zeroValue4
  t5 := Tryd.underlying5
  a5 := Tryd.isAgg5
  z5 := Tryd.sizeOf5
  v5 := Tryd.zeroValue5
  t9 := Tryd.underlying9
  a9 := Tryd.isAgg9
  z9 := Tryd.sizeOf9
  v9 := Tryd.zeroValue9
  t20 := Tryd.underlying20
  a20 := Tryd.isAgg20
  z20 := Tryd.sizeOf20
  v20 := Tryd.zeroValue20
  t21 := Tryd.underlying21
  a21 := Tryd.isAgg21
  z21 := Tryd.sizeOf21
  v21 := Tryd.zeroValue21
  t37 := Tryd.underlying62
  a37 := Tryd.isAgg62
  z37 := Tryd.sizeOf62
  v37 := Tryd.zeroValue62
  t46 := Tryd.underlying63
  a46 := Tryd.isAgg63
  z46 := Tryd.sizeOf63
  v46 := Tryd.zeroValue63
  t51 := Tryd.underlying105
  a51 := Tryd.isAgg105
  z51 := Tryd.sizeOf105
  v51 := Tryd.zeroValue105
  t53 := Tryd.underlying56
  a53 := Tryd.isAgg56
  z53 := Tryd.sizeOf56
  v53 := Tryd.zeroValue56
  t75 := Tryd.underlying53
  a75 := Tryd.isAgg53
  z75 := Tryd.sizeOf53
  v75 := Tryd.zeroValue53
  t76 := Tryd.underlying54
  a76 := Tryd.isAgg54
  z76 := Tryd.sizeOf54
  v76 := Tryd.zeroValue54
  t85 := Tryd.underlying87
  a85 := Tryd.isAgg87
  z85 := Tryd.sizeOf87
  v85 := Tryd.zeroValue87
  t127 := Tryd.underlying75
  a127 := Tryd.isAgg75
  z127 := Tryd.sizeOf75
  v127 := Tryd.zeroValue75
  t143 := Tryd.underlying118
  a143 := Tryd.isAgg118
  z143 := Tryd.sizeOf118
  v143 := Tryd.zeroValue118
  t145 := Tryd.underlying120
  a145 := Tryd.isAgg120
  z145 := Tryd.sizeOf120
  v145 := Tryd.zeroValue120
  t167 := Tryd.underlying86
  a167 := Tryd.isAgg86
  z167 := Tryd.sizeOf86
  v167 := Tryd.zeroValue86
  t168 := Tryd.underlying89
  a168 := Tryd.isAgg89
  z168 := Tryd.sizeOf89
  v168 := Tryd.zeroValue89
  t171 := Tryd.underlying93
  a171 := Tryd.isAgg93
  z171 := Tryd.sizeOf93
  v171 := Tryd.zeroValue93
  t173 := Tryd.underlying96
  a173 := Tryd.isAgg96
  z173 := Tryd.sizeOf96
  v173 := Tryd.zeroValue96
  t175 := Tryd.underlying57
  a175 := Tryd.isAgg57
  z175 := Tryd.sizeOf57
  v175 := Tryd.zeroValue57
  t210 := Tryd.underlying110
  a210 := Tryd.isAgg110
  z210 := Tryd.sizeOf110
  v210 := Tryd.zeroValue110
  t212 := Tryd.underlying113
  a212 := Tryd.isAgg113
  z212 := Tryd.sizeOf113
  v212 := Tryd.zeroValue113
  t213 := Tryd.underlying114
  a213 := Tryd.isAgg114
  z213 := Tryd.sizeOf114
  t232 := Tryd.underlying127
  a232 := Tryd.isAgg127
  z232 := Tryd.sizeOf127
  v232 := Tryd.zeroValue127
  t233 := Tryd.underlying128
  a233 := Tryd.isAgg128
  z233 := Tryd.sizeOf128
  v233 := Tryd.zeroValue128
  g15 := by kernel_rfl
  g16 := by kernel_rfl
  g17 := by kernel_rfl
  g18 := by kernel_rfl
  g19 := by kernel_rfl
  t80 := Tryd.underlying68
  a80 := Tryd.isAgg68
  z80 := Tryd.sizeOf68
  v80 := Tryd.zeroValue68
  i0 := by kernel_rfl
  i2 := by kernel_rfl
  i3 := by kernel_rfl
  i4 := by kernel_rfl
  i5 := by kernel_rfl
  i9 := by kernel_rfl
  i20 := by kernel_rfl
  i21 := by kernel_rfl
  i37 := by kernel_rfl
  i46 := by kernel_rfl
  i51 := by kernel_rfl
  i53 := by kernel_rfl
  i75 := by kernel_rfl
  i76 := by kernel_rfl
  i80 := by kernel_rfl
  i85 := by kernel_rfl
  i127 := by kernel_rfl
  i143 := by kernel_rfl
  i145 := by kernel_rfl
  i167 := by kernel_rfl
  i168 := by kernel_rfl
  i171 := by kernel_rfl
  i173 := by kernel_rfl
  i175 := by kernel_rfl
  i210 := by kernel_rfl
  i212 := by kernel_rfl
  i232 := by kernel_rfl
  i233 := by kernel_rfl
  m15 := by kernel_rfl
  m16 := by kernel_rfl
  m17 := by kernel_rfl
  m18 := by kernel_rfl
  m19 := by kernel_rfl
  c0 := by kernel_rfl
  c2 := by kernel_rfl
  c3 := by kernel_rfl
  c4 := by kernel_rfl
  c5 := by kernel_rfl
  c9 := by kernel_rfl
  c20 := by kernel_rfl
  c21 := by kernel_rfl
  c37 := by kernel_rfl
  c46 := by kernel_rfl
  c51 := by kernel_rfl
  c53 := by kernel_rfl
  c75 := by kernel_rfl
  c76 := by kernel_rfl
  c80 := by kernel_rfl
  c85 := by kernel_rfl
  c127 := by kernel_rfl
  c143 := by kernel_rfl
  c145 := by kernel_rfl
  c167 := by kernel_rfl
  c168 := by kernel_rfl
  c171 := by kernel_rfl
  c173 := by kernel_rfl
  c175 := by kernel_rfl
  c210 := by kernel_rfl
  c212 := by kernel_rfl
  c213 := by kernel_rfl
  c232 := by kernel_rfl
  c233 := by kernel_rfl }
open Go.RowKit in
theorem Tryd.strconv_Atoi_ok (s : ByteArray) (hmax : s.size ≤ 9223372036854775806) (v : Int) (h : Lib.atoiAll s.data.toList = .ok v) (w : World) :
    Calls Tryd.prog 40 #[.string s] w fun e w' => e = .returned (.tuple #[.int .i64 v, .nilIface]) ∧ (w' = w ∨ ∃ t, w' = Lib.bytesWorld w 5 t) := Any.strconv_Atoi_ok Tryd.laysC172 s hmax v h w
open Go.RowKit in
theorem Tryd.strconv_Atoi_synt (s : ByteArray) (hlim : s.size ≤ 281474976710656) (h1 : ∀ z, Lib.atoiAll s.data.toList ≠ .ok z) (h2 : Lib.atoiAll s.data.toList ≠ .range) (ev : Value) (w : World) (hv : w.cell? ⟨1, 0, none⟩ = some ev) (hev : ev = .nilIface ∨ ∃ te pe, ev = .iface te pe) :
    Calls Tryd.prog 40 #[.string s] w fun e w' => ∃ N, e = .returned (.tuple #[.int .i64 (0), .iface 89 (.pointer (some ⟨N, 0, none⟩))]) ∧ w.heap.size ≤ N ∧ w'.heap[N]? = some (.cells #[.string ⟨#[65, 116, 111, 105]⟩, .string s, ev] 110 (0, 0)) ∧ Below w.heap.size w w' := by
  refine Any.strconv_Atoi_syntax Tryd.laysC172 s hlim ?_ ev w hv hev
  cases hx : Lib.atoiAll s.data.toList
  · exact absurd hx (h1 _)
  · rfl
  · exact absurd hx h2
open Go.RowKit in
theorem Tryd.strconv_Atoi_range (s : ByteArray) (hlim : s.size ≤ 281474976710656) (h : Lib.atoiAll s.data.toList = .range) (ev : Value) (w : World) (hv : w.cell? ⟨2, 0, none⟩ = some ev) (hev : ev = .nilIface ∨ ∃ te pe, ev = .iface te pe) :
    Calls Tryd.prog 40 #[.string s] w fun e w' => ∃ N, e = .returned (.tuple #[.int .i64 (Lib.atoiSat s.data.toList), .iface 89 (.pointer (some ⟨N, 0, none⟩))]) ∧ w.heap.size ≤ N ∧ w'.heap[N]? = some (.cells #[.string ⟨#[65, 116, 111, 105]⟩, .string s, ev] 110 (0, 0)) ∧ Below w.heap.size w w' := Any.strconv_Atoi_range Tryd.laysC172 s hlim h ev w hv hev
def Tryd.laysPu14_ren : Go.Shelf.Ren := ⟨fun | 14 => 41 | 16 => 53 | 17 => 52 | 19 => 75 | 20 => 76 | 21 => 71 | 22 => 72 | 23 => 73 | 24 => 74 | 25 => 92 | 27 => 29 | 26 => 93 | 28 => 43 | 29 => 55 | 30 => 80 | 31 => 81 | 32 => 82 | 33 => 83 | 35 => 97 | 34 => 96 | 36 => 98 | 37 => 99 | 38 => 100 | 39 => 104 | 40 => 105 | n => n, fun | 9 => 9 | 3 => 3 | 22 => 56 | 24 => 53 | 25 => 57 | 4 => 4 | 34 => 86 | 5 => 5 | 36 => 63 | 37 => 62 | 0 => 0 | 39 => 89 | 21 => 21 | 44 => 110 | 47 => 75 | 50 => 120 | 48 => 118 | 2 => 2 | 52 => 93 | 55 => 96 | 59 => 113 | 60 => 105 | 20 => 20 | 61 => 114 | 65 => 127 | 66 => 128 | 67 => 68 | n => n, fun | 0 => 1 | 1 => 2 | 2 => 3 | 3 => 6 | 4 => 7 | n => n⟩
theorem Tryd.laysPu14 : Go.Proofs.LaysPu.n14 Tryd.prog Tryd.laysPu14_ren := {
  mixed := by kernel_rfl
  f14 := Tryd.func41.trans (congrArg some (by kernel_rfl))
  f16 := Tryd.func53.trans (congrArg some (by kernel_rfl))
  f17 := Tryd.func52.trans (congrArg some (by kernel_rfl))
  f19 := Tryd.func75.trans (congrArg some (by kernel_rfl))
  f20 := Tryd.func76.trans (congrArg some (by kernel_rfl))
  f21 := Tryd.func71.trans (congrArg some (by kernel_rfl))
  f22 := Tryd.func72.trans (congrArg some (by kernel_rfl))
  f23 := Tryd.func73.trans (congrArg some (by kernel_rfl))
  f24 := Tryd.func74.trans (congrArg some (by kernel_rfl))
  f25 := Tryd.func92.trans (congrArg some (by kernel_rfl))
  f26 := Tryd.func93.trans (congrArg some (by kernel_rfl))
  f27 := Tryd.func29.trans (congrArg some (by kernel_rfl))
  f28 := Tryd.func43.trans (congrArg some (by kernel_rfl))
  f29 := Tryd.func55.trans (congrArg some (by kernel_rfl))
  f30 := Tryd.func80.trans (congrArg some (by kernel_rfl))
  f31 := Tryd.func81.trans (congrArg some (by kernel_rfl))
  f32 := Tryd.func82.trans (congrArg some (by kernel_rfl))
  f33 := Tryd.func83.trans (congrArg some (by kernel_rfl))
  f34 := Tryd.func96.trans (congrArg some (by kernel_rfl))
  f35 := Tryd.func97.trans (congrArg some (by kernel_rfl))
  f36 := Tryd.func98.trans (congrArg some (by kernel_rfl))
  f37 := Tryd.func99.trans (congrArg some (by kernel_rfl))
  f38 := Tryd.func100.trans (congrArg some (by kernel_rfl))
  f39 := Tryd.func104.trans (congrArg some (by kernel_rfl))
  f40 := Tryd.func105.trans (congrArg some (by kernel_rfl))
  t0 := Tryd.underlying0
  a0 := Tryd.isAgg0
  z0 := Tryd.sizeOf0
  v0 := Tryd.zeroValue0
  i0 := by kernel_rfl
  t2 := Tryd.underlying2
  a2 := Tryd.isAgg2
  z2 := Tryd.sizeOf2
  v2 := Tryd.zeroValue2
  i2 := by kernel_rfl
  t3 := Tryd.underlying3
  a3 := Tryd.isAgg3
  z3 := Tryd.sizeOf3
  v3 := Tryd.zeroValue3
  i3 := by kernel_rfl
  t4 := Tryd.underlying4
  a4 := Tryd.isAgg4
  z4 := Tryd.sizeOf4
  v4 := Tryd.zeroValue4
  i4 := by kernel_rfl
  t5 := Tryd.underlying5
  a5 := Tryd.isAgg5
  z5 := Tryd.sizeOf5
  v5 := Tryd.zeroValue5
  i5 := by kernel_rfl
  t9 := Tryd.underlying9
  a9 := Tryd.isAgg9
  z9 := Tryd.sizeOf9
  v9 := Tryd.zeroValue9
  i9 := by kernel_rfl
  t20 := Tryd.underlying20
  a20 := Tryd.isAgg20
  z20 := Tryd.sizeOf20
  v20 := Tryd.zeroValue20
  i20 := by kernel_rfl
  t21 := Tryd.underlying21
  a21 := Tryd.isAgg21
  z21 := Tryd.sizeOf21
  v21 := Tryd.zeroValue21
  i21 := by kernel_rfl
  t22 := Tryd.underlying56
  a22 := Tryd.isAgg56
  z22 := Tryd.sizeOf56
  v22 := Tryd.zeroValue56
  i22 := by kernel_rfl
  t24 := Tryd.underlying53
  a24 := Tryd.isAgg53
  z24 := Tryd.sizeOf53
  v24 := Tryd.zeroValue53
  i24 := by kernel_rfl
  t25 := Tryd.underlying57
  a25 := Tryd.isAgg57
  z25 := Tryd.sizeOf57
  v25 := Tryd.zeroValue57
  i25 := by kernel_rfl
  t34 := Tryd.underlying86
  a34 := Tryd.isAgg86
  z34 := Tryd.sizeOf86
  v34 := Tryd.zeroValue86
  i34 := by kernel_rfl
  c34 := by kernel_rfl
  t36 := Tryd.underlying63
  a36 := Tryd.isAgg63
  z36 := Tryd.sizeOf63
  v36 := Tryd.zeroValue63
  i36 := by kernel_rfl
  t37 := Tryd.underlying62
  a37 := Tryd.isAgg62
  z37 := Tryd.sizeOf62
  v37 := Tryd.zeroValue62
  i37 := by kernel_rfl
  t39 := Tryd.underlying89
  a39 := Tryd.isAgg89
  z39 := Tryd.sizeOf89
  v39 := Tryd.zeroValue89
  i39 := by kernel_rfl
  t44 := Tryd.underlying110
  a44 := Tryd.isAgg110
  z44 := Tryd.sizeOf110
  v44 := Tryd.zeroValue110
  i44 := by kernel_rfl
  t47 := Tryd.underlying75
  a47 := Tryd.isAgg75
  z47 := Tryd.sizeOf75
  v47 := Tryd.zeroValue75
  i47 := by kernel_rfl
  t48 := Tryd.underlying118
  a48 := Tryd.isAgg118
  z48 := Tryd.sizeOf118
  v48 := Tryd.zeroValue118
  i48 := by kernel_rfl
  t50 := Tryd.underlying120
  a50 := Tryd.isAgg120
  z50 := Tryd.sizeOf120
  v50 := Tryd.zeroValue120
  i50 := by kernel_rfl
  t52 := Tryd.underlying93
  a52 := Tryd.isAgg93
  z52 := Tryd.sizeOf93
  v52 := Tryd.zeroValue93
  i52 := by kernel_rfl
  t55 := Tryd.underlying96
  a55 := Tryd.isAgg96
  z55 := Tryd.sizeOf96
  v55 := Tryd.zeroValue96
  i55 := by kernel_rfl
  t59 := Tryd.underlying113
  a59 := Tryd.isAgg113
  z59 := Tryd.sizeOf113
  v59 := Tryd.zeroValue113
  i59 := by kernel_rfl
  t60 := Tryd.underlying105
  a60 := Tryd.isAgg105
  z60 := Tryd.sizeOf105
  v60 := Tryd.zeroValue105
  i60 := by kernel_rfl
  t61 := Tryd.underlying114
  a61 := Tryd.isAgg114
  z61 := Tryd.sizeOf114
  t65 := Tryd.underlying127
  a65 := Tryd.isAgg127
  z65 := Tryd.sizeOf127
  v65 := Tryd.zeroValue127
  i65 := by kernel_rfl
  t66 := Tryd.underlying128
  a66 := Tryd.isAgg128
  z66 := Tryd.sizeOf128
  v66 := Tryd.zeroValue128
  i66 := by kernel_rfl
  t67 := Tryd.underlying68
  a67 := Tryd.isAgg68
  z67 := Tryd.sizeOf68
  v67 := Tryd.zeroValue68
  i67 := by kernel_rfl
  g0 := by kernel_rfl
  m0 := by kernel_rfl
  g1 := by kernel_rfl
  m1 := by kernel_rfl
  g2 := by kernel_rfl
  m2 := by kernel_rfl
  g3 := by kernel_rfl
  m3 := by kernel_rfl
  g4 := by kernel_rfl
  m4 := by kernel_rfl }
open Go.RowKit in
theorem Tryd.strconv_ParseUint_10_at8_ok (s : ByteArray) (hmax : s.size ≤ 9223372036854775806) (u : Nat) (h : Lib.parseUintB 8 s.data.toList = .ok u) (w : World) :
    Calls Tryd.prog 41 #[.string s, .int .i64 10, .int .i64 8] w fun e w' => e = .returned (.tuple #[.int .u64 u, .nilIface]) ∧ (w' = w ∨ w' = Lib.bytesWorld w 5 s) := Any.strconv_ParseUint_10_at8_ok Tryd.laysPu14 s hmax u h w
def Tryd.lays145_ren : Go.Shelf.Ren := ⟨fun | 145 => 23 | 220 => 39 | 219 => 50 | 217 => 66 | 225 => 67 | 224 => 68 | 267 => 69 | 266 => 90 | 314 => 91 | n => n, fun | 9 => 9 | 4 => 4 | 59 => 39 | 3 => 3 | 5 => 5 | 46 => 63 | 146 => 106 | 51 => 105 | n => n, fun | 1 => 0 | n => n⟩
theorem Tryd.lays145 : Go.Proofs.Lays.n145 Tryd.prog Tryd.lays145_ren := {
  mixed := by kernel_rfl
  f145 := Tryd.func23.trans (congrArg some (by kernel_rfl))
  f217 := Tryd.func66.trans (congrArg some (by kernel_rfl))
  f219 := Tryd.func50.trans (congrArg some (by kernel_rfl))
  f220 := Tryd.func39.trans (congrArg some (by kernel_rfl))
  f224 := Tryd.func68.trans (congrArg some (by kernel_rfl))
  f225 := Tryd.func67.trans (congrArg some (by kernel_rfl))
  f266 := Tryd.func90.trans (congrArg some (by kernel_rfl))
  f267 := Tryd.func69.trans (congrArg some (by kernel_rfl))
  f314 := Tryd.func91.trans (congrArg some (by kernel_rfl))
  t3 := Tryd.underlying3
  a3 := Tryd.isAgg3
  z3 := Tryd.sizeOf3
  v3 := Tryd.zeroValue3
  t4 := Tryd.underlying4
  a4 := Tryd.isAgg4
  z4 := Tryd.sizeOf4
  v4 := Tryd.zeroValue4
  t5 := Tryd.underlying5
  a5 := Tryd.isAgg5
  z5 := Tryd.sizeOf5
  v5 := Tryd.zeroValue5
  t9 := Tryd.underlying9
  a9 := Tryd.isAgg9
  z9 := Tryd.sizeOf9
  v9 := Tryd.zeroValue9
  t46 := Tryd.underlying63
  a46 := Tryd.isAgg63
  z46 := Tryd.sizeOf63
  v46 := Tryd.zeroValue63
  t51 := Tryd.underlying105
  a51 := Tryd.isAgg105
  z51 := Tryd.sizeOf105
  v51 := Tryd.zeroValue105
  t59 := Tryd.underlying39
  a59 := Tryd.isAgg39
  z59 := Tryd.sizeOf39
  v59 := Tryd.zeroValue39
  t146 := Tryd.underlying106
  a146 := Tryd.isAgg106
  z146 := Tryd.sizeOf106
  v146 := Tryd.zeroValue106
  g1 := by kernel_rfl }
open Go.RowKit Go.Lib in
theorem Tryd.strings_Cut (s sep : ByteArray) (m : Int) (w : World) (hs : s.size < 4294967281) (hm : w.cell? ⟨0, 0, none⟩ = some (.int .i64 m)) :
    Calls Tryd.prog 23 #[.string s, .string sep] w fun e w' => e = .returned (.tuple #[.string ⟨(Lib.cut s.data.toList sep.data.toList).1.toArray⟩, .string ⟨(Lib.cut s.data.toList sep.data.toList).2.1.toArray⟩, .bool (Lib.cut s.data.toList sep.data.toList).2.2]) ∧ ∃ n, w' = w.drewN n := Any.strings_Cut Tryd.lays145 s sep m w hs hm
def Tryd.lays146_ren : Go.Shelf.Ren := ⟨fun | 146 => 42 | 221 => 54 | 268 => 77 | 138 => 78 | 143 => 79 | 195 => 94 | 197 => 87 | 218 => 95 | 219 => 50 | 260 => 101 | 217 => 66 | 225 => 67 | 224 => 68 | 267 => 69 | 266 => 90 | 314 => 91 | n => n, fun | 9 => 9 | 31 => 38 | 3 => 3 | 4 => 4 | 0 => 0 | 105 => 102 | 21 => 21 | 5 => 5 | 46 => 63 | 119 => 122 | 139 => 125 | 138 => 124 | 146 => 106 | 51 => 105 | n => n, fun | 1 => 0 | 3 => 4 | 4 => 5 | n => n⟩
theorem Tryd.lays146 : Go.Proofs.Lays.n146 Tryd.prog Tryd.lays146_ren := {
  mixed := by kernel_rfl
  f138 := Tryd.func78.trans (congrArg some (by kernel_rfl))
  f143 := Tryd.func79.trans (congrArg some (by kernel_rfl))
  f146 := Tryd.func42.trans (congrArg some (by kernel_rfl))
  f195 := Tryd.func94.trans (congrArg some (by kernel_rfl))
  f197 := Tryd.func87.trans (congrArg some (by kernel_rfl))
  f217 := Tryd.func66.trans (congrArg some (by kernel_rfl))
  f218 := Tryd.func95.trans (congrArg some (by kernel_rfl))
  f219 := Tryd.func50.trans (congrArg some (by kernel_rfl))
  f221 := Tryd.func54.trans (congrArg some (by kernel_rfl))
  f224 := Tryd.func68.trans (congrArg some (by kernel_rfl))
  f225 := Tryd.func67.trans (congrArg some (by kernel_rfl))
  f260 := Tryd.func101.trans (congrArg some (by kernel_rfl))
  f266 := Tryd.func90.trans (congrArg some (by kernel_rfl))
  f267 := Tryd.func69.trans (congrArg some (by kernel_rfl))
  f268 := Tryd.func77.trans (congrArg some (by kernel_rfl))
  f314 := Tryd.func91.trans (congrArg some (by kernel_rfl))
  t0 := Tryd.underlying0
  a0 := Tryd.isAgg0
  z0 := Tryd.sizeOf0
  v0 := Tryd.zeroValue0
  t3 := Tryd.underlying3
  a3 := Tryd.isAgg3
  z3 := Tryd.sizeOf3
  v3 := Tryd.zeroValue3
  t4 := Tryd.underlying4
  a4 := Tryd.isAgg4
  z4 := Tryd.sizeOf4
  v4 := Tryd.zeroValue4
  t5 := Tryd.underlying5
  a5 := Tryd.isAgg5
  z5 := Tryd.sizeOf5
  v5 := Tryd.zeroValue5
  t9 := Tryd.underlying9
  a9 := Tryd.isAgg9
  z9 := Tryd.sizeOf9
  v9 := Tryd.zeroValue9
  t21 := Tryd.underlying21
  a21 := Tryd.isAgg21
  z21 := Tryd.sizeOf21
  v21 := Tryd.zeroValue21
  t31 := Tryd.underlying38
  a31 := Tryd.isAgg38
  z31 := Tryd.sizeOf38
  v31 := Tryd.zeroValue38
  t46 := Tryd.underlying63
  a46 := Tryd.isAgg63
  z46 := Tryd.sizeOf63
  v46 := Tryd.zeroValue63
  t51 := Tryd.underlying105
  a51 := Tryd.isAgg105
  z51 := Tryd.sizeOf105
  v51 := Tryd.zeroValue105
  t105 := Tryd.underlying102
  a105 := Tryd.isAgg102
  z105 := Tryd.sizeOf102
  v105 := Tryd.zeroValue102
  t119 := Tryd.underlying122
  a119 := Tryd.isAgg122
  z119 := Tryd.sizeOf122
  t138 := Tryd.underlying124
  a138 := Tryd.isAgg124
  z138 := Tryd.sizeOf124
  v138 := Tryd.zeroValue124
  t139 := Tryd.underlying125
  a139 := Tryd.isAgg125
  z139 := Tryd.sizeOf125
  v139 := Tryd.zeroValue125
  t146 := Tryd.underlying106
  a146 := Tryd.isAgg106
  z146 := Tryd.sizeOf106
  v146 := Tryd.zeroValue106
  g1 := by kernel_rfl
  g3 := by kernel_rfl
  g4 := by kernel_rfl }
open Go.RowKit Go.Lib in
theorem Tryd.strings_Split (s sep : ByteArray) (m : Int) (w : World) (hs : s.size < 4294967281) (hm : w.cell? ⟨0, 0, none⟩ = some (.int .i64 m)) (h1 : 1 ≤ sep.size) :
    Calls Tryd.prog 42 #[.string s, .string sep] w fun e w' =>
      e = .returned (.slice (some ⟨w.heap.size, 0, none⟩) (Lib.countB s sep + 1) (Lib.countB s sep + 1)) ∧ w' = w.alloc (.cells ((Lib.splitB sep 0 (Lib.countB s sep) s).map Value.string).toArray 9) := Any.strings_Split Tryd.lays146 (by kernel_rfl) s sep m w hs hm h1
end Go.Proofs
namespace Go.Am.C39
open Go Go.Proofs Go.Shelf Go.RowKit
section
variable {P : Program} {ρ : Go.Shelf.Ren}
set_option maxHeartbeats 4000000 in
set_option maxRecDepth 100000 in
theorem pub16_ok (L : LaysPu.n14 P ρ) (s : ByteArray) (u : Nat) (w : World) (hI : Calls P (ρ.f 16) #[.string s, .int .i64 16, .int .i64 8] w fun e w' => e = .returned (.tuple #[.int .u64 u, .nilIface]) ∧ w' = Lib.bytesWorld w (ρ.t 5) s) :
    Calls P (ρ.f 14) #[.string s, .int .i64 16, .int .i64 8] w fun e w' => e = .returned (.tuple #[.int .u64 u, .nilIface]) ∧ w' = Lib.bytesWorld w (ρ.t 5) s := by
  have mixed := L.mixed
  have t9 := L.t9; have a9 := L.a9; have z9 := L.z9; have v9 := L.v9
  have t3 := L.t3; have a3 := L.a3; have z3 := L.z3; have v3 := L.v3
  have t22 := L.t22; have a22 := L.a22; have z22 := L.z22; have v22 := L.v22
  have t24 := L.t24; have a24 := L.a24; have z24 := L.z24; have v24 := L.v24
  have t25 := L.t25; have a25 := L.a25; have z25 := L.z25; have v25 := L.v25
  have t4 := L.t4; have a4 := L.a4; have z4 := L.z4; have v4 := L.v4
  have e16 : ∀ args w, (callFunc (ρ.f 16) args).run P w = .ok (.enter (ρ.f 16) args) w := enters_of L.f16 (by kernel_rfl) rfl
  go_enter L.f14, BodyPu.n14_ntmps ρ
  go_wp2_with (go_at_fn (ρ.f 16); refine hI.mono ?_; rintro e W1 ⟨rfl, rfl⟩)
  go_wp2
  go_ret2
  exact ⟨rfl, rfl⟩
set_option maxHeartbeats 4000000 in
set_option maxRecDepth 100000 in
theorem pub16_no (L : LaysPu.n14 P ρ) (s : ByteArray) (hlim : s.size ≤ 281474976710656) (ev : Value) (w : World) (hv : w.cell? ⟨(ρ.g 0), 0, none⟩ = some ev) (hev : ev = .nilIface ∨ ∃ te pe, ev = .iface te pe)
    (hI : Calls P (ρ.f 16) #[.string s, .int .i64 16, .int .i64 8] w fun e w' => e = .returned (.tuple #[.int .u64 0, .iface (ρ.t 34) (.int .i64 2)]) ∧ w' = Lib.bytesWorld w (ρ.t 5) s) :
    Calls P (ρ.f 14) #[.string s, .int .i64 16, .int .i64 8] w fun e w' => ∃ N, e = .returned (.tuple #[.int .u64 0, .iface (ρ.t 39) (.pointer (some ⟨N, 0, none⟩))]) ∧ Below w.heap.size w w' := by
  have mixed := L.mixed
  have t9 := L.t9; have a9 := L.a9; have z9 := L.z9; have v9 := L.v9
  have t3 := L.t3; have a3 := L.a3; have z3 := L.z3; have v3 := L.v3
  have t22 := L.t22; have a22 := L.a22; have z22 := L.z22; have v22 := L.v22
  have t24 := L.t24; have a24 := L.a24; have z24 := L.z24; have v24 := L.v24
  have t25 := L.t25; have a25 := L.a25; have z25 := L.z25; have v25 := L.v25
  have t4 := L.t4; have a4 := L.a4; have z4 := L.z4; have v4 := L.v4
  have e16 : ∀ args w, (callFunc (ρ.f 16) args).run P w = .ok (.enter (ρ.f 16) args) w := enters_of L.f16 (by kernel_rfl) rfl
  have e17 : ∀ args w, (callFunc (ρ.f 17) args).run P w = .ok (.enter (ρ.f 17) args) w := enters_of L.f17 (by kernel_rfl) rfl
  have hG : (ρ.g 0) < w.heap.size := Lib.lt_of_cell hv
  go_enter L.f14, BodyPu.n14_ntmps ρ
  go_wp2_with (go_at_fn (ρ.f 16); refine hI.mono ?_)
  rintro e W1 ⟨rfl, hW⟩
  have hb1 : Below w.heap.size w W1 := by
    subst hW
    exact Lib.bytesWorld_below _ _ _
  have hv1 : W1.cell? ⟨(ρ.g 0), 0, none⟩ = some ev := (hb1.cell (show (⟨(ρ.g 0), 0, none⟩ : Addr).block < w.heap.size from hG)).trans hv
  clear hW
  go_wp2_with (go_at_fn (ρ.f 17); refine (AnyPu.strconv_toError_syntax { L with } ⟨#[80, 97, 114, 115, 101, 85, 105, 110, 116]⟩ s 16 8 ev _ hlim ?_ hev).mono ?_)
  · exact hv1
  rintro e W2 ⟨N, rfl, h1, h2, h3⟩
  go_wp2
  go_ret2
  exact ⟨N, rfl, hb1.trans (h3.mono hb1.size)⟩
end
theorem pub16 (s : ByteArray) (hs : s.size = 2) (ev : Value) (w : World) (hv : w.cell? ⟨1, 0, none⟩ = some ev) (hev : ev = .nilIface ∨ ∃ te pe, ev = .iface te pe) :
    Calls Proofs.Tryd.prog 41 #[.string s, .int .i64 16, .int .i64 8] w fun e w' => Below w.heap.size w w' ∧
      ((∃ u : Nat, hexP 0 s.data.toList = some u ∧ e = .returned (.tuple #[.int .u64 (u : Int), .nilIface])) ∨ (hexP 0 s.data.toList = none ∧ ∃ t p, e = .returned (.tuple #[.int .u64 0, .iface t p]))) := by
  have hI := parseUint_16 Proofs.Tryd.lays287 s hs w
  cases hx : hexP 0 s.data.toList with
  | some u =>
    rw [hx] at hI
    refine (pub16_ok Proofs.Tryd.laysPu14 s u w hI).mono ?_
    rintro e w' ⟨rfl, rfl⟩
    exact ⟨Lib.bytesWorld_below _ _ _, .inl ⟨u, rfl, rfl⟩⟩
  | none =>
    rw [hx] at hI
    refine (pub16_no Proofs.Tryd.laysPu14 s (by omega) ev w hv hev hI).mono ?_
    rintro e w' ⟨N, rfl, hb⟩
    exact ⟨hb, .inr ⟨rfl, _, _, rfl⟩⟩
end Go.Am.C39
namespace Go.Am.C39
open Go Go.Am Go.Am.V Go.RowKit Go.Sort
set_option maxRecDepth 1000000
noncomputable def gItoa : List Value → Option Value
  | [.int .i64 n] => cond (inI64 n) (some (.string ⟨(Lib.itoa n).toArray⟩)) none
  | _ => none
noncomputable def gCut : List Value → Option Value
  | [.string s, .string sep] => cond (Nat.blt s.size 4294967281) (some (.tuple #[.string ⟨(Lib.cut s.data.toList sep.data.toList).1.toArray⟩, .string ⟨(Lib.cut s.data.toList sep.data.toList).2.1.toArray⟩, .bool (Lib.cut s.data.toList sep.data.toList).2.2])) none
  | _ => none
noncomputable def atoiR (l : List UInt8) : Value := match Lib.atoiAll l with
  | .ok v => .tuple #[.int .i64 v, .nilIface]
  | .range => .tuple #[.int .i64 (Lib.atoiSat l), .iface 0 .nilIface]
  | _ => .tuple #[.int .i64 0, .iface 0 .nilIface]
noncomputable def atoiA (af : Nat) : Nat → List Value → FM → Nat → OR FM := fun f args m n =>
  cond (Nat.beq f af) (match args with
    | [.string s] => cond (Nat.blt s.size 4294967281) (.ok (atoiR s.data.toList) m n 0 0) .no
    | _ => .no) .no
theorem atoiA_ok {af f : Nat} {args : List Value} {m : FM} {n : Nat} {v : Value} {m' : FM} {n' r w : Nat} (h : atoiA af f args m n = .ok v m' n' r w) : f = af ∧ ∃ s, args = [.string s] ∧ s.size < 4294967281 ∧ v = atoiR s.data.toList ∧ m' = m ∧ n' = n ∧ r = 0 ∧ w = 0 := by
  unfold atoiA at h
  cases hb : Nat.beq f af
  · rw [hb] at h; cases h
  · rw [hb, cond_true] at h
    split at h
    · rename_i s
      cases hc : Nat.blt s.size 4294967281
      · rw [hc] at h; cases h
      · rw [hc, cond_true] at h
        injection h with e1 e2 e3 e4 e5
        exact ⟨Nat.eq_of_beq_eq_true hb, s, rfl, Nat.le_of_ble_eq_true hc, e1.symm, e2.symm, e3.symm, e4.symm, e5.symm⟩
    · cases h
theorem atoi_loc (af : Nat) : CallLoc (atoiA af) := by
  intro f args m n v m' n' r wm h
  obtain ⟨_, s, _, _, _, rfl, rfl, _, rfl⟩ := atoiA_ok h
  exact Loc.refl _ _
noncomputable def pItoa : PFn := ⟨29, gItoa⟩
noncomputable def pCut : PFn := ⟨23, gCut⟩
theorem below_grow' (w : World) (k : Nat) (os : Array Obj) : Below w.heap.size w (grow (w.drewN k) os) :=
  (below_drewN (Below.refl w.heap.size w) k).trans ⟨rfl, rfl, rfl, by show (w.drewN k).heap.size ≤ ((w.drewN k).heap ++ os).size; rw [Array.size_append]; omega, fun j hj => by show ((w.drewN k).heap ++ os)[j]? = _; rw [Array.getElem?_append_left]; exact Nat.lt_of_lt_of_le hj (below_drewN (Below.refl w.heap.size w) k).size⟩
theorem itoa_ok : pItoa.Ok PG where
  ent := ⟨_, _, Proofs.Tryd.func29, by decide +kernel, rfl⟩
  flats := fun args v h => by
    match args, h with
    | [.int .i64 n], h =>
      have h : cond (inI64 n) _ _ = some v := h
      cases hi : inI64 n
      · rw [hi] at h; cases h
      · rw [hi] at h; injection h with h; subst h; exact ⟨rfl, rfl⟩
  runs := fun args v h B w hg hB => by
    match args, h with
    | [.int .i64 n], h =>
      have h : cond (inI64 n) _ _ = some v := h
      cases hi : inI64 n
      · rw [hi] at h; cases h
      · rw [hi] at h; injection h with h; subst h
        have hb : -9223372036854775808 ≤ n ∧ n ≤ 9223372036854775807 := by
          cases n with
          | ofNat a => have := Nat.le_of_ble_eq_true hi; exact ⟨by have : (0 : Int) ≤ Int.ofNat a := Int.natCast_nonneg a; omega, by show (a : Int) ≤ _; omega⟩
          | negSucc a => have := Nat.le_of_ble_eq_true hi; exact ⟨by omega, by omega⟩
        refine (Proofs.Tryd.strconv_Itoa n hb.1 hb.2 w hg.here.1.2).mono ?_
        rintro e w' ⟨rfl, k, os, rfl⟩
        exact ⟨rfl, below_grow' w k os⟩
theorem cut_ok : pCut.Ok PG where
  ent := ⟨_, _, Proofs.Tryd.func23, by decide +kernel, rfl⟩
  flats := fun args v h => by
    match args, h with
    | [.string s, .string sep], h =>
      have h : cond (Nat.blt s.size 4294967281) _ _ = some v := h
      cases hi : Nat.blt s.size 4294967281
      · rw [hi] at h; cases h
      · rw [hi] at h; injection h with h; subst h; exact ⟨rfl, rfl⟩
  runs := fun args v h B w hg hB => by
    match args, h with
    | [.string s, .string sep], h =>
      have h : cond (Nat.blt s.size 4294967281) _ _ = some v := h
      cases hi : Nat.blt s.size 4294967281
      · rw [hi] at h; cases h
      · rw [hi] at h; injection h with h; subst h
        obtain ⟨m, hm⟩ := hg.here.1.1
        refine (Proofs.Tryd.strings_Cut s sep m w (Nat.le_of_ble_eq_true hi) hm).mono ?_
        rintro e w' ⟨rfl, k, rfl⟩
        exact ⟨rfl, below_drewN (Below.refl _ w) k⟩
theorem atoi_sim : CallSim PG (atoiA 40) := by
  intro f args m n v m' n' r wm hr ρ V w B F args' hargs hF hag hm hfree
  obtain ⟨rfl, s, rfl, h1, rfl, rfl, rfl, rfl, rfl⟩ := atoiA_ok hr
  obtain rfl := args_flat hargs rfl
  refine ⟨⟨_, _, Proofs.Tryd.func40, by decide +kernel, rfl⟩, ?_⟩
  obtain ⟨_, ⟨e1, hc1, hk1⟩, e2, hc2, hk2⟩ := hm.gl.here
  have err : ∀ z x, VRel ρ (.tuple #[.int .i64 z, .iface 0 .nilIface]) (.tuple #[.int .i64 z, .iface 89 x]) := fun z x => LRel.tuple (.cons (.int ρ _ _) (.cons .opq (.nil ρ)))
  cases ha : Lib.atoiAll s.data.toList
  · rename_i z
    refine (Proofs.Tryd.strconv_Atoi_ok s (by omega) z ha w).mono ?_
    rintro e w' ⟨rfl, hw⟩
    refine ⟨ρ, _, rfl, ?_, Post.of_below hm ?_⟩
    · rw [atoiR, ha]; exact addrFree_rel ρ rfl
    · rcases hw with rfl | ⟨t, rfl⟩
      · exact Below.refl _ _
      · exact Lib.bytesWorld_below w 5 t
  · refine (Proofs.Tryd.strconv_Atoi_synt s (by omega) (fun z e => by rw [ha] at e; cases e) (fun e => by rw [ha] at e; cases e) e1 w hc1 hk1).mono ?_
    rintro e w' ⟨N, rfl, _, _, hb⟩
    exact ⟨ρ, _, rfl, by rw [atoiR, ha]; exact err _ _, Post.of_below hm hb⟩
  · refine (Proofs.Tryd.strconv_Atoi_range s (by omega) ha e2 w hc2 hk2).mono ?_
    rintro e w' ⟨N, rfl, _, _, hb⟩
    exact ⟨ρ, _, rfl, by rw [atoiR, ha]; exact err _ _, Post.of_below hm hb⟩
theorem split_okP : SplitOk PG 42 := ⟨⟨_, _, Proofs.Tryd.func42, by decide +kernel, rfl⟩, 9, fun s sep h1 h2 B w hg => by
  obtain ⟨m, hm⟩ := hg.here.1.1
  exact Proofs.Tryd.strings_Split s sep m w h1 hm h2⟩
theorem join_okP : JoinOk PG 31 := ⟨⟨_, _, Proofs.Tryd.func31, by decide +kernel, rfl⟩, fun sep B w hg => by
  refine (Proofs.Tryd.strings_Join_none none 0 sep w).mono ?_
  rintro e w' ⟨rfl, rfl⟩
  exact ⟨rfl, Below.refl _ _⟩, fun bk o c xs sep B w hg h1 h2 h3 h4 h5 =>
  Proofs.Tryd.strings_Join bk o c xs sep w h1 h2 h3 h4 (by
    have : (joinS xs sep).size = (Lib.join (xs.map (·.data.toList)) sep.data.toList).length := by simp [joinS, ByteArray.size]
    omega)⟩
noncomputable def puR (l : List UInt8) : Value := match hexP 0 l with
  | some u => .tuple #[.int .u64 (u : Int), .nilIface]
  | none => .tuple #[.int .u64 0, .iface 0 .nilIface]
noncomputable def puA : Nat → List Value → FM → Nat → OR FM := fun f args m n =>
  cond (Nat.beq f 41) (match args with
    | [.string s, .int .i64 16, .int .i64 8] => cond (Nat.beq s.size 2) (.ok (puR s.data.toList) m n 0 0) .no
    | _ => .no) .no
theorem puA_ok {f : Nat} {args : List Value} {m : FM} {n : Nat} {v : Value} {m' : FM} {n' r w : Nat} (h : puA f args m n = .ok v m' n' r w) : f = 41 ∧ ∃ s, args = [.string s, .int .i64 16, .int .i64 8] ∧ s.size = 2 ∧ v = puR s.data.toList ∧ m' = m ∧ n' = n ∧ r = 0 ∧ w = 0 := by
  unfold puA at h
  cases hb : Nat.beq f 41
  · rw [hb] at h; cases h
  · rw [hb, cond_true] at h
    split at h
    · rename_i s
      cases hc : Nat.beq s.size 2
      · rw [hc] at h; cases h
      · rw [hc, cond_true] at h
        injection h with e1 e2 e3 e4 e5
        exact ⟨Nat.eq_of_beq_eq_true hb, s, rfl, Nat.eq_of_beq_eq_true hc, e1.symm, e2.symm, e3.symm, e4.symm, e5.symm⟩
    · cases h
theorem pu_loc : CallLoc puA := by
  intro f args m n v m' n' r wm h
  obtain ⟨_, s, _, _, _, rfl, rfl, _, rfl⟩ := puA_ok h
  exact Loc.refl _ _
theorem pu_sim : CallSim PG puA := by
  intro f args m n v m' n' r wm hr ρ V w B F args' hargs hF hag hm hfree
  obtain ⟨rfl, s, rfl, h1, rfl, rfl, rfl, rfl, rfl⟩ := puA_ok hr
  obtain rfl := args_flat hargs rfl
  refine ⟨⟨_, _, Proofs.Tryd.func41, by decide +kernel, rfl⟩, ?_⟩
  obtain ⟨_, ⟨e1, hc1, hk1⟩, _⟩ := hm.gl.here
  refine (pub16 s h1 e1 w hc1 hk1).mono ?_
  rintro e w' ⟨hb, ⟨u, hu, rfl⟩ | ⟨hu, t, p, rfl⟩⟩
  · exact ⟨ρ, _, rfl, by rw [puR, hu]; exact addrFree_rel ρ rfl, Post.of_below hm hb⟩
  · exact ⟨ρ, _, rfl, by rw [puR, hu]; exact LRel.tuple (.cons (.int ρ _ _) (.cons .opq (.nil ρ))), Post.of_below hm hb⟩
noncomputable def Y39 : Nat → List Value → FM → Nat → OR FM := pfnsA [pItoa, pCut] (altA (atoiA 40) (altA (splitA 42) (altA (joinA 31) puA)))
theorem y39_loc : CallLoc Y39 := pfns_loc (alt_loc (atoi_loc 40) (alt_loc (split_loc 42) (alt_loc (join_loc 31) pu_loc)))
theorem y39_sim : CallSim PG Y39 := pfns_sim (alt_sim atoi_sim (alt_sim (split_sim split_okP) (alt_sim (join_sim join_okP) pu_sim))) fun p hp => by
  simp only [List.mem_cons, List.not_mem_nil, or_false] at hp
  rcases hp with rfl | rfl
  · exact itoa_ok
  · exact cut_ok
end Go.Am.C39
