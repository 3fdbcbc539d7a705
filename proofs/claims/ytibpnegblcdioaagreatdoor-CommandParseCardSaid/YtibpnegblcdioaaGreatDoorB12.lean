/- The machine and its runs, part 12: Az39sh Az39pv AzPureY AzStrY Az39y Az39k Az39z Az39aw Az39j AzSz AzLst Az39o Az39m AzMapW. -/
import Derived.Shelf.Strings.Builder1
import Derived.Shelf.Strings.Builder2
import Derived.Shelf.Strings.OnBuilder
import Derived.Shelf.Strings.Trim
import Derived.Shelf.Small.Utf8
import Derived.Shelf.Small.Strs
import Derived.Shelf.Strings.BuilderF
import Derived.Shelf.Strconv.Atoi
import Derived.Shelf.Strconv.Itoa0
import Derived.Shelf.Strconv.Itoa1
import Derived.Shelf.LaysM
import Derived.Shelf.Strconv.Itoa2
import Derived.Shelf.Strconv.Itoa3
import Derived.Shelf.Strconv.AtoiErrFast
import Derived.Shelf.Strconv.ParseIntEmpty
import Derived.Shelf.Strconv.AtoiFail
import Derived.Shelf.Strconv.Clone
import Derived.Shelf.Strconv.SyntaxError
import Derived.Shelf.LaysC
import Derived.Shelf.Strconv.ToError
import Derived.Shelf.Strconv.Lower
import Derived.Shelf.Strconv.ParseUint10
import Derived.Shelf.Strconv.ParseUint10Empty
import Derived.Shelf.Strconv.ParseUint10Any
import Derived.Shelf.Strconv.ParseInt10
import Derived.Shelf.Strconv.AtoiLong
import Derived.Shelf.Strconv.AtoiInnerAll
import Derived.Shelf.Strconv.RangeError
import Derived.Shelf.Strconv.ToErrorRange
import Derived.Shelf.Strconv.AtoiAll
import Derived.Shelf.Strconv.ParseUintEmpty
import Derived.Ground.MpProg
import Derived.Shelf.Pu.ParseUintPublic10
import Derived.Shelf.Pu.ErrVarParseUint
import Derived.Shelf.Strings.Search1
import Derived.Shelf.Strings.Search2
import Derived.Shelf.Strings.Search3
import Derived.Shelf.Strings.Cut
import Derived.Shelf.Strings.Count
import Derived.Shelf.Strings.Shaped
import Derived.Shelf.Strings.Split
import Derived.Shelf.Strings.SplitShaped
import Derived.Shelf.Strings.Runes
import Derived.Shelf.Strings.AsciiSet
import Derived.Shelf.Unicode.DecodeSlow
import Derived.Test.YtibpnegblcdioaaGreatDoorProg
import Derived.Shelf.Pu.Lays
import Derived.Shelf.Pu.ToError
import Derived.Lib.AtoiErrMem
import Derived.Lib.Split
import Derived.Lib.Join
import Derived.Lib.Strings
import Derived.WalkSmall
import Derived.Sort.Grow
import Derived.Lib.ItoaLen
import Derived.Test.YtibpnegblcdioaaGreatDoorB11
set_option linter.unusedVariables false
set_option linter.unusedSimpArgs false
set_option linter.unusedSectionVars false
namespace Go.Proofs
open Go.Shelf
def Tryz.lays156_ren : Go.Shelf.Ren := ⟨fun | 156 => 23 | 165 => 37 | 166 => 38 | 169 => 39 | 240 => 50 | 241 => 51 | 276 => 78 | 277 => 79 | n => n, fun | 31 => 34 | 9 => 9 | 3 => 3 | 4 => 4 | 0 => 0 | 20 => 20 | 72 => 66 | 76 => 51 | 70 => 64 | 37 => 59 | 75 => 50 | 127 => 75 | 164 => 97 | 5 => 5 | 80 => 68 | n => n, fun | n => n⟩
theorem Tryz.lays156 : Go.Proofs.Lays.n156 Tryz.prog Tryz.lays156_ren := {
  mixed := by kernel_rfl
  f156 := Tryz.func23.trans (congrArg some (by kernel_rfl))
  f165 := Tryz.func37.trans (congrArg some (by kernel_rfl))
  f166 := Tryz.func38.trans (congrArg some (by kernel_rfl))
  f169 := Tryz.func39.trans (congrArg some (by kernel_rfl))
  f240 := Tryz.func50.trans (congrArg some (by kernel_rfl))
  f241 := Tryz.func51.trans (congrArg some (by kernel_rfl))
  f276 := Tryz.func78.trans (congrArg some (by kernel_rfl))
  f277 := Tryz.func79.trans (congrArg some (by kernel_rfl))
  t0 := Tryz.underlying0
  a0 := Tryz.isAgg0
  z0 := Tryz.sizeOf0
  v0 := Tryz.zeroValue0
  t3 := Tryz.underlying3
  a3 := Tryz.isAgg3
  z3 := Tryz.sizeOf3
  v3 := Tryz.zeroValue3
  t4 := Tryz.underlying4
  a4 := Tryz.isAgg4
  z4 := Tryz.sizeOf4
  v4 := Tryz.zeroValue4
  t9 := Tryz.underlying9
  a9 := Tryz.isAgg9
  z9 := Tryz.sizeOf9
  v9 := Tryz.zeroValue9
  t20 := Tryz.underlying20
  a20 := Tryz.isAgg20
  z20 := Tryz.sizeOf20
  v20 := Tryz.zeroValue20
  t31 := Tryz.underlying34
  a31 := Tryz.isAgg34
  z31 := Tryz.sizeOf34
  v31 := Tryz.zeroValue34
  t37 := Tryz.underlying59
  a37 := Tryz.isAgg59
  z37 := Tryz.sizeOf59
  v37 := Tryz.zeroValue59
  t70 := Tryz.underlying64
  a70 := Tryz.isAgg64
  z70 := Tryz.sizeOf64
  v70 := Tryz.zeroValue64
  t72 := Tryz.underlying66
  a72 := Tryz.isAgg66
  z72 := Tryz.sizeOf66
  v72 := Tryz.zeroValue66
  t75 := Tryz.underlying50
  a75 := Tryz.isAgg50
  z75 := Tryz.sizeOf50
  v75 := Tryz.zeroValue50
  t76 := Tryz.underlying51
  a76 := Tryz.isAgg51
  z76 := Tryz.sizeOf51
  v76 := Tryz.zeroValue51
  t127 := Tryz.underlying75
  a127 := Tryz.isAgg75
  z127 := Tryz.sizeOf75
  v127 := Tryz.zeroValue75
  t164 := Tryz.underlying97
  a164 := Tryz.isAgg97
  z164 := Tryz.sizeOf97
  v164 := Tryz.zeroValue97 }
theorem Tryz.Builder_Extra_156 : Builder.Extra Tryz.prog Tryz.lays156_ren := {
  sizeBuilder := by kernel_rfl
  liesBuilder := by kernel_rfl
  t5 := Tryz.underlying5
  a5 := Tryz.isAgg5
  z5 := Tryz.sizeOf5
  v5 := Tryz.zeroValue5
  infoByte := by kernel_rfl
  cellsByte := by kernel_rfl
  sizeByte := by kernel_rfl
  neB5 := by decide }
open Go.RowKit in
theorem Tryz.strings_Join_none (a : Option Addr) (c : Nat) (sep : ByteArray) (w : World) :
    Calls Tryz.prog 23 #[.slice a 0 c, .string sep] w fun e w' => e = .returned (.string ⟨#[]⟩) ∧ w' = w := Any.strings_Join_none Tryz.lays156 Tryz.Builder_Extra_156 a c sep w
open Go.RowKit in
theorem Tryz.strings_Join (bk o c : Nat) (xs : List ByteArray) (sep : ByteArray) (w : World) (hcells : ∀ (j : Nat) x, xs[j]? = some x → w.cell? ⟨bk, o + j, none⟩ = some (.string x)) (hbk : bk < w.heap.size) (hN : xs.length ≤ 140737488355328) (hcap : xs.length ≤ c) (hlen : (Lib.join (xs.map (·.data.toList)) sep.data.toList).length ≤ 140737488355328) :
    Calls Tryz.prog 23 #[.slice (some ⟨bk, o, none⟩) xs.length c, .string sep] w fun e w' => e = .returned (.string ⟨(Lib.join (xs.map (·.data.toList)) sep.data.toList).toArray⟩) ∧ Below w.heap.size w w' := Any.strings_Join Tryz.lays156 Tryz.Builder_Extra_156 bk o c xs sep w hcells hbk hN hcap hlen
def Tryz.laysM171_ren : Go.Shelf.Ren := ⟨fun | 171 => 21 | 243 => 36 | 246 => 49 | 283 => 74 | 284 => 75 | 285 => 76 | 286 => 77 | 129 => 91 | 317 => 90 | 318 => 92 | 319 => 93 | 320 => 94 | 337 => 98 | 338 => 99 | n => n, fun | 3 => 3 | 9 => 9 | 2 => 2 | 4 => 4 | 171 => 92 | 0 => 0 | 53 => 53 | 37 => 59 | 5 => 5 | 173 => 95 | 212 => 112 | 51 => 100 | 20 => 20 | 213 => 113 | 46 => 63 | 232 => 126 | 233 => 127 | n => n, fun | 17 => 3 | 18 => 6 | 19 => 7 | n => n⟩
theorem Tryz.laysM171 : Go.Proofs.LaysM.n171 Tryz.prog Tryz.laysM171_ren := {
  mixed := by kernel_rfl
  f129 := Tryz.func91.trans (congrArg some (by kernel_rfl))
  f171 := Tryz.func21.trans (congrArg some (by kernel_rfl))
  f243 := Tryz.func36.trans (congrArg some (by kernel_rfl))
  f246 := Tryz.func49.trans (congrArg some (by kernel_rfl))
  f283 := Tryz.func74.trans (congrArg some (by kernel_rfl))
  f284 := Tryz.func75.trans (congrArg some (by kernel_rfl))
  f285 := Tryz.func76.trans (congrArg some (by kernel_rfl))
  f286 := Tryz.func77.trans (congrArg some (by kernel_rfl))
  f317 := Tryz.func90.trans (congrArg some (by kernel_rfl))
  f318 := Tryz.func92.trans (congrArg some (by kernel_rfl))
  f319 := Tryz.func93.trans (congrArg some (by kernel_rfl))
  f320 := Tryz.func94.trans (congrArg some (by kernel_rfl))
  f337 := Tryz.func98.trans (congrArg some (by kernel_rfl))
  f338 := Tryz.func99.trans (congrArg some (by kernel_rfl))
  t0 := Tryz.underlying0
  a0 := Tryz.isAgg0
  z0 := Tryz.sizeOf0
  v0 := Tryz.zeroValue0
  t2 := Tryz.underlying2
  a2 := Tryz.isAgg2
  z2 := Tryz.sizeOf2
  v2 := Tryz.zeroValue2
  t3 := Tryz.underlying3
  a3 := Tryz.isAgg3
  z3 := Tryz.sizeOf3
  v3 := Tryz.zeroValue3
  t4 := Tryz.underlying4
  a4 := Tryz.isAgg4
  z4 := Tryz.sizeOf4
  v4 := Tryz.zeroValue4
  t5 := Tryz.underlying5
  a5 := Tryz.isAgg5
  z5 := Tryz.sizeOf5
  v5 := Tryz.zeroValue5
  t9 := Tryz.underlying9
  a9 := Tryz.isAgg9
  z9 := Tryz.sizeOf9
  v9 := Tryz.zeroValue9
  t20 := Tryz.underlying20
  a20 := Tryz.isAgg20
  z20 := Tryz.sizeOf20
  v20 := Tryz.zeroValue20
  t37 := Tryz.underlying59
  a37 := Tryz.isAgg59
  z37 := Tryz.sizeOf59
  v37 := Tryz.zeroValue59
  t46 := Tryz.underlying63
  a46 := Tryz.isAgg63
  z46 := Tryz.sizeOf63
  v46 := Tryz.zeroValue63
  t51 := Tryz.underlying100
  a51 := Tryz.isAgg100
  z51 := Tryz.sizeOf100
  v51 := Tryz.zeroValue100
  t53 := Tryz.underlying53
  a53 := Tryz.isAgg53
  z53 := Tryz.sizeOf53
  v53 := Tryz.zeroValue53
  t171 := Tryz.underlying92
  a171 := Tryz.isAgg92
  z171 := Tryz.sizeOf92
  v171 := Tryz.zeroValue92
  t173 := Tryz.underlying95
  a173 := Tryz.isAgg95
  z173 := Tryz.sizeOf95
  v173 := Tryz.zeroValue95
  t212 := Tryz.underlying112
  a212 := Tryz.isAgg112
  z212 := Tryz.sizeOf112
  v212 := Tryz.zeroValue112
  t213 := Tryz.underlying113
  a213 := Tryz.isAgg113
  z213 := Tryz.sizeOf113
  t232 := Tryz.underlying126
  a232 := Tryz.isAgg126
  z232 := Tryz.sizeOf126
  v232 := Tryz.zeroValue126
  t233 := Tryz.underlying127
  a233 := Tryz.isAgg127
  z233 := Tryz.sizeOf127
  v233 := Tryz.zeroValue127
  g17 := by kernel_rfl
  g18 := by kernel_rfl
  g19 := by kernel_rfl
  i0 := by kernel_rfl
  i2 := by kernel_rfl
  i3 := by kernel_rfl
  i4 := by kernel_rfl
  i5 := by kernel_rfl
  i9 := by kernel_rfl
  i20 := by kernel_rfl
  i37 := by kernel_rfl
  i46 := by kernel_rfl
  i51 := by kernel_rfl
  i53 := by kernel_rfl
  i171 := by kernel_rfl
  i173 := by kernel_rfl
  i212 := by kernel_rfl
  i232 := by kernel_rfl
  i233 := by kernel_rfl
  m17 := by kernel_rfl
  m18 := by kernel_rfl
  m19 := by kernel_rfl }
open Go.RowKit Go.Sort Go.Lib in
theorem Tryz.strconv_Itoa (n : Int) (h0 : -9223372036854775808 ≤ n) (h1 : n ≤ 9223372036854775807) (w : World) (htab : Lib.TabIs Tryz.prog w "internal/strconv.uint64pow10" .u64 Lib.pow10Tab) :
    Calls Tryz.prog 21 #[.int .i64 n] w fun e w' => e = .returned (.string ⟨(Lib.itoa n).toArray⟩) ∧ ∃ k os, w' = grow (w.drewN k) os := Any.strconv_Itoa Tryz.laysM171 n h0 h1 w htab
def Tryz.lays287_ren : Go.Shelf.Ren := ⟨fun | 287 => 43 | 321 => 61 | 322 => 62 | n => n, fun | 9 => 9 | 3 => 3 | 53 => 53 | 75 => 50 | 4 => 4 | 167 => 78 | 5 => 5 | 46 => 63 | 37 => 59 | 0 => 0 | 21 => 21 | 80 => 68 | n => n, fun | n => n⟩
theorem Tryz.lays287 : Go.Proofs.Lays.n287 Tryz.prog Tryz.lays287_ren := {
  mixed := by kernel_rfl
  f287 := Tryz.func43.trans (congrArg some (by kernel_rfl))
  f321 := Tryz.func61.trans (congrArg some (by kernel_rfl))
  f322 := Tryz.func62.trans (congrArg some (by kernel_rfl))
  t0 := Tryz.underlying0
  a0 := Tryz.isAgg0
  z0 := Tryz.sizeOf0
  v0 := Tryz.zeroValue0
  t3 := Tryz.underlying3
  a3 := Tryz.isAgg3
  z3 := Tryz.sizeOf3
  v3 := Tryz.zeroValue3
  t4 := Tryz.underlying4
  a4 := Tryz.isAgg4
  z4 := Tryz.sizeOf4
  v4 := Tryz.zeroValue4
  t5 := Tryz.underlying5
  a5 := Tryz.isAgg5
  z5 := Tryz.sizeOf5
  v5 := Tryz.zeroValue5
  t9 := Tryz.underlying9
  a9 := Tryz.isAgg9
  z9 := Tryz.sizeOf9
  v9 := Tryz.zeroValue9
  t21 := Tryz.underlying21
  a21 := Tryz.isAgg21
  z21 := Tryz.sizeOf21
  v21 := Tryz.zeroValue21
  t37 := Tryz.underlying59
  a37 := Tryz.isAgg59
  z37 := Tryz.sizeOf59
  v37 := Tryz.zeroValue59
  t46 := Tryz.underlying63
  a46 := Tryz.isAgg63
  z46 := Tryz.sizeOf63
  v46 := Tryz.zeroValue63
  t53 := Tryz.underlying53
  a53 := Tryz.isAgg53
  z53 := Tryz.sizeOf53
  v53 := Tryz.zeroValue53
  t75 := Tryz.underlying50
  a75 := Tryz.isAgg50
  z75 := Tryz.sizeOf50
  v75 := Tryz.zeroValue50
  t167 := Tryz.underlying78
  a167 := Tryz.isAgg78
  z167 := Tryz.sizeOf78
  v167 := Tryz.zeroValue78 }
def Tryz.laysC172_ren : Go.Shelf.Ren := ⟨fun | 172 => 25 | 244 => 41 | 245 => 42 | 247 => 56 | 279 => 57 | 280 => 58 | 281 => 59 | 282 => 60 | 287 => 43 | 316 => 82 | 171 => 21 | 205 => 83 | 321 => 61 | 322 => 62 | 243 => 36 | 246 => 49 | 283 => 74 | 284 => 75 | 285 => 76 | 286 => 77 | 129 => 91 | 317 => 90 | 318 => 92 | 319 => 93 | 320 => 94 | 337 => 98 | 338 => 99 | n => n, fun | 9 => 9 | 3 => 3 | 75 => 50 | 76 => 51 | 4 => 4 | 5 => 5 | 167 => 78 | 37 => 59 | 0 => 0 | 85 => 79 | 2 => 2 | 168 => 81 | 53 => 53 | 175 => 54 | 46 => 63 | 210 => 105 | 127 => 75 | 145 => 118 | 143 => 116 | 21 => 21 | 171 => 92 | 173 => 95 | 212 => 112 | 51 => 100 | 20 => 20 | 213 => 113 | 232 => 126 | 233 => 127 | 80 => 68 | n => n, fun | 15 => 1 | 16 => 2 | 17 => 3 | 18 => 6 | 19 => 7 | n => n⟩
theorem Tryz.laysC172 : Go.Proofs.LaysC.n172 Tryz.prog Tryz.laysC172_ren := {
  mixed := by kernel_rfl
  f129 := Tryz.func91.trans (congrArg some (by kernel_rfl))
  f171 := Tryz.func21.trans (congrArg some (by kernel_rfl))
  f172 := Tryz.func25.trans (congrArg some (by kernel_rfl))
  f205 := Tryz.func83.trans (congrArg some (by kernel_rfl))
  f243 := Tryz.func36.trans (congrArg some (by kernel_rfl))
  f244 := Tryz.func41.trans (congrArg some (by kernel_rfl))
  f245 := Tryz.func42.trans (congrArg some (by kernel_rfl))
  f246 := Tryz.func49.trans (congrArg some (by kernel_rfl))
  f247 := Tryz.func56.trans (congrArg some (by kernel_rfl))
  f279 := Tryz.func57.trans (congrArg some (by kernel_rfl))
  f280 := Tryz.func58.trans (congrArg some (by kernel_rfl))
  f281 := Tryz.func59.trans (congrArg some (by kernel_rfl))
  f282 := Tryz.func60.trans (congrArg some (by kernel_rfl))
  f283 := Tryz.func74.trans (congrArg some (by kernel_rfl))
  f284 := Tryz.func75.trans (congrArg some (by kernel_rfl))
  f285 := Tryz.func76.trans (congrArg some (by kernel_rfl))
  f286 := Tryz.func77.trans (congrArg some (by kernel_rfl))
  f287 := Tryz.func43.trans (congrArg some (by kernel_rfl))
  f316 := Tryz.func82.trans (congrArg some (by kernel_rfl))
  f317 := Tryz.func90.trans (congrArg some (by kernel_rfl))
  f318 := Tryz.func92.trans (congrArg some (by kernel_rfl))
  f319 := Tryz.func93.trans (congrArg some (by kernel_rfl))
  f320 := Tryz.func94.trans (congrArg some (by kernel_rfl))
  f321 := Tryz.func61.trans (congrArg some (by kernel_rfl))
  f322 := Tryz.func62.trans (congrArg some (by kernel_rfl))
  f337 := Tryz.func98.trans (congrArg some (by kernel_rfl))
  f338 := Tryz.func99.trans (congrArg some (by kernel_rfl))
  t0 := Tryz.underlying0
  a0 := Tryz.isAgg0
  z0 := Tryz.sizeOf0
  v0 := Tryz.zeroValue0
  t2 := Tryz.underlying2
  a2 := Tryz.isAgg2
  z2 := Tryz.sizeOf2
  v2 := Tryz.zeroValue2
  t3 := Tryz.underlying3
  a3 := Tryz.isAgg3
  z3 := Tryz.sizeOf3
  v3 := Tryz.zeroValue3
  t4 := Tryz.underlying4
  a4 := Tryz.isAgg4
  z4 := Tryz.sizeOf4
  v4 := Tryz.zeroValue4
  t5 := Tryz.underlying5
  a5 := Tryz.isAgg5
  z5 := Tryz.sizeOf5
  v5 := Tryz.zeroValue5
  t9 := Tryz.underlying9
  a9 := Tryz.isAgg9
  z9 := Tryz.sizeOf9
  v9 := Tryz.zeroValue9
  t20 := Tryz.underlying20
  a20 := Tryz.isAgg20
  z20 := Tryz.sizeOf20
  v20 := Tryz.zeroValue20
  t21 := Tryz.underlying21
  a21 := Tryz.isAgg21
  z21 := Tryz.sizeOf21
  v21 := Tryz.zeroValue21
  t37 := Tryz.underlying59
  a37 := Tryz.isAgg59
  z37 := Tryz.sizeOf59
  v37 := Tryz.zeroValue59
  t46 := Tryz.underlying63
  a46 := Tryz.isAgg63
  z46 := Tryz.sizeOf63
  v46 := Tryz.zeroValue63
  t51 := Tryz.underlying100
  a51 := Tryz.isAgg100
  z51 := Tryz.sizeOf100
  v51 := Tryz.zeroValue100
  t53 := Tryz.underlying53
  a53 := Tryz.isAgg53
  z53 := Tryz.sizeOf53
  v53 := Tryz.zeroValue53
  t75 := Tryz.underlying50
  a75 := Tryz.isAgg50
  z75 := Tryz.sizeOf50
  v75 := Tryz.zeroValue50
  t76 := Tryz.underlying51
  a76 := Tryz.isAgg51
  z76 := Tryz.sizeOf51
  v76 := Tryz.zeroValue51
  t85 := Tryz.underlying79
  a85 := Tryz.isAgg79
  z85 := Tryz.sizeOf79
  v85 := Tryz.zeroValue79
  t127 := Tryz.underlying75
  a127 := Tryz.isAgg75
  z127 := Tryz.sizeOf75
  v127 := Tryz.zeroValue75
  t143 := Tryz.underlying116
  a143 := Tryz.isAgg116
  z143 := Tryz.sizeOf116
  v143 := Tryz.zeroValue116
  t145 := Tryz.underlying118
  a145 := Tryz.isAgg118
  z145 := Tryz.sizeOf118
  v145 := Tryz.zeroValue118
  t167 := Tryz.underlying78
  a167 := Tryz.isAgg78
  z167 := Tryz.sizeOf78
  v167 := Tryz.zeroValue78
  t168 := Tryz.underlying81
  a168 := Tryz.isAgg81
  z168 := Tryz.sizeOf81
  v168 := Tryz.zeroValue81
  t171 := Tryz.underlying92
  a171 := Tryz.isAgg92
  z171 := Tryz.sizeOf92
  v171 := Tryz.zeroValue92
  t173 := Tryz.underlying95
  a173 := Tryz.isAgg95
  z173 := Tryz.sizeOf95
  v173 := Tryz.zeroValue95
  t175 := Tryz.underlying54
  a175 := Tryz.isAgg54
  z175 := Tryz.sizeOf54
  v175 := Tryz.zeroValue54
  t210 := Tryz.underlying105
  a210 := Tryz.isAgg105
  z210 := Tryz.sizeOf105
  v210 := Tryz.zeroValue105
  t212 := Tryz.underlying112
  a212 := Tryz.isAgg112
  z212 := Tryz.sizeOf112
  v212 := Tryz.zeroValue112
  t213 := Tryz.underlying113
  a213 := Tryz.isAgg113
  z213 := Tryz.sizeOf113
  t232 := Tryz.underlying126
  a232 := Tryz.isAgg126
  z232 := Tryz.sizeOf126
  v232 := Tryz.zeroValue126
  t233 := Tryz.underlying127
  a233 := Tryz.isAgg127
  z233 := Tryz.sizeOf127
  v233 := Tryz.zeroValue127
  g15 := by kernel_rfl
  g16 := by kernel_rfl
  g17 := by kernel_rfl
  g18 := by kernel_rfl
  g19 := by kernel_rfl
  t80 := Tryz.underlying68
  a80 := Tryz.isAgg68
  z80 := Tryz.sizeOf68
  v80 := Tryz.zeroValue68
  i0 := by kernel_rfl
  i2 := by kernel_rfl
  i3 := by kernel_rfl
  i4 := by kernel_rfl
  i5 := by kernel_rfl
  i9 := by kernel_rfl
  i20 := by kernel_rfl
  i21 := by kernel_rfl
  i37 := by kernel_rfl
  i46 := by kernel_rfl
  i51 := by kernel_rfl
  i53 := by kernel_rfl
  i75 := by kernel_rfl
  i76 := by kernel_rfl
  i80 := by kernel_rfl
  i85 := by kernel_rfl
  i127 := by kernel_rfl
  i143 := by kernel_rfl
  i145 := by kernel_rfl
  i167 := by kernel_rfl
  i168 := by kernel_rfl
  i171 := by kernel_rfl
  i173 := by kernel_rfl
  i175 := by kernel_rfl
  i210 := by kernel_rfl
  i212 := by kernel_rfl
  i232 := by kernel_rfl
  i233 := by kernel_rfl
  m15 := by kernel_rfl
  m16 := by kernel_rfl
  m17 := by kernel_rfl
  m18 := by kernel_rfl
  m19 := by kernel_rfl
  c0 := by kernel_rfl
  c2 := by kernel_rfl
  c3 := by kernel_rfl
  c4 := by kernel_rfl
  c5 := by kernel_rfl
  c9 := by kernel_rfl
  c20 := by kernel_rfl
  c21 := by kernel_rfl
  c37 := by kernel_rfl
  c46 := by kernel_rfl
  c51 := by kernel_rfl
  c53 := by kernel_rfl
  c75 := by kernel_rfl
  c76 := by kernel_rfl
  c80 := by kernel_rfl
  c85 := by kernel_rfl
  c127 := by kernel_rfl
  c143 := by kernel_rfl
  c145 := by kernel_rfl
  c167 := by kernel_rfl
  c168 := by kernel_rfl
  c171 := by kernel_rfl
  c173 := by kernel_rfl
  c175 := by kernel_rfl
  c210 := by kernel_rfl
  c212 := by kernel_rfl
  c213 := by kernel_rfl
  c232 := by kernel_rfl
  c233 := by kernel_rfl }
open Go.RowKit in
theorem Tryz.strconv_Atoi_ok (s : ByteArray) (hmax : s.size ≤ 9223372036854775806) (v : Int) (h : Lib.atoiAll s.data.toList = .ok v) (w : World) :
    Calls Tryz.prog 25 #[.string s] w fun e w' => e = .returned (.tuple #[.int .i64 v, .nilIface]) ∧ (w' = w ∨ ∃ t, w' = Lib.bytesWorld w 5 t) := Any.strconv_Atoi_ok Tryz.laysC172 s hmax v h w
open Go.RowKit in
theorem Tryz.strconv_Atoi_synt (s : ByteArray) (hlim : s.size ≤ 281474976710656) (h1 : ∀ z, Lib.atoiAll s.data.toList ≠ .ok z) (h2 : Lib.atoiAll s.data.toList ≠ .range) (ev : Value) (w : World) (hv : w.cell? ⟨1, 0, none⟩ = some ev) (hev : ev = .nilIface ∨ ∃ te pe, ev = .iface te pe) :
    Calls Tryz.prog 25 #[.string s] w fun e w' => ∃ N, e = .returned (.tuple #[.int .i64 (0), .iface 81 (.pointer (some ⟨N, 0, none⟩))]) ∧ w.heap.size ≤ N ∧ w'.heap[N]? = some (.cells #[.string ⟨#[65, 116, 111, 105]⟩, .string s, ev] 105 (0, 0)) ∧ Below w.heap.size w w' := by
  refine Any.strconv_Atoi_syntax Tryz.laysC172 s hlim ?_ ev w hv hev
  cases hx : Lib.atoiAll s.data.toList
  · exact absurd hx (h1 _)
  · rfl
  · exact absurd hx h2
open Go.RowKit in
theorem Tryz.strconv_Atoi_range (s : ByteArray) (hlim : s.size ≤ 281474976710656) (h : Lib.atoiAll s.data.toList = .range) (ev : Value) (w : World) (hv : w.cell? ⟨2, 0, none⟩ = some ev) (hev : ev = .nilIface ∨ ∃ te pe, ev = .iface te pe) :
    Calls Tryz.prog 25 #[.string s] w fun e w' => ∃ N, e = .returned (.tuple #[.int .i64 (Lib.atoiSat s.data.toList), .iface 81 (.pointer (some ⟨N, 0, none⟩))]) ∧ w.heap.size ≤ N ∧ w'.heap[N]? = some (.cells #[.string ⟨#[65, 116, 111, 105]⟩, .string s, ev] 105 (0, 0)) ∧ Below w.heap.size w w' := Any.strconv_Atoi_range Tryz.laysC172 s hlim h ev w hv hev
def Tryz.laysPu14_ren : Go.Shelf.Ren := ⟨fun | 14 => 26 | 16 => 43 | 17 => 42 | 19 => 61 | 20 => 62 | 21 => 57 | 22 => 58 | 23 => 59 | 24 => 60 | 25 => 82 | 27 => 21 | 26 => 83 | 28 => 36 | 29 => 49 | 30 => 74 | 31 => 75 | 32 => 76 | 33 => 77 | 35 => 91 | 34 => 90 | 36 => 92 | 37 => 93 | 38 => 94 | 39 => 98 | 40 => 99 | n => n, fun | 9 => 9 | 3 => 3 | 22 => 53 | 24 => 50 | 25 => 54 | 4 => 4 | 34 => 78 | 5 => 5 | 36 => 63 | 37 => 59 | 0 => 0 | 39 => 81 | 21 => 21 | 44 => 105 | 47 => 75 | 50 => 118 | 48 => 116 | 2 => 2 | 52 => 92 | 55 => 95 | 59 => 112 | 60 => 100 | 20 => 20 | 61 => 113 | 65 => 126 | 66 => 127 | 67 => 68 | n => n, fun | 0 => 1 | 1 => 2 | 2 => 3 | 3 => 6 | 4 => 7 | n => n⟩
theorem Tryz.laysPu14 : Go.Proofs.LaysPu.n14 Tryz.prog Tryz.laysPu14_ren := {
  mixed := by kernel_rfl
  f14 := Tryz.func26.trans (congrArg some (by kernel_rfl))
  f16 := Tryz.func43.trans (congrArg some (by kernel_rfl))
  f17 := Tryz.func42.trans (congrArg some (by kernel_rfl))
  f19 := Tryz.func61.trans (congrArg some (by kernel_rfl))
  f20 := Tryz.func62.trans (congrArg some (by kernel_rfl))
  f21 := Tryz.func57.trans (congrArg some (by kernel_rfl))
  f22 := Tryz.func58.trans (congrArg some (by kernel_rfl))
  f23 := Tryz.func59.trans (congrArg some (by kernel_rfl))
  f24 := Tryz.func60.trans (congrArg some (by kernel_rfl))
  f25 := Tryz.func82.trans (congrArg some (by kernel_rfl))
  f26 := Tryz.func83.trans (congrArg some (by kernel_rfl))
  f27 := Tryz.func21.trans (congrArg some (by kernel_rfl))
  f28 := Tryz.func36.trans (congrArg some (by kernel_rfl))
  f29 := Tryz.func49.trans (congrArg some (by kernel_rfl))
  f30 := Tryz.func74.trans (congrArg some (by kernel_rfl))
  f31 := Tryz.func75.trans (congrArg some (by kernel_rfl))
  f32 := Tryz.func76.trans (congrArg some (by kernel_rfl))
  f33 := Tryz.func77.trans (congrArg some (by kernel_rfl))
  f34 := Tryz.func90.trans (congrArg some (by kernel_rfl))
  f35 := Tryz.func91.trans (congrArg some (by kernel_rfl))
  f36 := Tryz.func92.trans (congrArg some (by kernel_rfl))
  f37 := Tryz.func93.trans (congrArg some (by kernel_rfl))
  f38 := Tryz.func94.trans (congrArg some (by kernel_rfl))
  f39 := Tryz.func98.trans (congrArg some (by kernel_rfl))
  f40 := Tryz.func99.trans (congrArg some (by kernel_rfl))
  t0 := Tryz.underlying0
  a0 := Tryz.isAgg0
  z0 := Tryz.sizeOf0
  v0 := Tryz.zeroValue0
  i0 := by kernel_rfl
  t2 := Tryz.underlying2
  a2 := Tryz.isAgg2
  z2 := Tryz.sizeOf2
  v2 := Tryz.zeroValue2
  i2 := by kernel_rfl
  t3 := Tryz.underlying3
  a3 := Tryz.isAgg3
  z3 := Tryz.sizeOf3
  v3 := Tryz.zeroValue3
  i3 := by kernel_rfl
  t4 := Tryz.underlying4
  a4 := Tryz.isAgg4
  z4 := Tryz.sizeOf4
  v4 := Tryz.zeroValue4
  i4 := by kernel_rfl
  t5 := Tryz.underlying5
  a5 := Tryz.isAgg5
  z5 := Tryz.sizeOf5
  v5 := Tryz.zeroValue5
  i5 := by kernel_rfl
  t9 := Tryz.underlying9
  a9 := Tryz.isAgg9
  z9 := Tryz.sizeOf9
  v9 := Tryz.zeroValue9
  i9 := by kernel_rfl
  t20 := Tryz.underlying20
  a20 := Tryz.isAgg20
  z20 := Tryz.sizeOf20
  v20 := Tryz.zeroValue20
  i20 := by kernel_rfl
  t21 := Tryz.underlying21
  a21 := Tryz.isAgg21
  z21 := Tryz.sizeOf21
  v21 := Tryz.zeroValue21
  i21 := by kernel_rfl
  t22 := Tryz.underlying53
  a22 := Tryz.isAgg53
  z22 := Tryz.sizeOf53
  v22 := Tryz.zeroValue53
  i22 := by kernel_rfl
  t24 := Tryz.underlying50
  a24 := Tryz.isAgg50
  z24 := Tryz.sizeOf50
  v24 := Tryz.zeroValue50
  i24 := by kernel_rfl
  t25 := Tryz.underlying54
  a25 := Tryz.isAgg54
  z25 := Tryz.sizeOf54
  v25 := Tryz.zeroValue54
  i25 := by kernel_rfl
  t34 := Tryz.underlying78
  a34 := Tryz.isAgg78
  z34 := Tryz.sizeOf78
  v34 := Tryz.zeroValue78
  i34 := by kernel_rfl
  c34 := by kernel_rfl
  t36 := Tryz.underlying63
  a36 := Tryz.isAgg63
  z36 := Tryz.sizeOf63
  v36 := Tryz.zeroValue63
  i36 := by kernel_rfl
  t37 := Tryz.underlying59
  a37 := Tryz.isAgg59
  z37 := Tryz.sizeOf59
  v37 := Tryz.zeroValue59
  i37 := by kernel_rfl
  t39 := Tryz.underlying81
  a39 := Tryz.isAgg81
  z39 := Tryz.sizeOf81
  v39 := Tryz.zeroValue81
  i39 := by kernel_rfl
  t44 := Tryz.underlying105
  a44 := Tryz.isAgg105
  z44 := Tryz.sizeOf105
  v44 := Tryz.zeroValue105
  i44 := by kernel_rfl
  t47 := Tryz.underlying75
  a47 := Tryz.isAgg75
  z47 := Tryz.sizeOf75
  v47 := Tryz.zeroValue75
  i47 := by kernel_rfl
  t48 := Tryz.underlying116
  a48 := Tryz.isAgg116
  z48 := Tryz.sizeOf116
  v48 := Tryz.zeroValue116
  i48 := by kernel_rfl
  t50 := Tryz.underlying118
  a50 := Tryz.isAgg118
  z50 := Tryz.sizeOf118
  v50 := Tryz.zeroValue118
  i50 := by kernel_rfl
  t52 := Tryz.underlying92
  a52 := Tryz.isAgg92
  z52 := Tryz.sizeOf92
  v52 := Tryz.zeroValue92
  i52 := by kernel_rfl
  t55 := Tryz.underlying95
  a55 := Tryz.isAgg95
  z55 := Tryz.sizeOf95
  v55 := Tryz.zeroValue95
  i55 := by kernel_rfl
  t59 := Tryz.underlying112
  a59 := Tryz.isAgg112
  z59 := Tryz.sizeOf112
  v59 := Tryz.zeroValue112
  i59 := by kernel_rfl
  t60 := Tryz.underlying100
  a60 := Tryz.isAgg100
  z60 := Tryz.sizeOf100
  v60 := Tryz.zeroValue100
  i60 := by kernel_rfl
  t61 := Tryz.underlying113
  a61 := Tryz.isAgg113
  z61 := Tryz.sizeOf113
  t65 := Tryz.underlying126
  a65 := Tryz.isAgg126
  z65 := Tryz.sizeOf126
  v65 := Tryz.zeroValue126
  i65 := by kernel_rfl
  t66 := Tryz.underlying127
  a66 := Tryz.isAgg127
  z66 := Tryz.sizeOf127
  v66 := Tryz.zeroValue127
  i66 := by kernel_rfl
  t67 := Tryz.underlying68
  a67 := Tryz.isAgg68
  z67 := Tryz.sizeOf68
  v67 := Tryz.zeroValue68
  i67 := by kernel_rfl
  g0 := by kernel_rfl
  m0 := by kernel_rfl
  g1 := by kernel_rfl
  m1 := by kernel_rfl
  g2 := by kernel_rfl
  m2 := by kernel_rfl
  g3 := by kernel_rfl
  m3 := by kernel_rfl
  g4 := by kernel_rfl
  m4 := by kernel_rfl }
def Tryz.lays145_ren : Go.Shelf.Ren := ⟨fun | 145 => 9 | 220 => 24 | 219 => 40 | 217 => 52 | 225 => 53 | 224 => 54 | 267 => 55 | 266 => 80 | 314 => 81 | n => n, fun | 9 => 9 | 4 => 4 | 59 => 35 | 3 => 3 | 5 => 5 | 46 => 63 | 146 => 101 | 51 => 100 | n => n, fun | 1 => 0 | n => n⟩
theorem Tryz.lays145 : Go.Proofs.Lays.n145 Tryz.prog Tryz.lays145_ren := {
  mixed := by kernel_rfl
  f145 := Tryz.func9.trans (congrArg some (by kernel_rfl))
  f217 := Tryz.func52.trans (congrArg some (by kernel_rfl))
  f219 := Tryz.func40.trans (congrArg some (by kernel_rfl))
  f220 := Tryz.func24.trans (congrArg some (by kernel_rfl))
  f224 := Tryz.func54.trans (congrArg some (by kernel_rfl))
  f225 := Tryz.func53.trans (congrArg some (by kernel_rfl))
  f266 := Tryz.func80.trans (congrArg some (by kernel_rfl))
  f267 := Tryz.func55.trans (congrArg some (by kernel_rfl))
  f314 := Tryz.func81.trans (congrArg some (by kernel_rfl))
  t3 := Tryz.underlying3
  a3 := Tryz.isAgg3
  z3 := Tryz.sizeOf3
  v3 := Tryz.zeroValue3
  t4 := Tryz.underlying4
  a4 := Tryz.isAgg4
  z4 := Tryz.sizeOf4
  v4 := Tryz.zeroValue4
  t5 := Tryz.underlying5
  a5 := Tryz.isAgg5
  z5 := Tryz.sizeOf5
  v5 := Tryz.zeroValue5
  t9 := Tryz.underlying9
  a9 := Tryz.isAgg9
  z9 := Tryz.sizeOf9
  v9 := Tryz.zeroValue9
  t46 := Tryz.underlying63
  a46 := Tryz.isAgg63
  z46 := Tryz.sizeOf63
  v46 := Tryz.zeroValue63
  t51 := Tryz.underlying100
  a51 := Tryz.isAgg100
  z51 := Tryz.sizeOf100
  v51 := Tryz.zeroValue100
  t59 := Tryz.underlying35
  a59 := Tryz.isAgg35
  z59 := Tryz.sizeOf35
  v59 := Tryz.zeroValue35
  t146 := Tryz.underlying101
  a146 := Tryz.isAgg101
  z146 := Tryz.sizeOf101
  v146 := Tryz.zeroValue101
  g1 := by kernel_rfl }
open Go.RowKit Go.Lib in
theorem Tryz.strings_Cut (s sep : ByteArray) (m : Int) (w : World) (hs : s.size < 4294967281) (hm : w.cell? ⟨0, 0, none⟩ = some (.int .i64 m)) :
    Calls Tryz.prog 9 #[.string s, .string sep] w fun e w' => e = .returned (.tuple #[.string ⟨(Lib.cut s.data.toList sep.data.toList).1.toArray⟩, .string ⟨(Lib.cut s.data.toList sep.data.toList).2.1.toArray⟩, .bool (Lib.cut s.data.toList sep.data.toList).2.2]) ∧ ∃ n, w' = w.drewN n := Any.strings_Cut Tryz.lays145 s sep m w hs hm
def Tryz.lays146_ren : Go.Shelf.Ren := ⟨fun | 146 => 27 | 221 => 44 | 268 => 63 | 138 => 64 | 143 => 65 | 195 => 84 | 197 => 85 | 218 => 86 | 219 => 40 | 260 => 95 | 217 => 52 | 225 => 53 | 224 => 54 | 267 => 55 | 266 => 80 | 314 => 81 | n => n, fun | 9 => 9 | 31 => 34 | 3 => 3 | 4 => 4 | 0 => 0 | 105 => 107 | 21 => 21 | 5 => 5 | 46 => 63 | 119 => 121 | 139 => 124 | 138 => 123 | 146 => 101 | 51 => 100 | n => n, fun | 1 => 0 | 3 => 4 | 4 => 5 | n => n⟩
theorem Tryz.lays146 : Go.Proofs.Lays.n146 Tryz.prog Tryz.lays146_ren := {
  mixed := by kernel_rfl
  f138 := Tryz.func64.trans (congrArg some (by kernel_rfl))
  f143 := Tryz.func65.trans (congrArg some (by kernel_rfl))
  f146 := Tryz.func27.trans (congrArg some (by kernel_rfl))
  f195 := Tryz.func84.trans (congrArg some (by kernel_rfl))
  f197 := Tryz.func85.trans (congrArg some (by kernel_rfl))
  f217 := Tryz.func52.trans (congrArg some (by kernel_rfl))
  f218 := Tryz.func86.trans (congrArg some (by kernel_rfl))
  f219 := Tryz.func40.trans (congrArg some (by kernel_rfl))
  f221 := Tryz.func44.trans (congrArg some (by kernel_rfl))
  f224 := Tryz.func54.trans (congrArg some (by kernel_rfl))
  f225 := Tryz.func53.trans (congrArg some (by kernel_rfl))
  f260 := Tryz.func95.trans (congrArg some (by kernel_rfl))
  f266 := Tryz.func80.trans (congrArg some (by kernel_rfl))
  f267 := Tryz.func55.trans (congrArg some (by kernel_rfl))
  f268 := Tryz.func63.trans (congrArg some (by kernel_rfl))
  f314 := Tryz.func81.trans (congrArg some (by kernel_rfl))
  t0 := Tryz.underlying0
  a0 := Tryz.isAgg0
  z0 := Tryz.sizeOf0
  v0 := Tryz.zeroValue0
  t3 := Tryz.underlying3
  a3 := Tryz.isAgg3
  z3 := Tryz.sizeOf3
  v3 := Tryz.zeroValue3
  t4 := Tryz.underlying4
  a4 := Tryz.isAgg4
  z4 := Tryz.sizeOf4
  v4 := Tryz.zeroValue4
  t5 := Tryz.underlying5
  a5 := Tryz.isAgg5
  z5 := Tryz.sizeOf5
  v5 := Tryz.zeroValue5
  t9 := Tryz.underlying9
  a9 := Tryz.isAgg9
  z9 := Tryz.sizeOf9
  v9 := Tryz.zeroValue9
  t21 := Tryz.underlying21
  a21 := Tryz.isAgg21
  z21 := Tryz.sizeOf21
  v21 := Tryz.zeroValue21
  t31 := Tryz.underlying34
  a31 := Tryz.isAgg34
  z31 := Tryz.sizeOf34
  v31 := Tryz.zeroValue34
  t46 := Tryz.underlying63
  a46 := Tryz.isAgg63
  z46 := Tryz.sizeOf63
  v46 := Tryz.zeroValue63
  t51 := Tryz.underlying100
  a51 := Tryz.isAgg100
  z51 := Tryz.sizeOf100
  v51 := Tryz.zeroValue100
  t105 := Tryz.underlying107
  a105 := Tryz.isAgg107
  z105 := Tryz.sizeOf107
  v105 := Tryz.zeroValue107
  t119 := Tryz.underlying121
  a119 := Tryz.isAgg121
  z119 := Tryz.sizeOf121
  t138 := Tryz.underlying123
  a138 := Tryz.isAgg123
  z138 := Tryz.sizeOf123
  v138 := Tryz.zeroValue123
  t139 := Tryz.underlying124
  a139 := Tryz.isAgg124
  z139 := Tryz.sizeOf124
  v139 := Tryz.zeroValue124
  t146 := Tryz.underlying101
  a146 := Tryz.isAgg101
  z146 := Tryz.sizeOf101
  v146 := Tryz.zeroValue101
  g1 := by kernel_rfl
  g3 := by kernel_rfl
  g4 := by kernel_rfl }
open Go.RowKit Go.Lib in
theorem Tryz.strings_Split (s sep : ByteArray) (m : Int) (w : World) (hs : s.size < 4294967281) (hm : w.cell? ⟨0, 0, none⟩ = some (.int .i64 m)) (h1 : 1 ≤ sep.size) :
    Calls Tryz.prog 27 #[.string s, .string sep] w fun e w' =>
      e = .returned (.slice (some ⟨w.heap.size, 0, none⟩) (Lib.countB s sep + 1) (Lib.countB s sep + 1)) ∧ w' = w.alloc (.cells ((Lib.splitB sep 0 (Lib.countB s sep) s).map Value.string).toArray 9) := Any.strings_Split Tryz.lays146 (by kernel_rfl) s sep m w hs hm h1
end Go.Proofs
namespace Go.Am.C39
open Go Go.Proofs Go.Shelf Go.RowKit
section
variable {P : Program} {ρ : Go.Shelf.Ren}
set_option maxHeartbeats 4000000 in
set_option maxRecDepth 100000 in
theorem pub16_ok (L : LaysPu.n14 P ρ) (s : ByteArray) (u : Nat) (w : World) (hI : Calls P (ρ.f 16) #[.string s, .int .i64 16, .int .i64 8] w fun e w' => e = .returned (.tuple #[.int .u64 u, .nilIface]) ∧ w' = Lib.bytesWorld w (ρ.t 5) s) :
    Calls P (ρ.f 14) #[.string s, .int .i64 16, .int .i64 8] w fun e w' => e = .returned (.tuple #[.int .u64 u, .nilIface]) ∧ w' = Lib.bytesWorld w (ρ.t 5) s := by
  have mixed := L.mixed
  have t9 := L.t9; have a9 := L.a9; have z9 := L.z9; have v9 := L.v9
  have t3 := L.t3; have a3 := L.a3; have z3 := L.z3; have v3 := L.v3
  have t22 := L.t22; have a22 := L.a22; have z22 := L.z22; have v22 := L.v22
  have t24 := L.t24; have a24 := L.a24; have z24 := L.z24; have v24 := L.v24
  have t25 := L.t25; have a25 := L.a25; have z25 := L.z25; have v25 := L.v25
  have t4 := L.t4; have a4 := L.a4; have z4 := L.z4; have v4 := L.v4
  have e16 : ∀ args w, (callFunc (ρ.f 16) args).run P w = .ok (.enter (ρ.f 16) args) w := enters_of L.f16 (by kernel_rfl) rfl
  go_enter L.f14, BodyPu.n14_ntmps ρ
  go_wp2_with (go_at_fn (ρ.f 16); refine hI.mono ?_; rintro e W1 ⟨rfl, rfl⟩)
  go_wp2
  go_ret2
  exact ⟨rfl, rfl⟩
set_option maxHeartbeats 4000000 in
set_option maxRecDepth 100000 in
theorem pub16_no (L : LaysPu.n14 P ρ) (s : ByteArray) (hlim : s.size ≤ 281474976710656) (ev : Value) (w : World) (hv : w.cell? ⟨(ρ.g 0), 0, none⟩ = some ev) (hev : ev = .nilIface ∨ ∃ te pe, ev = .iface te pe)
    (hI : Calls P (ρ.f 16) #[.string s, .int .i64 16, .int .i64 8] w fun e w' => e = .returned (.tuple #[.int .u64 0, .iface (ρ.t 34) (.int .i64 2)]) ∧ w' = Lib.bytesWorld w (ρ.t 5) s) :
    Calls P (ρ.f 14) #[.string s, .int .i64 16, .int .i64 8] w fun e w' => ∃ N, e = .returned (.tuple #[.int .u64 0, .iface (ρ.t 39) (.pointer (some ⟨N, 0, none⟩))]) ∧ Below w.heap.size w w' := by
  have mixed := L.mixed
  have t9 := L.t9; have a9 := L.a9; have z9 := L.z9; have v9 := L.v9
  have t3 := L.t3; have a3 := L.a3; have z3 := L.z3; have v3 := L.v3
  have t22 := L.t22; have a22 := L.a22; have z22 := L.z22; have v22 := L.v22
  have t24 := L.t24; have a24 := L.a24; have z24 := L.z24; have v24 := L.v24
  have t25 := L.t25; have a25 := L.a25; have z25 := L.z25; have v25 := L.v25
  have t4 := L.t4; have a4 := L.a4; have z4 := L.z4; have v4 := L.v4
  have e16 : ∀ args w, (callFunc (ρ.f 16) args).run P w = .ok (.enter (ρ.f 16) args) w := enters_of L.f16 (by kernel_rfl) rfl
  have e17 : ∀ args w, (callFunc (ρ.f 17) args).run P w = .ok (.enter (ρ.f 17) args) w := enters_of L.f17 (by kernel_rfl) rfl
  have hG : (ρ.g 0) < w.heap.size := Lib.lt_of_cell hv
  go_enter L.f14, BodyPu.n14_ntmps ρ
  go_wp2_with (go_at_fn (ρ.f 16); refine hI.mono ?_)
  rintro e W1 ⟨rfl, hW⟩
  have hb1 : Below w.heap.size w W1 := by
    subst hW
    exact Lib.bytesWorld_below _ _ _
  have hv1 : W1.cell? ⟨(ρ.g 0), 0, none⟩ = some ev := (hb1.cell (show (⟨(ρ.g 0), 0, none⟩ : Addr).block < w.heap.size from hG)).trans hv
  clear hW
  go_wp2_with (go_at_fn (ρ.f 17); refine (AnyPu.strconv_toError_syntax { L with } ⟨#[80, 97, 114, 115, 101, 85, 105, 110, 116]⟩ s 16 8 ev _ hlim ?_ hev).mono ?_)
  · exact hv1
  rintro e W2 ⟨N, rfl, h1, h2, h3⟩
  go_wp2
  go_ret2
  exact ⟨N, rfl, hb1.trans (h3.mono hb1.size)⟩
end
theorem pub16 (s : ByteArray) (hs : s.size = 2) (ev : Value) (w : World) (hv : w.cell? ⟨1, 0, none⟩ = some ev) (hev : ev = .nilIface ∨ ∃ te pe, ev = .iface te pe) :
    Calls Proofs.Tryz.prog 26 #[.string s, .int .i64 16, .int .i64 8] w fun e w' => Below w.heap.size w w' ∧
      ((∃ u : Nat, hexP 0 s.data.toList = some u ∧ e = .returned (.tuple #[.int .u64 (u : Int), .nilIface])) ∨ (hexP 0 s.data.toList = none ∧ ∃ t p, e = .returned (.tuple #[.int .u64 0, .iface t p]))) := by
  have hI := parseUint_16 Proofs.Tryz.lays287 s hs w
  cases hx : hexP 0 s.data.toList with
  | some u =>
    rw [hx] at hI
    refine (pub16_ok Proofs.Tryz.laysPu14 s u w hI).mono ?_
    rintro e w' ⟨rfl, rfl⟩
    exact ⟨Lib.bytesWorld_below _ _ _, .inl ⟨u, rfl, rfl⟩⟩
  | none =>
    rw [hx] at hI
    refine (pub16_no Proofs.Tryz.laysPu14 s (by omega) ev w hv hev hI).mono ?_
    rintro e w' ⟨N, rfl, hb⟩
    exact ⟨hb, .inr ⟨rfl, _, _, rfl⟩⟩
end Go.Am.C39
namespace Go.Am.V
open Go Go.Am Go.RowKit
structure PFn where
  f : Nat
  g : List Value → Option Value
noncomputable def pfnA (p : PFn) : Nat → List Value → FM → Nat → OR FM := fun f args m n =>
  cond (Nat.beq f p.f) (Option.rec (motive := fun _ => OR FM) .no (fun v => .ok v m n 0 0) (p.g args)) .no
structure PFn.Ok (P : Program) (p : PFn) : Prop where
  ent : ∃ fn c, P.funcs[p.f]? = some fn ∧ fn.name ≠ "runtime.NumGoroutine" ∧ fn.body = some c
  flats : ∀ args v, p.g args = some v → args.all flat = true ∧ addrFree v = true
  runs : ∀ args v, p.g args = some v → ∀ B w, Glob B w → B ≤ w.heap.size → Calls P p.f args.toArray w fun e w' => e = .returned v ∧ Below w.heap.size w w'
theorem pfn_ok {p : PFn} {f : Nat} {args : List Value} {m : FM} {n : Nat} {v : Value} {m' : FM} {n' r w : Nat} (h : pfnA p f args m n = .ok v m' n' r w) : f = p.f ∧ p.g args = some v ∧ m' = m ∧ n' = n ∧ r = 0 ∧ w = 0 := by
  unfold pfnA at h
  cases hb : Nat.beq f p.f
  · rw [hb] at h; cases h
  · rw [hb, cond_true] at h
    cases hg : p.g args with
    | none => rw [hg] at h; cases h
    | some v' =>
      rw [hg] at h
      injection h with e1 e2 e3 e4 e5
      exact ⟨Nat.eq_of_beq_eq_true hb, by rw [e1], e2.symm, e3.symm, e4.symm, e5.symm⟩
theorem pfn_loc (p : PFn) : CallLoc (pfnA p) := by
  intro f args m n v m' n' r wm h
  obtain ⟨_, _, rfl, rfl, _, rfl⟩ := pfn_ok h
  exact Loc.refl _ _
theorem pfn_sim {P : Program} {p : PFn} (h : p.Ok P) : CallSim P (pfnA p) := by
  intro f args m n v m' n' r wm hr ρ V w B F args' hargs hF hag hm hfree
  obtain ⟨rfl, hg, rfl, rfl, rfl, rfl⟩ := pfn_ok hr
  obtain ⟨h1, h2⟩ := h.flats args v hg
  have e : args' = args.toArray := by
    apply Array.ext'
    apply List.ext_getElem?
    intro i
    show args'.toList[i]? = args[i]?
    cases ha : args[i]? with
    | none =>
      have hl := hargs.1
      rw [List.getElem?_eq_none_iff] at ha ⊢
      omega
    | some x =>
      have hi : i < args'.toList.length := by rw [← hargs.1]; exact (List.getElem?_eq_some_iff.1 ha).1
      have hy : args'.toList[i]? = some args'.toList[i] := List.getElem?_eq_getElem hi
      have := (hargs.2 i _ _ ha hy).flat_eq (List.all_eq_true.1 h1 x (List.mem_of_getElem? ha))
      rw [hy, this]
  subst e
  refine ⟨h.ent, (h.runs args v hg B w hm.gl hm.le).mono ?_⟩
  rintro e w' ⟨rfl, hb⟩
  exact ⟨ρ, v, rfl, addrFree_rel ρ h2, Post.of_below hm hb⟩
noncomputable def pfnF (p : PFn) : FCal := fun f args m n =>
  Bool.rec (motive := fun _ => FR) .no (Option.rec (motive := fun _ => FR) .no (fun v => .pv (ofV v)) (p.g (pmap toV args))) (Nat.beq f p.f)
noncomputable def pfnsA (l : List PFn) (Y : Nat → List Value → FM → Nat → OR FM) : Nat → List Value → FM → Nat → OR FM := l.foldr (fun p r => altA (pfnA p) r) Y
noncomputable def pfnsF (l : List PFn) (Y : FCal) : FCal := List.rec (motive := fun _ => FCal) Y (fun p _ r => altF (pfnF p) r) l
theorem pfns_loc {l : List PFn} {Y : Nat → List Value → FM → Nat → OR FM} (hY : CallLoc Y) : CallLoc (pfnsA l Y) := by
  induction l with
  | nil => exact hY
  | cons p l ih => exact alt_loc (pfn_loc p) ih
theorem pfns_sim {P : Program} {l : List PFn} {Y : Nat → List Value → FM → Nat → OR FM} (hY : CallSim P Y) (hl : ∀ p ∈ l, p.Ok P) : CallSim P (pfnsA l Y) := by
  induction l with
  | nil => exact hY
  | cons p l ih => exact alt_sim (pfn_sim (hl p (List.mem_cons_self ..))) (ih fun q hq => hl q (List.mem_cons_of_mem _ hq))
theorem pfns_apart {tab : List (Nat × AFn)} {l : List PFn} {Y : Nat → List Value → FM → Nat → OR FM} (hY : Apart tab Y) (hl : ∀ p ∈ l, look tab p.f = none) : Apart tab (pfnsA l Y) := by
  induction l with
  | nil => exact hY
  | cons p l ih =>
    intro f fn hf args m n
    show altA (pfnA p) (pfnsA l Y) f args m n = .no
    unfold altA
    have h1 : pfnA p f args m n = .no := by
      unfold pfnA
      cases hb : Nat.beq f p.f
      · rfl
      · have := Nat.eq_of_beq_eq_true hb
        subst this
        rw [hl p (List.mem_cons_self ..)] at hf; cases hf
    rw [h1]
    exact ih (fun q hq => hl q (List.mem_cons_of_mem _ hq)) f fn hf args m n
end Go.Am.V
namespace Go.Am.V
open Go Go.Am Go.RowKit
def Enters (P : Program) (f : Nat) : Prop := ∃ fn c, P.funcs[f]? = some fn ∧ fn.name ≠ "runtime.NumGoroutine" ∧ fn.body = some c
theorem args_flat {ρ : Ren} {args : List Value} {args' : Array Value} (hargs : LRel ρ args args'.toList) (h1 : args.all flat = true) : args' = args.toArray := by
  apply Array.ext'
  apply List.ext_getElem?
  intro i
  show args'.toList[i]? = args[i]?
  cases ha : args[i]? with
  | none =>
    have hl := hargs.1
    rw [List.getElem?_eq_none_iff] at ha ⊢
    omega
  | some x =>
    have hi : i < args'.toList.length := by rw [← hargs.1]; exact (List.getElem?_eq_some_iff.1 ha).1
    have hy : args'.toList[i]? = some args'.toList[i] := List.getElem?_eq_getElem hi
    have := (hargs.2 i _ _ ha hy).flat_eq (List.all_eq_true.1 h1 x (List.mem_of_getElem? ha))
    rw [hy, this]
def splitL (s sep : ByteArray) : List ByteArray := Lib.splitB sep 0 (Lib.countB s sep) s
noncomputable def splitA (sf : Nat) : Nat → List Value → FM → Nat → OR FM := fun f args m n =>
  cond (Nat.beq f sf) (match args with
    | [.string s, .string sep] => cond (Nat.blt s.size 4294967281 && Nat.ble 1 sep.size && Nat.blt (Lib.countB s sep) 4294967281)
        (.ok (.slice (some ⟨n, 0, none⟩) (Lib.countB s sep + 1) (Lib.countB s sep + 1)) (AMem.put m n (some (.cells ((splitL s sep).map Value.string) 1 false true))) (n + 1) 0 (bit n)) .no
    | _ => .no) .no
theorem splitA_ok {sf f : Nat} {args : List Value} {m : FM} {n : Nat} {v : Value} {m' : FM} {n' r w : Nat} (h : splitA sf f args m n = .ok v m' n' r w) :
    f = sf ∧ ∃ s sep, args = [.string s, .string sep] ∧ s.size < 4294967281 ∧ 1 ≤ sep.size ∧ Lib.countB s sep < 4294967281 ∧ v = .slice (some ⟨n, 0, none⟩) (Lib.countB s sep + 1) (Lib.countB s sep + 1) ∧ m' = AMem.put m n (some (.cells ((splitL s sep).map Value.string) 1 false true)) ∧ n' = n + 1 ∧ r = 0 ∧ w = bit n := by
  unfold splitA at h
  cases hb : Nat.beq f sf
  · rw [hb] at h; cases h
  · rw [hb, cond_true] at h
    split at h
    · rename_i s sep
      cases hc : (Nat.blt s.size 4294967281 && Nat.ble 1 sep.size && Nat.blt (Lib.countB s sep) 4294967281)
      · rw [hc] at h; cases h
      · rw [hc, cond_true] at h
        simp only [Bool.and_eq_true] at hc
        injection h with e1 e2 e3 e4 e5
        exact ⟨Nat.eq_of_beq_eq_true hb, s, sep, rfl, Nat.le_of_ble_eq_true hc.1.1, Nat.le_of_ble_eq_true hc.1.2, Nat.le_of_ble_eq_true hc.2, e1.symm, e2.symm, e3.symm, e4.symm, e5.symm⟩
    · cases h
theorem split_loc (sf : Nat) : CallLoc (splitA sf) := by
  intro f args m n v m' n' r wm h
  obtain ⟨_, s, sep, _, _, _, _, _, rfl, rfl, _, rfl⟩ := splitA_ok h
  exact newb_loc (O := .cells ((splitL s sep).map Value.string) 1 false true) (f := slcP 0 0 0) (newb_fm ..)
def SplitOk (P : Program) (sf : Nat) : Prop := Enters P sf ∧ ∃ t, ∀ (s sep : ByteArray), s.size < 4294967281 → 1 ≤ sep.size → ∀ B w, Glob B w → Calls P sf #[.string s, .string sep] w fun e w' =>
  e = .returned (.slice (some ⟨w.heap.size, 0, none⟩) (Lib.countB s sep + 1) (Lib.countB s sep + 1)) ∧ w' = w.alloc (.cells ((splitL s sep).map Value.string).toArray t)
theorem split_sim {P : Program} {sf : Nat} (h : SplitOk P sf) : CallSim P (splitA sf) := by
  intro f args m n v m' n' r wm hr ρ V w B F args' hargs hF hag hm hfree
  obtain ⟨rfl, s, sep, rfl, h1, h2, h3, rfl, rfl, rfl, rfl, rfl⟩ := splitA_ok hr
  obtain rfl := args_flat hargs rfl
  obtain ⟨he, t, hc⟩ := h
  refine ⟨he, (hc s sep h1 h2 B w hm.gl).mono ?_⟩
  rintro e w' ⟨rfl, rfl⟩
  have hlim : AMem.lim m n = true := rfl
  obtain ⟨ρ', hn, hp⟩ := Post.new hm hlim hfree (.cells ((splitL s sep).map Value.string) 1 false true) (.cells ((splitL s sep).map Value.string).toArray t) (Lib.countB s sep + 1) (fun ρ' hle => by
    refine ⟨rfl, _, t, (0, 0), heap_alloc w _, fun i x hx => ⟨x, ?_, ?_⟩, fun _ => ⟨hm.le, rfl⟩, (fun h => by cases h), by simp⟩
    · show ((splitL s sep).map Value.string).toArray[0 + i]? = some x
      rw [Nat.zero_add]; simpa using hx
    · have hx2 := List.mem_of_getElem? hx
      obtain ⟨y, _, rfl⟩ := List.mem_map.1 hx2
      exact .flat rfl) rfl
  exact ⟨ρ', _, rfl, VRel.slice (o := 0) hn (Nat.le_refl _) (fun h => by unfold UNK at h; omega) (fun _ => rfl) (by unfold VAG; omega), hp⟩
def strsOf : List Value → Option (List ByteArray)
  | [] => some []
  | .string s :: l => (strsOf l).map (s :: ·)
  | _ => none
theorem strsOf_eq : ∀ {l : List Value} {xs : List ByteArray}, strsOf l = some xs → l = xs.map Value.string
  | [], xs, h => by injection h with h; subst h; rfl
  | v :: l, xs, h => by
    cases v with
    | string s =>
      cases hl : strsOf l with
      | none => unfold strsOf at h; rw [hl] at h; cases h
      | some ys =>
        unfold strsOf at h
        rw [hl] at h
        injection h with h
        subst h
        rw [strsOf_eq hl]; rfl
    | _ => cases h
def joinS (xs : List ByteArray) (sep : ByteArray) : ByteArray := ⟨(Lib.join (xs.map (·.data.toList)) sep.data.toList).toArray⟩
noncomputable def joinA (jf : Nat) : Nat → List Value → FM → Nat → OR FM := fun f args m n =>
  cond (Nat.beq f jf) (match args with
    | [.slice none 0 0, .string sep] => .ok (.string ⟨#[]⟩) m n 0 0
    | [.slice (some ⟨b, o, none⟩) l c, .string sep] => match getb m n b with
      | some (.cells cs sz opn wr) => match (ctake (ldrop cs o) l).bind strsOf with
        | some xs => cond (Nat.blt 0 l && Nat.blt l 140737488355328 && Nat.ble (joinS xs sep).size 140737488355328 && Nat.beq sz 1) (.ok (.string (joinS xs sep)) m n (bit b) 0) .no
        | none => .no
      | _ => .no
    | _ => .no) .no
def JoinOk (P : Program) (jf : Nat) : Prop := Enters P jf ∧ (∀ (sep : ByteArray) B w, Glob B w → Calls P jf #[.slice none 0 0, .string sep] w fun e w' => e = .returned (.string ⟨#[]⟩) ∧ Below w.heap.size w w') ∧
  ∀ (bk o c : Nat) (xs : List ByteArray) (sep : ByteArray) B (w : World), Glob B w → (∀ (j : Nat) x, xs[j]? = some x → w.cell? ⟨bk, o + j, none⟩ = some (.string x)) → bk < w.heap.size → xs.length ≤ 140737488355328 → xs.length ≤ c → (joinS xs sep).size ≤ 140737488355328 →
    Calls P jf #[.slice (some ⟨bk, o, none⟩) xs.length c, .string sep] w fun e w' => e = .returned (.string (joinS xs sep)) ∧ Below w.heap.size w w'
theorem joinA_ok {jf f : Nat} {args : List Value} {m : FM} {n : Nat} {v : Value} {m' : FM} {n' r w : Nat} (h : joinA jf f args m n = .ok v m' n' r w) :
    f = jf ∧ m' = m ∧ n' = n ∧ w = 0 ∧ ((∃ sep, args = [.slice none 0 0, .string sep] ∧ v = .string ⟨#[]⟩) ∨
      ∃ b o l c sep cs opn wr xs, args = [.slice (some ⟨b, o, none⟩) l c, .string sep] ∧ getb m n b = some (.cells cs 1 opn wr) ∧ ctake (ldrop cs o) l = some (xs.map Value.string) ∧ 0 < l ∧ l < 140737488355328 ∧ (joinS xs sep).size ≤ 140737488355328 ∧ v = .string (joinS xs sep) ∧ r = bit b) := by
  unfold joinA at h
  cases hb : Nat.beq f jf
  · rw [hb] at h; cases h
  · rw [hb, cond_true] at h
    have hf := Nat.eq_of_beq_eq_true hb
    split at h
    · rename_i sep
      injection h with e1 e2 e3 e4 e5
      exact ⟨hf, e2.symm, e3.symm, e5.symm, .inl ⟨sep, rfl, e1.symm⟩⟩
    · rename_i b o l c sep
      split at h
      · rename_i cs sz opn wr hg
        split at h
        · rename_i xs hx
          cases hc : (Nat.blt 0 l && Nat.blt l 140737488355328 && Nat.ble (joinS xs sep).size 140737488355328 && Nat.beq sz 1)
          · rw [hc] at h; cases h
          · rw [hc, cond_true] at h
            simp only [Bool.and_eq_true] at hc
            injection h with e1 e2 e3 e4 e5
            obtain ⟨l', hl, hs⟩ := Option.bind_eq_some_iff.1 hx
            have hsz := Nat.eq_of_beq_eq_true hc.2
            subst hsz
            exact ⟨hf, e2.symm, e3.symm, e5.symm, .inr ⟨b, o, l, c, sep, cs, opn, wr, xs, rfl, hg, by rw [hl, strsOf_eq hs], Nat.le_of_ble_eq_true hc.1.1.1, Nat.le_of_ble_eq_true hc.1.1.2, Nat.le_of_ble_eq_true hc.1.2, e1.symm, e4.symm⟩⟩
        · cases h
      · cases h
    · cases h
theorem join_loc (jf : Nat) : CallLoc (joinA jf) := by
  intro f args m n v m' n' r wm h
  obtain ⟨_, rfl, rfl, rfl, _⟩ := joinA_ok h
  exact Loc.refl _ _
theorem join_sim {P : Program} {jf : Nat} (h : JoinOk P jf) : CallSim P (joinA jf) := by
  intro f args m n v m' n' r wm hr ρ V w B F args' hargs hF hag hm hfree
  obtain ⟨he, h0, h1⟩ := h
  obtain ⟨e0, e1, e2, e3, hj⟩ := joinA_ok hr
  clear hr
  subst e0; subst e1; subst e2; subst e3
  rcases hj with ⟨sep, rfl, rfl⟩ | ⟨b, o, l, c, sep, cs, opn, wr, xs, rfl, hg, hx, hl0, hl1, hl2, rfl, rfl⟩
  · obtain rfl := args_flat hargs rfl
    refine ⟨he, (h0 sep B w hm.gl).mono ?_⟩
    rintro e w' ⟨rfl, hb⟩
    exact ⟨ρ, _, rfl, .flat rfl, Post.of_below hm hb⟩
  · refine ⟨he, ?_⟩
    obtain ⟨a1, hg1, hr1⟩ := hargs.get (i := 0) rfl
    obtain ⟨a2, hg2, hr2⟩ := hargs.get (i := 1) rfl
    have hl := hargs.1
    obtain ⟨l'⟩ := args'
    simp only [List.length_cons, List.length_nil] at hl
    replace hg1 : l'[0]? = some a1 := hg1
    replace hg2 : l'[1]? = some a2 := hg2
    obtain ⟨x1, x2, rfl⟩ : ∃ x1 x2, l' = [x1, x2] := by
      match l', hl with
      | [x1, x2], _ => exact ⟨_, _, rfl⟩
    injection hg1 with e1; injection hg2 with e2
    subst e1; subst e2
    have e3 := hr2.flat_eq rfl
    subst e3
    have hxl : xs.length = l := by
      have e := ctake_eq (ldrop cs o) l
      rw [hx] at e
      split at e
      · injection e with e
        have := congrArg List.length e
        rw [List.length_map, List.length_take] at this
        omega
      · cases e
    have hcs : ∀ (j : Nat) y, xs[j]? = some y → cs[o + j]? = some (.string y) := fun j y hy => by
      have e := ctake_eq (ldrop cs o) l
      rw [hx] at e
      split at e
      · injection e with e
        have h3 : (xs.map Value.string)[j]? = ((ldrop cs o).take l)[j]? := by rw [e]
        rw [List.getElem?_map, hy, List.getElem?_take] at h3
        have hjl : j < l := by have := (List.getElem?_eq_some_iff.1 hy).1; omega
        rw [if_pos hjl, ldrop_eq, List.getElem?_drop] at h3
        exact h3.symm
      · cases e
    obtain ⟨hbn, hget⟩ := getb_some hg
    have hVb : V b = some (.cells cs 1 opn wr) := by
      rw [hag b hbn (hF b (by rw [lor_test, bit_test]; simp))]; exact hget
    cases hr1 with
    | flat hf => simp [flat] at hf
    | vag => omega
    | slice hp hn hu hk hv =>
      rename_i c' p
      obtain ⟨_, cc, e, fz, hheap, hcells, _, _⟩ := hm.blk b p _ hp hVb
      have hfr := hm.fresh b p hp
      subst hxl
      refine (h1 p.blk (p.base + o) c' xs sep B w hm.gl (fun j y hy => ?_) hfr (by omega) hn hl2).mono ?_
      · obtain ⟨z, hz, hrz⟩ := hcells (o + j) _ (hcs j y hy)
        have := hrz.flat_eq rfl
        subst this
        unfold World.cell?
        simp only [hheap]
        rw [Nat.add_assoc]
        exact hz
      · rintro e w' ⟨rfl, hb⟩
        exact ⟨ρ, _, rfl, .flat rfl, Post.of_below hm hb⟩
end Go.Am.V
namespace Go.Am.C39
open Go Go.Am Go.Am.V Go.RowKit Go.Sort
set_option maxRecDepth 1000000
noncomputable def gItoa : List Value → Option Value
  | [.int .i64 n] => cond (inI64 n) (some (.string ⟨(Lib.itoa n).toArray⟩)) none
  | _ => none
noncomputable def gCut : List Value → Option Value
  | [.string s, .string sep] => cond (Nat.blt s.size 4294967281) (some (.tuple #[.string ⟨(Lib.cut s.data.toList sep.data.toList).1.toArray⟩, .string ⟨(Lib.cut s.data.toList sep.data.toList).2.1.toArray⟩, .bool (Lib.cut s.data.toList sep.data.toList).2.2])) none
  | _ => none
noncomputable def atoiR (l : List UInt8) : Value := match Lib.atoiAll l with
  | .ok v => .tuple #[.int .i64 v, .nilIface]
  | .range => .tuple #[.int .i64 (Lib.atoiSat l), .iface 0 .nilIface]
  | _ => .tuple #[.int .i64 0, .iface 0 .nilIface]
noncomputable def atoiA (af : Nat) : Nat → List Value → FM → Nat → OR FM := fun f args m n =>
  cond (Nat.beq f af) (match args with
    | [.string s] => cond (Nat.blt s.size 4294967281) (.ok (atoiR s.data.toList) m n 0 0) .no
    | _ => .no) .no
theorem atoiA_ok {af f : Nat} {args : List Value} {m : FM} {n : Nat} {v : Value} {m' : FM} {n' r w : Nat} (h : atoiA af f args m n = .ok v m' n' r w) : f = af ∧ ∃ s, args = [.string s] ∧ s.size < 4294967281 ∧ v = atoiR s.data.toList ∧ m' = m ∧ n' = n ∧ r = 0 ∧ w = 0 := by
  unfold atoiA at h
  cases hb : Nat.beq f af
  · rw [hb] at h; cases h
  · rw [hb, cond_true] at h
    split at h
    · rename_i s
      cases hc : Nat.blt s.size 4294967281
      · rw [hc] at h; cases h
      · rw [hc, cond_true] at h
        injection h with e1 e2 e3 e4 e5
        exact ⟨Nat.eq_of_beq_eq_true hb, s, rfl, Nat.le_of_ble_eq_true hc, e1.symm, e2.symm, e3.symm, e4.symm, e5.symm⟩
    · cases h
theorem atoi_loc (af : Nat) : CallLoc (atoiA af) := by
  intro f args m n v m' n' r wm h
  obtain ⟨_, s, _, _, _, rfl, rfl, _, rfl⟩ := atoiA_ok h
  exact Loc.refl _ _
noncomputable def pItoa : PFn := ⟨21, gItoa⟩
noncomputable def pCut : PFn := ⟨9, gCut⟩
theorem below_grow' (w : World) (k : Nat) (os : Array Obj) : Below w.heap.size w (grow (w.drewN k) os) :=
  (below_drewN (Below.refl w.heap.size w) k).trans ⟨rfl, rfl, rfl, by show (w.drewN k).heap.size ≤ ((w.drewN k).heap ++ os).size; rw [Array.size_append]; omega, fun j hj => by show ((w.drewN k).heap ++ os)[j]? = _; rw [Array.getElem?_append_left]; exact Nat.lt_of_lt_of_le hj (below_drewN (Below.refl w.heap.size w) k).size⟩
theorem itoa_ok : pItoa.Ok PG where
  ent := ⟨_, _, Proofs.Tryz.func21, by decide +kernel, rfl⟩
  flats := fun args v h => by
    match args, h with
    | [.int .i64 n], h =>
      have h : cond (inI64 n) _ _ = some v := h
      cases hi : inI64 n
      · rw [hi] at h; cases h
      · rw [hi] at h; injection h with h; subst h; exact ⟨rfl, rfl⟩
  runs := fun args v h B w hg hB => by
    match args, h with
    | [.int .i64 n], h =>
      have h : cond (inI64 n) _ _ = some v := h
      cases hi : inI64 n
      · rw [hi] at h; cases h
      · rw [hi] at h; injection h with h; subst h
        have hb : -9223372036854775808 ≤ n ∧ n ≤ 9223372036854775807 := by
          cases n with
          | ofNat a => have := Nat.le_of_ble_eq_true hi; exact ⟨by have : (0 : Int) ≤ Int.ofNat a := Int.natCast_nonneg a; omega, by show (a : Int) ≤ _; omega⟩
          | negSucc a => have := Nat.le_of_ble_eq_true hi; exact ⟨by omega, by omega⟩
        refine (Proofs.Tryz.strconv_Itoa n hb.1 hb.2 w hg.here.1.2).mono ?_
        rintro e w' ⟨rfl, k, os, rfl⟩
        exact ⟨rfl, below_grow' w k os⟩
theorem cut_ok : pCut.Ok PG where
  ent := ⟨_, _, Proofs.Tryz.func9, by decide +kernel, rfl⟩
  flats := fun args v h => by
    match args, h with
    | [.string s, .string sep], h =>
      have h : cond (Nat.blt s.size 4294967281) _ _ = some v := h
      cases hi : Nat.blt s.size 4294967281
      · rw [hi] at h; cases h
      · rw [hi] at h; injection h with h; subst h; exact ⟨rfl, rfl⟩
  runs := fun args v h B w hg hB => by
    match args, h with
    | [.string s, .string sep], h =>
      have h : cond (Nat.blt s.size 4294967281) _ _ = some v := h
      cases hi : Nat.blt s.size 4294967281
      · rw [hi] at h; cases h
      · rw [hi] at h; injection h with h; subst h
        obtain ⟨m, hm⟩ := hg.here.1.1
        refine (Proofs.Tryz.strings_Cut s sep m w (Nat.le_of_ble_eq_true hi) hm).mono ?_
        rintro e w' ⟨rfl, k, rfl⟩
        exact ⟨rfl, below_drewN (Below.refl _ w) k⟩
theorem atoi_sim : CallSim PG (atoiA 25) := by
  intro f args m n v m' n' r wm hr ρ V w B F args' hargs hF hag hm hfree
  obtain ⟨rfl, s, rfl, h1, rfl, rfl, rfl, rfl, rfl⟩ := atoiA_ok hr
  obtain rfl := args_flat hargs rfl
  refine ⟨⟨_, _, Proofs.Tryz.func25, by decide +kernel, rfl⟩, ?_⟩
  obtain ⟨_, ⟨e1, hc1, hk1⟩, e2, hc2, hk2⟩ := hm.gl.here
  have err : ∀ z x, VRel ρ (.tuple #[.int .i64 z, .iface 0 .nilIface]) (.tuple #[.int .i64 z, .iface 81 x]) := fun z x => LRel.tuple (.cons (.int ρ _ _) (.cons .opq (.nil ρ)))
  cases ha : Lib.atoiAll s.data.toList
  · rename_i z
    refine (Proofs.Tryz.strconv_Atoi_ok s (by omega) z ha w).mono ?_
    rintro e w' ⟨rfl, hw⟩
    refine ⟨ρ, _, rfl, ?_, Post.of_below hm ?_⟩
    · rw [atoiR, ha]; exact addrFree_rel ρ rfl
    · rcases hw with rfl | ⟨t, rfl⟩
      · exact Below.refl _ _
      · exact Lib.bytesWorld_below w 5 t
  · refine (Proofs.Tryz.strconv_Atoi_synt s (by omega) (fun z e => by rw [ha] at e; cases e) (fun e => by rw [ha] at e; cases e) e1 w hc1 hk1).mono ?_
    rintro e w' ⟨N, rfl, _, _, hb⟩
    exact ⟨ρ, _, rfl, by rw [atoiR, ha]; exact err _ _, Post.of_below hm hb⟩
  · refine (Proofs.Tryz.strconv_Atoi_range s (by omega) ha e2 w hc2 hk2).mono ?_
    rintro e w' ⟨N, rfl, _, _, hb⟩
    exact ⟨ρ, _, rfl, by rw [atoiR, ha]; exact err _ _, Post.of_below hm hb⟩
theorem split_okP : SplitOk PG 27 := ⟨⟨_, _, Proofs.Tryz.func27, by decide +kernel, rfl⟩, 9, fun s sep h1 h2 B w hg => by
  obtain ⟨m, hm⟩ := hg.here.1.1
  exact Proofs.Tryz.strings_Split s sep m w h1 hm h2⟩
theorem join_okP : JoinOk PG 23 := ⟨⟨_, _, Proofs.Tryz.func23, by decide +kernel, rfl⟩, fun sep B w hg => by
  refine (Proofs.Tryz.strings_Join_none none 0 sep w).mono ?_
  rintro e w' ⟨rfl, rfl⟩
  exact ⟨rfl, Below.refl _ _⟩, fun bk o c xs sep B w hg h1 h2 h3 h4 h5 =>
  Proofs.Tryz.strings_Join bk o c xs sep w h1 h2 h3 h4 (by
    have : (joinS xs sep).size = (Lib.join (xs.map (·.data.toList)) sep.data.toList).length := by simp [joinS, ByteArray.size]
    omega)⟩
noncomputable def puR (l : List UInt8) : Value := match hexP 0 l with
  | some u => .tuple #[.int .u64 (u : Int), .nilIface]
  | none => .tuple #[.int .u64 0, .iface 0 .nilIface]
noncomputable def puA : Nat → List Value → FM → Nat → OR FM := fun f args m n =>
  cond (Nat.beq f 26) (match args with
    | [.string s, .int .i64 16, .int .i64 8] => cond (Nat.beq s.size 2) (.ok (puR s.data.toList) m n 0 0) .no
    | _ => .no) .no
theorem puA_ok {f : Nat} {args : List Value} {m : FM} {n : Nat} {v : Value} {m' : FM} {n' r w : Nat} (h : puA f args m n = .ok v m' n' r w) : f = 26 ∧ ∃ s, args = [.string s, .int .i64 16, .int .i64 8] ∧ s.size = 2 ∧ v = puR s.data.toList ∧ m' = m ∧ n' = n ∧ r = 0 ∧ w = 0 := by
  unfold puA at h
  cases hb : Nat.beq f 26
  · rw [hb] at h; cases h
  · rw [hb, cond_true] at h
    split at h
    · rename_i s
      cases hc : Nat.beq s.size 2
      · rw [hc] at h; cases h
      · rw [hc, cond_true] at h
        injection h with e1 e2 e3 e4 e5
        exact ⟨Nat.eq_of_beq_eq_true hb, s, rfl, Nat.eq_of_beq_eq_true hc, e1.symm, e2.symm, e3.symm, e4.symm, e5.symm⟩
    · cases h
theorem pu_loc : CallLoc puA := by
  intro f args m n v m' n' r wm h
  obtain ⟨_, s, _, _, _, rfl, rfl, _, rfl⟩ := puA_ok h
  exact Loc.refl _ _
theorem pu_sim : CallSim PG puA := by
  intro f args m n v m' n' r wm hr ρ V w B F args' hargs hF hag hm hfree
  obtain ⟨rfl, s, rfl, h1, rfl, rfl, rfl, rfl, rfl⟩ := puA_ok hr
  obtain rfl := args_flat hargs rfl
  refine ⟨⟨_, _, Proofs.Tryz.func26, by decide +kernel, rfl⟩, ?_⟩
  obtain ⟨_, ⟨e1, hc1, hk1⟩, _⟩ := hm.gl.here
  refine (pub16 s h1 e1 w hc1 hk1).mono ?_
  rintro e w' ⟨hb, ⟨u, hu, rfl⟩ | ⟨hu, t, p, rfl⟩⟩
  · exact ⟨ρ, _, rfl, by rw [puR, hu]; exact addrFree_rel ρ rfl, Post.of_below hm hb⟩
  · exact ⟨ρ, _, rfl, by rw [puR, hu]; exact LRel.tuple (.cons (.int ρ _ _) (.cons .opq (.nil ρ))), Post.of_below hm hb⟩
noncomputable def Y39 : Nat → List Value → FM → Nat → OR FM := pfnsA [pItoa, pCut] (altA (atoiA 25) (altA (splitA 27) (altA (joinA 23) puA)))
theorem y39_loc : CallLoc Y39 := pfns_loc (alt_loc (atoi_loc 25) (alt_loc (split_loc 27) (alt_loc (join_loc 23) pu_loc)))
theorem y39_sim : CallSim PG Y39 := pfns_sim (alt_sim atoi_sim (alt_sim (split_sim split_okP) (alt_sim (join_sim join_okP) pu_sim))) fun p hp => by
  simp only [List.mem_cons, List.not_mem_nil, or_false] at hp
  rcases hp with rfl | rfl
  · exact itoa_ok
  · exact cut_ok
end Go.Am.C39
namespace Go.Am.C39
open Go Go.Am Go.Am.V
set_option maxRecDepth 1000000
def itoaB (n : Int) : ByteArray := ⟨(Lib.itoa n).toArray⟩
theorem inI64_of {z : Int} (h0 : -9223372036854775808 ≤ z) (h1 : z ≤ 9223372036854775807) : inI64 z = true := by
  cases z with
  | ofNat a =>
    have h1 : (a : Int) ≤ 9223372036854775807 := h1
    exact Nat.ble_eq_true_of_le (show a + 1 ≤ 9223372036854775808 by omega)
  | negSucc a => exact Nat.ble_eq_true_of_le (show a + 1 ≤ 9223372036854775808 by omega)
theorem y_itoa (m : FM) (n : Nat) {z : Int} (h0 : -9223372036854775808 ≤ z) (h1 : z ≤ 9223372036854775807) : Y39 21 [.int .i64 z] m n = .ok (.string (itoaB z)) m n 0 0 := by
  have h : pfnA pItoa 21 [.int .i64 z] m n = .ok (.string (itoaB z)) m n 0 0 := by
    show Option.rec (motive := fun _ => OR FM) .no (fun v => .ok v m n 0 0) (cond (inI64 z) (some (Value.string ⟨(Lib.itoa z).toArray⟩)) none) = _
    rw [inI64_of h0 h1]; rfl
  show altA (pfnA pItoa) _ 21 _ m n = _
  unfold altA
  rw [h]
theorem y_cut (m : FM) (n : Nat) {s sep : ByteArray} (hs : s.size < 4294967281) : Y39 9 [.string s, .string sep] m n = .ok (.tuple #[.string ⟨(Lib.cut s.data.toList sep.data.toList).1.toArray⟩, .string ⟨(Lib.cut s.data.toList sep.data.toList).2.1.toArray⟩, .bool (Lib.cut s.data.toList sep.data.toList).2.2]) m n 0 0 := by
  have h : pfnA pCut 9 [.string s, .string sep] m n = .ok (.tuple #[.string ⟨(Lib.cut s.data.toList sep.data.toList).1.toArray⟩, .string ⟨(Lib.cut s.data.toList sep.data.toList).2.1.toArray⟩, .bool (Lib.cut s.data.toList sep.data.toList).2.2]) m n 0 0 := by
    show Option.rec (motive := fun _ => OR FM) .no (fun v => .ok v m n 0 0) (cond (Nat.blt s.size 4294967281) _ none) = _
    rw [show Nat.blt s.size 4294967281 = true from Nat.ble_eq_true_of_le hs]; rfl
  show altA (pfnA pItoa) (altA (pfnA pCut) _) 9 _ m n = _
  unfold altA
  rw [show pfnA pItoa 9 [.string s, .string sep] m n = .no from rfl, h]
theorem y_atoi (m : FM) (n : Nat) {s : ByteArray} (hs : s.size < 4294967281) : Y39 25 [.string s] m n = .ok (atoiR s.data.toList) m n 0 0 := by
  have h : atoiA 25 25 [.string s] m n = .ok (atoiR s.data.toList) m n 0 0 := by
    show cond (Nat.blt s.size 4294967281) (OR.ok (atoiR s.data.toList) m n 0 0) OR.no = _
    rw [show Nat.blt s.size 4294967281 = true from Nat.ble_eq_true_of_le hs]; rfl
  show altA (pfnA pItoa) (altA (pfnA pCut) (altA (atoiA 25) _)) 25 _ m n = _
  unfold altA
  rw [show pfnA pItoa 25 [.string s] m n = .no from rfl, show pfnA pCut 25 [.string s] m n = .no from rfl, h]
theorem y_split (m : FM) (n : Nat) {s sep : ByteArray} (hs : s.size < 4294967281) (h1 : 1 ≤ sep.size) (h2 : Lib.countB s sep < 4294967281) : Y39 27 [.string s, .string sep] m n = .ok (.slice (some ⟨n, 0, none⟩) (Lib.countB s sep + 1) (Lib.countB s sep + 1)) (AMem.put m n (some (.cells ((splitL s sep).map Value.string) 1 false true))) (n + 1) 0 (bit n) := by
  have h : splitA 27 27 [.string s, .string sep] m n = .ok (.slice (some ⟨n, 0, none⟩) (Lib.countB s sep + 1) (Lib.countB s sep + 1)) (AMem.put m n (some (.cells ((splitL s sep).map Value.string) 1 false true))) (n + 1) 0 (bit n) := by
    show cond (Nat.blt s.size 4294967281 && Nat.ble 1 sep.size && Nat.blt (Lib.countB s sep) 4294967281) _ _ = _
    rw [show Nat.blt s.size 4294967281 = true from Nat.ble_eq_true_of_le hs, show Nat.ble 1 sep.size = true from Nat.ble_eq_true_of_le h1, show Nat.blt (Lib.countB s sep) 4294967281 = true from Nat.ble_eq_true_of_le h2]; rfl
  show altA (pfnA pItoa) (altA (pfnA pCut) (altA (atoiA 25) (altA (splitA 27) (altA (joinA 23) puA)))) 27 _ m n = _
  unfold altA
  rw [show pfnA pItoa 27 [.string s, .string sep] m n = .no from rfl, show pfnA pCut 27 [.string s, .string sep] m n = .no from rfl, show atoiA 25 27 [.string s, .string sep] m n = .no from rfl, h]
theorem strsOf_map : ∀ xs : List ByteArray, strsOf (xs.map Value.string) = some xs
  | [] => rfl
  | x :: xs => by
    show (strsOf (xs.map Value.string)).map (x :: ·) = _
    rw [strsOf_map xs]; rfl
theorem y_join (m : FM) (n b c : Nat) (opn wr : Bool) (xs : List ByteArray) (sep : ByteArray) (hb : b < n) (hm : m b = some (.cells (xs.map Value.string) 1 opn wr)) (h0 : 0 < xs.length) (h1 : xs.length < 140737488355328) (h2 : (joinS xs sep).size ≤ 140737488355328) : Y39 23 [.slice (some ⟨b, 0, none⟩) xs.length c, .string sep] m n = .ok (.string (joinS xs sep)) m n (bit b) 0 := by
  have h : joinA 23 23 [.slice (some ⟨b, 0, none⟩) xs.length c, .string sep] m n = .ok (.string (joinS xs sep)) m n (bit b) 0 := by
    show (match getb m n b with
      | some (.cells cs sz opn wr) => match (ctake (ldrop cs 0) xs.length).bind strsOf with
        | some ys => cond (Nat.blt 0 xs.length && Nat.blt xs.length 140737488355328 && Nat.ble (joinS ys sep).size 140737488355328 && Nat.beq sz 1) (OR.ok (Value.string (joinS ys sep)) m n (bit b) 0) .no
        | none => .no
      | _ => .no) = _
    rw [getb_lt hb, hm]
    show (match (ctake (ldrop (xs.map Value.string) 0) xs.length).bind strsOf with
        | some ys => cond (Nat.blt 0 xs.length && Nat.blt xs.length 140737488355328 && Nat.ble (joinS ys sep).size 140737488355328 && Nat.beq 1 1) (OR.ok (Value.string (joinS ys sep)) m n (bit b) 0) .no
        | none => .no) = _
    rw [ldrop_z, cells_all (List.length_map ..).symm]
    show (match strsOf (xs.map Value.string) with
        | some ys => cond (Nat.blt 0 xs.length && Nat.blt xs.length 140737488355328 && Nat.ble (joinS ys sep).size 140737488355328 && Nat.beq 1 1) (OR.ok (Value.string (joinS ys sep)) m n (bit b) 0) .no
        | none => .no) = _
    rw [strsOf_map]
    show cond (Nat.blt 0 xs.length && Nat.blt xs.length 140737488355328 && Nat.ble (joinS xs sep).size 140737488355328 && true) _ _ = _
    rw [show Nat.blt 0 xs.length = true from Nat.ble_eq_true_of_le h0, show Nat.blt xs.length 140737488355328 = true from Nat.ble_eq_true_of_le h1, show Nat.ble (joinS xs sep).size 140737488355328 = true from Nat.ble_eq_true_of_le h2]; rfl
  show altA (pfnA pItoa) (altA (pfnA pCut) (altA (atoiA 25) (altA (splitA 27) (altA (joinA 23) puA)))) 23 [.slice (some ⟨b, 0, none⟩) xs.length c, .string sep] m n = .ok (.string (joinS xs sep)) m n (bit b) 0
  unfold altA
  rw [show pfnA pItoa 23 [.slice (some ⟨b, 0, none⟩) xs.length c, .string sep] m n = .no from rfl, show pfnA pCut 23 [.slice (some ⟨b, 0, none⟩) xs.length c, .string sep] m n = .no from rfl, show atoiA 25 23 [.slice (some ⟨b, 0, none⟩) xs.length c, .string sep] m n = .no from rfl, show splitA 27 23 [.slice (some ⟨b, 0, none⟩) xs.length c, .string sep] m n = .no from rfl, h]
theorem y_pu (m : FM) (n : Nat) {s : ByteArray} (hs : s.size = 2) : Y39 26 [.string s, .int .i64 16, .int .i64 8] m n = .ok (puR s.data.toList) m n 0 0 := by
  have h : puA 26 [.string s, .int .i64 16, .int .i64 8] m n = .ok (puR s.data.toList) m n 0 0 := by
    show cond (Nat.beq s.size 2) (OR.ok (puR s.data.toList) m n 0 0) OR.no = _
    rw [hs]; rfl
  have e : Y39 = altA (pfnA pItoa) (altA (pfnA pCut) (altA (atoiA 25) (altA (splitA 27) (altA (joinA 23) puA)))) := rfl
  rw [e]
  unfold altA
  rw [show pfnA pItoa 26 [.string s, .int .i64 16, .int .i64 8] m n = .no from rfl, show pfnA pCut 26 [.string s, .int .i64 16, .int .i64 8] m n = .no from rfl, show atoiA 25 26 [.string s, .int .i64 16, .int .i64 8] m n = .no from rfl, show splitA 27 26 [.string s, .int .i64 16, .int .i64 8] m n = .no from rfl, show joinA 23 26 [.string s, .int .i64 16, .int .i64 8] m n = .no from rfl]
  exact h
end Go.Am.C39
namespace Go.Am.C39
open Go Go.Am Go.Am.V Go.Am.Fast
set_option maxRecDepth 1000000
noncomputable def fL {α : Type} (l : List UInt8) : (List UInt8 → α) → α := List.rec (motive := fun _ => (List UInt8 → α) → α) (fun k => k []) (fun a _ ih k => ih fun l => k (a :: l)) l
theorem fL_eq {α : Type} (l : List UInt8) (k : List UInt8 → α) : fL l k = k l := by
  induction l generalizing k with
  | nil => rfl
  | cons a l ih => show fL l (fun l => k (a :: l)) = _; rw [ih]
noncomputable def fStr {α : Type} (s : ByteArray) (k : ByteArray → α) : α := fL s.data.toList fun l => k ⟨⟨l⟩⟩
theorem fStr_eq {α : Type} (s : ByteArray) (k : ByteArray → α) : fStr s k = k s := by
  unfold fStr; rw [fL_eq]
noncomputable def fStrs {α : Type} (l : List ByteArray) : (List ByteArray → α) → α := List.rec (motive := fun _ => (List ByteArray → α) → α) (fun k => k []) (fun a _ ih k => fStr a fun a => ih fun l => k (a :: l)) l
theorem fStrs_eq {α : Type} (l : List ByteArray) (k : List ByteArray → α) : fStrs l k = k l := by
  induction l generalizing k with
  | nil => rfl
  | cons a l ih => show fStr a (fun a => fStrs l fun l => k (a :: l)) = _; rw [fStr_eq, ih]
def itoaT : Int → Option ByteArray
  | .ofNat a => cond (Nat.blt a 10) (some ⟨#[UInt8.ofNat (48 + a)]⟩) (cond (Nat.blt a 100) (some ⟨#[UInt8.ofNat (48 + a / 10), UInt8.ofNat (48 + a % 10)]⟩) none)
  | .negSucc _ => none
theorem itoaT_eq {z : Int} {b : ByteArray} (h : itoaT z = some b) : itoaB z = b ∧ 0 ≤ z ∧ z ≤ 99 := by
  cases z with
  | negSucc a => cases h
  | ofNat a =>
    replace h : cond (Nat.blt a 10) (some (⟨#[UInt8.ofNat (48 + a)]⟩ : ByteArray)) (cond (Nat.blt a 100) (some ⟨#[UInt8.ofNat (48 + a / 10), UInt8.ofNat (48 + a % 10)]⟩) none) = some b := h
    cases h1 : Nat.blt a 10
    · rw [h1, cond_false] at h
      have k1 : ¬ a < 10 := fun hh => by rw [show Nat.blt a 10 = true from Nat.ble_eq_true_of_le hh] at h1; cases h1
      cases h2 : Nat.blt a 100
      · rw [h2, cond_false] at h; cases h
      · have k2 : a < 100 := Nat.le_of_ble_eq_true h2
        rw [h2, cond_true] at h
        injection h with h
        refine ⟨?_, by show (0 : Int) ≤ (a : Int); omega, by show (a : Int) ≤ 99; omega⟩
        rw [← h]
        show (⟨(Lib.itoa (a : Int)).toArray⟩ : ByteArray) = _
        rw [Lib.itoa_nonneg, Lib.decDigits_two k1 k2]
    · have k1 : a < 10 := Nat.le_of_ble_eq_true h1
      rw [h1, cond_true] at h
      injection h with h
      refine ⟨?_, by show (0 : Int) ≤ (a : Int); omega, by show (a : Int) ≤ 99; omega⟩
      rw [← h]
      show (⟨(Lib.itoa (a : Int)).toArray⟩ : ByteArray) = _
      rw [Lib.itoa_nonneg, Lib.decDigits_one k1]
noncomputable def fcs : List FV → Option (List ByteArray)
  | [] => some []
  | .o (.string x) :: r => (fcs r).map (x :: ·)
  | _ => none
theorem fcs_eq : ∀ {c : List FV} {xs : List ByteArray}, fcs c = some xs → c.map toV = xs.map Value.string
  | [], xs, h => by injection h with h; subst h; rfl
  | v :: r, xs, h => by
    unfold fcs at h
    split at h
    · rename_i he; cases he
    · rename_i x r' he
      injection he with e1 e2
      subst e1
      rw [e2]
      cases hr : fcs r' with
      | none => rw [hr] at h; cases h
      | some ys =>
        rw [hr] at h
        injection h with h
        subst h
        rw [List.map_cons, List.map_cons, fcs_eq hr]; rfl
    · cases h
noncomputable def gF29 : List FV → FR
  | [.i z] => match itoaT z with
    | some b => fStr b fun b => .pv (.o (.string b))
    | none => .no
  | _ => .no
noncomputable def gF23 : List FV → FR
  | [.o (.string s), .o (.string sep)] => cond (Nat.blt s.size 4294967281) (fStr ⟨(Lib.cut s.data.toList sep.data.toList).1.toArray⟩ fun a => fStr ⟨(Lib.cut s.data.toList sep.data.toList).2.1.toArray⟩ fun b => fB (fun t => .pv (.o (.tuple #[.string a, .string b, .bool t]))) (Lib.cut s.data.toList sep.data.toList).2.2) .no
  | _ => .no
noncomputable def gF40 : List FV → FR
  | [.o (.string s)] => cond (Nat.blt s.size 4294967281) (match Lib.atoiAll s.data.toList with
    | .ok v => fI (fun v => .pv (.o (.tuple #[.int .i64 v, .nilIface]))) v
    | _ => .no) .no
  | _ => .no
noncomputable def gF42 (m : FTr) (n : Nat) : List FV → FR
  | [.o (.string s), .o (.string sep)] => cond (Nat.blt s.size 4294967281 && Nat.ble 1 sep.size && Nat.blt (Lib.countB s sep) 4294967281) (fN (fun k => fStrs (splitL s sep) fun l => fnew m n ⟨l.map fun x => .o (.string x), 1, false, true⟩ fun n => .s n 0 k k) (Lib.countB s sep + 1)) .no
  | _ => .no
noncomputable def gF31 (m : FTr) (n : Nat) : List FV → FR
  | [.s b o l c, .o (.string sep)] => match gb m n b with
    | some ⟨cs, sz, opn, wr⟩ => match fcs cs with
      | some xs => cond (Nat.beq o 0 && Nat.beq sz 1 && Nat.beq xs.length l && Nat.blt 0 xs.length && Nat.blt xs.length 140737488355328 && Nat.ble (joinS xs sep).size 140737488355328) (fStr (joinS xs sep) fun r => .rd (.o (.string r)) b) .no
      | none => .no
    | none => .no
  | _ => .no
noncomputable def gF41 : List FV → FR
  | [.o (.string s), .i 16, .i 8] => cond (Nat.beq s.size 2) (match hexP 0 s.data.toList with
    | some u => fN (fun u => .pv (.o (.tuple #[.int .u64 (u : Int), .nilIface]))) u
    | none => .no) .no
  | _ => .no
noncomputable def Yf39 : FCal := fun f args m n =>
  cond (Nat.beq f 21) (gF29 args) (cond (Nat.beq f 9) (gF23 args) (cond (Nat.beq f 25) (gF40 args) (cond (Nat.beq f 27) (gF42 m n args) (cond (Nat.beq f 23) (gF31 m n args) (cond (Nat.beq f 26) (gF41 args) .no)))))
theorem s29 (args : List FV) (m : FTr) (n : Nat) : FSim m n (gF29 args) (Y39 21 (args.map toV) (absM m n) n) := by
  unfold gF29
  split
  · rename_i z
    cases h : itoaT z with
    | none => exact trivial
    | some b =>
      obtain ⟨e, h0, h1⟩ := itoaT_eq h
      simp only
      rw [fStr_eq]
      show Y39 21 [.int .i64 z] _ _ = .ok (.string b) _ _ 0 0
      rw [y_itoa _ _ (by omega) (by omega), e]
  · exact trivial
theorem s23 (args : List FV) (m : FTr) (n : Nat) : FSim m n (gF23 args) (Y39 9 (args.map toV) (absM m n) n) := by
  unfold gF23
  split
  · rename_i s sep
    cases h : Nat.blt s.size 4294967281
    · exact trivial
    · rw [cond_true, fStr_eq, fStr_eq]
      have hb : ∀ (k : Bool → FR) (t : Bool), fB k t = k t := fun k t => by cases t <;> rfl
      rw [hb]
      exact y_cut _ _ (Nat.le_of_ble_eq_true h)
  · exact trivial
theorem s40 (args : List FV) (m : FTr) (n : Nat) : FSim m n (gF40 args) (Y39 25 (args.map toV) (absM m n) n) := by
  unfold gF40
  split
  · rename_i s
    cases h : Nat.blt s.size 4294967281
    · exact trivial
    · rw [cond_true]
      have hy := y_atoi (absM m n) n (Nat.le_of_ble_eq_true h)
      cases ha : Lib.atoiAll s.data.toList with
      | ok v =>
        simp only
        rw [fI_eq]
        unfold atoiR at hy
        rw [ha] at hy
        exact hy
      | _ => exact trivial
  · exact trivial
theorem s42 (args : List FV) (m : FTr) (n : Nat) : FSim m n (gF42 m n args) (Y39 27 (args.map toV) (absM m n) n) := by
  unfold gF42
  split
  · rename_i s sep
    cases h1 : Nat.blt s.size 4294967281
    · exact trivial
    cases h2 : Nat.ble 1 sep.size
    · exact trivial
    cases h3 : Nat.blt (Lib.countB s sep) 4294967281
    · exact trivial
    rw [Bool.and_self, Bool.and_self, cond_true, fN_eq, fStrs_eq]
    have hy := y_split (absM m n) n (Nat.le_of_ble_eq_true h1) (Nat.le_of_ble_eq_true h2) (Nat.le_of_ble_eq_true h3)
    show FSim m n _ (Y39 27 [.string s, .string sep] (absM m n) n)
    rw [hy]
    refine fnew_sim ?_ fun n => rfl
    show Blk.cells (((splitL s sep).map fun x => FV.o (.string x)).map toV) 1 false true = _
    rw [List.map_map]; rfl
  · exact trivial
theorem s31 (args : List FV) (m : FTr) (n : Nat) : FSim m n (gF31 m n args) (Y39 23 (args.map toV) (absM m n) n) := by
  unfold gF31
  split
  · rename_i b o l c sep
    cases hg : gb m n b with
    | none => exact trivial
    | some x =>
      obtain ⟨cs, sz, opn, wr⟩ := x
      simp only
      cases hc : fcs cs with
      | none => exact trivial
      | some xs =>
        simp only
        cases h1 : Nat.beq o 0
        · exact trivial
        cases h2 : Nat.beq sz 1
        · exact trivial
        cases h3 : Nat.beq xs.length l
        · exact trivial
        cases h4 : Nat.blt 0 xs.length
        · exact trivial
        cases h5 : Nat.blt xs.length 140737488355328
        · exact trivial
        cases h6 : Nat.ble (joinS xs sep).size 140737488355328
        · exact trivial
        rw [Bool.and_self, Bool.and_self, Bool.and_self, Bool.and_self, Bool.and_self, cond_true, fStr_eq]
        obtain rfl := Nat.eq_of_beq_eq_true h1
        obtain rfl := Nat.eq_of_beq_eq_true h2
        obtain rfl := Nat.eq_of_beq_eq_true h3
        refine y_join (absM m n) n b c opn wr xs sep (gb_lt hg) ?_ (Nat.le_of_ble_eq_true h4) (Nat.le_of_ble_eq_true h5) (Nat.le_of_ble_eq_true h6)
        unfold absM
        rw [hg]
        show some (Blk.cells (cs.map toV) 1 opn wr) = _
        rw [fcs_eq hc]
  · exact trivial
theorem s41 (args : List FV) (m : FTr) (n : Nat) : FSim m n (gF41 args) (Y39 26 (args.map toV) (absM m n) n) := by
  unfold gF41
  split
  · rename_i s
    cases h : Nat.beq s.size 2
    · exact trivial
    · rw [cond_true]
      have hy := y_pu (absM m n) n (Nat.eq_of_beq_eq_true h)
      cases ha : hexP 0 s.data.toList with
      | some u =>
        simp only
        rw [fN_eq]
        unfold puR at hy
        rw [ha] at hy
        exact hy
      | none => exact trivial
  · exact trivial
theorem y39_fast : CalSim Yf39 Y39 := by
  intro f args m n
  unfold Yf39
  cases h1 : Nat.beq f 21
  · cases h2 : Nat.beq f 9
    · cases h3 : Nat.beq f 25
      · cases h4 : Nat.beq f 27
        · cases h5 : Nat.beq f 23
          · cases h6 : Nat.beq f 26
            · exact trivial
            · obtain rfl := Nat.eq_of_beq_eq_true h6
              exact s41 args m n
          · obtain rfl := Nat.eq_of_beq_eq_true h5
            exact s31 args m n
        · obtain rfl := Nat.eq_of_beq_eq_true h4
          exact s42 args m n
      · obtain rfl := Nat.eq_of_beq_eq_true h3
        exact s40 args m n
    · obtain rfl := Nat.eq_of_beq_eq_true h2
      exact s23 args m n
  · obtain rfl := Nat.eq_of_beq_eq_true h1
    exact s29 args m n
theorem apart39 {tab : List (Nat × AFn)} (n29 : look tab 21 = none) (n23 : look tab 9 = none) (n40 : look tab 25 = none) (n42 : look tab 27 = none) (n31 : look tab 23 = none) (n41 : look tab 26 = none) : V.Apart tab Y39 := by
  refine pfns_apart (apart_alt (fun f fn h args m n => ?_) (apart_alt (fun f fn h args m n => ?_) (apart_alt (fun f fn h args m n => ?_) (fun f fn h args m n => ?_)))) fun p hp => ?_
  · have hf : f ≠ 25 := fun e => by subst e; rw [n40] at h; cases h
    unfold atoiA
    rw [show Nat.beq f 25 = false from Bool.eq_false_iff.2 fun e => hf (Nat.eq_of_beq_eq_true e)]; rfl
  · have hf : f ≠ 27 := fun e => by subst e; rw [n42] at h; cases h
    unfold splitA
    rw [show Nat.beq f 27 = false from Bool.eq_false_iff.2 fun e => hf (Nat.eq_of_beq_eq_true e)]; rfl
  · have hf : f ≠ 23 := fun e => by subst e; rw [n31] at h; cases h
    unfold joinA
    rw [show Nat.beq f 23 = false from Bool.eq_false_iff.2 fun e => hf (Nat.eq_of_beq_eq_true e)]; rfl
  · have hf : f ≠ 26 := fun e => by subst e; rw [n41] at h; cases h
    unfold puA
    rw [show Nat.beq f 26 = false from Bool.eq_false_iff.2 fun e => hf (Nat.eq_of_beq_eq_true e)]; rfl
  · simp only [List.mem_cons, List.not_mem_nil, or_false] at hp
    rcases hp with rfl | rfl
    · exact n29
    · exact n23
theorem env39 : Env Proofs.Tryz.prog tab Y39 Yf39 where
  mix := mix
  good := good
  small := by kernel_rfl
  loc := y39_loc
  sim := y39_sim
  fast := y39_fast
  apart := apart39 (by kernel_rfl) (by kernel_rfl) (by kernel_rfl) (by kernel_rfl) (by kernel_rfl) (by kernel_rfl)
end Go.Am.C39
namespace Go.Am.C39
open Go Go.Am Go.Am.V Go.RowKit
set_option maxRecDepth 1000000
theorem agg_same {ρ : Ren} {cs : Array Value} {y : Value} (hf : cs.toList.all flat = true) (h : VRel ρ (.agg cs) y) : y = .agg cs := by
  cases h with
  | flat h => rfl
  | agg h1 h2 =>
    rename_i cs'
    have e : cs' = cs := by
      apply Array.ext (by omega)
      intro i hi hj
      have hx : cs[i]? = some cs[i] := Array.getElem?_eq_getElem hj
      have hy : cs'[i]? = some cs'[i] := Array.getElem?_eq_getElem hi
      have hfl : flat cs[i] = true := List.all_eq_true.1 hf _ (by rw [← Array.mem_def]; exact Array.getElem_mem hj)
      exact ((h2 i _ _ hx hy).flat_eq hfl)
    rw [e]
def hxA : Array Value := #[.int .u8 0, .int .u8 17, .int .u8 34, .int .u8 51, .int .u8 68, .int .u8 85, .int .u8 102, .int .u8 119]
def hxB : Array Value := #[.int .u8 136, .int .u8 153, .int .u8 170, .int .u8 187, .int .u8 204, .int .u8 221, .int .u8 238, .int .u8 255]
def htA : ByteArray := ⟨#[48, 48, 49, 49, 50, 50, 51, 51, 52, 52, 53, 53, 54, 54, 55, 55]⟩
def htB : ByteArray := ⟨#[56, 56, 57, 57, 97, 97, 98, 98, 99, 99, 100, 100, 101, 101, 102, 102]⟩
def gaveS (x : OR FM) (s : ByteArray) : Bool := match x with
  | .ok (.string b) _ _ _ _ => decide (b = s)
  | _ => false
theorem gaveS_eq {x : OR FM} {s : ByteArray} (h : gaveS x s = true) : ∃ m n r w, x = .ok (.string s) m n r w := by
  unfold gaveS at h
  split at h
  · obtain rfl := of_decide_eq_true h
    exact ⟨_, _, _, _, rfl⟩
  · cases h
theorem runA : gaveS (callA (look tab) Y39 (exec Proofs.Tryz.prog (look tab) Y39 400) 22 [.agg hxA] FM0 0) htA = true := by kernel_rfl
theorem runB : gaveS (callA (look tab) Y39 (exec Proofs.Tryz.prog (look tab) Y39 400) 22 [.agg hxB] FM0 0) htB = true := by kernel_rfl
def isH (args : List Value) (cs : Array Value) : Bool := match args with
  | [.agg a] => veqL a.toList cs.toList
  | _ => false
theorem isH_eq {args : List Value} {cs : Array Value} (h : isH args cs = true) : args = [.agg cs] := by
  unfold isH at h
  split at h
  · rename_i a
    have := veqL_eq h
    rw [show a = cs from Array.ext' this]
  · cases h
noncomputable def hexA : Nat → List Value → FM → Nat → OR FM := fun f args m n =>
  cond (Nat.beq f 22) (cond (isH args hxA) (.ok (.string htA) m n 0 0) (cond (isH args hxB) (.ok (.string htB) m n 0 0) .no)) .no
theorem hexA_ok {f : Nat} {args : List Value} {m : FM} {n : Nat} {v : Value} {m' : FM} {n' r w : Nat} (h : hexA f args m n = .ok v m' n' r w) : f = 22 ∧ (∃ cs s, args = [.agg cs] ∧ cs.toList.all flat = true ∧ v = .string s ∧ gaveS (callA (look tab) Y39 (exec Proofs.Tryz.prog (look tab) Y39 400) 22 [.agg cs] FM0 0) s = true) ∧ m' = m ∧ n' = n ∧ r = 0 ∧ w = 0 := by
  unfold hexA at h
  cases hb : Nat.beq f 22
  · rw [hb] at h; cases h
  · rw [hb, cond_true] at h
    have hf := Nat.eq_of_beq_eq_true hb
    cases h1 : isH args hxA
    · rw [h1, cond_false] at h
      cases h2 : isH args hxB
      · rw [h2] at h; cases h
      · rw [h2, cond_true] at h
        injection h with e1 e2 e3 e4 e5
        exact ⟨hf, ⟨hxB, htB, isH_eq h2, by decide, e1.symm, runB⟩, e2.symm, e3.symm, e4.symm, e5.symm⟩
    · rw [h1, cond_true] at h
      injection h with e1 e2 e3 e4 e5
      exact ⟨hf, ⟨hxA, htA, isH_eq h1, by decide, e1.symm, runA⟩, e2.symm, e3.symm, e4.symm, e5.symm⟩
theorem hexA_loc : CallLoc hexA := by
  intro f args m n v m' n' r wm h
  obtain ⟨_, _, rfl, rfl, _, rfl⟩ := hexA_ok h
  exact Loc.refl _ _
theorem hexA_sim : CallSim PG hexA := by
  intro f args m n v m' n' r wm h ρ V w B F args' hargs hF hag hm hfree
  obtain ⟨rfl, ⟨cs, s, rfl, hfl, rfl, hg⟩, rfl, rfl, rfl, rfl⟩ := hexA_ok h
  obtain ⟨m1, n1, r1, w1, hrun⟩ := gaveS_eq hg
  obtain ⟨hen, hcall⟩ := env39.calls 400 22 [.agg cs] FM0 0 (.string s) m1 n1 r1 w1 hrun (fun _ => none) (fun _ => none) w w.heap.size (Nat.lor r1 w1) args' (by
    refine ⟨hargs.1, fun i x y hx hy => ?_⟩
    have hi : i = 0 := by
      have := (List.getElem?_eq_some_iff.1 hx).1
      simp at this
      exact this
    subst hi
    injection hx with hx
    subst hx
    rw [agg_same hfl (hargs.2 0 _ y rfl hy)]
    exact addrFree_rel _ hfl) (Sub.refl _) (fun b hb => by omega) (mrel_none w (hm.gl.up hm.le)) (fun _ _ => rfl)
  refine ⟨hen, hcall.mono ?_⟩
  rintro e w' ⟨ρ1, v1, rfl, hv1, hp1⟩
  rw [hv1.flat_eq rfl]
  exact ⟨ρ, _, rfl, addrFree_rel ρ rfl, Post.of_below hm hp1.below⟩
noncomputable def hexF : FCal := fun f args m n =>
  cond (Nat.beq f 22) (cond (isH (args.map toV) hxA) (.pv (.o (.string htA))) (cond (isH (args.map toV) hxB) (.pv (.o (.string htB))) .no)) .no
theorem hexF_sim : CalSim hexF hexA := by
  intro f args m n
  unfold hexF hexA
  cases Nat.beq f 22
  · trivial
  · cases isH (args.map toV) hxA
    · cases isH (args.map toV) hxB
      · trivial
      · rfl
    · rfl
theorem hexF_no (f : Nat) (args : List FV) (m : FTr) (n : Nat) (h : hexF f args m n = .no) : hexA f (args.map toV) (absM m n) n = .no := by
  unfold hexF at h
  unfold hexA
  cases hb : Nat.beq f 22
  · rfl
  · rw [hb, cond_true] at h
    cases h1 : isH (args.map toV) hxA
    · rw [h1, cond_false] at h
      cases h2 : isH (args.map toV) hxB
      · rfl
      · rw [h2] at h; cases h
    · rw [h1] at h; cases h
noncomputable def tabH : List (Nat × AFn) := [(3, ac3), (4, ac4), (5, ac5), (6, ac6), (7, ac7), (8, ac8), (10, ac10), (11, ac11), (12, ac12), (13, ac13), (14, ac14), (15, ac15), (16, ac16), (17, ac17), (18, ac18), (19, ac19), (20, ac20), (28, ac28), (29, ac29), (30, ac30), (31, ac31), (32, ac32), (33, ac33), (34, ac34), (35, ac35), (45, ac45), (46, ac46), (47, ac47), (48, ac48), (66, ac66), (67, ac67), (68, ac68), (69, ac69), (70, ac70), (71, ac71), (72, ac72), (73, ac73), (87, ac87)]
theorem tabH_good : Good Proofs.Tryz.prog tabH := (.cons Proofs.Tryz.func3 chk3 (.cons Proofs.Tryz.func4 chk4 (.cons Proofs.Tryz.func5 chk5 (.cons Proofs.Tryz.func6 chk6 (.cons Proofs.Tryz.func7 chk7 (.cons Proofs.Tryz.func8 chk8 (.cons Proofs.Tryz.func10 chk10 (.cons Proofs.Tryz.func11 chk11 (.cons Proofs.Tryz.func12 chk12 (.cons Proofs.Tryz.func13 chk13 (.cons Proofs.Tryz.func14 chk14 (.cons Proofs.Tryz.func15 chk15 (.cons Proofs.Tryz.func16 chk16 (.cons Proofs.Tryz.func17 chk17 (.cons Proofs.Tryz.func18 chk18 (.cons Proofs.Tryz.func19 chk19 (.cons Proofs.Tryz.func20 chk20 (.cons Proofs.Tryz.func28 chk28 (.cons Proofs.Tryz.func29 chk29 (.cons Proofs.Tryz.func30 chk30 (.cons Proofs.Tryz.func31 chk31 (.cons Proofs.Tryz.func32 chk32 (.cons Proofs.Tryz.func33 chk33 (.cons Proofs.Tryz.func34 chk34 (.cons Proofs.Tryz.func35 chk35 (.cons Proofs.Tryz.func45 chk45 (.cons Proofs.Tryz.func46 chk46 (.cons Proofs.Tryz.func47 chk47 (.cons Proofs.Tryz.func48 chk48 (.cons Proofs.Tryz.func66 chk66 (.cons Proofs.Tryz.func67 chk67 (.cons Proofs.Tryz.func68 chk68 (.cons Proofs.Tryz.func69 chk69 (.cons Proofs.Tryz.func70 chk70 (.cons Proofs.Tryz.func71 chk71 (.cons Proofs.Tryz.func72 chk72 (.cons Proofs.Tryz.func73 chk73 (.cons Proofs.Tryz.func87 chk87 .nil))))))))))))))))))))))))))))))))))))))
theorem envH : Env Proofs.Tryz.prog tabH (altA hexA Y39) (altF hexF Yf39) where
  mix := mix
  good := tabH_good
  small := by kernel_rfl
  loc := alt_loc hexA_loc y39_loc
  sim := alt_sim hexA_sim y39_sim
  fast := altF_sim hexF_sim y39_fast hexF_no
  apart := apart_alt (fun f fn h args m n => by
      have hf : f ≠ 22 := fun e => by subst e; rw [show look tabH 22 = none by kernel_rfl] at h; cases h
      unfold hexA
      rw [show Nat.beq f 22 = false from Bool.eq_false_iff.2 fun e => hf (Nat.eq_of_beq_eq_true e)]; rfl) (apart39 (by kernel_rfl) (by kernel_rfl) (by kernel_rfl) (by kernel_rfl) (by kernel_rfl) (by kernel_rfl))
def m9 : Memo := { f := 4, args := [], rs := [.b true], bs := [], pi := [] }
theorem fit9 : fitsB m9 (fcall Proofs.Tryz.prog (Fast.treeOf tabH) (altF hexF Yf39) 5000 30 4 [] [] 0) = true := by kernel_rfl
theorem sim9 : CallSim Proofs.Tryz.prog (memoA m9) := envH.memo (M := m9) (fargs := []) rfl rfl fit9
end Go.Am.C39
namespace Go.Am.C39
open Go Go.Am Go.Am.V
set_option maxRecDepth 1000000
noncomputable def tabB : List (Nat × AFn) := [(3, ac3), (5, ac5), (6, ac6), (7, ac7), (8, ac8), (10, ac10), (11, ac11), (12, ac12), (13, ac13), (14, ac14), (15, ac15), (16, ac16), (17, ac17), (18, ac18), (19, ac19), (20, ac20), (22, ac22), (28, ac28), (29, ac29), (30, ac30), (31, ac31), (32, ac32), (33, ac33), (34, ac34), (35, ac35), (45, ac45), (46, ac46), (47, ac47), (48, ac48), (66, ac66), (67, ac67), (68, ac68), (70, ac70), (71, ac71), (72, ac72), (73, ac73), (87, ac87)]
theorem tabB_good : Good Proofs.Tryz.prog tabB := (.cons Proofs.Tryz.func3 chk3 (.cons Proofs.Tryz.func5 chk5 (.cons Proofs.Tryz.func6 chk6 (.cons Proofs.Tryz.func7 chk7 (.cons Proofs.Tryz.func8 chk8 (.cons Proofs.Tryz.func10 chk10 (.cons Proofs.Tryz.func11 chk11 (.cons Proofs.Tryz.func12 chk12 (.cons Proofs.Tryz.func13 chk13 (.cons Proofs.Tryz.func14 chk14 (.cons Proofs.Tryz.func15 chk15 (.cons Proofs.Tryz.func16 chk16 (.cons Proofs.Tryz.func17 chk17 (.cons Proofs.Tryz.func18 chk18 (.cons Proofs.Tryz.func19 chk19 (.cons Proofs.Tryz.func20 chk20 (.cons Proofs.Tryz.func22 chk22 (.cons Proofs.Tryz.func28 chk28 (.cons Proofs.Tryz.func29 chk29 (.cons Proofs.Tryz.func30 chk30 (.cons Proofs.Tryz.func31 chk31 (.cons Proofs.Tryz.func32 chk32 (.cons Proofs.Tryz.func33 chk33 (.cons Proofs.Tryz.func34 chk34 (.cons Proofs.Tryz.func35 chk35 (.cons Proofs.Tryz.func45 chk45 (.cons Proofs.Tryz.func46 chk46 (.cons Proofs.Tryz.func47 chk47 (.cons Proofs.Tryz.func48 chk48 (.cons Proofs.Tryz.func66 chk66 (.cons Proofs.Tryz.func67 chk67 (.cons Proofs.Tryz.func68 chk68 (.cons Proofs.Tryz.func70 chk70 (.cons Proofs.Tryz.func71 chk71 (.cons Proofs.Tryz.func72 chk72 (.cons Proofs.Tryz.func73 chk73 (.cons Proofs.Tryz.func87 chk87 .nil)))))))))))))))))))))))))))))))))))))
def memL : List Memo := [m9, m44]
theorem envB : Env Proofs.Tryz.prog tabB (memosA memL Y39) (memosF memL Yf39) :=
  env39.addMemos tabB_good (by kernel_rfl) (apart39 (by kernel_rfl) (by kernel_rfl) (by kernel_rfl) (by kernel_rfl) (by kernel_rfl) (by kernel_rfl)) (by
    intro M h
    rcases List.mem_cons.1 h with rfl | h
    · exact sim9
    · obtain rfl := List.mem_singleton.1 h
      exact sim44) (by
    intro M h
    rcases List.mem_cons.1 h with rfl | h
    · kernel_rfl
    · obtain rfl := List.mem_singleton.1 h
      kernel_rfl)
theorem memo_call {f : Nat} (h : look tabB f = none) (args : List Value) (m : FM) (n : Nat) : callW PG (look tabB) (memosA memL Y39) f args m n = memosA memL Y39 f args m n := by
  unfold callW callA
  rw [h]
theorem awake_pure (m : FM) (n : Nat) : Pure (callW PG (look tabB) (memosA memL Y39) 4 [] m n) m n (.bool true) := by
  rw [memo_call (by kernel_rfl)]
  have hm : memoA m9 4 [] m n = .ok (.bool true) m n 0 0 := by
    show OR.ok (.bool true) m n 0 (newW n 0) = _
    rw [show newW n 0 = 0 from Nat.zero_shiftLeft n]
  refine ⟨0, ?_⟩
  show altA (memoA m9) (altA (memoA m44) Y39) 4 [] m n = _
  unfold altA
  rw [hm]
theorem set_pure (m : FM) (n : Nat) : Pure (callW PG (look tabB) (memosA memL Y39) 69 [.string cutS] m n) m n (.tuple #[.agg setL.toArray, .bool true]) := by
  rw [memo_call (by kernel_rfl)]
  have h0 : veqL [Value.string cutS] [.string cutS] = true := by kernel_rfl
  have hm : memoA m44 69 [.string cutS] m n = .ok (.tuple #[.agg setL.toArray, .bool true]) m n 0 0 := by
    show cond (Nat.beq 69 69 && veqL [Value.string cutS] [.string cutS]) (OR.ok (.tuple #[.agg setL.toArray, .bool true]) m n 0 (newW n 0)) .no = _
    rw [h0, show newW n 0 = 0 from Nat.zero_shiftLeft n]; rfl
  refine ⟨0, ?_⟩
  show altA (memoA m9) (altA (memoA m44) Y39) 69 [.string cutS] m n = _
  unfold altA
  rw [show memoA m9 69 [.string cutS] m n = .no from rfl, hm]
theorem trimsB : Trims (look tabB) (memosA memL Y39) := ⟨by kernel_rfl, by kernel_rfl, by kernel_rfl, by kernel_rfl, set_pure⟩
theorem valsB : Vals (look tabB) (memosA memL Y39) where
  v29 := fun m n c d hF hc => cmdValid_spec (by kernel_rfl) (by kernel_rfl) trimsB (by kernel_rfl) (by kernel_rfl) (by kernel_rfl) m n c d hF hc
  v32 := fun m n c d hF hc => refValid_spec (by kernel_rfl) (by kernel_rfl) (by kernel_rfl) m n c d hF hc
end Go.Am.C39
namespace Go.Am
open Go
def SlZ (sz : Nat) (M : FM) (n0 N : Nat) (v : Value) (len : Nat) (cs : List Value) : Prop :=
  (len = 0 ∧ cs = [] ∧ v = .slice none 0 0) ∨ (0 < len ∧ cs.length = len * sz ∧ ∃ b, v = .slice (some ⟨b, 0, none⟩) len UNK ∧ n0 ≤ b ∧ b < N ∧ M b = some (.cells cs sz true true))
theorem SlZ.frame {sz : Nat} {M M' : FM} {n0 N N' : Nat} {v : Value} {len : Nat} {cs : List Value} (h : SlZ sz M n0 N v len cs) (hN : N ≤ N') (ht : ∀ b, n0 ≤ b → b < N → M' b = M b) : SlZ sz M' n0 N' v len cs := by
  rcases h with h | ⟨h0, hl, b, h1, h2, h3, h4⟩
  · exact .inl h
  · exact .inr ⟨h0, hl, b, h1, h2, by omega, (ht b h2 h3).trans h4⟩
theorem SlZ.low {sz : Nat} {M : FM} {n0 n1 N : Nat} {v : Value} {len : Nat} {cs : List Value} (h : SlZ sz M n0 N v len cs) (hn : n1 ≤ n0) : SlZ sz M n1 N v len cs := by
  rcases h with h | ⟨h0, hl, b, h1, h2, h3, h4⟩
  · exact .inl h
  · exact .inr ⟨h0, hl, b, h1, by omega, h3, h4⟩
theorem SlZ.len {sz : Nat} {M : FM} {n0 N : Nat} {v : Value} {len : Nat} {cs : List Value} (h : SlZ sz M n0 N v len cs) : lenV false v = some (.int .i64 (len : Int)) := by
  rcases h with ⟨rfl, rfl, rfl⟩ | ⟨_, _, b, rfl, _⟩ <;> rfl
theorem SlZ.bel {sz : Nat} {M : FM} {n0 N : Nat} {v : Value} {len : Nat} {cs : List Value} (h : SlZ sz M n0 N v len cs) (k : Nat) (hk : N ≤ k) : belowV k v = true := by
  rcases h with ⟨_, _, rfl⟩ | ⟨_, _, b, rfl, _, hb, _⟩
  · rfl
  · exact blt_true (show b < k by omega)
theorem SlZ.one {sz : Nat} {M : FM} {n0 N : Nat} {v : Value} {len : Nat} {cs : List Value} (h : SlZ sz M n0 N v len cs) : Am.one v = true := by
  rcases h with ⟨_, _, rfl⟩ | ⟨_, _, b, rfl, _⟩ <;> rfl
theorem SlZ.at {sz : Nat} {M : FM} {n0 N : Nat} {v : Value} {len : Nat} {cs : List Value} (h : SlZ sz M n0 N v len cs) {i : Nat} (hi : i < len) : ∃ b, idxV sz i v = some (.pointer (some ⟨b, i * sz, none⟩)) ∧ n0 ≤ b ∧ b < N ∧ M b = some (.cells cs sz true true) ∧ cs.length = len * sz := by
  rcases h with ⟨rfl, _, _⟩ | ⟨_, hl, b, rfl, h1, h2, h3⟩
  · omega
  · exact ⟨b, by rw [idx_mk hi, Nat.zero_add], h1, h2, h3, hl⟩
structure AppZ (sz : Nat) (M : FM) (n0 N : Nat) (len : Nat) (cs : List Value) (v' : Value) (M' : FM) (N' w : Nat) : Prop where
  v : v' = .slice (some ⟨N, 0, none⟩) len UNK
  n : N' = N + 1
  s : SlZ sz M' n0 N' v' len cs
  low : ∀ b, b < n0 → M' b = M b
  w : ∀ j, j ≤ n0 → Nat.mod w (bit j) = 0
end Go.Am
namespace Go.Am
open Go
theorem callv_mk (rec : Nat → List Value → FM → Nat → OR FM) (args : List Value) (m : FM) (n f : Nat) (a c : List Value) : callV rec args m n (.func (.func f) a.toArray c.toArray) = rec f (a ++ args ++ c) m n := rfl
section
variable {P : Program} {E : Nat → Option AFn} {Y : Nat → List Value → FM → Nat → OR FM} {m : FM} {n : Nat}
theorem kept_specA {f : Nat} {fn : AFn} {args : List Value} {R : Value → FM → Nat → Prop} (hE : E f = some fn) (ha : llen args = fn.na) (h : ∀ Q : AX → List Value → FM → Nat → Nat → Prop, (∀ v e m' n' w, n ≤ n' → (∀ b, b < n → m' b = m b) → Nat.mod w (bit n) = 0 → (addrFree v = false → R v m' n') → (addrFree v = true → R v m n) → Q (.ret v) e m' n' w) → Wr P E Y [] 0 (execW P E Y fn.code args m n) Q) : Rt (callW P E Y f args m n) fun v m' n' w => n ≤ n' ∧ (∀ b, b < n → m' b = m b) ∧ (∀ j, j ≤ n → Nat.mod w (bit j) = 0) ∧ R v m' n' := by
  rw [callW_fn hE ha]
  obtain ⟨X, e', m', n', r, w, hx, v, rfl, h1, h2, h3, h4, h5⟩ := Gv_some (wr_start (h (fun X _ m' n' w => ∃ v, X = .ret v ∧ n ≤ n' ∧ (∀ b, b < n → m' b = m b) ∧ Nat.mod w (bit n) = 0 ∧ (addrFree v = false → R v m' n') ∧ (addrFree v = true → R v m n)) fun v _ m' n' w k1 k2 k3 k4 k5 => ⟨v, rfl, k1, k2, k3, k4, k5⟩))
  rw [hx, leave_ret]
  cases hv : addrFree v
  · rw [leaveA_keep hv]
    exact ⟨h1, h2, fun j hj => frz_down h3 hj, h4 hv⟩
  · rw [leaveA_free hv h3]
    exact ⟨Nat.le_refl _, fun _ _ => rfl, fun j _ => Nat.zero_mod _, h5 hv⟩
end
section
variable {P : Program} {E : Nat → Option AFn} {Y : Nat → List Value → FM → Nat → OR FM}
def Kont (P : Program) (E : Nat → Option AFn) (Y : Nat → List Value → FM → Nat → OR FM) (K : List Frm) (w0 : Nat) (Q : AX → List Value → FM → Nat → Nat → Prop) : AX → List Value → FM → Nat → Nat → Prop := fun X e m n w => ∀ r, Wr P E Y K w0 (.ok X e m n r w) Q
theorem wr_kont {K : List Frm} {w0 : Nat} {x : CR FM} {Q : AX → List Value → FM → Nat → Nat → Prop} (h : Gv x fun X e m n w => Kont P E Y K w0 Q X e m n (Nat.lor 0 w)) : Wr P E Y K w0 x Q :=
  wr_cps (h.mono fun X e m n w hq r => by have := hq r; rwa [zero_lor'] at this)
end
def IntZ (M : FM) (n0 N : Nat) (v : Value) (xs : List Int) : Prop := SlZ 1 M n0 N v xs.length (xs.map (Value.int .i64))
theorem IntZ.nil (M : FM) (n0 N : Nat) : IntZ M n0 N (.slice none 0 0) [] := .inl ⟨rfl, rfl, rfl⟩
theorem IntZ.ints {M : FM} {n0 N : Nat} {v : Value} {xs : List Int} (h : IntZ M n0 N v xs) : Ints M N v xs := by
  rcases h with ⟨h0, h1, rfl⟩ | ⟨h0, hl, b, rfl, h1, h2, h3⟩
  · exact .inl ⟨rfl, h1⟩
  · exact .inr <| .inl ⟨b, 0, UNK, _, true, true, by rw [List.length_map], h2, h3, fun i x hx => by rw [Nat.zero_add]; exact hx⟩
def natsI (l : List Nat) : List Int := l.map Int.ofNat
theorem IntZ.frame {M M' : FM} {n0 N N' : Nat} {v : Value} {xs : List Int} (h : IntZ M n0 N v xs) (hN : N ≤ N') (ht : ∀ b, n0 ≤ b → b < N → M' b = M b) : IntZ M' n0 N' v xs := SlZ.frame h hN ht
end Go.Am
namespace Go.Am.C39
set_option maxRecDepth 100000
open Go Go.Am
variable {E : Nat → Option AFn} {Y : Nat → List Value → FM → Nat → OR FM}
def comB (x y m i : Int) : Bool := decide (x < i ∧ y < i ∧ x < y + m ∧ 0 < m)
end Go.Am.C39
namespace Go.Am.C39
open Go Go.Am Go.RowKit
def u8all (ds : List (List Int)) : List Value := (ds.map fun d => d.map (Value.int .u8)).flatten
theorem u8all_cons (d : List Int) (ds : List (List Int)) : u8all (d :: ds) = u8s d ++ u8all ds := rfl
theorem u8all_len : ∀ {ds : List (List Int)}, (∀ d ∈ ds, d.length = 8) → (u8all ds).length = ds.length * 8
  | [], _ => rfl
  | d :: ds, h => by
    rw [u8all_cons, List.length_append, u8all_len fun e he => h e (List.mem_cons_of_mem _ he), u8s, List.length_map, h d (List.mem_cons_self ..), List.length_cons]; omega
theorem u8all_drop : ∀ {ds : List (List Int)}, (∀ d ∈ ds, d.length = 8) → ∀ i (hi : i < ds.length), ((u8all ds).drop (i * 8)).take 8 = u8s ds[i]
  | d :: ds, h, 0, _ => by
    rw [u8all_cons, Nat.zero_mul, List.drop_zero, List.take_append_of_le_length (by rw [u8s, List.length_map, h d (List.mem_cons_self ..)]; exact Nat.le_refl _), List.take_of_length_le (by rw [u8s, List.length_map, h d (List.mem_cons_self ..)]; exact Nat.le_refl _)]; rfl
  | d :: ds, h, i + 1, hi => by
    have hl : (u8s d).length = 8 := by rw [u8s, List.length_map, h d (List.mem_cons_self ..)]
    rw [u8all_cons, show (i + 1) * 8 = (u8s d).length + i * 8 by rw [hl]; omega, List.drop_append, Nat.add_sub_cancel_left, List.drop_eq_nil_of_le (by omega), List.nil_append]
    exact u8all_drop (fun e he => h e (List.mem_cons_of_mem _ he)) i (by simpa using hi)
end Go.Am.C39
namespace Go.Am
open Go
abbrev MI := List (Int × Value)
def mapC (mi : MI) : List (Value × Value) := mi.map fun p => (.int .i64 p.1, p.2)
def idxI (t : Int) : MI → Option Nat
  | [] => none
  | p :: mi => if t = p.1 then some 0 else (idxI t mi).map (· + 1)
def lookI (t : Int) : MI → Option Value
  | [] => none
  | p :: mi => if t = p.1 then some p.2 else lookI t mi
def setI (t : Int) (v : Value) : MI → MI
  | [] => [(t, v)]
  | p :: mi => if t = p.1 then (t, v) :: mi else p :: setI t v mi
def delI (t : Int) : MI → MI
  | [] => []
  | p :: mi => if t = p.1 then mi else p :: delI t mi
variable {P : Program}
section
variable {m : FM} {n b : Nat} {mi : MI} {kt : Nat} {k : IntKind}
theorem s_mp {rec : Nat → List Value → FM → Nat → OR FM} {e : List Value} (op : MOp) (xs : List Opd) : stepA P rec e m n (.mp op xs) = mapV P op (evs e xs) m n := rfl
def lookV (ok : Bool) (z : Value) : Option Value → Value
  | some v => lookR ok v true
  | none => lookR ok z false
end
end Go.Am
