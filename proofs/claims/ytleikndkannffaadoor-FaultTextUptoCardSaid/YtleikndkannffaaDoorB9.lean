/- The machine and its runs, part 9: An13sh AnPureY AnStrY An13y AnTxt An13u An13g. -/
import Derived.Shelf.Strings.Builder1
import Derived.Shelf.Strings.Builder2
import Derived.Shelf.Strings.OnBuilder
import Derived.Shelf.Utf8.RuneCount
import Derived.Shelf.Strconv.Atoi
import Derived.Shelf.Strconv.Itoa0
import Derived.Shelf.Strconv.Itoa1
import Derived.Shelf.LaysM
import Derived.Shelf.Strconv.Itoa2
import Derived.Shelf.Strconv.Itoa3
import Derived.Shelf.Strconv.AtoiErrFast
import Derived.Shelf.Strconv.ParseIntEmpty
import Derived.Shelf.Strconv.AtoiFail
import Derived.Shelf.Strconv.Clone
import Derived.Shelf.Strconv.SyntaxError
import Derived.Shelf.LaysC
import Derived.Shelf.Strconv.ToError
import Derived.Shelf.Strconv.Lower
import Derived.Shelf.Strconv.ParseUint10
import Derived.Shelf.Strconv.ParseUint10Empty
import Derived.Shelf.Strconv.ParseUint10Any
import Derived.Shelf.Strconv.ParseInt10
import Derived.Shelf.Strconv.AtoiLong
import Derived.Shelf.Strconv.AtoiInnerAll
import Derived.Shelf.Strconv.RangeError
import Derived.Shelf.Strconv.ToErrorRange
import Derived.Shelf.Strconv.AtoiAll
import Derived.Shelf.Strings.Search1
import Derived.Shelf.Strings.Search2
import Derived.Shelf.Strings.Search3
import Derived.Shelf.Strings.Cut
import Derived.Shelf.Strings.Count
import Derived.Shelf.Strings.Shaped
import Derived.Shelf.Strings.Split
import Derived.Shelf.Strings.SplitShaped
import Derived.Shelf.Unicode.Decode
import Derived.Shelf.Strings.RuneCount
import Derived.Shelf.Strings.Explode
import Derived.Shelf.Unicode.DecodeSlow
import Derived.Shelf.Unicode.DecodeAny
import Derived.Test.YtleikndkannffaaDoorProg
import Derived.Lib.Split
import Derived.Lib.Join
import Derived.Lib.Strings
import Derived.WalkSmall
import Derived.Lib.AtoiErrMem
import Derived.Sort.Grow
import Derived.Lib.AtoiAll
import Derived.Lib.AtoiAllCases
import Derived.Lib.ItoaLen
import Derived.Test.YtleikndkannffaaDoorB8
set_option linter.unusedVariables false
set_option linter.unusedSimpArgs false
set_option linter.unusedSectionVars false
namespace Go.Proofs
open Go.Shelf
def Tryd.lays156_ren : Go.Shelf.Ren := ⟨fun | 156 => 24 | 165 => 34 | 166 => 35 | 169 => 36 | 240 => 45 | 241 => 46 | 276 => 60 | 277 => 61 | n => n, fun | 31 => 39 | 9 => 9 | 3 => 3 | 4 => 4 | 0 => 0 | 20 => 20 | 72 => 60 | 76 => 50 | 70 => 57 | 37 => 58 | 75 => 49 | 127 => 68 | 164 => 83 | 5 => 5 | 80 => 62 | n => n, fun | n => n⟩
theorem Tryd.lays156 : Go.Proofs.Lays.n156 Tryd.prog Tryd.lays156_ren := {
  mixed := by kernel_rfl
  f156 := Tryd.func24.trans (congrArg some (by kernel_rfl))
  f165 := Tryd.func34.trans (congrArg some (by kernel_rfl))
  f166 := Tryd.func35.trans (congrArg some (by kernel_rfl))
  f169 := Tryd.func36.trans (congrArg some (by kernel_rfl))
  f240 := Tryd.func45.trans (congrArg some (by kernel_rfl))
  f241 := Tryd.func46.trans (congrArg some (by kernel_rfl))
  f276 := Tryd.func60.trans (congrArg some (by kernel_rfl))
  f277 := Tryd.func61.trans (congrArg some (by kernel_rfl))
  t0 := Tryd.underlying0
  a0 := Tryd.isAgg0
  z0 := Tryd.sizeOf0
  v0 := Tryd.zeroValue0
  t3 := Tryd.underlying3
  a3 := Tryd.isAgg3
  z3 := Tryd.sizeOf3
  v3 := Tryd.zeroValue3
  t4 := Tryd.underlying4
  a4 := Tryd.isAgg4
  z4 := Tryd.sizeOf4
  v4 := Tryd.zeroValue4
  t9 := Tryd.underlying9
  a9 := Tryd.isAgg9
  z9 := Tryd.sizeOf9
  v9 := Tryd.zeroValue9
  t20 := Tryd.underlying20
  a20 := Tryd.isAgg20
  z20 := Tryd.sizeOf20
  v20 := Tryd.zeroValue20
  t31 := Tryd.underlying39
  a31 := Tryd.isAgg39
  z31 := Tryd.sizeOf39
  v31 := Tryd.zeroValue39
  t37 := Tryd.underlying58
  a37 := Tryd.isAgg58
  z37 := Tryd.sizeOf58
  v37 := Tryd.zeroValue58
  t70 := Tryd.underlying57
  a70 := Tryd.isAgg57
  z70 := Tryd.sizeOf57
  v70 := Tryd.zeroValue57
  t72 := Tryd.underlying60
  a72 := Tryd.isAgg60
  z72 := Tryd.sizeOf60
  v72 := Tryd.zeroValue60
  t75 := Tryd.underlying49
  a75 := Tryd.isAgg49
  z75 := Tryd.sizeOf49
  v75 := Tryd.zeroValue49
  t76 := Tryd.underlying50
  a76 := Tryd.isAgg50
  z76 := Tryd.sizeOf50
  v76 := Tryd.zeroValue50
  t127 := Tryd.underlying68
  a127 := Tryd.isAgg68
  z127 := Tryd.sizeOf68
  v127 := Tryd.zeroValue68
  t164 := Tryd.underlying83
  a164 := Tryd.isAgg83
  z164 := Tryd.sizeOf83
  v164 := Tryd.zeroValue83 }
theorem Tryd.Builder_Extra_156 : Builder.Extra Tryd.prog Tryd.lays156_ren := {
  sizeBuilder := by kernel_rfl
  liesBuilder := by kernel_rfl
  t5 := Tryd.underlying5
  a5 := Tryd.isAgg5
  z5 := Tryd.sizeOf5
  v5 := Tryd.zeroValue5
  infoByte := by kernel_rfl
  cellsByte := by kernel_rfl
  sizeByte := by kernel_rfl
  neB5 := by decide }
open Go.RowKit in
theorem Tryd.strings_Join_none (a : Option Addr) (c : Nat) (sep : ByteArray) (w : World) :
    Calls Tryd.prog 24 #[.slice a 0 c, .string sep] w fun e w' => e = .returned (.string ⟨#[]⟩) ∧ w' = w := Any.strings_Join_none Tryd.lays156 Tryd.Builder_Extra_156 a c sep w
open Go.RowKit in
theorem Tryd.strings_Join (bk o c : Nat) (xs : List ByteArray) (sep : ByteArray) (w : World) (hcells : ∀ (j : Nat) x, xs[j]? = some x → w.cell? ⟨bk, o + j, none⟩ = some (.string x)) (hbk : bk < w.heap.size) (hN : xs.length ≤ 140737488355328) (hcap : xs.length ≤ c) (hlen : (Lib.join (xs.map (·.data.toList)) sep.data.toList).length ≤ 140737488355328) :
    Calls Tryd.prog 24 #[.slice (some ⟨bk, o, none⟩) xs.length c, .string sep] w fun e w' => e = .returned (.string ⟨(Lib.join (xs.map (·.data.toList)) sep.data.toList).toArray⟩) ∧ Below w.heap.size w w' := Any.strings_Join Tryd.lays156 Tryd.Builder_Extra_156 bk o c xs sep w hcells hbk hN hcap hlen
def Tryd.laysM171_ren : Go.Shelf.Ren := ⟨fun | 171 => 23 | 243 => 33 | 246 => 44 | 283 => 56 | 284 => 57 | 285 => 58 | 286 => 59 | 129 => 73 | 317 => 72 | 318 => 74 | 319 => 75 | 320 => 76 | 337 => 82 | 338 => 83 | n => n, fun | 3 => 3 | 9 => 9 | 2 => 2 | 4 => 4 | 171 => 77 | 0 => 0 | 53 => 78 | 37 => 58 | 5 => 5 | 173 => 81 | 212 => 97 | 51 => 98 | 20 => 20 | 213 => 99 | 46 => 88 | 232 => 112 | 233 => 113 | n => n, fun | 17 => 3 | 18 => 6 | 19 => 7 | n => n⟩
theorem Tryd.laysM171 : Go.Proofs.LaysM.n171 Tryd.prog Tryd.laysM171_ren := {
  mixed := by kernel_rfl
  f129 := Tryd.func73.trans (congrArg some (by kernel_rfl))
  f171 := Tryd.func23.trans (congrArg some (by kernel_rfl))
  f243 := Tryd.func33.trans (congrArg some (by kernel_rfl))
  f246 := Tryd.func44.trans (congrArg some (by kernel_rfl))
  f283 := Tryd.func56.trans (congrArg some (by kernel_rfl))
  f284 := Tryd.func57.trans (congrArg some (by kernel_rfl))
  f285 := Tryd.func58.trans (congrArg some (by kernel_rfl))
  f286 := Tryd.func59.trans (congrArg some (by kernel_rfl))
  f317 := Tryd.func72.trans (congrArg some (by kernel_rfl))
  f318 := Tryd.func74.trans (congrArg some (by kernel_rfl))
  f319 := Tryd.func75.trans (congrArg some (by kernel_rfl))
  f320 := Tryd.func76.trans (congrArg some (by kernel_rfl))
  f337 := Tryd.func82.trans (congrArg some (by kernel_rfl))
  f338 := Tryd.func83.trans (congrArg some (by kernel_rfl))
  t0 := Tryd.underlying0
  a0 := Tryd.isAgg0
  z0 := Tryd.sizeOf0
  v0 := Tryd.zeroValue0
  t2 := Tryd.underlying2
  a2 := Tryd.isAgg2
  z2 := Tryd.sizeOf2
  v2 := Tryd.zeroValue2
  t3 := Tryd.underlying3
  a3 := Tryd.isAgg3
  z3 := Tryd.sizeOf3
  v3 := Tryd.zeroValue3
  t4 := Tryd.underlying4
  a4 := Tryd.isAgg4
  z4 := Tryd.sizeOf4
  v4 := Tryd.zeroValue4
  t5 := Tryd.underlying5
  a5 := Tryd.isAgg5
  z5 := Tryd.sizeOf5
  v5 := Tryd.zeroValue5
  t9 := Tryd.underlying9
  a9 := Tryd.isAgg9
  z9 := Tryd.sizeOf9
  v9 := Tryd.zeroValue9
  t20 := Tryd.underlying20
  a20 := Tryd.isAgg20
  z20 := Tryd.sizeOf20
  v20 := Tryd.zeroValue20
  t37 := Tryd.underlying58
  a37 := Tryd.isAgg58
  z37 := Tryd.sizeOf58
  v37 := Tryd.zeroValue58
  t46 := Tryd.underlying88
  a46 := Tryd.isAgg88
  z46 := Tryd.sizeOf88
  v46 := Tryd.zeroValue88
  t51 := Tryd.underlying98
  a51 := Tryd.isAgg98
  z51 := Tryd.sizeOf98
  v51 := Tryd.zeroValue98
  t53 := Tryd.underlying78
  a53 := Tryd.isAgg78
  z53 := Tryd.sizeOf78
  v53 := Tryd.zeroValue78
  t171 := Tryd.underlying77
  a171 := Tryd.isAgg77
  z171 := Tryd.sizeOf77
  v171 := Tryd.zeroValue77
  t173 := Tryd.underlying81
  a173 := Tryd.isAgg81
  z173 := Tryd.sizeOf81
  v173 := Tryd.zeroValue81
  t212 := Tryd.underlying97
  a212 := Tryd.isAgg97
  z212 := Tryd.sizeOf97
  v212 := Tryd.zeroValue97
  t213 := Tryd.underlying99
  a213 := Tryd.isAgg99
  z213 := Tryd.sizeOf99
  t232 := Tryd.underlying112
  a232 := Tryd.isAgg112
  z232 := Tryd.sizeOf112
  v232 := Tryd.zeroValue112
  t233 := Tryd.underlying113
  a233 := Tryd.isAgg113
  z233 := Tryd.sizeOf113
  v233 := Tryd.zeroValue113
  g17 := by kernel_rfl
  g18 := by kernel_rfl
  g19 := by kernel_rfl
  i0 := by kernel_rfl
  i2 := by kernel_rfl
  i3 := by kernel_rfl
  i4 := by kernel_rfl
  i5 := by kernel_rfl
  i9 := by kernel_rfl
  i20 := by kernel_rfl
  i37 := by kernel_rfl
  i46 := by kernel_rfl
  i51 := by kernel_rfl
  i53 := by kernel_rfl
  i171 := by kernel_rfl
  i173 := by kernel_rfl
  i212 := by kernel_rfl
  i232 := by kernel_rfl
  i233 := by kernel_rfl
  m17 := by kernel_rfl
  m18 := by kernel_rfl
  m19 := by kernel_rfl }
open Go.RowKit Go.Sort Go.Lib in
theorem Tryd.strconv_Itoa (n : Int) (h0 : -9223372036854775808 ≤ n) (h1 : n ≤ 9223372036854775807) (w : World) (htab : Lib.TabIs Tryd.prog w "internal/strconv.uint64pow10" .u64 Lib.pow10Tab) :
    Calls Tryd.prog 23 #[.int .i64 n] w fun e w' => e = .returned (.string ⟨(Lib.itoa n).toArray⟩) ∧ ∃ k os, w' = grow (w.drewN k) os := Any.strconv_Itoa Tryd.laysM171 n h0 h1 w htab
def Tryd.laysC172_ren : Go.Shelf.Ren := ⟨fun | 172 => 29 | 244 => 40 | 245 => 41 | 247 => 48 | 279 => 49 | 280 => 50 | 281 => 51 | 282 => 52 | 287 => 66 | 316 => 67 | 171 => 23 | 205 => 68 | 321 => 79 | 322 => 80 | 243 => 33 | 246 => 44 | 283 => 56 | 284 => 57 | 285 => 58 | 286 => 59 | 129 => 73 | 317 => 72 | 318 => 74 | 319 => 75 | 320 => 76 | 337 => 82 | 338 => 83 | n => n, fun | 9 => 9 | 3 => 3 | 75 => 49 | 76 => 50 | 4 => 4 | 5 => 5 | 167 => 70 | 37 => 58 | 0 => 0 | 85 => 71 | 2 => 2 | 168 => 73 | 53 => 78 | 175 => 89 | 46 => 88 | 210 => 92 | 127 => 68 | 145 => 106 | 143 => 104 | 21 => 21 | 171 => 77 | 173 => 81 | 212 => 97 | 51 => 98 | 20 => 20 | 213 => 99 | 232 => 112 | 233 => 113 | 80 => 62 | n => n, fun | 15 => 1 | 16 => 2 | 17 => 3 | 18 => 6 | 19 => 7 | n => n⟩
theorem Tryd.laysC172 : Go.Proofs.LaysC.n172 Tryd.prog Tryd.laysC172_ren := {
  mixed := by kernel_rfl
  f129 := Tryd.func73.trans (congrArg some (by kernel_rfl))
  f171 := Tryd.func23.trans (congrArg some (by kernel_rfl))
  f172 := Tryd.func29.trans (congrArg some (by kernel_rfl))
  f205 := Tryd.func68.trans (congrArg some (by kernel_rfl))
  f243 := Tryd.func33.trans (congrArg some (by kernel_rfl))
  f244 := Tryd.func40.trans (congrArg some (by kernel_rfl))
  f245 := Tryd.func41.trans (congrArg some (by kernel_rfl))
  f246 := Tryd.func44.trans (congrArg some (by kernel_rfl))
  f247 := Tryd.func48.trans (congrArg some (by kernel_rfl))
  f279 := Tryd.func49.trans (congrArg some (by kernel_rfl))
  f280 := Tryd.func50.trans (congrArg some (by kernel_rfl))
  f281 := Tryd.func51.trans (congrArg some (by kernel_rfl))
  f282 := Tryd.func52.trans (congrArg some (by kernel_rfl))
  f283 := Tryd.func56.trans (congrArg some (by kernel_rfl))
  f284 := Tryd.func57.trans (congrArg some (by kernel_rfl))
  f285 := Tryd.func58.trans (congrArg some (by kernel_rfl))
  f286 := Tryd.func59.trans (congrArg some (by kernel_rfl))
  f287 := Tryd.func66.trans (congrArg some (by kernel_rfl))
  f316 := Tryd.func67.trans (congrArg some (by kernel_rfl))
  f317 := Tryd.func72.trans (congrArg some (by kernel_rfl))
  f318 := Tryd.func74.trans (congrArg some (by kernel_rfl))
  f319 := Tryd.func75.trans (congrArg some (by kernel_rfl))
  f320 := Tryd.func76.trans (congrArg some (by kernel_rfl))
  f321 := Tryd.func79.trans (congrArg some (by kernel_rfl))
  f322 := Tryd.func80.trans (congrArg some (by kernel_rfl))
  f337 := Tryd.func82.trans (congrArg some (by kernel_rfl))
  f338 := Tryd.func83.trans (congrArg some (by kernel_rfl))
  t0 := Tryd.underlying0
  a0 := Tryd.isAgg0
  z0 := Tryd.sizeOf0
  v0 := Tryd.zeroValue0
  t2 := Tryd.underlying2
  a2 := Tryd.isAgg2
  z2 := Tryd.sizeOf2
  v2 := Tryd.zeroValue2
  t3 := Tryd.underlying3
  a3 := Tryd.isAgg3
  z3 := Tryd.sizeOf3
  v3 := Tryd.zeroValue3
  t4 := Tryd.underlying4
  a4 := Tryd.isAgg4
  z4 := Tryd.sizeOf4
  v4 := Tryd.zeroValue4
  t5 := Tryd.underlying5
  a5 := Tryd.isAgg5
  z5 := Tryd.sizeOf5
  v5 := Tryd.zeroValue5
  t9 := Tryd.underlying9
  a9 := Tryd.isAgg9
  z9 := Tryd.sizeOf9
  v9 := Tryd.zeroValue9
  t20 := Tryd.underlying20
  a20 := Tryd.isAgg20
  z20 := Tryd.sizeOf20
  v20 := Tryd.zeroValue20
  t21 := Tryd.underlying21
  a21 := Tryd.isAgg21
  z21 := Tryd.sizeOf21
  v21 := Tryd.zeroValue21
  t37 := Tryd.underlying58
  a37 := Tryd.isAgg58
  z37 := Tryd.sizeOf58
  v37 := Tryd.zeroValue58
  t46 := Tryd.underlying88
  a46 := Tryd.isAgg88
  z46 := Tryd.sizeOf88
  v46 := Tryd.zeroValue88
  t51 := Tryd.underlying98
  a51 := Tryd.isAgg98
  z51 := Tryd.sizeOf98
  v51 := Tryd.zeroValue98
  t53 := Tryd.underlying78
  a53 := Tryd.isAgg78
  z53 := Tryd.sizeOf78
  v53 := Tryd.zeroValue78
  t75 := Tryd.underlying49
  a75 := Tryd.isAgg49
  z75 := Tryd.sizeOf49
  v75 := Tryd.zeroValue49
  t76 := Tryd.underlying50
  a76 := Tryd.isAgg50
  z76 := Tryd.sizeOf50
  v76 := Tryd.zeroValue50
  t85 := Tryd.underlying71
  a85 := Tryd.isAgg71
  z85 := Tryd.sizeOf71
  v85 := Tryd.zeroValue71
  t127 := Tryd.underlying68
  a127 := Tryd.isAgg68
  z127 := Tryd.sizeOf68
  v127 := Tryd.zeroValue68
  t143 := Tryd.underlying104
  a143 := Tryd.isAgg104
  z143 := Tryd.sizeOf104
  v143 := Tryd.zeroValue104
  t145 := Tryd.underlying106
  a145 := Tryd.isAgg106
  z145 := Tryd.sizeOf106
  v145 := Tryd.zeroValue106
  t167 := Tryd.underlying70
  a167 := Tryd.isAgg70
  z167 := Tryd.sizeOf70
  v167 := Tryd.zeroValue70
  t168 := Tryd.underlying73
  a168 := Tryd.isAgg73
  z168 := Tryd.sizeOf73
  v168 := Tryd.zeroValue73
  t171 := Tryd.underlying77
  a171 := Tryd.isAgg77
  z171 := Tryd.sizeOf77
  v171 := Tryd.zeroValue77
  t173 := Tryd.underlying81
  a173 := Tryd.isAgg81
  z173 := Tryd.sizeOf81
  v173 := Tryd.zeroValue81
  t175 := Tryd.underlying89
  a175 := Tryd.isAgg89
  z175 := Tryd.sizeOf89
  v175 := Tryd.zeroValue89
  t210 := Tryd.underlying92
  a210 := Tryd.isAgg92
  z210 := Tryd.sizeOf92
  v210 := Tryd.zeroValue92
  t212 := Tryd.underlying97
  a212 := Tryd.isAgg97
  z212 := Tryd.sizeOf97
  v212 := Tryd.zeroValue97
  t213 := Tryd.underlying99
  a213 := Tryd.isAgg99
  z213 := Tryd.sizeOf99
  t232 := Tryd.underlying112
  a232 := Tryd.isAgg112
  z232 := Tryd.sizeOf112
  v232 := Tryd.zeroValue112
  t233 := Tryd.underlying113
  a233 := Tryd.isAgg113
  z233 := Tryd.sizeOf113
  v233 := Tryd.zeroValue113
  g15 := by kernel_rfl
  g16 := by kernel_rfl
  g17 := by kernel_rfl
  g18 := by kernel_rfl
  g19 := by kernel_rfl
  t80 := Tryd.underlying62
  a80 := Tryd.isAgg62
  z80 := Tryd.sizeOf62
  v80 := Tryd.zeroValue62
  i0 := by kernel_rfl
  i2 := by kernel_rfl
  i3 := by kernel_rfl
  i4 := by kernel_rfl
  i5 := by kernel_rfl
  i9 := by kernel_rfl
  i20 := by kernel_rfl
  i21 := by kernel_rfl
  i37 := by kernel_rfl
  i46 := by kernel_rfl
  i51 := by kernel_rfl
  i53 := by kernel_rfl
  i75 := by kernel_rfl
  i76 := by kernel_rfl
  i80 := by kernel_rfl
  i85 := by kernel_rfl
  i127 := by kernel_rfl
  i143 := by kernel_rfl
  i145 := by kernel_rfl
  i167 := by kernel_rfl
  i168 := by kernel_rfl
  i171 := by kernel_rfl
  i173 := by kernel_rfl
  i175 := by kernel_rfl
  i210 := by kernel_rfl
  i212 := by kernel_rfl
  i232 := by kernel_rfl
  i233 := by kernel_rfl
  m15 := by kernel_rfl
  m16 := by kernel_rfl
  m17 := by kernel_rfl
  m18 := by kernel_rfl
  m19 := by kernel_rfl
  c0 := by kernel_rfl
  c2 := by kernel_rfl
  c3 := by kernel_rfl
  c4 := by kernel_rfl
  c5 := by kernel_rfl
  c9 := by kernel_rfl
  c20 := by kernel_rfl
  c21 := by kernel_rfl
  c37 := by kernel_rfl
  c46 := by kernel_rfl
  c51 := by kernel_rfl
  c53 := by kernel_rfl
  c75 := by kernel_rfl
  c76 := by kernel_rfl
  c80 := by kernel_rfl
  c85 := by kernel_rfl
  c127 := by kernel_rfl
  c143 := by kernel_rfl
  c145 := by kernel_rfl
  c167 := by kernel_rfl
  c168 := by kernel_rfl
  c171 := by kernel_rfl
  c173 := by kernel_rfl
  c175 := by kernel_rfl
  c210 := by kernel_rfl
  c212 := by kernel_rfl
  c213 := by kernel_rfl
  c232 := by kernel_rfl
  c233 := by kernel_rfl }
open Go.RowKit in
theorem Tryd.strconv_Atoi_ok (s : ByteArray) (hmax : s.size ≤ 9223372036854775806) (v : Int) (h : Lib.atoiAll s.data.toList = .ok v) (w : World) :
    Calls Tryd.prog 29 #[.string s] w fun e w' => e = .returned (.tuple #[.int .i64 v, .nilIface]) ∧ (w' = w ∨ ∃ t, w' = Lib.bytesWorld w 5 t) := Any.strconv_Atoi_ok Tryd.laysC172 s hmax v h w
open Go.RowKit in
theorem Tryd.strconv_Atoi_synt (s : ByteArray) (hlim : s.size ≤ 281474976710656) (h1 : ∀ z, Lib.atoiAll s.data.toList ≠ .ok z) (h2 : Lib.atoiAll s.data.toList ≠ .range) (ev : Value) (w : World) (hv : w.cell? ⟨1, 0, none⟩ = some ev) (hev : ev = .nilIface ∨ ∃ te pe, ev = .iface te pe) :
    Calls Tryd.prog 29 #[.string s] w fun e w' => ∃ N, e = .returned (.tuple #[.int .i64 (0), .iface 73 (.pointer (some ⟨N, 0, none⟩))]) ∧ w.heap.size ≤ N ∧ w'.heap[N]? = some (.cells #[.string ⟨#[65, 116, 111, 105]⟩, .string s, ev] 92 (0, 0)) ∧ Below w.heap.size w w' := by
  refine Any.strconv_Atoi_syntax Tryd.laysC172 s hlim ?_ ev w hv hev
  cases hx : Lib.atoiAll s.data.toList
  · exact absurd hx (h1 _)
  · rfl
  · exact absurd hx h2
open Go.RowKit in
theorem Tryd.strconv_Atoi_range (s : ByteArray) (hlim : s.size ≤ 281474976710656) (h : Lib.atoiAll s.data.toList = .range) (ev : Value) (w : World) (hv : w.cell? ⟨2, 0, none⟩ = some ev) (hev : ev = .nilIface ∨ ∃ te pe, ev = .iface te pe) :
    Calls Tryd.prog 29 #[.string s] w fun e w' => ∃ N, e = .returned (.tuple #[.int .i64 (Lib.atoiSat s.data.toList), .iface 73 (.pointer (some ⟨N, 0, none⟩))]) ∧ w.heap.size ≤ N ∧ w'.heap[N]? = some (.cells #[.string ⟨#[65, 116, 111, 105]⟩, .string s, ev] 92 (0, 0)) ∧ Below w.heap.size w w' := Any.strconv_Atoi_range Tryd.laysC172 s hlim h ev w hv hev
def Tryd.lays145_ren : Go.Shelf.Ren := ⟨fun | 145 => 27 | 220 => 39 | 219 => 47 | 217 => 62 | 225 => 63 | 224 => 64 | 267 => 65 | 266 => 77 | 314 => 78 | n => n, fun | 9 => 9 | 4 => 4 | 59 => 45 | 3 => 3 | 5 => 5 | 46 => 88 | 146 => 101 | 51 => 98 | n => n, fun | 1 => 0 | n => n⟩
theorem Tryd.lays145 : Go.Proofs.Lays.n145 Tryd.prog Tryd.lays145_ren := {
  mixed := by kernel_rfl
  f145 := Tryd.func27.trans (congrArg some (by kernel_rfl))
  f217 := Tryd.func62.trans (congrArg some (by kernel_rfl))
  f219 := Tryd.func47.trans (congrArg some (by kernel_rfl))
  f220 := Tryd.func39.trans (congrArg some (by kernel_rfl))
  f224 := Tryd.func64.trans (congrArg some (by kernel_rfl))
  f225 := Tryd.func63.trans (congrArg some (by kernel_rfl))
  f266 := Tryd.func77.trans (congrArg some (by kernel_rfl))
  f267 := Tryd.func65.trans (congrArg some (by kernel_rfl))
  f314 := Tryd.func78.trans (congrArg some (by kernel_rfl))
  t3 := Tryd.underlying3
  a3 := Tryd.isAgg3
  z3 := Tryd.sizeOf3
  v3 := Tryd.zeroValue3
  t4 := Tryd.underlying4
  a4 := Tryd.isAgg4
  z4 := Tryd.sizeOf4
  v4 := Tryd.zeroValue4
  t5 := Tryd.underlying5
  a5 := Tryd.isAgg5
  z5 := Tryd.sizeOf5
  v5 := Tryd.zeroValue5
  t9 := Tryd.underlying9
  a9 := Tryd.isAgg9
  z9 := Tryd.sizeOf9
  v9 := Tryd.zeroValue9
  t46 := Tryd.underlying88
  a46 := Tryd.isAgg88
  z46 := Tryd.sizeOf88
  v46 := Tryd.zeroValue88
  t51 := Tryd.underlying98
  a51 := Tryd.isAgg98
  z51 := Tryd.sizeOf98
  v51 := Tryd.zeroValue98
  t59 := Tryd.underlying45
  a59 := Tryd.isAgg45
  z59 := Tryd.sizeOf45
  v59 := Tryd.zeroValue45
  t146 := Tryd.underlying101
  a146 := Tryd.isAgg101
  z146 := Tryd.sizeOf101
  v146 := Tryd.zeroValue101
  g1 := by kernel_rfl }
open Go.RowKit Go.Lib in
theorem Tryd.strings_Cut (s sep : ByteArray) (m : Int) (w : World) (hs : s.size < 4294967281) (hm : w.cell? ⟨0, 0, none⟩ = some (.int .i64 m)) :
    Calls Tryd.prog 27 #[.string s, .string sep] w fun e w' => e = .returned (.tuple #[.string ⟨(Lib.cut s.data.toList sep.data.toList).1.toArray⟩, .string ⟨(Lib.cut s.data.toList sep.data.toList).2.1.toArray⟩, .bool (Lib.cut s.data.toList sep.data.toList).2.2]) ∧ ∃ n, w' = w.drewN n := Any.strings_Cut Tryd.lays145 s sep m w hs hm
def Tryd.lays146_ren : Go.Shelf.Ren := ⟨fun | 146 => 30 | 221 => 42 | 268 => 53 | 138 => 54 | 143 => 55 | 195 => 69 | 197 => 70 | 218 => 71 | 219 => 47 | 260 => 81 | 217 => 62 | 225 => 63 | 224 => 64 | 267 => 65 | 266 => 77 | 314 => 78 | n => n, fun | 9 => 9 | 31 => 39 | 3 => 3 | 4 => 4 | 0 => 0 | 105 => 94 | 21 => 21 | 5 => 5 | 46 => 88 | 119 => 108 | 139 => 111 | 138 => 110 | 146 => 101 | 51 => 98 | n => n, fun | 1 => 0 | 3 => 4 | 4 => 5 | n => n⟩
theorem Tryd.lays146 : Go.Proofs.Lays.n146 Tryd.prog Tryd.lays146_ren := {
  mixed := by kernel_rfl
  f138 := Tryd.func54.trans (congrArg some (by kernel_rfl))
  f143 := Tryd.func55.trans (congrArg some (by kernel_rfl))
  f146 := Tryd.func30.trans (congrArg some (by kernel_rfl))
  f195 := Tryd.func69.trans (congrArg some (by kernel_rfl))
  f197 := Tryd.func70.trans (congrArg some (by kernel_rfl))
  f217 := Tryd.func62.trans (congrArg some (by kernel_rfl))
  f218 := Tryd.func71.trans (congrArg some (by kernel_rfl))
  f219 := Tryd.func47.trans (congrArg some (by kernel_rfl))
  f221 := Tryd.func42.trans (congrArg some (by kernel_rfl))
  f224 := Tryd.func64.trans (congrArg some (by kernel_rfl))
  f225 := Tryd.func63.trans (congrArg some (by kernel_rfl))
  f260 := Tryd.func81.trans (congrArg some (by kernel_rfl))
  f266 := Tryd.func77.trans (congrArg some (by kernel_rfl))
  f267 := Tryd.func65.trans (congrArg some (by kernel_rfl))
  f268 := Tryd.func53.trans (congrArg some (by kernel_rfl))
  f314 := Tryd.func78.trans (congrArg some (by kernel_rfl))
  t0 := Tryd.underlying0
  a0 := Tryd.isAgg0
  z0 := Tryd.sizeOf0
  v0 := Tryd.zeroValue0
  t3 := Tryd.underlying3
  a3 := Tryd.isAgg3
  z3 := Tryd.sizeOf3
  v3 := Tryd.zeroValue3
  t4 := Tryd.underlying4
  a4 := Tryd.isAgg4
  z4 := Tryd.sizeOf4
  v4 := Tryd.zeroValue4
  t5 := Tryd.underlying5
  a5 := Tryd.isAgg5
  z5 := Tryd.sizeOf5
  v5 := Tryd.zeroValue5
  t9 := Tryd.underlying9
  a9 := Tryd.isAgg9
  z9 := Tryd.sizeOf9
  v9 := Tryd.zeroValue9
  t21 := Tryd.underlying21
  a21 := Tryd.isAgg21
  z21 := Tryd.sizeOf21
  v21 := Tryd.zeroValue21
  t31 := Tryd.underlying39
  a31 := Tryd.isAgg39
  z31 := Tryd.sizeOf39
  v31 := Tryd.zeroValue39
  t46 := Tryd.underlying88
  a46 := Tryd.isAgg88
  z46 := Tryd.sizeOf88
  v46 := Tryd.zeroValue88
  t51 := Tryd.underlying98
  a51 := Tryd.isAgg98
  z51 := Tryd.sizeOf98
  v51 := Tryd.zeroValue98
  t105 := Tryd.underlying94
  a105 := Tryd.isAgg94
  z105 := Tryd.sizeOf94
  v105 := Tryd.zeroValue94
  t119 := Tryd.underlying108
  a119 := Tryd.isAgg108
  z119 := Tryd.sizeOf108
  t138 := Tryd.underlying110
  a138 := Tryd.isAgg110
  z138 := Tryd.sizeOf110
  v138 := Tryd.zeroValue110
  t139 := Tryd.underlying111
  a139 := Tryd.isAgg111
  z139 := Tryd.sizeOf111
  v139 := Tryd.zeroValue111
  t146 := Tryd.underlying101
  a146 := Tryd.isAgg101
  z146 := Tryd.sizeOf101
  v146 := Tryd.zeroValue101
  g1 := by kernel_rfl
  g3 := by kernel_rfl
  g4 := by kernel_rfl }
open Go.RowKit Go.Lib in
theorem Tryd.strings_Split (s sep : ByteArray) (m : Int) (w : World) (hs : s.size < 4294967281) (hm : w.cell? ⟨0, 0, none⟩ = some (.int .i64 m)) (h1 : 1 ≤ sep.size) :
    Calls Tryd.prog 30 #[.string s, .string sep] w fun e w' =>
      e = .returned (.slice (some ⟨w.heap.size, 0, none⟩) (Lib.countB s sep + 1) (Lib.countB s sep + 1)) ∧ w' = w.alloc (.cells ((Lib.splitB sep 0 (Lib.countB s sep) s).map Value.string).toArray 9) := Any.strings_Split Tryd.lays146 (by kernel_rfl) s sep m w hs hm h1
end Go.Proofs
namespace Go.Am.V
open Go Go.Am Go.RowKit
structure PFn where
  f : Nat
  g : List Value → Option Value
noncomputable def pfnA (p : PFn) : Nat → List Value → FM → Nat → OR FM := fun f args m n =>
  cond (Nat.beq f p.f) (Option.rec (motive := fun _ => OR FM) .no (fun v => .ok v m n 0 0) (p.g args)) .no
structure PFn.Ok (P : Program) (p : PFn) : Prop where
  ent : ∃ fn c, P.funcs[p.f]? = some fn ∧ fn.name ≠ "runtime.NumGoroutine" ∧ fn.body = some c
  flats : ∀ args v, p.g args = some v → args.all flat = true ∧ addrFree v = true
  runs : ∀ args v, p.g args = some v → ∀ B w, Glob B w → B ≤ w.heap.size → Calls P p.f args.toArray w fun e w' => e = .returned v ∧ Below w.heap.size w w'
theorem pfn_ok {p : PFn} {f : Nat} {args : List Value} {m : FM} {n : Nat} {v : Value} {m' : FM} {n' r w : Nat} (h : pfnA p f args m n = .ok v m' n' r w) : f = p.f ∧ p.g args = some v ∧ m' = m ∧ n' = n ∧ r = 0 ∧ w = 0 := by
  unfold pfnA at h
  cases hb : Nat.beq f p.f
  · rw [hb] at h; cases h
  · rw [hb, cond_true] at h
    cases hg : p.g args with
    | none => rw [hg] at h; cases h
    | some v' =>
      rw [hg] at h
      injection h with e1 e2 e3 e4 e5
      exact ⟨Nat.eq_of_beq_eq_true hb, by rw [e1], e2.symm, e3.symm, e4.symm, e5.symm⟩
theorem pfn_loc (p : PFn) : CallLoc (pfnA p) := by
  intro f args m n v m' n' r wm h
  obtain ⟨_, _, rfl, rfl, _, rfl⟩ := pfn_ok h
  exact Loc.refl _ _
theorem pfn_sim {P : Program} {p : PFn} (h : p.Ok P) : CallSim P (pfnA p) := by
  intro f args m n v m' n' r wm hr ρ V w B F args' hargs hF hag hm hfree
  obtain ⟨rfl, hg, rfl, rfl, rfl, rfl⟩ := pfn_ok hr
  obtain ⟨h1, h2⟩ := h.flats args v hg
  have e : args' = args.toArray := by
    apply Array.ext'
    apply List.ext_getElem?
    intro i
    show args'.toList[i]? = args[i]?
    cases ha : args[i]? with
    | none =>
      have hl := hargs.1
      rw [List.getElem?_eq_none_iff] at ha ⊢
      omega
    | some x =>
      have hi : i < args'.toList.length := by rw [← hargs.1]; exact (List.getElem?_eq_some_iff.1 ha).1
      have hy : args'.toList[i]? = some args'.toList[i] := List.getElem?_eq_getElem hi
      have := (hargs.2 i _ _ ha hy).flat_eq (List.all_eq_true.1 h1 x (List.mem_of_getElem? ha))
      rw [hy, this]
  subst e
  refine ⟨h.ent, (h.runs args v hg B w hm.gl hm.le).mono ?_⟩
  rintro e w' ⟨rfl, hb⟩
  exact ⟨ρ, v, rfl, addrFree_rel ρ h2, Post.of_below hm hb⟩
noncomputable def pfnF (p : PFn) : FCal := fun f args m n =>
  Bool.rec (motive := fun _ => FR) .no (Option.rec (motive := fun _ => FR) .no (fun v => .pv (ofV v)) (p.g (pmap toV args))) (Nat.beq f p.f)
noncomputable def pfnsA (l : List PFn) (Y : Nat → List Value → FM → Nat → OR FM) : Nat → List Value → FM → Nat → OR FM := l.foldr (fun p r => altA (pfnA p) r) Y
noncomputable def pfnsF (l : List PFn) (Y : FCal) : FCal := List.rec (motive := fun _ => FCal) Y (fun p _ r => altF (pfnF p) r) l
theorem pfns_loc {l : List PFn} {Y : Nat → List Value → FM → Nat → OR FM} (hY : CallLoc Y) : CallLoc (pfnsA l Y) := by
  induction l with
  | nil => exact hY
  | cons p l ih => exact alt_loc (pfn_loc p) ih
theorem pfns_sim {P : Program} {l : List PFn} {Y : Nat → List Value → FM → Nat → OR FM} (hY : CallSim P Y) (hl : ∀ p ∈ l, p.Ok P) : CallSim P (pfnsA l Y) := by
  induction l with
  | nil => exact hY
  | cons p l ih => exact alt_sim (pfn_sim (hl p (List.mem_cons_self ..))) (ih fun q hq => hl q (List.mem_cons_of_mem _ hq))
theorem pfns_apart {tab : List (Nat × AFn)} {l : List PFn} {Y : Nat → List Value → FM → Nat → OR FM} (hY : Apart tab Y) (hl : ∀ p ∈ l, look tab p.f = none) : Apart tab (pfnsA l Y) := by
  induction l with
  | nil => exact hY
  | cons p l ih =>
    intro f fn hf args m n
    show altA (pfnA p) (pfnsA l Y) f args m n = .no
    unfold altA
    have h1 : pfnA p f args m n = .no := by
      unfold pfnA
      cases hb : Nat.beq f p.f
      · rfl
      · have := Nat.eq_of_beq_eq_true hb
        subst this
        rw [hl p (List.mem_cons_self ..)] at hf; cases hf
    rw [h1]
    exact ih (fun q hq => hl q (List.mem_cons_of_mem _ hq)) f fn hf args m n
end Go.Am.V
namespace Go.Am.V
open Go Go.Am Go.RowKit
def Enters (P : Program) (f : Nat) : Prop := ∃ fn c, P.funcs[f]? = some fn ∧ fn.name ≠ "runtime.NumGoroutine" ∧ fn.body = some c
theorem args_flat {ρ : Ren} {args : List Value} {args' : Array Value} (hargs : LRel ρ args args'.toList) (h1 : args.all flat = true) : args' = args.toArray := by
  apply Array.ext'
  apply List.ext_getElem?
  intro i
  show args'.toList[i]? = args[i]?
  cases ha : args[i]? with
  | none =>
    have hl := hargs.1
    rw [List.getElem?_eq_none_iff] at ha ⊢
    omega
  | some x =>
    have hi : i < args'.toList.length := by rw [← hargs.1]; exact (List.getElem?_eq_some_iff.1 ha).1
    have hy : args'.toList[i]? = some args'.toList[i] := List.getElem?_eq_getElem hi
    have := (hargs.2 i _ _ ha hy).flat_eq (List.all_eq_true.1 h1 x (List.mem_of_getElem? ha))
    rw [hy, this]
def splitL (s sep : ByteArray) : List ByteArray := Lib.splitB sep 0 (Lib.countB s sep) s
noncomputable def splitA (sf : Nat) : Nat → List Value → FM → Nat → OR FM := fun f args m n =>
  cond (Nat.beq f sf) (match args with
    | [.string s, .string sep] => cond (Nat.blt s.size 4294967281 && Nat.ble 1 sep.size && Nat.blt (Lib.countB s sep) 4294967281)
        (.ok (.slice (some ⟨n, 0, none⟩) (Lib.countB s sep + 1) (Lib.countB s sep + 1)) (AMem.put m n (some (.cells ((splitL s sep).map Value.string) 1 false true))) (n + 1) 0 (bit n)) .no
    | _ => .no) .no
theorem splitA_ok {sf f : Nat} {args : List Value} {m : FM} {n : Nat} {v : Value} {m' : FM} {n' r w : Nat} (h : splitA sf f args m n = .ok v m' n' r w) :
    f = sf ∧ ∃ s sep, args = [.string s, .string sep] ∧ s.size < 4294967281 ∧ 1 ≤ sep.size ∧ Lib.countB s sep < 4294967281 ∧ v = .slice (some ⟨n, 0, none⟩) (Lib.countB s sep + 1) (Lib.countB s sep + 1) ∧ m' = AMem.put m n (some (.cells ((splitL s sep).map Value.string) 1 false true)) ∧ n' = n + 1 ∧ r = 0 ∧ w = bit n := by
  unfold splitA at h
  cases hb : Nat.beq f sf
  · rw [hb] at h; cases h
  · rw [hb, cond_true] at h
    split at h
    · rename_i s sep
      cases hc : (Nat.blt s.size 4294967281 && Nat.ble 1 sep.size && Nat.blt (Lib.countB s sep) 4294967281)
      · rw [hc] at h; cases h
      · rw [hc, cond_true] at h
        simp only [Bool.and_eq_true] at hc
        injection h with e1 e2 e3 e4 e5
        exact ⟨Nat.eq_of_beq_eq_true hb, s, sep, rfl, Nat.le_of_ble_eq_true hc.1.1, Nat.le_of_ble_eq_true hc.1.2, Nat.le_of_ble_eq_true hc.2, e1.symm, e2.symm, e3.symm, e4.symm, e5.symm⟩
    · cases h
theorem split_loc (sf : Nat) : CallLoc (splitA sf) := by
  intro f args m n v m' n' r wm h
  obtain ⟨_, s, sep, _, _, _, _, _, rfl, rfl, _, rfl⟩ := splitA_ok h
  exact newb_loc (O := .cells ((splitL s sep).map Value.string) 1 false true) (f := slcP 0 0 0) (newb_fm ..)
def SplitOk (P : Program) (sf : Nat) : Prop := Enters P sf ∧ ∃ t, ∀ (s sep : ByteArray), s.size < 4294967281 → 1 ≤ sep.size → ∀ B w, Glob B w → Calls P sf #[.string s, .string sep] w fun e w' =>
  e = .returned (.slice (some ⟨w.heap.size, 0, none⟩) (Lib.countB s sep + 1) (Lib.countB s sep + 1)) ∧ w' = w.alloc (.cells ((splitL s sep).map Value.string).toArray t)
theorem split_sim {P : Program} {sf : Nat} (h : SplitOk P sf) : CallSim P (splitA sf) := by
  intro f args m n v m' n' r wm hr ρ V w B F args' hargs hF hag hm hfree
  obtain ⟨rfl, s, sep, rfl, h1, h2, h3, rfl, rfl, rfl, rfl, rfl⟩ := splitA_ok hr
  obtain rfl := args_flat hargs rfl
  obtain ⟨he, t, hc⟩ := h
  refine ⟨he, (hc s sep h1 h2 B w hm.gl).mono ?_⟩
  rintro e w' ⟨rfl, rfl⟩
  have hlim : AMem.lim m n = true := rfl
  obtain ⟨ρ', hn, hp⟩ := Post.new hm hlim hfree (.cells ((splitL s sep).map Value.string) 1 false true) (.cells ((splitL s sep).map Value.string).toArray t) (Lib.countB s sep + 1) (fun ρ' hle => by
    refine ⟨rfl, _, t, (0, 0), heap_alloc w _, fun i x hx => ⟨x, ?_, ?_⟩, fun _ => ⟨hm.le, rfl⟩, (fun h => by cases h), by simp⟩
    · show ((splitL s sep).map Value.string).toArray[0 + i]? = some x
      rw [Nat.zero_add]; simpa using hx
    · have hx2 := List.mem_of_getElem? hx
      obtain ⟨y, _, rfl⟩ := List.mem_map.1 hx2
      exact .flat rfl) rfl
  exact ⟨ρ', _, rfl, VRel.slice (o := 0) hn (Nat.le_refl _) (fun h => by unfold UNK at h; omega) (fun _ => rfl) (by unfold VAG; omega), hp⟩
def strsOf : List Value → Option (List ByteArray)
  | [] => some []
  | .string s :: l => (strsOf l).map (s :: ·)
  | _ => none
theorem strsOf_eq : ∀ {l : List Value} {xs : List ByteArray}, strsOf l = some xs → l = xs.map Value.string
  | [], xs, h => by injection h with h; subst h; rfl
  | v :: l, xs, h => by
    cases v with
    | string s =>
      cases hl : strsOf l with
      | none => unfold strsOf at h; rw [hl] at h; cases h
      | some ys =>
        unfold strsOf at h
        rw [hl] at h
        injection h with h
        subst h
        rw [strsOf_eq hl]; rfl
    | _ => cases h
def joinS (xs : List ByteArray) (sep : ByteArray) : ByteArray := ⟨(Lib.join (xs.map (·.data.toList)) sep.data.toList).toArray⟩
noncomputable def joinA (jf : Nat) : Nat → List Value → FM → Nat → OR FM := fun f args m n =>
  cond (Nat.beq f jf) (match args with
    | [.slice none 0 0, .string sep] => .ok (.string ⟨#[]⟩) m n 0 0
    | [.slice (some ⟨b, o, none⟩) l c, .string sep] => match getb m n b with
      | some (.cells cs sz opn wr) => match (ctake (ldrop cs o) l).bind strsOf with
        | some xs => cond (Nat.blt 0 l && Nat.blt l 140737488355328 && Nat.ble (joinS xs sep).size 140737488355328 && Nat.beq sz 1) (.ok (.string (joinS xs sep)) m n (bit b) 0) .no
        | none => .no
      | _ => .no
    | _ => .no) .no
def JoinOk (P : Program) (jf : Nat) : Prop := Enters P jf ∧ (∀ (sep : ByteArray) B w, Glob B w → Calls P jf #[.slice none 0 0, .string sep] w fun e w' => e = .returned (.string ⟨#[]⟩) ∧ Below w.heap.size w w') ∧
  ∀ (bk o c : Nat) (xs : List ByteArray) (sep : ByteArray) B (w : World), Glob B w → (∀ (j : Nat) x, xs[j]? = some x → w.cell? ⟨bk, o + j, none⟩ = some (.string x)) → bk < w.heap.size → xs.length ≤ 140737488355328 → xs.length ≤ c → (joinS xs sep).size ≤ 140737488355328 →
    Calls P jf #[.slice (some ⟨bk, o, none⟩) xs.length c, .string sep] w fun e w' => e = .returned (.string (joinS xs sep)) ∧ Below w.heap.size w w'
theorem joinA_ok {jf f : Nat} {args : List Value} {m : FM} {n : Nat} {v : Value} {m' : FM} {n' r w : Nat} (h : joinA jf f args m n = .ok v m' n' r w) :
    f = jf ∧ m' = m ∧ n' = n ∧ w = 0 ∧ ((∃ sep, args = [.slice none 0 0, .string sep] ∧ v = .string ⟨#[]⟩) ∨
      ∃ b o l c sep cs opn wr xs, args = [.slice (some ⟨b, o, none⟩) l c, .string sep] ∧ getb m n b = some (.cells cs 1 opn wr) ∧ ctake (ldrop cs o) l = some (xs.map Value.string) ∧ 0 < l ∧ l < 140737488355328 ∧ (joinS xs sep).size ≤ 140737488355328 ∧ v = .string (joinS xs sep) ∧ r = bit b) := by
  unfold joinA at h
  cases hb : Nat.beq f jf
  · rw [hb] at h; cases h
  · rw [hb, cond_true] at h
    have hf := Nat.eq_of_beq_eq_true hb
    split at h
    · rename_i sep
      injection h with e1 e2 e3 e4 e5
      exact ⟨hf, e2.symm, e3.symm, e5.symm, .inl ⟨sep, rfl, e1.symm⟩⟩
    · rename_i b o l c sep
      split at h
      · rename_i cs sz opn wr hg
        split at h
        · rename_i xs hx
          cases hc : (Nat.blt 0 l && Nat.blt l 140737488355328 && Nat.ble (joinS xs sep).size 140737488355328 && Nat.beq sz 1)
          · rw [hc] at h; cases h
          · rw [hc, cond_true] at h
            simp only [Bool.and_eq_true] at hc
            injection h with e1 e2 e3 e4 e5
            obtain ⟨l', hl, hs⟩ := Option.bind_eq_some_iff.1 hx
            have hsz := Nat.eq_of_beq_eq_true hc.2
            subst hsz
            exact ⟨hf, e2.symm, e3.symm, e5.symm, .inr ⟨b, o, l, c, sep, cs, opn, wr, xs, rfl, hg, by rw [hl, strsOf_eq hs], Nat.le_of_ble_eq_true hc.1.1.1, Nat.le_of_ble_eq_true hc.1.1.2, Nat.le_of_ble_eq_true hc.1.2, e1.symm, e4.symm⟩⟩
        · cases h
      · cases h
    · cases h
theorem join_loc (jf : Nat) : CallLoc (joinA jf) := by
  intro f args m n v m' n' r wm h
  obtain ⟨_, rfl, rfl, rfl, _⟩ := joinA_ok h
  exact Loc.refl _ _
theorem join_sim {P : Program} {jf : Nat} (h : JoinOk P jf) : CallSim P (joinA jf) := by
  intro f args m n v m' n' r wm hr ρ V w B F args' hargs hF hag hm hfree
  obtain ⟨he, h0, h1⟩ := h
  obtain ⟨e0, e1, e2, e3, hj⟩ := joinA_ok hr
  clear hr
  subst e0; subst e1; subst e2; subst e3
  rcases hj with ⟨sep, rfl, rfl⟩ | ⟨b, o, l, c, sep, cs, opn, wr, xs, rfl, hg, hx, hl0, hl1, hl2, rfl, rfl⟩
  · obtain rfl := args_flat hargs rfl
    refine ⟨he, (h0 sep B w hm.gl).mono ?_⟩
    rintro e w' ⟨rfl, hb⟩
    exact ⟨ρ, _, rfl, .flat rfl, Post.of_below hm hb⟩
  · refine ⟨he, ?_⟩
    obtain ⟨a1, hg1, hr1⟩ := hargs.get (i := 0) rfl
    obtain ⟨a2, hg2, hr2⟩ := hargs.get (i := 1) rfl
    have hl := hargs.1
    obtain ⟨l'⟩ := args'
    simp only [List.length_cons, List.length_nil] at hl
    replace hg1 : l'[0]? = some a1 := hg1
    replace hg2 : l'[1]? = some a2 := hg2
    obtain ⟨x1, x2, rfl⟩ : ∃ x1 x2, l' = [x1, x2] := by
      match l', hl with
      | [x1, x2], _ => exact ⟨_, _, rfl⟩
    injection hg1 with e1; injection hg2 with e2
    subst e1; subst e2
    have e3 := hr2.flat_eq rfl
    subst e3
    have hxl : xs.length = l := by
      have e := ctake_eq (ldrop cs o) l
      rw [hx] at e
      split at e
      · injection e with e
        have := congrArg List.length e
        rw [List.length_map, List.length_take] at this
        omega
      · cases e
    have hcs : ∀ (j : Nat) y, xs[j]? = some y → cs[o + j]? = some (.string y) := fun j y hy => by
      have e := ctake_eq (ldrop cs o) l
      rw [hx] at e
      split at e
      · injection e with e
        have h3 : (xs.map Value.string)[j]? = ((ldrop cs o).take l)[j]? := by rw [e]
        rw [List.getElem?_map, hy, List.getElem?_take] at h3
        have hjl : j < l := by have := (List.getElem?_eq_some_iff.1 hy).1; omega
        rw [if_pos hjl, ldrop_eq, List.getElem?_drop] at h3
        exact h3.symm
      · cases e
    obtain ⟨hbn, hget⟩ := getb_some hg
    have hVb : V b = some (.cells cs 1 opn wr) := by
      rw [hag b hbn (hF b (by rw [lor_test, bit_test]; simp))]; exact hget
    cases hr1 with
    | flat hf => simp [flat] at hf
    | vag => omega
    | slice hp hn hu hk hv =>
      rename_i c' p
      obtain ⟨_, cc, e, fz, hheap, hcells, _, _⟩ := hm.blk b p _ hp hVb
      have hfr := hm.fresh b p hp
      subst hxl
      refine (h1 p.blk (p.base + o) c' xs sep B w hm.gl (fun j y hy => ?_) hfr (by omega) hn hl2).mono ?_
      · obtain ⟨z, hz, hrz⟩ := hcells (o + j) _ (hcs j y hy)
        have := hrz.flat_eq rfl
        subst this
        unfold World.cell?
        simp only [hheap]
        rw [Nat.add_assoc]
        exact hz
      · rintro e w' ⟨rfl, hb⟩
        exact ⟨ρ, _, rfl, .flat rfl, Post.of_below hm hb⟩
end Go.Am.V
namespace Go.Am.C13
open Go Go.Am Go.Am.V Go.RowKit Go.Sort
set_option maxRecDepth 1000000
noncomputable def gItoa : List Value → Option Value
  | [.int .i64 n] => cond (inI64 n) (some (.string ⟨(Lib.itoa n).toArray⟩)) none
  | _ => none
noncomputable def gCut : List Value → Option Value
  | [.string s, .string sep] => cond (Nat.blt s.size 4294967281) (some (.tuple #[.string ⟨(Lib.cut s.data.toList sep.data.toList).1.toArray⟩, .string ⟨(Lib.cut s.data.toList sep.data.toList).2.1.toArray⟩, .bool (Lib.cut s.data.toList sep.data.toList).2.2])) none
  | _ => none
noncomputable def atoiR (l : List UInt8) : Value := match Lib.atoiAll l with
  | .ok v => .tuple #[.int .i64 v, .nilIface]
  | .range => .tuple #[.int .i64 (Lib.atoiSat l), .iface 0 .nilIface]
  | _ => .tuple #[.int .i64 0, .iface 0 .nilIface]
noncomputable def atoiA (af : Nat) : Nat → List Value → FM → Nat → OR FM := fun f args m n =>
  cond (Nat.beq f af) (match args with
    | [.string s] => cond (Nat.blt s.size 4294967281) (.ok (atoiR s.data.toList) m n 0 0) .no
    | _ => .no) .no
theorem atoiA_ok {af f : Nat} {args : List Value} {m : FM} {n : Nat} {v : Value} {m' : FM} {n' r w : Nat} (h : atoiA af f args m n = .ok v m' n' r w) : f = af ∧ ∃ s, args = [.string s] ∧ s.size < 4294967281 ∧ v = atoiR s.data.toList ∧ m' = m ∧ n' = n ∧ r = 0 ∧ w = 0 := by
  unfold atoiA at h
  cases hb : Nat.beq f af
  · rw [hb] at h; cases h
  · rw [hb, cond_true] at h
    split at h
    · rename_i s
      cases hc : Nat.blt s.size 4294967281
      · rw [hc] at h; cases h
      · rw [hc, cond_true] at h
        injection h with e1 e2 e3 e4 e5
        exact ⟨Nat.eq_of_beq_eq_true hb, s, rfl, Nat.le_of_ble_eq_true hc, e1.symm, e2.symm, e3.symm, e4.symm, e5.symm⟩
    · cases h
theorem atoi_loc (af : Nat) : CallLoc (atoiA af) := by
  intro f args m n v m' n' r wm h
  obtain ⟨_, s, _, _, _, rfl, rfl, _, rfl⟩ := atoiA_ok h
  exact Loc.refl _ _
noncomputable def pItoa : PFn := ⟨23, gItoa⟩
noncomputable def pCut : PFn := ⟨27, gCut⟩
theorem below_grow' (w : World) (k : Nat) (os : Array Obj) : Below w.heap.size w (grow (w.drewN k) os) :=
  (below_drewN (Below.refl w.heap.size w) k).trans ⟨rfl, rfl, rfl, by show (w.drewN k).heap.size ≤ ((w.drewN k).heap ++ os).size; rw [Array.size_append]; omega, fun j hj => by show ((w.drewN k).heap ++ os)[j]? = _; rw [Array.getElem?_append_left]; exact Nat.lt_of_lt_of_le hj (below_drewN (Below.refl w.heap.size w) k).size⟩
theorem itoa_ok : pItoa.Ok PG where
  ent := ⟨_, _, Proofs.Tryd.func23, by decide +kernel, rfl⟩
  flats := fun args v h => by
    match args, h with
    | [.int .i64 n], h =>
      have h : cond (inI64 n) _ _ = some v := h
      cases hi : inI64 n
      · rw [hi] at h; cases h
      · rw [hi] at h; injection h with h; subst h; exact ⟨rfl, rfl⟩
  runs := fun args v h B w hg hB => by
    match args, h with
    | [.int .i64 n], h =>
      have h : cond (inI64 n) _ _ = some v := h
      cases hi : inI64 n
      · rw [hi] at h; cases h
      · rw [hi] at h; injection h with h; subst h
        have hb : -9223372036854775808 ≤ n ∧ n ≤ 9223372036854775807 := by
          cases n with
          | ofNat a => have := Nat.le_of_ble_eq_true hi; exact ⟨by have : (0 : Int) ≤ Int.ofNat a := Int.natCast_nonneg a; omega, by show (a : Int) ≤ _; omega⟩
          | negSucc a => have := Nat.le_of_ble_eq_true hi; exact ⟨by omega, by omega⟩
        refine (Proofs.Tryd.strconv_Itoa n hb.1 hb.2 w hg.here.1.2).mono ?_
        rintro e w' ⟨rfl, k, os, rfl⟩
        exact ⟨rfl, below_grow' w k os⟩
theorem cut_ok : pCut.Ok PG where
  ent := ⟨_, _, Proofs.Tryd.func27, by decide +kernel, rfl⟩
  flats := fun args v h => by
    match args, h with
    | [.string s, .string sep], h =>
      have h : cond (Nat.blt s.size 4294967281) _ _ = some v := h
      cases hi : Nat.blt s.size 4294967281
      · rw [hi] at h; cases h
      · rw [hi] at h; injection h with h; subst h; exact ⟨rfl, rfl⟩
  runs := fun args v h B w hg hB => by
    match args, h with
    | [.string s, .string sep], h =>
      have h : cond (Nat.blt s.size 4294967281) _ _ = some v := h
      cases hi : Nat.blt s.size 4294967281
      · rw [hi] at h; cases h
      · rw [hi] at h; injection h with h; subst h
        obtain ⟨m, hm⟩ := hg.here.1.1
        refine (Proofs.Tryd.strings_Cut s sep m w (Nat.le_of_ble_eq_true hi) hm).mono ?_
        rintro e w' ⟨rfl, k, rfl⟩
        exact ⟨rfl, below_drewN (Below.refl _ w) k⟩
theorem atoi_sim : CallSim PG (atoiA 29) := by
  intro f args m n v m' n' r wm hr ρ V w B F args' hargs hF hag hm hfree
  obtain ⟨rfl, s, rfl, h1, rfl, rfl, rfl, rfl, rfl⟩ := atoiA_ok hr
  obtain rfl := args_flat hargs rfl
  refine ⟨⟨_, _, Proofs.Tryd.func29, by decide +kernel, rfl⟩, ?_⟩
  obtain ⟨_, ⟨e1, hc1, hk1⟩, e2, hc2, hk2⟩ := hm.gl.here
  have err : ∀ z x, VRel ρ (.tuple #[.int .i64 z, .iface 0 .nilIface]) (.tuple #[.int .i64 z, .iface 73 x]) := fun z x => LRel.tuple (.cons (.int ρ _ _) (.cons .opq (.nil ρ)))
  cases ha : Lib.atoiAll s.data.toList
  · rename_i z
    refine (Proofs.Tryd.strconv_Atoi_ok s (by omega) z ha w).mono ?_
    rintro e w' ⟨rfl, hw⟩
    refine ⟨ρ, _, rfl, ?_, Post.of_below hm ?_⟩
    · rw [atoiR, ha]; exact addrFree_rel ρ rfl
    · rcases hw with rfl | ⟨t, rfl⟩
      · exact Below.refl _ _
      · exact Lib.bytesWorld_below w 5 t
  · refine (Proofs.Tryd.strconv_Atoi_synt s (by omega) (fun z e => by rw [ha] at e; cases e) (fun e => by rw [ha] at e; cases e) e1 w hc1 hk1).mono ?_
    rintro e w' ⟨N, rfl, _, _, hb⟩
    exact ⟨ρ, _, rfl, by rw [atoiR, ha]; exact err _ _, Post.of_below hm hb⟩
  · refine (Proofs.Tryd.strconv_Atoi_range s (by omega) ha e2 w hc2 hk2).mono ?_
    rintro e w' ⟨N, rfl, _, _, hb⟩
    exact ⟨ρ, _, rfl, by rw [atoiR, ha]; exact err _ _, Post.of_below hm hb⟩
theorem split_okP : SplitOk PG 30 := ⟨⟨_, _, Proofs.Tryd.func30, by decide +kernel, rfl⟩, 9, fun s sep h1 h2 B w hg => by
  obtain ⟨m, hm⟩ := hg.here.1.1
  exact Proofs.Tryd.strings_Split s sep m w h1 hm h2⟩
theorem join_okP : JoinOk PG 24 := ⟨⟨_, _, Proofs.Tryd.func24, by decide +kernel, rfl⟩, fun sep B w hg => by
  refine (Proofs.Tryd.strings_Join_none none 0 sep w).mono ?_
  rintro e w' ⟨rfl, rfl⟩
  exact ⟨rfl, Below.refl _ _⟩, fun bk o c xs sep B w hg h1 h2 h3 h4 h5 =>
  Proofs.Tryd.strings_Join bk o c xs sep w h1 h2 h3 h4 (by
    have : (joinS xs sep).size = (Lib.join (xs.map (·.data.toList)) sep.data.toList).length := by simp [joinS, ByteArray.size]
    omega)⟩
noncomputable def Y13 : Nat → List Value → FM → Nat → OR FM := pfnsA [pItoa, pCut] (altA (atoiA 29) (altA (splitA 30) (joinA 24)))
theorem y13_loc : CallLoc Y13 := pfns_loc (alt_loc (atoi_loc 29) (alt_loc (split_loc 30) (join_loc 24)))
theorem y13_sim : CallSim PG Y13 := pfns_sim (alt_sim atoi_sim (alt_sim (split_sim split_okP) (join_sim join_okP))) fun p hp => by
  simp only [List.mem_cons, List.not_mem_nil, or_false] at hp
  rcases hp with rfl | rfl
  · exact itoa_ok
  · exact cut_ok
end Go.Am.C13
namespace Go.Am.Txt
open Go
abbrev Bs := List UInt8
theorem dec_dig : ∀ (u : Nat) (c : UInt8), c ∈ Lib.decDigits u → 48 ≤ c.toNat ∧ c.toNat ≤ 57 := by
  intro u
  induction u using Nat.strongRecOn with
  | ind u ih =>
    intro c hc
    rw [Lib.decDigits] at hc
    split at hc
    · rename_i h
      rw [List.mem_singleton] at hc
      subst hc
      rw [UInt8.toNat_ofNat']; omega
    · rename_i h
      rcases List.mem_append.1 hc with hc | hc
      · exact ih (u / 10) (by omega) c hc
      · rw [List.mem_singleton] at hc
        subst hc
        rw [UInt8.toNat_ofNat']; omega
theorem dec_ne (u : Nat) : Lib.decDigits u ≠ [] := by
  rw [Lib.decDigits]
  split <;> simp
theorem pu_app (d : UInt8) : ∀ (l : Bs) (acc v : Nat), Lib.parseUint10 acc l = .ok v → Lib.parseUint10 acc (l ++ [d]) = Lib.parseUint10 v [d]
  | [], acc, v, h => by
    simp only [Lib.parseUint10] at h
    injection h with h
    subst h; rfl
  | c :: r, acc, v, h => by
    rw [List.cons_append]
    rw [Lib.parseUint10] at h ⊢
    split at h
    · rename_i h1
      rw [if_pos h1]
      split at h
      · cases h
      · rename_i h2
        rw [if_neg h2]
        split at h
        · cases h
        · rename_i h3
          rw [if_neg h3]
          exact pu_app d r _ v h
    · cases h
theorem pu_dec : ∀ (u : Nat), u < 18446744073709551616 → Lib.parseUint10 0 (Lib.decDigits u) = .ok u := by
  intro u
  induction u using Nat.strongRecOn with
  | ind u ih =>
    intro hu
    rw [Lib.decDigits]
    split
    · rename_i h
      rw [Lib.parseUint10]
      have e : (UInt8.ofNat (48 + u)).toNat = 48 + u := by rw [UInt8.toNat_ofNat']; omega
      rw [e, if_pos (by omega), if_neg (by omega), if_neg (by omega), Lib.parseUint10]
      congr 1; omega
    · rename_i h
      rw [pu_app _ _ 0 (u / 10) (ih (u / 10) (by omega) (by omega)), Lib.parseUint10]
      have e : (UInt8.ofNat (48 + u % 10)).toNat = 48 + u % 10 := by rw [UInt8.toNat_ofNat']; omega
      rw [e, if_pos (by omega), if_neg (by omega), if_neg (by omega), Lib.parseUint10]
      congr 1; omega
theorem itoa_nat (u : Nat) : Lib.itoa (u : Int) = Lib.decDigits u := by
  rw [Lib.itoa, if_neg (by omega), Int.toNat_natCast]
theorem atoi_itoa {z : Int} (h0 : 0 ≤ z) (h1 : z ≤ 9223372036854775807) : Lib.atoiAll (Lib.itoa z) = .ok z := by
  obtain ⟨u, rfl⟩ := Int.eq_ofNat_of_zero_le h0
  rw [itoa_nat]
  have hp := pu_dec u (by omega)
  have hd := dec_dig u
  have hne := dec_ne u
  revert hp hd hne
  cases Lib.decDigits u with
  | nil => intro _ _ h; exact absurd rfl h
  | cons c r =>
    intro hp hd _
    have hc := hd c (List.mem_cons_self ..)
    unfold Lib.atoiAll
    simp only
    rw [if_neg (by omega), Lib.parseMag, if_neg (by simp), hp]
    simp only
    rw [if_neg (by omega), if_neg (by omega), if_neg (by omega)]
theorem no_occ {s sep : Bs} {c : UInt8} {t : Bs} (hs : sep = c :: t) {i : Nat} (h : s[i]? ≠ some c) : Lib.occAt s sep i = false := by
  cases ho : Lib.occAt s sep i
  · rfl
  · exact absurd (Lib.occAt_head hs ho) h
theorem index_mid {a b sep : Bs} {c : UInt8} {t : Bs} (hs : sep = c :: t) (ha : c ∉ a) : Lib.index (a ++ sep ++ b) sep = a.length := by
  refine Lib.index_first (by simp) ?_ fun j hj => no_occ hs ?_
  · unfold Lib.occAt
    rw [List.append_assoc, List.drop_left]
    exact List.isPrefixOf_iff_prefix.2 (List.prefix_append ..)
  · rw [List.append_assoc, List.getElem?_append_left hj]
    exact fun e => ha (List.mem_of_getElem? e)
theorem index_not {a sep : Bs} {c : UInt8} {t : Bs} (hs : sep = c :: t) (ha : c ∉ a) : Lib.index a sep = -1 :=
  Lib.index_none fun j _ => no_occ hs fun e => ha (List.mem_of_getElem? e)
theorem cut_mid {a b sep : Bs} {c : UInt8} {t : Bs} (hs : sep = c :: t) (ha : c ∉ a) : Lib.cut (a ++ sep ++ b) sep = (a, b, true) := by
  have h := index_mid (b := b) hs ha
  unfold Lib.cut
  rw [h, if_pos (by omega), Int.toNat_natCast]
  congr 1
  · rw [List.append_assoc, List.take_left']; rfl
  · congr 1
    rw [← List.length_append, List.drop_left']; rfl
theorem index_parts {s sep : Bs} {i : Nat} (h : Lib.index s sep = i) : s = s.take i ++ sep ++ s.drop (i + sep.length) := by
  rcases Lib.index_spec s sep with ⟨h1, _⟩ | ⟨k, h1, h2, h3, _⟩
  · omega
  · have e : k = i := by omega
    subst e
    unfold Lib.occAt at h3
    obtain ⟨r, hr⟩ := List.isPrefixOf_iff_prefix.1 h3
    have e2 : s.drop (k + sep.length) = r := by rw [← List.drop_drop, ← hr, List.drop_left]
    rw [e2, List.append_assoc, hr, List.take_append_drop]
theorem cut_found {s sep : Bs} (h : (Lib.cut s sep).2.2 = true) : s = (Lib.cut s sep).1 ++ sep ++ (Lib.cut s sep).2.1 := by
  unfold Lib.cut at h ⊢
  split at h
  · rename_i h0
    rw [if_pos h0]
    obtain ⟨i, hi⟩ := Int.eq_ofNat_of_zero_le h0
    have := index_parts hi
    rw [hi]; exact this
  · cases h
theorem join_cons2 (x y : Bs) (r : List Bs) (sep : Bs) : Lib.join (x :: y :: r) sep = x ++ sep ++ Lib.join (y :: r) sep := by
  rw [Lib.join_cons, Lib.join_cons]
  simp [Lib.joinTail]
theorem join_split (sep : Bs) : ∀ (k : Nat) (s : Bs), Lib.join (Lib.splitK sep 0 k s) sep = s
  | 0, s => Lib.join_one s sep
  | k + 1, s => by
    unfold Lib.splitK
    split
    · exact Lib.join_one s sep
    · rename_i h
      have h1 := Lib.index_ge s sep
      have h2 : 0 ≤ Lib.index s sep := by
        rcases Int.lt_or_le (Lib.index s sep) 0 with h3 | h3
        · exact absurd (beq_iff_eq.2 (by omega)) h
        · exact h3
      obtain ⟨i, hi⟩ := Int.eq_ofNat_of_zero_le h2
      have ih := join_split sep k (s.drop (i + sep.length))
      have hs := index_parts hi
      rw [hi, Nat.add_zero]
      show Lib.join (s.take i :: Lib.splitK sep 0 k (s.drop (i + sep.length))) sep = s
      revert ih
      cases hq : Lib.splitK sep 0 k (s.drop (i + sep.length)) with
      | nil =>
        cases k <;> (unfold Lib.splitK at hq; first | cases hq | (split at hq <;> cases hq))
      | cons y r =>
        intro ih
        rw [join_cons2, ih]
        exact hs.symm
theorem split_join {sep : Bs} {c : UInt8} {t : Bs} (hs : sep = c :: t) : ∀ (p : Bs) (ps : List Bs), (∀ q ∈ p :: ps, c ∉ q) → Lib.count (Lib.join (p :: ps) sep) sep = ps.length ∧ Lib.splitK sep 0 ps.length (Lib.join (p :: ps) sep) = p :: ps
  | p, [], h => by
    rw [Lib.join_one]
    exact ⟨Lib.count_miss (index_not hs (h p (List.mem_cons_self ..))), rfl⟩
  | p, q :: ps, h => by
    obtain ⟨h1, h2⟩ := split_join hs q ps fun x hx => h x (List.mem_cons_of_mem _ hx)
    have hi := index_mid (b := Lib.join (q :: ps) sep) hs (h p (List.mem_cons_self ..))
    have hd : (p ++ sep ++ Lib.join (q :: ps) sep).drop (p.length + sep.length) = Lib.join (q :: ps) sep := by
      rw [← List.length_append, List.drop_left']; rfl
    rw [join_cons2]
    constructor
    · rw [Lib.count_hit (by rw [hs]; simp) hi, hd, h1, List.length_cons]; omega
    · rw [List.length_cons, Lib.splitK, hi, if_neg (by simp), Int.toNat_natCast, Nat.add_zero, hd, h2]
      congr 1
      rw [List.append_assoc, List.take_left']; rfl
end Go.Am.Txt
namespace Go.Am.C13
open Go Go.Am.Txt
def W8L : List Bs := [[], [100, 114, 111, 112], [116, 101, 97, 114], [115, 116, 114, 97, 121], [102, 97, 105, 108], [111, 116, 104, 101, 114], [115, 108, 111, 119], [100, 105, 101]]
def wordL (k : Int) : Bs := W8L.getD k.toNat []
def aimL (k : Int) : Bool := decide (k = 3) || decide (k = 5)
def to4L : Bs := [32, 116, 111, 32]
def semiL : Bs := [59, 32]
def fltL (f : Flt) : Bs := if aimL f.kind = true then wordL f.kind ++ [32] ++ (Lib.itoa f.at_ ++ to4L ++ Lib.itoa f.to) else wordL f.kind ++ [32] ++ Lib.itoa f.at_
def textL (fs : List Flt) : Bs := if validB fs = true then Lib.join (fs.map fltL) semiL else []
def small (f : Flt) : Prop := f.at_ ≤ 9223372036854775807 ∧ f.to ≤ 9223372036854775807
def kindL (nm : Bs) : Nat → Int
  | 0 => 0
  | k + 1 => if 0 < k ∧ W8L.getD k [] = nm then (k : Int) else kindL nm k
def numV (w : Bs) : Int := match Lib.atoiAll w with
  | .ok z => z
  | .range => Lib.atoiSat w
  | _ => 0
def numOk (w : Bs) : Bool := match Lib.atoiAll w with
  | .ok z => decide (Lib.itoa z = w)
  | _ => false
def kindP (p : Bs) : Int := kindL (Lib.cut p [32]).1 8
def partF (p : Bs) : Flt := if aimL (kindP p) = true then ⟨numV (Lib.cut (Lib.cut p [32]).2.1 to4L).1, kindP p, numV (Lib.cut (Lib.cut p [32]).2.1 to4L).2.1⟩ else ⟨numV (Lib.cut p [32]).2.1, kindP p, 0⟩
def partOk (p : Bs) : Bool := if aimL (kindP p) = true then (((Lib.cut p [32]).2.2 && (Lib.cut (Lib.cut p [32]).2.1 to4L).2.2) && numOk (Lib.cut (Lib.cut p [32]).2.1 to4L).1) && numOk (Lib.cut (Lib.cut p [32]).2.1 to4L).2.1 else (Lib.cut p [32]).2.2 && numOk (Lib.cut p [32]).2.1
def goodP (t : Bs) : Bool := (Lib.split t semiL).all partOk && validB ((Lib.split t semiL).map partF)
def resP (t : Bs) : List Flt := (Lib.split t semiL).map partF
theorem numOk_iff {w : Bs} (h : numOk w = true) : Lib.itoa (numV w) = w := by
  unfold numOk at h
  unfold numV
  split at h
  · rename_i z hz
    rw [hz]; exact of_decide_eq_true h
  · cases h
theorem num_itoa {z : Int} (h0 : 0 ≤ z) (h1 : z ≤ 9223372036854775807) : numV (Lib.itoa z) = z ∧ numOk (Lib.itoa z) = true := by
  unfold numV numOk
  rw [atoi_itoa h0 h1]
  exact ⟨rfl, decide_eq_true rfl⟩
theorem kindL_word {nm : Bs} : ∀ {k : Nat}, kindL nm k ≠ 0 → wordL (kindL nm k) = nm
  | 0, h => absurd rfl h
  | k + 1, h => by
    unfold kindL at h ⊢
    split at h
    · rename_i hk
      rw [if_pos hk]
      exact hk.2
    · rename_i hk
      rw [if_neg hk]
      exact kindL_word h
theorem word_kind {k : Int} (h1 : 1 ≤ k) (h2 : k ≤ 7) : kindL (wordL k) 8 = k ∧ (32 : UInt8) ∉ wordL k ∧ (59 : UInt8) ∉ wordL k := by
  rcases (by omega : k = 1 ∨ k = 2 ∨ k = 3 ∨ k = 4 ∨ k = 5 ∨ k = 6 ∨ k = 7) with rfl | rfl | rfl | rfl | rfl | rfl | rfl <;> decide
theorem valid_fit : ∀ {fs : List Flt} {p : Int}, okFs p fs = true → -1 ≤ p → ∀ f ∈ fs, 1 ≤ f.kind ∧ f.kind ≤ 7 ∧ 0 ≤ f.at_ ∧ 0 ≤ f.to ∧ (f.to = 0 ∨ aimL f.kind = true)
  | [], p, h, _, f, hf => by cases hf
  | x :: l, p, h, hp, f, hf => by
    simp only [okFs, Bool.and_eq_true] at h
    have h2 := h.1
    simp only [okF, Bool.and_eq_true, Bool.or_eq_true, decide_eq_true_iff] at h2
    rcases List.mem_cons.1 hf with rfl | hf
    · refine ⟨h2.2.1, h2.2.2.1, by omega, h2.2.2.2.1, ?_⟩
      rcases h2.2.2.2.2 with h | h | h
      · exact .inl h
      · exact .inr (by rw [aimL, h]; rfl)
      · exact .inr (by rw [aimL, h]; rfl)
    · exact valid_fit h.2 (by omega) f hf
theorem dig_not {z : Int} (h0 : 0 ≤ z) {c : UInt8} (hc : c.toNat < 48 ∨ 57 < c.toNat) : c ∉ Lib.itoa z := by
  obtain ⟨u, rfl⟩ := Int.eq_ofNat_of_zero_le h0
  rw [itoa_nat]
  intro h
  have := dec_dig u c h
  omega
theorem part_flt {f : Flt} (h1 : 1 ≤ f.kind) (h2 : f.kind ≤ 7) (h3 : 0 ≤ f.at_) (h4 : 0 ≤ f.to) (h5 : f.to = 0 ∨ aimL f.kind = true) (hs : small f) : partF (fltL f) = f ∧ partOk (fltL f) = true := by
  obtain ⟨k1, k2, k3⟩ := word_kind h1 h2
  obtain ⟨n1, n2⟩ := num_itoa h3 hs.1
  obtain ⟨m1, m2⟩ := num_itoa h4 hs.2
  obtain ⟨a, k, t⟩ := f
  simp only at *
  cases ha : aimL k with
  | true =>
    have e : fltL ⟨a, k, t⟩ = wordL k ++ [32] ++ (Lib.itoa a ++ to4L ++ Lib.itoa t) := by rw [fltL, if_pos ha]
    have c1 : Lib.cut (fltL ⟨a, k, t⟩) [32] = (wordL k, Lib.itoa a ++ to4L ++ Lib.itoa t, true) := by rw [e]; exact cut_mid rfl k2
    have c2 : Lib.cut (Lib.itoa a ++ to4L ++ Lib.itoa t) to4L = (Lib.itoa a, Lib.itoa t, true) := cut_mid (c := 32) (t := [116, 111, 32]) rfl (dig_not h3 (.inl (by decide)))
    have c3 : kindP (fltL ⟨a, k, t⟩) = k := by rw [kindP, c1]; exact k1
    unfold partF partOk
    rw [c3, if_pos ha, if_pos ha, c1]
    simp only [c2, n1, n2, m1, m2, Bool.and_self, and_self]
  | false =>
    have e : fltL ⟨a, k, t⟩ = wordL k ++ [32] ++ Lib.itoa a := by rw [fltL, if_neg (by rw [ha]; decide)]
    have c1 : Lib.cut (fltL ⟨a, k, t⟩) [32] = (wordL k, Lib.itoa a, true) := by rw [e]; exact cut_mid rfl k2
    have c3 : kindP (fltL ⟨a, k, t⟩) = k := by rw [kindP, c1]; exact k1
    have ht : t = 0 := h5.resolve_right (by rw [ha]; decide)
    unfold partF partOk
    rw [c3, if_neg (by rw [ha]; decide), if_neg (by rw [ha]; decide), c1]
    simp only [n1, n2, Bool.and_self, ht, and_self]
theorem flt_part {p : Bs} (h : partOk p = true) (hk : 1 ≤ (partF p).kind) : fltL (partF p) = p := by
  have hkind : (partF p).kind = kindP p := by unfold partF; split <;> rfl
  rw [hkind] at hk
  have hw : wordL (kindP p) = (Lib.cut p [32]).1 := kindL_word (by show kindP p ≠ 0; omega)
  unfold partOk at h
  unfold fltL
  rw [hkind, hw]
  by_cases ha : aimL (kindP p) = true
  · rw [if_pos ha] at h ⊢
    simp only [Bool.and_eq_true] at h
    obtain ⟨⟨⟨h1, h2⟩, h3⟩, h4⟩ := h
    have e : partF p = ⟨numV (Lib.cut (Lib.cut p [32]).2.1 to4L).1, kindP p, numV (Lib.cut (Lib.cut p [32]).2.1 to4L).2.1⟩ := by rw [partF, if_pos ha]
    rw [e]
    simp only [numOk_iff h3, numOk_iff h4]
    rw [← cut_found h2]
    exact (cut_found h1).symm
  · rw [if_neg ha] at h ⊢
    simp only [Bool.and_eq_true] at h
    have e : partF p = ⟨numV (Lib.cut p [32]).2.1, kindP p, 0⟩ := by rw [partF, if_neg ha]
    rw [e]
    simp only [numOk_iff h.2]
    exact (cut_found h.1).symm
theorem flt_semi {f : Flt} (h1 : 1 ≤ f.kind) (h2 : f.kind ≤ 7) (h3 : 0 ≤ f.at_) (h4 : 0 ≤ f.to) : (59 : UInt8) ∉ fltL f := by
  obtain ⟨_, _, k3⟩ := word_kind h1 h2
  have n1 := dig_not h3 (c := 59) (.inr (by decide))
  have n2 := dig_not h4 (c := 59) (.inr (by decide))
  have t4 : (59 : UInt8) ∉ to4L := by decide
  have t1 : (59 : UInt8) ∉ [(32 : UInt8)] := by decide
  unfold fltL
  split <;> simp only [List.mem_append, not_or] <;> first | exact ⟨⟨k3, t1⟩, ⟨n1, t4⟩, n2⟩ | exact ⟨⟨k3, t1⟩, n1⟩
theorem join_split' (t : Bs) : Lib.join (Lib.split t semiL) semiL = t := join_split semiL _ t
theorem prog_text {t : Bs} (h : goodP t = true) : textL (resP t) = t := by
  rw [goodP, Bool.and_eq_true] at h
  unfold textL resP
  rw [if_pos h.2]
  have hv := valid_fit h.2 (by omega)
  have : ((Lib.split t semiL).map partF).map fltL = Lib.split t semiL := by
    rw [List.map_map]
    conv => rhs; rw [← List.map_id (Lib.split t semiL)]
    refine List.map_congr_left fun p hp => ?_
    exact flt_part (List.all_eq_true.1 h.1 p hp) (hv _ (List.mem_map_of_mem hp)).1
  rw [this]
  exact join_split' t
theorem prog_back {fs : List Flt} (hv : validB fs = true) (hs : ∀ f ∈ fs, small f) (hne : fs ≠ []) : goodP (textL fs) = true ∧ resP (textL fs) = fs ∧ Lib.split (textL fs) semiL = fs.map fltL := by
  have hf := valid_fit hv (by omega)
  have hsp : Lib.split (textL fs) semiL = fs.map fltL := by
    unfold textL
    rw [if_pos hv]
    cases fs with
    | nil => exact absurd rfl hne
    | cons f fs =>
      obtain ⟨h1, h2⟩ := split_join (sep := semiL) (c := 59) (t := [32]) rfl (fltL f) (fs.map fltL) (fun q hq => by
        have hq' : q ∈ (f :: fs).map fltL := hq
        obtain ⟨g, hg, rfl⟩ := List.mem_map.1 hq'
        obtain ⟨g1, g2, g3, g4, _⟩ := hf g hg
        exact flt_semi g1 g2 g3 g4)
      unfold Lib.split
      rw [List.map_cons, h1]
      exact h2
  have hmap : (fs.map fltL).map partF = fs := by
    rw [List.map_map]
    conv => rhs; rw [← List.map_id fs]
    refine List.map_congr_left fun f hf' => ?_
    obtain ⟨g1, g2, g3, g4, g5⟩ := hf f hf'
    exact (part_flt g1 g2 g3 g4 g5 (hs f hf')).1
  refine ⟨?_, by rw [resP, hsp, hmap], hsp⟩
  rw [goodP, hsp, hmap, hv, Bool.and_true, List.all_eq_true]
  intro p hp
  obtain ⟨f, hf', rfl⟩ := List.mem_map.1 hp
  obtain ⟨g1, g2, g3, g4, g5⟩ := hf f hf'
  exact (part_flt g1 g2 g3 g4 g5 (hs f hf')).2
def stepR (a : Int) (c : UInt8) : Int := IntKind.i64.wrap (IntKind.i64.wrap (a * 10) + (((c.toNat - 48 : Nat)) : Int))
def isD (c : UInt8) : Bool := decide (48 ≤ c.toNat) && decide (c.toNat ≤ 57)
def numR (a : Int) : Bs → Int × Bs
  | [] => (a, [])
  | c :: r => if isD c = true then numR (stepR a c) r else (a, c :: r)
def begB (s w : Bs) : Bool := decide (w.length ≤ s.length) && decide (s.take w.length = w)
def readOne (s : Bs) (k : Nat) : Flt × Bs :=
  let x := numR 0 (s.drop ((wordL k).length + 1))
  if begB x.2 to4L = true then (⟨x.1, k, (numR 0 (x.2.drop 4)).1⟩, (numR 0 (x.2.drop 4)).2) else (⟨x.1, k, 0⟩, x.2)
def readK (s : Bs) : Nat → Nat → Option (Flt × Bs)
  | 0, _ => none
  | d + 1, k => if begB s (wordL k ++ [32]) = true then some (readOne s k) else readK s d (k + 1)
def readR (s : Bs) : Option (Flt × Bs) := readK s 7 1
def loopR : Nat → Bs → List Flt → Option (List Flt)
  | 0, _, _ => none
  | n + 1, rest, out => if rest = [] then some out else match readR rest with
    | none => none
    | some x => if begB x.2 semiL = true then loopR n (x.2.drop 2) (out ++ [x.1]) else if x.2 = [] then loopR n [] (out ++ [x.1]) else none
def refP (t : Bs) : Option (List Flt) := match loopR (t.length + 1) t [] with
  | none => none
  | some out => if validB out = true ∧ textL out = t then some out else none
theorem numR_app : ∀ (l : Bs) (a : Int) (r : Bs), (∀ c ∈ l, isD c = true) → numR a (l ++ r) = numR (l.foldl stepR a) r
  | [], a, r, _ => rfl
  | c :: l, a, r, h => by
    rw [List.cons_append, numR, if_pos (h c (List.mem_cons_self ..)), List.foldl_cons]
    exact numR_app l _ r fun x hx => h x (List.mem_cons_of_mem _ hx)
theorem wrap64 {z : Int} (h : -9223372036854775808 ≤ z) (h' : z < 9223372036854775808) : IntKind.i64.wrap z = z := wrap_id_i64 h h'
theorem fold_dec : ∀ (u : Nat), u ≤ 9223372036854775807 → (Lib.decDigits u).foldl stepR 0 = (u : Int) := by
  intro u
  induction u using Nat.strongRecOn with
  | ind u ih =>
    intro hu
    rw [Lib.decDigits]
    split
    · rename_i h
      have e : (UInt8.ofNat (48 + u)).toNat = 48 + u := by rw [UInt8.toNat_ofNat']; omega
      show IntKind.i64.wrap (IntKind.i64.wrap (0 * 10) + (((UInt8.ofNat (48 + u)).toNat - 48 : Nat) : Int)) = _
      rw [e, show IntKind.i64.wrap (0 * 10) = 0 from wrap64 (by omega) (by omega), wrap64 (by omega) (by omega)]; omega
    · rename_i h
      have e : (UInt8.ofNat (48 + u % 10)).toNat = 48 + u % 10 := by rw [UInt8.toNat_ofNat']; omega
      rw [List.foldl_append, ih (u / 10) (by omega) (by omega)]
      show IntKind.i64.wrap (IntKind.i64.wrap (((u / 10 : Nat) : Int) * 10) + (((UInt8.ofNat (48 + u % 10)).toNat - 48 : Nat) : Int)) = _
      rw [e, wrap64 (z := ((u / 10 : Nat) : Int) * 10) (by omega) (by omega), wrap64 (by omega) (by omega)]; omega
theorem numR_itoa {z : Int} (h0 : 0 ≤ z) (h1 : z ≤ 9223372036854775807) {r : Bs} (hr : r = [] ∨ ∃ c l, r = c :: l ∧ isD c = false) : numR 0 (Lib.itoa z ++ r) = (z, r) := by
  obtain ⟨u, rfl⟩ := Int.eq_ofNat_of_zero_le h0
  rw [itoa_nat, numR_app _ _ _ (fun c hc => by
    have := dec_dig u c hc
    unfold isD
    rw [decide_eq_true this.1, decide_eq_true this.2]; rfl), fold_dec u (by omega)]
  rcases hr with rfl | ⟨c, l, rfl, hc⟩
  · rfl
  · rw [numR, if_neg (by rw [hc]; decide)]
theorem begB_app (w r : Bs) : begB (w ++ r) w = true := by
  unfold begB
  rw [List.take_left, decide_eq_true rfl, decide_eq_true (by rw [List.length_append]; omega)]; rfl
theorem begB_head {s w : Bs} {c d : UInt8} {l t : Bs} (hs : s = c :: l) (hw : w = d :: t) (h : c ≠ d) : begB s w = false := by
  unfold begB
  rw [Bool.and_eq_false_iff]
  right
  rw [decide_eq_false_iff_not, hs, hw, List.length_cons, List.take_succ_cons]
  intro e
  injection e with e _
  exact h e
theorem begB_nil {w : Bs} (h : w ≠ []) : begB [] w = false := by
  unfold begB
  rw [Bool.and_eq_false_iff]
  left
  rw [decide_eq_false_iff_not]
  cases w with
  | nil => exact absurd rfl h
  | cons x l => simp
theorem read_kind (r : Bs) : ∀ {k : Int}, 1 ≤ k → k ≤ 7 → readR (wordL k ++ [32] ++ r) = some (readOne (wordL k ++ [32] ++ r) k.toNat) := by
  intro k h1 h2
  have hb : begB (wordL k ++ [32] ++ r) (wordL k ++ [32]) = true := begB_app _ _
  have hn : ∀ a b : Int, 1 ≤ a → a ≤ 7 → 1 ≤ b → b ≤ 7 → a ≠ b → begB (wordL a ++ [32] ++ r) (wordL b ++ [32]) = false := by
    intro a b h1 h2 h3 h4 hne
    rcases (by omega : a = 1 ∨ a = 2 ∨ a = 3 ∨ a = 4 ∨ a = 5 ∨ a = 6 ∨ a = 7) with rfl | rfl | rfl | rfl | rfl | rfl | rfl <;>
      rcases (by omega : b = 1 ∨ b = 2 ∨ b = 3 ∨ b = 4 ∨ b = 5 ∨ b = 6 ∨ b = 7) with rfl | rfl | rfl | rfl | rfl | rfl | rfl <;>
      first
        | exact absurd rfl hne
        | (unfold begB
           rw [Bool.and_eq_false_iff]
           right
           rw [decide_eq_false_iff_not]
           simp [wordL, W8L])
  have hf : ∀ b : Int, 1 ≤ b → b ≤ 7 → k ≠ b → begB (wordL k ++ [32] ++ r) (wordL b ++ [32]) = false := fun b hb1 hb2 hne => hn k b h1 h2 hb1 hb2 hne
  have f1 := hf 1 (by omega) (by omega)
  have f2 := hf 2 (by omega) (by omega)
  have f3 := hf 3 (by omega) (by omega)
  have f4 := hf 4 (by omega) (by omega)
  have f5 := hf 5 (by omega) (by omega)
  have f6 := hf 6 (by omega) (by omega)
  have c1 : ((1 : Nat) : Int) = 1 := rfl
  have c2 : ((1 + 1 : Nat) : Int) = 2 := rfl
  have c3 : ((1 + 1 + 1 : Nat) : Int) = 3 := rfl
  have c4 : ((1 + 1 + 1 + 1 : Nat) : Int) = 4 := rfl
  have c5 : ((1 + 1 + 1 + 1 + 1 : Nat) : Int) = 5 := rfl
  have c6 : ((1 + 1 + 1 + 1 + 1 + 1 : Nat) : Int) = 6 := rfl
  have c7 : ((1 + 1 + 1 + 1 + 1 + 1 + 1 : Nat) : Int) = 7 := rfl
  unfold readR
  simp only [readK, c1, c2, c3, c4, c5, c6, c7]
  rcases (by omega : k = 1 ∨ k = 2 ∨ k = 3 ∨ k = 4 ∨ k = 5 ∨ k = 6 ∨ k = 7) with rfl | rfl | rfl | rfl | rfl | rfl | rfl
  · rw [if_pos hb]; rfl
  · rw [if_neg (by rw [f1 (by omega)]; decide), if_pos hb]; rfl
  · rw [if_neg (by rw [f1 (by omega)]; decide), if_neg (by rw [f2 (by omega)]; decide), if_pos hb]; rfl
  · rw [if_neg (by rw [f1 (by omega)]; decide), if_neg (by rw [f2 (by omega)]; decide), if_neg (by rw [f3 (by omega)]; decide), if_pos hb]; rfl
  · rw [if_neg (by rw [f1 (by omega)]; decide), if_neg (by rw [f2 (by omega)]; decide), if_neg (by rw [f3 (by omega)]; decide), if_neg (by rw [f4 (by omega)]; decide), if_pos hb]; rfl
  · rw [if_neg (by rw [f1 (by omega)]; decide), if_neg (by rw [f2 (by omega)]; decide), if_neg (by rw [f3 (by omega)]; decide), if_neg (by rw [f4 (by omega)]; decide), if_neg (by rw [f5 (by omega)]; decide), if_pos hb]; rfl
  · rw [if_neg (by rw [f1 (by omega)]; decide), if_neg (by rw [f2 (by omega)]; decide), if_neg (by rw [f3 (by omega)]; decide), if_neg (by rw [f4 (by omega)]; decide), if_neg (by rw [f5 (by omega)]; decide), if_neg (by rw [f6 (by omega)]; decide), if_pos hb]; rfl
def endP (r : Bs) : Prop := r = [] ∨ ∃ l, r = 59 :: l
theorem endP.dig {r : Bs} (h : endP r) : r = [] ∨ ∃ c l, r = c :: l ∧ isD c = false := by
  rcases h with h | ⟨l, h⟩
  · exact .inl h
  · exact .inr ⟨59, l, h, by decide⟩
theorem read_flt {f : Flt} (h1 : 1 ≤ f.kind) (h2 : f.kind ≤ 7) (h3 : 0 ≤ f.at_) (h4 : 0 ≤ f.to) (h5 : f.to = 0 ∨ aimL f.kind = true) (hs : small f) {r : Bs} (hr : endP r) : readR (fltL f ++ r) = some (f, r) := by
  obtain ⟨a, k, t⟩ := f
  simp only at h1 h2 h3 h4 h5
  have hk : ((k.toNat : Nat) : Int) = k := by omega
  have hdrop : ∀ x : Bs, (wordL k ++ [32] ++ x).drop ((wordL k).length + 1) = x := fun x => by
    rw [show (wordL k).length + 1 = (wordL k ++ [(32 : UInt8)]).length by simp, List.drop_left]
  have hto : begB r to4L = false := by
    rcases hr with rfl | ⟨l, rfl⟩
    · exact begB_nil (by decide)
    · exact begB_head (w := to4L) (d := 32) (t := [116, 111, 32]) rfl rfl (by decide)
  cases ha : aimL k with
  | true =>
    have e : fltL ⟨a, k, t⟩ ++ r = wordL k ++ [32] ++ (Lib.itoa a ++ (to4L ++ (Lib.itoa t ++ r))) := by rw [fltL, if_pos ha]; simp only [List.append_assoc]
    rw [e, read_kind _ h1 h2]
    unfold readOne
    rw [hk, hdrop, numR_itoa h3 hs.1 (r := to4L ++ (Lib.itoa t ++ r)) (.inr ⟨32, _, rfl, by decide⟩)]
    simp only
    rw [if_pos (begB_app _ _), show (to4L ++ (Lib.itoa t ++ r)).drop 4 = Lib.itoa t ++ r from rfl, numR_itoa h4 hs.2 hr.dig]
  | false =>
    have e : fltL ⟨a, k, t⟩ ++ r = wordL k ++ [32] ++ (Lib.itoa a ++ r) := by rw [fltL, if_neg (by rw [ha]; decide)]; simp only [List.append_assoc]
    have ht : t = 0 := h5.resolve_right (by rw [ha]; decide)
    rw [e, read_kind _ h1 h2]
    unfold readOne
    rw [hk, hdrop, numR_itoa h3 hs.1 hr.dig]
    simp only
    rw [if_neg (by rw [hto]; decide), ht]
theorem flt_ne (f : Flt) : fltL f ≠ [] := by
  unfold fltL
  split <;> simp
theorem loop_back : ∀ (fs : List Flt) (n : Nat) (out : List Flt), (∀ f ∈ fs, 1 ≤ f.kind ∧ f.kind ≤ 7 ∧ 0 ≤ f.at_ ∧ 0 ≤ f.to ∧ (f.to = 0 ∨ aimL f.kind = true)) → (∀ f ∈ fs, small f) → (Lib.join (fs.map fltL) semiL).length < n → loopR n (Lib.join (fs.map fltL) semiL) out = some (out ++ fs)
  | [], n, out, _, _, hn => by
    obtain ⟨n, rfl⟩ : ∃ k, n = k + 1 := ⟨n - 1, by omega⟩
    rw [List.map_nil, Lib.join_nil, loopR, if_pos rfl, List.append_nil]
  | [f], n, out, hf, hs, hn => by
    obtain ⟨n, rfl⟩ : ∃ k, n = k + 1 := ⟨n - 1, by omega⟩
    obtain ⟨g1, g2, g3, g4, g5⟩ := hf f (List.mem_cons_self ..)
    have hl : (fltL f).length < n + 1 := by rw [List.map_cons, List.map_nil, Lib.join_one] at hn; exact hn
    have hp : 0 < (fltL f).length := List.length_pos_iff.2 (flt_ne f)
    obtain ⟨n, rfl⟩ : ∃ k, n = k + 1 := ⟨n - 1, by omega⟩
    have hr := read_flt g1 g2 g3 g4 g5 (hs f (List.mem_cons_self ..)) (r := []) (.inl rfl)
    rw [List.append_nil] at hr
    rw [List.map_cons, List.map_nil, Lib.join_one, loopR, if_neg (flt_ne f), hr]
    simp only
    rw [if_neg (by rw [begB_nil (by decide)]; decide), if_pos trivial, loopR, if_pos rfl]
  | f :: g :: fs, n, out, hf, hs, hn => by
    obtain ⟨n, rfl⟩ : ∃ k, n = k + 1 := ⟨n - 1, by omega⟩
    obtain ⟨g1, g2, g3, g4, g5⟩ := hf f (List.mem_cons_self ..)
    have e : Lib.join ((f :: g :: fs).map fltL) semiL = fltL f ++ (semiL ++ Lib.join ((g :: fs).map fltL) semiL) := by rw [List.map_cons, List.map_cons, join_cons2, List.append_assoc]
    rw [e] at hn ⊢
    have hr := read_flt g1 g2 g3 g4 g5 (hs f (List.mem_cons_self ..)) (r := semiL ++ Lib.join ((g :: fs).map fltL) semiL) (.inr ⟨_, rfl⟩)
    have ih := loop_back (g :: fs) n (out ++ [f]) (fun x hx => hf x (List.mem_cons_of_mem _ hx)) (fun x hx => hs x (List.mem_cons_of_mem _ hx)) (by
      rw [List.length_append, List.length_append] at hn
      show (Lib.join ((g :: fs).map fltL) semiL).length < n
      have : semiL.length = 2 := rfl
      omega)
    rw [loopR, if_neg (by intro h; exact flt_ne f (List.append_eq_nil_iff.1 h).1), hr]
    simp only
    rw [if_pos (begB_app _ _), show (semiL ++ Lib.join ((g :: fs).map fltL) semiL).drop 2 = Lib.join ((g :: fs).map fltL) semiL from rfl, ih, List.append_assoc]; rfl
theorem ref_back {fs : List Flt} (hv : validB fs = true) (hs : ∀ f ∈ fs, small f) : refP (textL fs) = some fs := by
  have e : textL fs = Lib.join (fs.map fltL) semiL := by rw [textL, if_pos hv]
  unfold refP
  rw [e, loop_back fs _ [] (valid_fit hv (by omega)) hs (by omega)]
  simp only [List.nil_append]
  rw [if_pos ⟨hv, e⟩]
theorem ref_text {t : Bs} {fs : List Flt} (h : refP t = some fs) : validB fs = true ∧ textL fs = t := by
  unfold refP at h
  split at h
  · cases h
  · split at h
    · rename_i hc
      injection h with h; subst h; exact hc
    · cases h
theorem small_num (w : Bs) : numV w ≤ 9223372036854775807 := by
  unfold numV
  split
  · rename_i z hz
    exact (Lib.atoiAll_bounds hz).2
  · exact (Lib.atoiSat_bounds w).2
  · omega
theorem small_part (p : Bs) : small (partF p) := by
  unfold partF
  split
  · exact ⟨small_num _, small_num _⟩
  · exact ⟨small_num _, by show (0 : Int) ≤ 9223372036854775807; omega⟩
theorem both {t : Bs} (hne : t ≠ []) : (goodP t = true → refP t = some (resP t)) ∧ (goodP t = false → ∀ fs, refP t = some fs → (∀ f ∈ fs, small f) → False) := by
  constructor
  · intro h
    have h2 := prog_text h
    have h3 := h
    rw [goodP, Bool.and_eq_true] at h3
    have := ref_back h3.2 (fs := resP t) (fun f hf => by
      obtain ⟨p, _, rfl⟩ := List.mem_map.1 hf
      exact small_part p)
    rwa [h2] at this
  · intro h fs hfs hs
    obtain ⟨h1, h2⟩ := ref_text hfs
    have hf : fs ≠ [] := by
      rintro rfl
      rw [textL, if_pos h1] at h2
      exact hne h2.symm
    have := (prog_back h1 hs hf).1
    rw [h2, h] at this
    cases this
end Go.Am.C13
namespace Go.Am.C13
open Go Go.Am Go.Am.V
variable {E : Nat → Option AFn} {Y : Nat → List Value → FM → Nat → OR FM}
theorem add_str {P : Program} (t : Nat) {a b : ByteArray} (h : a.size + b.size ≤ 9223372036854775807) : binV P .add t (.string a) (.string b) = some (.string (a ++ b)) := by
  show flatO (pureRun P (if ((a.size + b.size : Nat) : Int) > IntKind.i64.max then _ else pure (.string (a ++ b)))) = _
  have hm : IntKind.i64.max = 9223372036854775807 := by kernel_rfl
  rw [if_neg (by rw [hm]; omega)]
  rfl
def W8 : List ByteArray := [⟨#[]⟩, ⟨#[100, 114, 111, 112]⟩, ⟨#[116, 101, 97, 114]⟩, ⟨#[115, 116, 114, 97, 121]⟩, ⟨#[102, 97, 105, 108]⟩, ⟨#[111, 116, 104, 101, 114]⟩, ⟨#[115, 108, 111, 119]⟩, ⟨#[100, 105, 101]⟩]
theorem words_spec (hE : E 22 = some ac22) (m : FM) (n : Nat) : Pure (callW PG E Y 22 [] m n) m n (.agg (W8.map Value.string).toArray) := by
  refine pure_spec hE rfl rfl ?_
  simp only [ac22]
  simp (implicitDefEqProofs := false) (disch := omega) only [WPs, opds, List.all_cons, List.all_nil, List.cons_append, List.nil_append, cond_true, cond_false, eq_self, List.map_cons, List.map_nil, Nat.reduceAdd, Nat.testBit, Nat.reduceShiftRight, Nat.reduceAnd, Nat.reduceBNe, Nat.reduceMul]
  rfl
def wordB (k : Int) : ByteArray := W8.getD k.toNat ⟨#[]⟩
def itoaB (n : Int) : ByteArray := ⟨(Lib.itoa n).toArray⟩
def aimP (k : Int) : Prop := k = 3 ∨ k = 5
def fltT (f : Flt) : ByteArray := if aimsB f.kind = true then wordB f.kind ++ ⟨#[32]⟩ ++ itoaB f.at_ ++ (⟨#[32, 116, 111, 32]⟩ ++ itoaB f.to) else wordB f.kind ++ ⟨#[32]⟩ ++ itoaB f.at_
structure LibY (E : Nat → Option AFn) (Y : Nat → List Value → FM → Nat → OR FM) : Prop where
  itoa : ∀ (m : FM) (n : Nat) (z : Int), -9223372036854775808 ≤ z → z ≤ 9223372036854775807 → Pure (callW PG E Y 23 [.int .i64 z] m n) m n (.string (itoaB z))
  cut : ∀ (m : FM) (n : Nat) (s sep : ByteArray), s.size < 4294967281 → ∃ r, callW PG E Y 27 [.string s, .string sep] m n = .ok (.tuple #[.string ⟨(Lib.cut s.data.toList sep.data.toList).1.toArray⟩, .string ⟨(Lib.cut s.data.toList sep.data.toList).2.1.toArray⟩, .bool (Lib.cut s.data.toList sep.data.toList).2.2]) m n r 0
  atoi : ∀ (m : FM) (n : Nat) (s : ByteArray), s.size < 4294967281 → ∃ r, callW PG E Y 29 [.string s] m n = .ok (atoiR s.data.toList) m n r 0
  split : ∀ (m : FM) (n : Nat) (s sep : ByteArray), s.size < 4294967281 → 1 ≤ sep.size → Lib.countB s sep < 4294967281 → ∃ r, callW PG E Y 30 [.string s, .string sep] m n = .ok (.slice (some ⟨n, 0, none⟩) (Lib.countB s sep + 1) (Lib.countB s sep + 1)) (AMem.put m n (some (.cells ((splitL s sep).map Value.string) 1 false true))) (n + 1) r (bit n)
  join0 : ∀ (m : FM) (n : Nat) (sep : ByteArray), Pure (callW PG E Y 24 [.slice none 0 0, .string sep] m n) m n (.string ⟨#[]⟩)
  join : ∀ (m : FM) (n b c : Nat) (opn wr : Bool) (xs : List ByteArray) (sep : ByteArray), b < n → m b = some (.cells (xs.map Value.string) 1 opn wr) → 0 < xs.length → xs.length < 140737488355328 → (joinS xs sep).size ≤ 140737488355328 → Pure (callW PG E Y 24 [.slice (some ⟨b, 0, none⟩) xs.length c, .string sep] m n) m n (.string (joinS xs sep))
def StrZ (M : FM) (n0 N : Nat) (v : Value) (l : List ByteArray) : Prop := SlZ 1 M n0 N v l.length (l.map Value.string)
theorem StrZ.nil (M : FM) (n0 N : Nat) : StrZ M n0 N (.slice none 0 0) [] := .inl ⟨rfl, rfl, rfl⟩
theorem app_strZ {M : FM} {n0 N : Nat} {v : Value} {l : List ByteArray} (h : StrZ M n0 N v l) (s : ByteArray) (ya : Option Addr) (yc ry : Nat) (h0 : n0 ≤ N) (hl : l.length ≤ 1048576) :
    Rt (appO 1 16 M N v (.slice ya 1 yc) (shown M N 1 v) (some ([.string s], ry))) fun v' M' N' w => N' = N + 1 ∧ StrZ M' n0 N' v' (l ++ [s]) ∧ (∀ b, b < n0 → M' b = M b) ∧ ∀ j, j ≤ n0 → Nat.mod w (bit j) = 0 :=
  (app_slZ h ya yc ry h0 (by omega) (zs := [.string s]) rfl rfl (by omega) (by omega)).mono fun v' M' N' w h => ⟨h.n, by
    have := h.s
    rw [StrZ, List.length_append, List.length_singleton, List.map_append]; exact this, h.low, h.w⟩
theorem word_at {k : Int} (h1 : 1 ≤ k) (h2 : k ≤ 7) : purV PG (.ind 8) [.agg (W8.map Value.string).toArray, .int .i64 k] = some (.string (wordB k)) ∧ (wordB k).size ≤ 5 := by
  rcases (by omega : k = 1 ∨ k = 2 ∨ k = 3 ∨ k = 4 ∨ k = 5 ∨ k = 6 ∨ k = 7) with rfl | rfl | rfl | rfl | rfl | rfl | rfl <;> exact ⟨rfl, by decide⟩
theorem size_app (a b : ByteArray) : (a ++ b).size = a.size + b.size := ByteArray.size_append
theorem itoa_size {z : Int} (h0 : -9223372036854775808 ≤ z) (h1 : z ≤ 9223372036854775807) : (itoaB z).size ≤ 21 := by
  have := Lib.itoa_length_le z h0 h1
  simpa [itoaB, ByteArray.size] using this
theorem w8_below (k : Nat) : (List.map Value.string W8).all (belowF k) = true := rfl
theorem text_L0 (L : LibY E Y) (hW : E 22 = some ac22) (hA : E 21 = some ac21) {m : FM} {n : Nat} {lv : Value} {fs : List Flt} (h : FlS m n lv fs) (hs : fs.length ≤ 1048576) (hfit : ∀ f ∈ fs, 1 ≤ f.kind ∧ f.kind ≤ 7 ∧ 0 ≤ f.at_ ∧ f.at_ ≤ 9223372036854775807 ∧ 0 ≤ f.to ∧ f.to ≤ 9223372036854775807) (x4 x5 x6 : Value) {Q : AX → List Value → FM → Nat → Nat → Prop}
    (hQ : ∀ pv x2 M N' w, n ≤ N' → (∀ b, b < n → M b = m b) → (∀ j, j ≤ n → Nat.mod w (bit j) = 0) → StrZ M n N' pv (fs.map fltT) → Q (.exit 0) [pv, x2, .int .i64 (fs.length : Int), x4, x5, x6, lv] M N' w) :
    ∀ d j, j + d = fs.length → ∀ (M : FM) (N' w0 : Nat) (pv x2 : Value), n ≤ N' → (∀ b, b < n → M b = m b) → (∀ j, j ≤ n → Nat.mod w0 (bit j) = 0) → StrZ M n N' pv ((fs.take j).map fltT) →
    Gv (execW PG E Y ac12L0 [pv, .int .i64 (j : Int), x2, .int .i64 (fs.length : Int), x4, x5, x6, lv] M N') fun X e m n w => Q X e m n (Nat.lor w0 w) := by
  intro d
  induction d with
  | zero =>
    intro j hj M N' w0 pv x2 hN hM hw hZ
    obtain rfl : j = fs.length := by omega
    rw [List.take_length] at hZ
    refine wr_loopN (L := ac12L0) (b := ac12L0b) rfl ?_
    simp only [ac12L0b]
    simp (implicitDefEqProofs := false) (disch := omega) only [WPs, opds, List.all_cons, List.all_nil, List.cons_append, List.nil_append, cond_true, cond_false, eq_self, List.map_cons, List.map_nil, Nat.reduceAdd, Nat.testBit, Nat.reduceShiftRight, Nat.reduceAnd, Nat.reduceBNe, Nat.reduceMul]
    exact hQ _ _ _ _ _ hN hM hw hZ
  | succ d ih =>
    intro j hj M N' w0 pv x2 hN hM hw hZ
    have hjl : j < fs.length := by omega
    obtain ⟨b, o, cells, opn, wr, i1, i2, i3, i4⟩ := (h.frame hN hM).at hjl
    have ih' := ih (j + 1) (by omega)
    rw [List.take_add_one, List.getElem?_eq_getElem hjl, Option.toList_some, List.map_append] at ih'
    have hf := hfit fs[j] (List.getElem_mem hjl)
    generalize fs[j] = f at i4 ih' hf
    obtain ⟨k1, k2, k3, k4, k5, k6⟩ := hf
    obtain ⟨hwd, hws⟩ := word_at k1 k2
    have hi1 := itoa_size (z := f.at_) (by omega) k4
    have hi2 := itoa_size (z := f.to) (by omega) k6
    generalize hM0 : (AMem.put M N' (some (.cells f.cells 0 false true)) : FM) = M0
    have hM0b' : ∀ b, b < N' → M0 b = M b := fun b hb => by rw [← hM0, fput_ne _ _ _ _ (by omega)]
    have hM0b : ∀ b, b < n → M0 b = m b := fun b hb => by rw [hM0b' b (by omega)]; exact hM b hb
    have hbx : M0 N' = some (.cells f.cells 0 false true) := by rw [← hM0]; exact fput_same _ _ _
    have hZ1 : ∀ B, StrZ (AMem.put M0 (N' + 1) B) n (N' + 1 + 1) pv ((fs.take j).map fltT) := fun B => SlZ.frame hZ (by omega) fun b _ hb => by rw [fput_ne _ _ _ _ (by omega)]; exact hM0b' b hb
    simp only [Flt.cells] at i4 hM0 hbx
    have s1 : (⟨#[32]⟩ : ByteArray).size = 1 := rfl
    have s4 : (⟨#[32, 116, 111, 32]⟩ : ByteArray).size = 4 := rfl
    have a1 := add_str (P := PG) 9 (a := wordB f.kind) (b := ⟨#[32]⟩) (by omega)
    have a2 := add_str (P := PG) 9 (a := wordB f.kind ++ ⟨#[32]⟩) (b := itoaB f.at_) (by rw [size_app]; omega)
    refine wr_loopN (L := ac12L0) (b := ac12L0b) rfl ?_
    simp only [ac12L0b]
    simp (implicitDefEqProofs := false) (disch := omega) only [WPs, opds, List.all_cons, List.all_nil, List.cons_append, List.nil_append, cond_true, cond_false, eq_self, List.map_cons, List.map_nil, Nat.reduceAdd, Nat.testBit, Nat.reduceShiftRight, Nat.reduceAnd, Nat.reduceBNe, Nat.reduceMul, i1, i3, i4, hM0, hbx]
    refine use_pureX (words_spec hW _ _) fun _ => ?_
    have hb8 := w8_below (N' + 1)
    simp (implicitDefEqProofs := false) (disch := omega) only [WPs, opds, List.all_cons, List.all_nil, List.cons_append, List.nil_append, cond_true, cond_false, eq_self, List.map_cons, List.map_nil, Nat.reduceAdd, Nat.testBit, Nat.reduceShiftRight, Nat.reduceAnd, Nat.reduceBNe, Nat.reduceMul, hbx, hwd, a1, t_pur, hb8]
    refine use_pureX (L.itoa _ _ f.at_ (by omega) k4) fun _ => ?_
    simp (implicitDefEqProofs := false) (disch := omega) only [WPs, opds, List.all_cons, List.all_nil, List.cons_append, List.nil_append, cond_true, cond_false, eq_self, List.map_cons, List.map_nil, Nat.reduceAdd, Nat.testBit, Nat.reduceShiftRight, Nat.reduceAnd, Nat.reduceBNe, Nat.reduceMul, a2, hbx]
    refine use_pure (aims_spec hA _ _ _) fun _ => ?_
    cases hai : aimsB f.kind with
    | true =>
      have hT : fltT f = wordB f.kind ++ ⟨#[32]⟩ ++ itoaB f.at_ ++ (⟨#[32, 116, 111, 32]⟩ ++ itoaB f.to) := by rw [fltT, if_pos hai]
      have a3 := add_str (P := PG) 9 (a := ⟨#[32, 116, 111, 32]⟩) (b := itoaB f.to) (by omega)
      have a4 := add_str (P := PG) 9 (a := wordB f.kind ++ ⟨#[32]⟩ ++ itoaB f.at_) (b := ⟨#[32, 116, 111, 32]⟩ ++ itoaB f.to) (by simp only [size_app]; omega)
      simp (implicitDefEqProofs := false) (disch := omega) only [WPs, opds, List.all_cons, List.all_nil, List.cons_append, List.nil_append, cond_true, cond_false, eq_self, List.map_cons, List.map_nil, Nat.reduceAdd, Nat.testBit, Nat.reduceShiftRight, Nat.reduceAnd, Nat.reduceBNe, Nat.reduceMul, hbx]
      refine use_pure (L.itoa _ _ f.to (by omega) k6) fun _ => ?_
      simp (implicitDefEqProofs := false) (disch := omega) only [WPs, opds, List.all_cons, List.all_nil, List.cons_append, List.nil_append, cond_true, cond_false, eq_self, List.map_cons, List.map_nil, Nat.reduceAdd, Nat.testBit, Nat.reduceShiftRight, Nat.reduceAnd, Nat.reduceBNe, Nat.reduceMul, a3, a4]
      rw [← hT]
      refine use_rt (app_strZ (hZ1 _) (fltT f) _ _ _ (by omega) (by rw [List.length_map, List.length_take]; omega)) fun v2 M2 N2 r2 w2 ⟨q1, q2, q3, q4⟩ => ?_
      subst q1
      simp (implicitDefEqProofs := false) (disch := omega) only [WPs, opds, List.all_cons, List.all_nil, List.cons_append, List.nil_append, cond_true, cond_false, eq_self, List.map_cons, List.map_nil, Nat.reduceAdd, Nat.testBit, Nat.reduceShiftRight, Nat.reduceAnd, Nat.reduceBNe, Nat.reduceMul]
      refine wr_end (ih' M2 (N' + 3) (Nat.lor w0 (Nat.lor (Nat.lor (bit N') (bit N')) (Nat.lor (bit (N' + 1)) w2))) v2 _ (by omega) (fun b hb => by rw [q3 b hb, fput_ne _ _ _ _ (by omega), hM0b b hb]) (fun i hi => by simp only [frz_iff]; exact ⟨hw i hi, ⟨frz_bit (by omega), frz_bit (by omega)⟩, frz_bit (by omega), q4 i hi⟩) q2) fun X e m n w hq => ?_
      rw [← lor_assoc']; exact hq
    | false =>
      have hT : fltT f = wordB f.kind ++ ⟨#[32]⟩ ++ itoaB f.at_ := by rw [fltT, if_neg (by rw [hai]; decide)]
      simp (implicitDefEqProofs := false) (disch := omega) only [WPs, opds, List.all_cons, List.all_nil, List.cons_append, List.nil_append, cond_true, cond_false, eq_self, List.map_cons, List.map_nil, Nat.reduceAdd, Nat.testBit, Nat.reduceShiftRight, Nat.reduceAnd, Nat.reduceBNe, Nat.reduceMul]
      rw [← hT]
      refine use_rt (app_strZ (hZ1 _) (fltT f) _ _ _ (by omega) (by rw [List.length_map, List.length_take]; omega)) fun v2 M2 N2 r2 w2 ⟨q1, q2, q3, q4⟩ => ?_
      subst q1
      simp (implicitDefEqProofs := false) (disch := omega) only [WPs, opds, List.all_cons, List.all_nil, List.cons_append, List.nil_append, cond_true, cond_false, eq_self, List.map_cons, List.map_nil, Nat.reduceAdd, Nat.testBit, Nat.reduceShiftRight, Nat.reduceAnd, Nat.reduceBNe, Nat.reduceMul]
      refine wr_end (ih' M2 (N' + 3) (Nat.lor w0 (Nat.lor (Nat.lor (bit N') (bit N')) (Nat.lor (bit (N' + 1)) w2))) v2 _ (by omega) (fun b hb => by rw [q3 b hb, fput_ne _ _ _ _ (by omega), hM0b b hb]) (fun i hi => by simp only [frz_iff]; exact ⟨hw i hi, ⟨frz_bit (by omega), frz_bit (by omega)⟩, frz_bit (by omega), q4 i hi⟩) q2) fun X e m n w hq => ?_
      rw [← lor_assoc']; exact hq
def semi : ByteArray := ⟨#[59, 32]⟩
def textB (fs : List Flt) : ByteArray := if validB fs = true then joinS (fs.map fltT) semi else ⟨#[]⟩
theorem join_len (sep : List UInt8) (B : Nat) : ∀ xs : List (List UInt8), (∀ x ∈ xs, x.length ≤ B) → (Lib.join xs sep).length ≤ xs.length * (B + sep.length)
  | [], _ => Nat.zero_le _
  | x :: r, h => by
    rw [Lib.join_cons, List.length_append]
    have h1 := h x (List.mem_cons_self ..)
    have h2 : ∀ r : List (List UInt8), (∀ x ∈ r, x.length ≤ B) → (Lib.joinTail sep r).length ≤ r.length * (B + sep.length) := fun r => by
      induction r with
      | nil => exact fun _ => Nat.zero_le _
      | cons y r ih =>
        intro hr
        have h3 := ih fun x hx => hr x (List.mem_cons_of_mem _ hx)
        have h4 := hr y (List.mem_cons_self ..)
        have e : Lib.joinTail sep (y :: r) = (sep ++ y) ++ Lib.joinTail sep r := by simp [Lib.joinTail]
        rw [e, List.length_append, List.length_append, List.length_cons, Nat.add_mul, Nat.one_mul]
        omega
    have h5 := h2 r fun x hx => h x (List.mem_cons_of_mem _ hx)
    rw [List.length_cons, Nat.add_mul, Nat.one_mul]
    omega
theorem flt_fit {fs : List Flt} (hv : validB fs = true) (hi : ∀ f ∈ fs, f.at_ ≤ 9223372036854775807 ∧ f.to ≤ 9223372036854775807) : ∀ f ∈ fs, 1 ≤ f.kind ∧ f.kind ≤ 7 ∧ 0 ≤ f.at_ ∧ f.at_ ≤ 9223372036854775807 ∧ 0 ≤ f.to ∧ f.to ≤ 9223372036854775807 := by
  have key : ∀ (l : List Flt) (p : Int), okFs p l = true → ∀ f ∈ l, 1 ≤ f.kind ∧ f.kind ≤ 7 ∧ 0 ≤ f.to := fun l => by
    induction l with
    | nil => exact fun _ _ f hf => by cases hf
    | cons x l ih =>
      intro p h f hf
      simp only [okFs, Bool.and_eq_true] at h
      rcases List.mem_cons.1 hf with rfl | hf
      · obtain ⟨_, h2, h3, h4, _⟩ := okF_iff.1 h.1
        exact ⟨h2, h3, h4⟩
      · exact ih _ h.2 f hf
  intro f hf
  obtain ⟨h1, h2, h3⟩ := key fs (-1) hv f hf
  have h4 := okFs_lt hv f hf
  exact ⟨h1, h2, by omega, (hi f hf).1, h3, (hi f hf).2⟩
theorem fltT_size {f : Flt} (h : 1 ≤ f.kind ∧ f.kind ≤ 7 ∧ 0 ≤ f.at_ ∧ f.at_ ≤ 9223372036854775807 ∧ 0 ≤ f.to ∧ f.to ≤ 9223372036854775807) : (fltT f).size ≤ 52 := by
  obtain ⟨k1, k2, k3, k4, k5, k6⟩ := h
  have h1 := (word_at k1 k2).2
  have h2 := itoa_size (z := f.at_) (by omega) k4
  have h3 := itoa_size (z := f.to) (by omega) k6
  have s1 : (⟨#[32]⟩ : ByteArray).size = 1 := rfl
  have s4 : (⟨#[32, 116, 111, 32]⟩ : ByteArray).size = 4 := rfl
  rw [fltT]
  split <;> (simp only [size_app]; omega)
theorem text_spec (L : LibY E Y) (hE : E 12 = some ac12) (hV : E 10 = some ac10) (hW : E 22 = some ac22) (hA : E 21 = some ac21) (m : FM) (n : Nat) (lv : Value) (fs : List Flt) (h : FlS m n lv fs) (hs : fs.length ≤ 1048576) (hi : ∀ f ∈ fs, f.at_ ≤ 9223372036854775807 ∧ f.to ≤ 9223372036854775807) : Pure (callW PG E Y 12 [lv] m n) m n (.string (textB fs)) := by
  refine pure_spec hE rfl rfl ?_
  simp only [ac12]
  simp (implicitDefEqProofs := false) (disch := omega) only [WPs, opds, List.all_cons, List.all_nil, List.cons_append, List.nil_append, cond_true, cond_false, eq_self, List.map_cons, List.map_nil, Nat.reduceAdd, Nat.testBit, Nat.reduceShiftRight, Nat.reduceAnd, Nat.reduceBNe, Nat.reduceMul]
  refine use_pure (valid_spec hV hA m n lv fs h (by omega)) fun _ => ?_
  cases hv : validB fs with
  | false =>
    rw [show textB fs = ⟨#[]⟩ by rw [textB, if_neg (by rw [hv]; decide)]]
    simp (implicitDefEqProofs := false) (disch := omega) only [WPs, opds, List.all_cons, List.all_nil, List.cons_append, List.nil_append, cond_true, cond_false, eq_self, List.map_cons, List.map_nil, Nat.reduceAdd, Nat.testBit, Nat.reduceShiftRight, Nat.reduceAnd, Nat.reduceBNe, Nat.reduceMul]
  | true =>
    have hfit := flt_fit hv hi
    rw [show textB fs = joinS (fs.map fltT) semi by rw [textB, if_pos hv]]
    simp (implicitDefEqProofs := false) (disch := omega) only [WPs, opds, List.all_cons, List.all_nil, List.cons_append, List.nil_append, cond_true, cond_false, eq_self, List.map_cons, List.map_nil, Nat.reduceAdd, Nat.testBit, Nat.reduceShiftRight, Nat.reduceAnd, Nat.reduceBNe, Nat.reduceMul, h.len]
    refine wr_kont (text_L0 L hW hA h hs hfit _ _ _ (fun pv x2 M N' w hN hM hw hZ rr => ?_) fs.length 0 (by omega) m n 0 _ _ (Nat.le_refl _) (fun _ _ => rfl) (fun _ _ => Nat.zero_mod _) (StrZ.nil _ _ _))
    have fz := hw n (Nat.le_refl _)
    rcases hZ with ⟨h1, _, rfl⟩ | ⟨hp, _, b, rfl, _, hb, hbm⟩
    · have hfs : fs = [] := by
        rw [List.length_map] at h1
        exact List.length_eq_zero_iff.1 h1
      subst hfs
      simp (implicitDefEqProofs := false) (disch := omega) only [WPs, opds, List.all_cons, List.all_nil, List.cons_append, List.nil_append, cond_true, cond_false, eq_self, List.map_cons, List.map_nil, Nat.reduceAdd, Nat.testBit, Nat.reduceShiftRight, Nat.reduceAnd, Nat.reduceBNe, Nat.reduceMul]
      refine use_pure (L.join0 _ _ _) fun _ => ?_
      simp (implicitDefEqProofs := false) (disch := omega) only [WPs, opds, List.all_cons, List.all_nil, List.cons_append, List.nil_append, cond_true, cond_false, eq_self, List.map_cons, List.map_nil, Nat.reduceAdd, Nat.testBit, Nat.reduceShiftRight, Nat.reduceAnd, Nat.reduceBNe, Nat.reduceMul, fz]
      rfl
    · simp (implicitDefEqProofs := false) (disch := omega) only [WPs, opds, List.all_cons, List.all_nil, List.cons_append, List.nil_append, cond_true, cond_false, eq_self, List.map_cons, List.map_nil, Nat.reduceAdd, Nat.testBit, Nat.reduceShiftRight, Nat.reduceAnd, Nat.reduceBNe, Nat.reduceMul]
      refine use_pure (L.join M N' b UNK true true (fs.map fltT) ⟨#[59, 32]⟩ hb hbm hp (by rw [List.length_map]; omega) (by
        have hj := join_len semi.data.toList 52 ((fs.map fltT).map (·.data.toList)) (fun x hx => by
          rw [List.map_map] at hx
          obtain ⟨f, hf, rfl⟩ := List.mem_map.1 hx
          exact fltT_size (hfit f hf))
        rw [List.length_map, List.length_map] at hj
        have e : (joinS (fs.map fltT) ⟨#[59, 32]⟩).size = (Lib.join ((fs.map fltT).map (·.data.toList)) semi.data.toList).length := by simp [joinS, ByteArray.size, semi]
        have s2 : semi.data.toList.length = 2 := rfl
        rw [s2] at hj
        omega)) fun _ => ?_
      simp (implicitDefEqProofs := false) (disch := omega) only [WPs, opds, List.all_cons, List.all_nil, List.cons_append, List.nil_append, cond_true, cond_false, eq_self, List.map_cons, List.map_nil, Nat.reduceAdd, Nat.testBit, Nat.reduceShiftRight, Nat.reduceAnd, Nat.reduceBNe, Nat.reduceMul, fz]
      rfl
theorem word_list (k : Int) : (wordB k).data.toList = wordL k := by
  unfold wordB wordL
  rcases Nat.lt_or_ge k.toNat 8 with h | h
  · generalize k.toNat = j at h
    rcases (by omega : j = 0 ∨ j = 1 ∨ j = 2 ∨ j = 3 ∨ j = 4 ∨ j = 5 ∨ j = 6 ∨ j = 7) with rfl | rfl | rfl | rfl | rfl | rfl | rfl | rfl <;> rfl
  · rw [List.getD_eq_getElem?_getD, List.getD_eq_getElem?_getD, List.getElem?_eq_none (by exact h), List.getElem?_eq_none (by exact h)]; rfl
theorem app_list (a b : ByteArray) : (a ++ b).data.toList = a.data.toList ++ b.data.toList := by rw [ByteArray.data_append, Array.toList_append]
theorem itoa_list (z : Int) : (itoaB z).data.toList = Lib.itoa z := rfl
theorem fltT_list (f : Flt) : (fltT f).data.toList = fltL f := by
  unfold fltT fltL
  show (if aimL f.kind = true then _ else _ : ByteArray).data.toList = _
  split <;> simp only [app_list, word_list, itoa_list] <;> first | rfl | simp [to4L]
theorem textB_list (fs : List Flt) : (textB fs).data.toList = textL fs := by
  unfold textB textL
  split
  · show Lib.join ((fs.map fltT).map (·.data.toList)) semi.data.toList = _
    rw [List.map_map]
    congr 1
    exact List.map_congr_left fun f _ => fltT_list f
  · rfl
end Go.Am.C13
