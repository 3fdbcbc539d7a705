/- The codes of the functions of chapter 21 for the abstract machine; each is checked against the program. -/
import Derived.Test.YtaohgpgbphlblaaAmTree
import Derived.Test.YtaohgpgbphlblaaProg
set_option linter.unusedVariables false
set_option linter.unusedSimpArgs false
set_option linter.unusedSectionVars false
set_option maxRecDepth 1000000
namespace Go.Am.C21
open Go Go.Am
/-- gosem.cut.init -/
def ac2 : AFn := ⟨0, [],
 (.post (.reg [.op (.call 1 [])]) [] 1)⟩

/-- tegula/tegulalaw21.LayoutHome -/
def ac3 : AFn := ⟨3, [],
 (.seq (.reg [.op (.mov (.c (.bool false)))])
 (.seq (.seq (.post (.reg [.op (.call 13 []),
  .op (.una .not (.v 0))]) [0] 2)
 (.cond (.v 0) (.seq (.reg [.op (.mov (.c (.bool false)))])
 (.ret [.v 0]))
 .skip))
 (.seq (.post (.reg [.nop 2,
  .op (.call 14 [(.v 2)]),
  .op (.new [(.int .i64 0), (.slice none 0 0), (.int .i64 0), (.int .i64 0)]),
  .eff (.st 4 (.v 0) (.v 1))]) [0] 2)
 (.seq (.post (.reg [.op (.ldn 4 (.v 0)),
  .nop 5,
  .nop 6,
  .op (.call 15 [(.v 0), (.v 5), (.v 6)]),
  .nop 0,
  .op (.extr 0 (.v 0)),
  .op (.extr 1 (.v 1)),
  .op (.new [(.int .i64 0), (.int .i64 0)]),
  .eff (.st 2 (.v 0) (.v 2)),
  .nop 1]) [0, 1] 5)
 (.seq (.seq (.post (.reg [.op (.ldn 4 (.v 2)),
  .nop 7,
  .nop 8,
  .op (.call 16 [(.v 0), (.v 7), (.v 8)]),
  .op (.una .not (.v 0))]) [0] 3)
 (.cond (.v 0) (.seq (.post (.reg [.nop 2,
  .op (.bin .eql 32 (.v 2) (.c (.int .i64 2))),
  .nop 0,
  .opg (.ldn 2 (.v 2)) 0 true,
  .opg (.build [(.int .i64 0), (.int .i64 0)] []) 1 true,
  .opg (.bin .eql 31 (.v 1) (.v 0)) 2 true,
  .op (.pick (.v 3) (.v 0) (.c (.bool false))),
  .nop 0]) [0] 5)
 (.ret [.v 0]))
 .skip))
 (.seq (.post (.regD [.nop 2,
  .op (.bin .eql 32 (.v 2) (.c (.int .i64 0))),
  .nop 0,
  .opg (.ldn 2 (.v 2)) 0 true,
  .opg (.ldn 4 (.v 5)) 1 true,
  .opg (.mov (.v 10)) 2 true,
  .opg (.mov (.v 12)) 3 true,
  .opg (.call 17 [(.v 2), (.v 1), (.v 0)]) 4 true,
  .opg (.bin .eql 31 (.v 4) (.v 0)) 5 true,
  .op (.pick (.v 6) (.v 0) (.c (.bool false))),
  .nop 0] [0, 1, 3, 7, 7, 7, 7, 119, 255, 511, 1023]) [0] 8)
 (.ret [.v 0])))))))⟩

/-- tegula/tegulalaw21.LayoutAt -/
def ac4 : AFn := ⟨2, [],
 (.seq (.reg [.op (.box (.v 1)),
  .op (.mov (.c (.bool false)))])
 (.seq (.seq (.post (.reg [.op (.call 13 []),
  .op (.una .not (.v 0))]) [0] 2)
 (.cond (.v 0) (.seq (.reg [.op (.mov (.c (.bool false)))])
 (.ret [.v 0]))
 .skip))
 (.seq (.post (.reg [.nop 3,
  .op (.call 14 [(.v 3)]),
  .op (.new [(.int .i64 0), (.slice none 0 0), (.int .i64 0), (.int .i64 0)]),
  .eff (.st 4 (.v 0) (.v 1))]) [0] 2)
 (.seq (.post (.reg [.op (.ldn 4 (.v 0)),
  .op (.ldn 2 (.v 4)),
  .op (.call 18 [(.v 1), (.v 0)]),
  .nop 0,
  .op (.extr 0 (.v 0)),
  .op (.extr 1 (.v 1)),
  .op (.extr 2 (.v 2)),
  .nop 2,
  .nop 1,
  .nop 0]) [0, 1, 2] 6)
 (.seq (.seq (.post (.regD [.op (.fld 0 (.v 6)),
  .op (.ld1 (.v 0)),
  .op (.bin .lss 3 (.v 0) (.c (.int .i64 0))),
  .nop 0,
  .opg (.fld 0 (.v 9)) 0 false,
  .opg (.ld1 (.v 0)) 1 false,
  .opg (.fld 0 (.v 8)) 2 false,
  .opg (.fld 0 (.v 0)) 3 false,
  .opg (.ld1 (.v 0)) 4 false,
  .opg (.bin .geq 3 (.v 3) (.v 0)) 5 false,
  .op (.pick (.v 6) (.c (.bool true)) (.v 0)),
  .nop 0,
  .opg (.fld 1 (.v 16)) 0 false,
  .opg (.ld1 (.v 0)) 1 false,
  .opg (.bin .lss 3 (.v 0) (.c (.int .i64 0))) 2 false,
  .op (.pick (.v 3) (.c (.bool true)) (.v 0)),
  .nop 0,
  .opg (.fld 1 (.v 20)) 0 false,
  .opg (.ld1 (.v 0)) 1 false,
  .opg (.ldn 4 (.v 19)) 2 false,
  .opg (.call 19 [(.v 0)]) 3 false,
  .opg (.bin .geq 3 (.v 2) (.v 0)) 4 false,
  .op (.pick (.v 5) (.c (.bool true)) (.v 0))] [0, 1, 3, 7, 15, 31, 15, 79, 207, 511, 1023, 2047, 4095, 8191, 16383, 32767, 65535, 131071, 262143, 131071, 655359, 2097151, 4194303]) [0] 20)
 (.cond (.v 0) (.seq (.post (.reg [.nop 1,
  .op (.bin .eql 32 (.v 1) (.c (.int .i64 2))),
  .nop 0,
  .opg (.mov (.v 4)) 0 true,
  .opg (.bin .eql 3 (.v 0) (.c (.int .i64 0))) 1 true,
  .op (.pick (.v 2) (.v 0) (.c (.bool false))),
  .nop 0,
  .opg (.mov (.v 6)) 0 true,
  .opg (.bin .eql 3 (.v 0) (.c (.int .i64 0))) 1 true,
  .op (.pick (.v 2) (.v 0) (.c (.bool false))),
  .nop 0]) [0] 7)
 (.ret [.v 0]))
 .skip))
 (.seq (.post (.reg [.op (.ldn 4 (.v 4)),
  .op (.ldn 2 (.v 8)),
  .op (.call 20 [(.v 1), (.v 0)]),
  .nop 0,
  .op (.extr 0 (.v 0)),
  .op (.extr 1 (.v 1)),
  .op (.extr 2 (.v 2)),
  .nop 2,
  .nop 1,
  .nop 0]) [0, 1, 2] 6)
 (.seq (.seq (.reg [.nop 0,
  .op (.una .not (.v 0))])
 (.cond (.v 0) (.seq (.post (.regD [.nop 5,
  .op (.bin .eql 32 (.v 5) (.c (.int .i64 9))),
  .nop 0,
  .opg (.mov (.v 8)) 0 true,
  .opg (.bin .eql 3 (.v 0) (.c (.int .i64 0))) 1 true,
  .op (.pick (.v 2) (.v 0) (.c (.bool false))),
  .nop 0,
  .opg (.mov (.v 10)) 0 true,
  .opg (.bin .eql 3 (.v 0) (.c (.int .i64 0))) 1 true,
  .op (.pick (.v 2) (.v 0) (.c (.bool false))),
  .nop 0,
  .opg (.fld 1 (.v 18)) 0 true,
  .opg (.ld1 (.v 0)) 1 true,
  .opg (.ldn 4 (.v 17)) 2 true,
  .opg (.call 21 [(.v 0)]) 3 true,
  .opg (.bin .geq 3 (.v 2) (.v 0)) 4 true,
  .op (.pick (.v 5) (.v 0) (.c (.bool false))),
  .nop 0] [0, 1, 3, 7, 15, 31, 63, 127, 255, 511, 1023, 2047, 4095, 2047, 10239, 32767, 65535, 131071]) [0] 13)
 (.ret [.v 0]))
 .skip))
 (.seq (.post (.reg [.nop 5,
  .op (.bin .eql 32 (.v 5) (.c (.int .i64 0))),
  .nop 0,
  .opg (.mov (.v 8)) 0 true,
  .opg (.mov (.v 5)) 1 true,
  .opg (.bin .eql 3 (.v 1) (.v 0)) 2 true,
  .op (.pick (.v 3) (.v 0) (.c (.bool false))),
  .nop 0,
  .opg (.mov (.v 11)) 0 true,
  .opg (.mov (.v 8)) 1 true,
  .opg (.bin .eql 3 (.v 1) (.v 0)) 2 true,
  .op (.pick (.v 3) (.v 0) (.c (.bool false))),
  .nop 0]) [0] 9)
 (.ret [.v 0])))))))))⟩

def ac5L0b : AC :=
 (.post (.seq (.seq (.reg [.nop 1,
  .op (.ldn 4 (.v 5)),
  .op (.call 23 [(.v 0)]),
  .op (.bin .lss 3 (.v 3) (.v 0))])
 (.cond (.v 0) .skip
 (.pre [3] 5 (.exit 0))))
 (.seq (.block 1 [[4], [30], [29], [28], [], [8, 27], [], [26, 7], [22, 6], [5], [15], [], [0, 16], [1, 18]] (.post (.seq (.reg [.op (.ldn 4 (.v 8)),
  .nop 8,
  .nop 5,
  .op (.call 15 [(.v 0), (.v 8), (.v 5)]),
  .nop 0,
  .op (.extr 0 (.v 0)),
  .op (.extr 1 (.v 1)),
  .op (.new [(.int .i64 0), (.int .i64 0)]),
  .eff (.st 2 (.v 0) (.v 2)),
  .nop 1])
 (.seq (.seq (.regD [.nop 1,
  .op (.bin .neq 32 (.v 1) (.c (.int .i64 0))),
  .nop 0,
  .opg (.fld 0 (.v 1)) 0 false,
  .opg (.ld1 (.v 0)) 1 false,
  .opg (.bin .lss 3 (.v 0) (.c (.int .i64 0))) 2 false,
  .op (.pick (.v 3) (.c (.bool true)) (.v 0)),
  .nop 0,
  .opg (.fld 0 (.v 5)) 0 false,
  .opg (.ld1 (.v 0)) 1 false,
  .opg (.mov (.v 18)) 2 false,
  .opg (.len false (.v 0)) 3 false,
  .opg (.bin .geq 3 (.v 2) (.v 0)) 4 false,
  .op (.pick (.v 5) (.c (.bool true)) (.v 0)),
  .nop 0,
  .opg (.mov (.v 22)) 0 false,
  .opg (.fld 0 (.v 12)) 1 false,
  .opg (.ld1 (.v 0)) 2 false,
  .opg (.idx 1 (.v 2) (.v 0)) 3 false,
  .opg (.ld1 (.v 0)) 4 false,
  .op (.pick (.v 5) (.c (.bool true)) (.v 0)),
  .nop 0,
  .opg (.fld 1 (.v 17)) 0 false,
  .opg (.ld1 (.v 0)) 1 false,
  .opg (.bin .lss 3 (.v 0) (.c (.int .i64 0))) 2 false,
  .op (.pick (.v 3) (.c (.bool true)) (.v 0)),
  .nop 0,
  .opg (.fld 1 (.v 21)) 0 false,
  .opg (.ld1 (.v 0)) 1 false,
  .opg (.ldn 4 (.v 36)) 2 false,
  .opg (.call 21 [(.v 0)]) 3 false,
  .opg (.bin .geq 3 (.v 2) (.v 0)) 4 false,
  .op (.pick (.v 5) (.c (.bool true)) (.v 0))] [0, 1, 3, 7, 15, 31, 63, 127, 255, 511, 255, 1279, 4095, 8191, 16383, 32767, 32767, 98303, 262143, 524287, 1048575, 2097151, 4194303, 8388607, 16777215, 33554431, 67108863, 134217727, 268435455, 134217727, 671088639, 2147483647, 4294967295])
 (.cond (.v 0) (.seq (.reg [.op (.mov (.c (.bool false)))])
 (.ret [.v 0]))
 .skip))
 (.seq (.reg [.nop 38,
  .op (.fld 0 (.v 27)),
  .op (.ld1 (.v 0)),
  .op (.idx 1 (.v 40) (.v 0)),
  .eff (.st 1 (.v 0) (.c (.bool true)))])
 (.seq (.reg [.op (.ldn 4 (.v 43)),
  .op (.ldn 2 (.v 31)),
  .op (.call 18 [(.v 1), (.v 0)]),
  .nop 0,
  .op (.extr 0 (.v 0)),
  .op (.extr 1 (.v 1)),
  .op (.extr 2 (.v 2)),
  .nop 2,
  .nop 1,
  .nop 0])
 (.seq (.reg [.nop 0,
  .op (.bin .neq 32 (.v 0) (.c (.int .i64 0))),
  .nop 0,
  .opg (.mov (.v 3)) 0 false,
  .opg (.mov (.v 50)) 1 false,
  .opg (.bin .neq 3 (.v 1) (.v 0)) 2 false,
  .op (.pick (.v 3) (.c (.bool true)) (.v 0)),
  .nop 0,
  .opg (.mov (.v 6)) 0 false,
  .opg (.mov (.v 51)) 1 false,
  .opg (.bin .neq 3 (.v 1) (.v 0)) 2 false,
  .op (.pick (.v 3) (.c (.bool true)) (.v 0))])
 (.cond (.v 0) (.seq (.reg [.op (.mov (.c (.bool false)))])
 (.ret [.v 0]))
 .skip)))))) [53] 50))
 (.reg [.nop 5,
  .op (.bin .add 3 (.v 5) (.c (.int .i64 1))),
  .nop 0]))) [1, 0] 7)
def ac5L0 : AC := .loop [[4], [8], [], [26, 7], [22, 6], [5], [15], [], [0, 16], [1, 18]] ac5L0b
/-- tegula/tegulalaw21.LayoutApart -/
def ac5 : AFn := ⟨2, [],
 (.seq (.reg [.op (.mov (.c (.bool false)))])
 (.seq (.seq (.post (.reg [.op (.call 13 []),
  .op (.una .not (.v 0))]) [0] 2)
 (.cond (.v 0) (.seq (.reg [.op (.mov (.c (.bool false)))])
 (.ret [.v 0]))
 .skip))
 (.seq (.post (.reg [.nop 2,
  .op (.call 14 [(.v 2)]),
  .op (.new [(.int .i64 0), (.slice none 0 0), (.int .i64 0), (.int .i64 0)]),
  .eff (.st 4 (.v 0) (.v 1))]) [0] 2)
 (.seq (.post (.reg [.nop 4,
  .op (.conv .i64 (.v 4)),
  .op (.ldn 4 (.v 1)),
  .op (.call 22 [(.v 0)]),
  .op (.bin .rem 3 (.v 2) (.v 0)),
  .nop 0]) [0] 4)
 (.seq (.post (.reg [.op (.fld 0 (.v 1)),
  .op (.fld 0 (.v 0)),
  .op (.ld1 (.v 0)),
  .op (.make 1 1 [(.bool false)] (.v 0) (.v 0)),
  .nop 0]) [0] 4)
 (.seq (.seq (.reg [.op (.mov (.c (.int .i64 0)))])
 (.block 0 [[4], [], [26, 7], [22, 6], [5], [15], [], [0, 16], [1, 18]] (.pre [5, 0] 0 ac5L0)))
 (.seq (.reg [.op (.mov (.c (.bool true)))])
 (.ret [.v 0]))))))))⟩

def ac6L0b : AC :=
 (.post (.seq (.seq (.reg [.nop 1,
  .op (.ldn 4 (.v 12)),
  .op (.call 26 [(.v 0)]),
  .op (.bin .lss 3 (.v 3) (.v 0))])
 (.cond (.v 0) .skip
 (.pre [3, 4] 5 (.exit 2))))
 (.seq (.block 3 [[2], [42], [41], [40], [], [7, 39], [], [36], [35], [34], [], [6, 33], [], [32, 5], [26], [20, 4, 21, 30], [3], [13], [], [0, 14]] (.post (.seq (.reg [.op (.ldn 4 (.v 15)),
  .nop 11,
  .nop 5,
  .op (.call 15 [(.v 0), (.v 11), (.v 5)]),
  .nop 0,
  .op (.extr 0 (.v 0)),
  .op (.extr 1 (.v 1)),
  .op (.new [(.int .i64 0), (.int .i64 0)]),
  .eff (.st 2 (.v 0) (.v 2)),
  .nop 1])
 (.seq (.reg [.op (.fld 0 (.v 0)),
  .op (.ld1 (.v 0)),
  .nop 21,
  .op (.bin .mul 3 (.v 0) (.v 21)),
  .op (.fld 1 (.v 3)),
  .op (.ld1 (.v 0)),
  .op (.bin .add 3 (.v 2) (.v 0)),
  .nop 0])
 (.seq (.seq (.reg [.nop 7,
  .op (.bin .neq 32 (.v 7) (.c (.int .i64 0))),
  .nop 0,
  .opg (.fld 1 (.v 7)) 0 false,
  .opg (.ld1 (.v 0)) 1 false,
  .opg (.bin .lss 3 (.v 0) (.c (.int .i64 0))) 2 false,
  .op (.pick (.v 3) (.c (.bool true)) (.v 0)),
  .nop 0,
  .opg (.fld 1 (.v 11)) 0 false,
  .opg (.ld1 (.v 0)) 1 false,
  .opg (.mov (.v 32)) 2 false,
  .opg (.bin .geq 3 (.v 1) (.v 0)) 3 false,
  .op (.pick (.v 4) (.c (.bool true)) (.v 0)),
  .nop 0,
  .opg (.mov (.v 10)) 0 false,
  .opg (.bin .lss 3 (.v 0) (.c (.int .i64 0))) 1 false,
  .op (.pick (.v 2) (.c (.bool true)) (.v 0)),
  .nop 0,
  .opg (.mov (.v 13)) 0 false,
  .opg (.mov (.v 37)) 1 false,
  .opg (.len false (.v 0)) 2 false,
  .opg (.bin .geq 3 (.v 2) (.v 0)) 3 false,
  .op (.pick (.v 4) (.c (.bool true)) (.v 0)),
  .nop 0,
  .opg (.mov (.v 41)) 0 false,
  .opg (.mov (.v 19)) 1 false,
  .opg (.idx 1 (.v 1) (.v 0)) 2 false,
  .opg (.ld1 (.v 0)) 3 false,
  .op (.pick (.v 4) (.c (.bool true)) (.v 0))])
 (.cond (.v 0) (.seq (.reg [.op (.mov (.c (.bool false)))])
 (.ret [.v 0]))
 .skip))
 (.reg [.nop 46,
  .nop 23,
  .op (.idx 1 (.v 46) (.v 23)),
  .eff (.st 1 (.v 0) (.c (.bool true)))])))) [38] 35))
 (.reg [.nop 5,
  .op (.bin .add 3 (.v 5) (.c (.int .i64 1))),
  .nop 0]))) [1, 0] 7)
def ac6L0 : AC := .loop [[2], [7], [], [36], [35], [34], [], [6, 33], [], [32, 5], [26], [20, 4, 21, 30], [3], [13], [], [0, 14]] ac6L0b
def ac6L1b : AC :=
 (.post (.seq (.seq (.reg [.nop 1,
  .op (.ldn 4 (.v 6)),
  .op (.call 25 [(.v 0)]),
  .op (.bin .lss 3 (.v 3) (.v 0))])
 (.cond (.v 0) .skip
 (.pre [3] 5 (.exit 0))))
 (.seq (.block 1 [[2], [36], [35], [34], [], [6, 33], [], [32, 5], [26], [20, 4, 21, 30], [3], [13], [], [0, 14]] (.post (.seq (.reg [.op (.mov (.c (.int .i64 0)))])
 (.block 2 [[2], [7], [], [36], [35], [34], [], [6, 33], [], [32, 5], [26], [20, 4, 21, 30], [3], [13], [], [0, 14]] (.pre [4, 0] 0 ac6L0))) [0] 3))
 (.reg [.nop 5,
  .op (.bin .add 3 (.v 5) (.c (.int .i64 1))),
  .nop 0]))) [1, 0] 7)
def ac6L1 : AC := .loop [[2], [6], [], [32, 5], [26], [20, 4, 21, 30], [3], [13], [], [0, 14]] ac6L1b
def ac6L2b : AC :=
 (.post (.seq (.seq (.reg [.nop 1,
  .nop 5,
  .op (.len false (.v 5)),
  .op (.bin .lss 3 (.v 2) (.v 0))])
 (.cond (.v 0) .skip
 (.pre [2] 4 (.exit 4))))
 (.seq (.block 5 [[2], [94], [93], [], [11, 91], [], [], [], [32, 5, 92], [26], [20, 4, 21, 30], [3], [13], [], [0, 14]] (.post (.seq (.reg [.nop 7,
  .nop 3,
  .op (.idx 1 (.v 7) (.v 3)),
  .op (.ld1 (.v 0)),
  .op (.una .not (.v 0))])
 (.cond (.v 0) (.seq (.reg [.op (.mov (.c (.bool false)))])
 (.ret [.v 0]))
 .skip)) [5] 3))
 (.reg [.nop 4,
  .op (.bin .add 3 (.v 4) (.c (.int .i64 1))),
  .nop 0]))) [1, 0] 6)
def ac6L2 : AC := .loop [[2], [11], [], [], [], [32, 5], [26], [20, 4, 21, 30], [3], [13], [], [0, 14]] ac6L2b
/-- tegula/tegulalaw21.LayoutFull -/
def ac6 : AFn := ⟨1, [],
 (.seq (.reg [.op (.mov (.c (.bool false)))])
 (.seq (.seq (.post (.reg [.op (.call 13 []),
  .op (.una .not (.v 0))]) [0] 2)
 (.cond (.v 0) (.seq (.reg [.op (.mov (.c (.bool false)))])
 (.ret [.v 0]))
 .skip))
 (.seq (.post (.reg [.nop 2,
  .op (.call 14 [(.v 2)]),
  .op (.new [(.int .i64 0), (.slice none 0 0), (.int .i64 0), (.int .i64 0)]),
  .eff (.st 4 (.v 0) (.v 1))]) [0] 2)
 (.seq (.post (.regD [.op (.ldn 4 (.v 0)),
  .op (.call 24 [(.v 0)]),
  .op (.fld 3 (.v 2)),
  .op (.ld1 (.v 0)),
  .op (.bin .sub 3 (.v 2) (.v 0)),
  .nop 0] [0, 1, 0, 4, 15, 31]) [0] 5)
 (.seq (.seq (.post (.reg [.nop 0,
  .op (.bin .lss 3 (.v 0) (.c (.int .i64 1))),
  .nop 0,
  .opg (.mov (.v 1)) 0 false,
  .opg (.bin .gtr 3 (.v 0) (.c (.int .i64 200))) 1 false,
  .op (.pick (.v 2) (.c (.bool true)) (.v 0))]) [0] 4)
 (.cond (.v 0) (.seq (.reg [.op (.mov (.c (.bool false)))])
 (.ret [.v 0]))
 .skip))
 (.seq (.post (.reg [.op (.fld 0 (.v 2)),
  .op (.fld 0 (.v 0)),
  .op (.ld1 (.v 0)),
  .nop 4,
  .op (.bin .mul 3 (.v 0) (.v 4)),
  .op (.make 1 1 [(.bool false)] (.v 0) (.v 0)),
  .nop 0]) [0] 5)
 (.seq (.seq (.reg [.op (.mov (.c (.int .i64 0)))])
 (.block 0 [[2], [], [32, 5], [26], [20, 4, 21, 30], [3], [13], [], [0, 14]] (.pre [6, 0] 0 ac6L1)))
 (.seq (.seq (.reg [.op (.mov (.c (.int .i64 0)))])
 (.block 4 [[2], [], [], [], [32, 5], [26], [20, 4, 21, 30], [3], [13], [], [0, 14]] (.pre [1, 0] 0 ac6L2)))
 (.seq (.reg [.op (.mov (.c (.bool true)))])
 (.ret [.v 0]))))))))))⟩

/-- tegula/tegulalaw21.LayoutValid -/
def ac7 : AFn := ⟨1, [],
 (.seq (.reg [.op (.box (.v 0)),
  .op (.mov (.c (.bool false)))])
 (.seq (.seq (.post (.reg [.op (.call 13 []),
  .op (.una .not (.v 0))]) [0] 2)
 (.cond (.v 0) (.seq (.reg [.op (.mov (.c (.bool false)))])
 (.ret [.v 0]))
 .skip))
 (.seq (.seq (.post (.reg [.op (.ldn 4 (.v 2)),
  .op (.call 27 [(.v 0)]),
  .op (.una .not (.v 0))]) [0] 3)
 (.cond (.v 0) (.seq (.reg [.op (.mov (.c (.bool true)))])
 (.ret [.v 0]))
 .skip))
 (.seq (.seq (.post (.regD [.op (.ldn 4 (.v 3)),
  .op (.call 28 [(.v 0)]),
  .op (.ldn 4 (.v 5)),
  .op (.call 29 [(.v 0)]),
  .op (.bin .neq 4 (.v 2) (.v 0))] [0, 1, 0, 7, 15]) [0] 5)
 (.cond (.v 0) (.seq (.reg [.op (.mov (.c (.bool false)))])
 (.ret [.v 0]))
 .skip))
 (.seq (.seq (.post (.reg [.op (.ldn 4 (.v 4)),
  .op (.call 29 [(.v 0)]),
  .op (.una .not (.v 0))]) [0] 3)
 (.cond (.v 0) (.seq (.post (.reg [.op (.ldn 4 (.v 5)),
  .op (.call 26 [(.v 0)]),
  .op (.bin .eql 3 (.v 0) (.c (.int .i64 0))),
  .nop 0,
  .opg (.ldn 4 (.v 8)) 0 true,
  .opg (.call 30 [(.v 0)]) 1 true,
  .opg (.bin .eql 3 (.v 0) (.c (.int .i64 0))) 2 true,
  .op (.pick (.v 3) (.v 0) (.c (.bool false))),
  .nop 0,
  .opg (.ldn 4 (.v 12)) 0 true,
  .opg (.call 25 [(.v 0)]) 1 true,
  .opg (.bin .eql 3 (.v 0) (.c (.int .i64 0))) 2 true,
  .op (.pick (.v 3) (.v 0) (.c (.bool false))),
  .nop 0,
  .opg (.ldn 4 (.v 16)) 0 true,
  .opg (.call 31 [(.v 0)]) 1 true,
  .opg (.bin .eql 3 (.v 0) (.c (.int .i64 0))) 2 true,
  .op (.pick (.v 3) (.v 0) (.c (.bool false))),
  .nop 0,
  .opg (.ldn 4 (.v 20)) 0 true,
  .opg (.call 24 [(.v 0)]) 1 true,
  .opg (.bin .eql 3 (.v 0) (.c (.int .i64 0))) 2 true,
  .op (.pick (.v 3) (.v 0) (.c (.bool false))),
  .nop 0]) [0] 19)
 (.ret [.v 0]))
 .skip))
 (.seq (.post (.regD [.op (.ldn 4 (.v 5)),
  .op (.call 26 [(.v 0)]),
  .op (.ldn 4 (.v 7)),
  .op (.call 23 [(.v 0)]),
  .op (.bin .eql 3 (.v 2) (.v 0)),
  .nop 0,
  .opg (.ldn 4 (.v 10)) 0 true,
  .opg (.call 30 [(.v 0)]) 1 true,
  .opg (.ldn 4 (.v 12)) 2 true,
  .opg (.call 23 [(.v 0)]) 3 true,
  .opg (.bin .sub 3 (.v 0) (.c (.int .i64 3))) 4 true,
  .opg (.bin .eql 3 (.v 3) (.v 0)) 5 true,
  .op (.pick (.v 6) (.v 0) (.c (.bool false))),
  .nop 0,
  .opg (.ldn 4 (.v 17)) 0 true,
  .opg (.call 25 [(.v 0)]) 1 true,
  .opg (.ldn 4 (.v 19)) 2 true,
  .opg (.call 22 [(.v 0)]) 3 true,
  .opg (.bin .eql 3 (.v 2) (.v 0)) 4 true,
  .op (.pick (.v 5) (.v 0) (.c (.bool false))),
  .nop 0,
  .opg (.ldn 4 (.v 23)) 0 true,
  .opg (.call 31 [(.v 0)]) 1 true,
  .opg (.ldn 4 (.v 25)) 2 true,
  .opg (.call 32 [(.v 0)]) 3 true,
  .opg (.bin .eql 3 (.v 2) (.v 0)) 4 true,
  .op (.pick (.v 5) (.v 0) (.c (.bool false))),
  .nop 0,
  .opg (.ldn 4 (.v 29)) 0 true,
  .opg (.call 24 [(.v 0)]) 1 true,
  .opg (.ldn 4 (.v 31)) 2 true,
  .opg (.call 19 [(.v 0)]) 3 true,
  .opg (.bin .eql 3 (.v 2) (.v 0)) 4 true,
  .op (.pick (.v 5) (.v 0) (.c (.bool false))),
  .nop 0] [0, 1, 0, 7, 15, 31, 63, 127, 63, 511, 1023, 2047, 4095, 8191, 16383, 32767, 16383, 131071, 262143, 524287, 1048575, 2097151, 4194303, 2097151, 16777215, 33554431, 67108863, 134217727, 268435455, 536870911, 268435455, 2147483647, 4294967295, 8589934591, 17179869183]) [0] 30)
 (.ret [.v 0])))))))⟩

def ac8L0b : AC :=
 (.post (.seq (.seq (.reg [.nop 1,
  .nop 6,
  .op (.len false (.v 6)),
  .op (.bin .lss 3 (.v 2) (.v 0))])
 (.cond (.v 0) .skip
 (.pre [2] 4 (.exit 0))))
 (.seq (.block 1 [[4], [47], [46], [], [8, 44], [], [43], [27], [18, 7, 35], [17, 6, 45], [5], [10], [], [0, 11], [1, 15, 19]] (.post (.seq (.regD [.op (.ldn 4 (.v 9)),
  .nop 9,
  .nop 4,
  .op (.idx 2 (.v 9) (.v 4)),
  .op (.fld 0 (.v 0)),
  .op (.ld1 (.v 0)),
  .nop 12,
  .nop 7,
  .op (.idx 2 (.v 12) (.v 7)),
  .op (.fld 1 (.v 0)),
  .op (.ld1 (.v 0)),
  .op (.call 16 [(.v 6), (.v 3), (.v 0)]),
  .op (.una .not (.v 0)),
  .nop 0,
  .opg (.ldn 4 (.v 18)) 0 false,
  .opg (.mov (.v 18)) 1 false,
  .opg (.mov (.v 14)) 2 false,
  .opg (.idx 2 (.v 1) (.v 0)) 3 false,
  .opg (.fld 0 (.v 0)) 4 false,
  .opg (.ld1 (.v 0)) 5 false,
  .opg (.mov (.v 23)) 6 false,
  .opg (.mov (.v 19)) 7 false,
  .opg (.idx 2 (.v 1) (.v 0)) 8 false,
  .opg (.fld 1 (.v 0)) 9 false,
  .opg (.ld1 (.v 0)) 10 false,
  .opg (.call 17 [(.v 10), (.v 5), (.v 0)]) 11 false,
  .opg (.mov (.v 34)) 12 false,
  .opg (.mov (.v 25)) 13 false,
  .opg (.build [(.int .i64 0), (.int .i64 0)] [(0, 1, (.v 1)), (1, 1, (.v 0))]) 14 false,
  .opg (.bin .neq 31 (.v 3) (.v 0)) 15 false,
  .op (.pick (.v 16) (.c (.bool true)) (.v 0))] [0, 0, 0, 6, 14, 30, 0, 0, 192, 448, 960, 2047, 4095, 8191, 16383, 16383, 16383, 114687, 245759, 507903, 16383, 16383, 3162111, 7356415, 15745023, 33554431, 16383, 16383, 201342975, 536870911, 1073741823])
 (.cond (.v 0) (.seq (.reg [.op (.mov (.c (.bool false)))])
 (.ret [.v 0]))
 .skip)) [28] 26))
 (.reg [.nop 4,
  .op (.bin .add 3 (.v 4) (.c (.int .i64 1))),
  .nop 0]))) [1, 0] 6)
def ac8L0 : AC := .loop [[4], [8], [], [43], [27], [18, 7, 35], [17, 6], [5], [10], [], [0, 11], [1, 15, 19]] ac8L0b
/-- tegula/tegulalaw21.LayoutOnDisk -/
def ac8 : AFn := ⟨2, [],
 (.seq (.reg [.op (.mov (.c (.bool false)))])
 (.seq (.seq (.post (.reg [.op (.call 13 []),
  .op (.una .not (.v 0))]) [0] 2)
 (.cond (.v 0) (.seq (.reg [.op (.mov (.c (.bool false)))])
 (.ret [.v 0]))
 .skip))
 (.seq (.post (.reg [.nop 2,
  .op (.call 14 [(.v 2)]),
  .op (.new [(.int .i64 0), (.slice none 0 0), (.int .i64 0), (.int .i64 0)]),
  .eff (.st 4 (.v 0) (.v 1))]) [0] 2)
 (.seq (.post (.reg [.op (.ldn 4 (.v 0)),
  .nop 5,
  .op (.call 33 [(.v 0), (.v 5)]),
  .nop 0,
  .op (.extr 0 (.v 0)),
  .op (.extr 1 (.v 1)),
  .nop 1,
  .nop 0]) [0, 1] 4)
 (.seq (.seq (.post (.reg [.nop 6,
  .op (.bin .lss 3 (.v 6) (.c (.int .i64 0))),
  .nop 0,
  .opg (.mov (.v 7)) 0 false,
  .opg (.fld 0 (.v 4)) 1 false,
  .opg (.fld 0 (.v 0)) 2 false,
  .opg (.ld1 (.v 0)) 3 false,
  .opg (.bin .geq 3 (.v 3) (.v 0)) 4 false,
  .op (.pick (.v 5) (.c (.bool true)) (.v 0))]) [0] 7)
 (.cond (.v 0) (.seq (.post (.reg [.nop 1,
  .op (.bin .eql 32 (.v 1) (.c (.int .i64 2))),
  .nop 0,
  .opg (.mov (.v 3)) 0 true,
  .opg (.len false (.v 0)) 1 true,
  .opg (.bin .eql 3 (.v 0) (.c (.int .i64 0))) 2 true,
  .op (.pick (.v 3) (.v 0) (.c (.bool false))),
  .nop 0]) [0] 5)
 (.ret [.v 0]))
 .skip))
 (.seq (.seq (.post (.reg [.nop 1,
  .op (.bin .neq 32 (.v 1) (.c (.int .i64 0))),
  .nop 0,
  .opg (.mov (.v 3)) 0 false,
  .opg (.len false (.v 0)) 1 false,
  .opg (.ldn 4 (.v 6)) 2 false,
  .opg (.call 21 [(.v 0)]) 3 false,
  .opg (.bin .neq 3 (.v 2) (.v 0)) 4 false,
  .op (.pick (.v 5) (.c (.bool true)) (.v 0))]) [0] 7)
 (.cond (.v 0) (.seq (.reg [.op (.mov (.c (.bool false)))])
 (.ret [.v 0]))
 .skip))
 (.seq (.seq (.reg [.op (.mov (.c (.int .i64 0)))])
 (.block 0 [[4], [], [43], [27], [18, 7, 35], [17, 6], [5], [10], [], [0, 11], [1, 15, 19]] (.pre [7, 0] 0 ac8L0)))
 (.seq (.reg [.op (.mov (.c (.bool true)))])
 (.ret [.v 0])))))))))⟩

def ac9L0b : AC :=
 (.post (.seq (.seq (.reg [.nop 1,
  .nop 11,
  .op (.len false (.v 11)),
  .op (.bin .lss 3 (.v 2) (.v 0))])
 (.cond (.v 0) .skip
 (.pre [2, 3] 4 (.exit 2))))
 (.seq (.block 3 [[15], [88], [87], [], [17, 85], [], [82], [81], [], [16, 79], [], [], [78], [50, 14], [49, 13, 86], [39, 12], [38, 11, 80], [28, 10, 51], [27, 9], [26, 8], [7], [19], [6], [0, 20], [1, 31], [2, 42]] (.post (.seq (.regD [.nop 15,
  .nop 8,
  .op (.idx 2 (.v 15) (.v 8)),
  .op (.fld 0 (.v 0)),
  .op (.ld1 (.v 0)),
  .nop 16,
  .nop 6,
  .op (.idx 2 (.v 16) (.v 6)),
  .op (.fld 0 (.v 0)),
  .op (.ld1 (.v 0)),
  .op (.bin .eql 3 (.v 3) (.v 0))] [0, 0, 3, 7, 15, 0, 0, 96, 224, 480, 1023])
 (.cond (.v 0) (.reg [.nop 9,
  .op (.bin .add 3 (.v 9) (.c (.int .i64 1))),
  .nop 0])
 (.post .skip [9] 0))) [0] 8))
 (.reg [.nop 4,
  .op (.bin .add 3 (.v 4) (.c (.int .i64 1))),
  .nop 0]))) [1, 0] 6)
def ac9L0 : AC := .loop [[15], [17], [], [82], [81], [], [16, 79], [], [], [78], [50, 14], [49, 13], [39, 12], [38, 11, 80], [28, 10, 51], [27, 9], [26, 8], [7], [19], [6], [0, 20], [1, 31], [2, 42]] ac9L0b
def ac9L1b : AC :=
 (.post (.seq (.seq (.reg [.nop 1,
  .nop 8,
  .op (.len false (.v 8)),
  .op (.bin .lss 3 (.v 2) (.v 0))])
 (.cond (.v 0) .skip
 (.pre [2] 4 (.exit 0))))
 (.seq (.block 1 [[15], [82], [81], [], [16, 79], [], [], [78], [50, 14], [49, 13], [39, 12], [38, 11, 80], [28, 10, 51], [27, 9], [26, 8], [7], [19], [6], [0, 20], [1, 31], [2, 42]] (.post (.seq (.reg [.op (.mov (.c (.int .i64 0)))])
 (.block 2 [[15], [17], [], [82], [81], [], [16, 79], [], [], [78], [50, 14], [49, 13], [39, 12], [38, 11, 80], [28, 10, 51], [27, 9], [26, 8], [7], [19], [6], [0, 20], [1, 31], [2, 42]] (.pre [3, 0] 0 ac9L0))) [0] 3))
 (.reg [.nop 4,
  .op (.bin .add 3 (.v 4) (.c (.int .i64 1))),
  .nop 0]))) [1, 0] 6)
def ac9L1 : AC := .loop [[15], [16], [], [], [78], [50, 14], [49, 13], [39, 12], [38, 11], [28, 10, 51], [27, 9], [26, 8], [7], [19], [6], [0, 20], [1, 31], [2, 42]] ac9L1b
/-- tegula/tegulalaw21.LayoutBalance -/
def ac9 : AFn := ⟨3, [],
 (.seq (.reg [.op (.mov (.c (.bool false)))])
 (.seq (.seq (.post (.reg [.op (.call 13 []),
  .op (.una .not (.v 0))]) [0] 2)
 (.cond (.v 0) (.seq (.reg [.op (.mov (.c (.bool false)))])
 (.ret [.v 0]))
 .skip))
 (.seq (.post (.reg [.nop 2,
  .op (.call 14 [(.v 2)]),
  .op (.new [(.int .i64 0), (.slice none 0 0), (.int .i64 0), (.int .i64 0)]),
  .eff (.st 4 (.v 0) (.v 1))]) [0] 2)
 (.seq (.post (.reg [.op (.fld 0 (.v 0)),
  .op (.ldn 2 (.v 0)),
  .op (.call 34 [(.v 0)]),
  .nop 0,
  .op (.extr 0 (.v 0)),
  .op (.extr 1 (.v 1)),
  .op (.extr 2 (.v 2)),
  .nop 2,
  .nop 1,
  .nop 0]) [0, 1, 2] 6)
 (.seq (.post (.regD [.op (.ldn 4 (.v 3)),
  .nop 8,
  .op (.conv .i64 (.v 8)),
  .op (.fld 0 (.v 5)),
  .op (.fld 0 (.v 0)),
  .op (.ld1 (.v 0)),
  .op (.bin .rem 3 (.v 3) (.v 0)),
  .op (.call 33 [(.v 5), (.v 0)]),
  .nop 0,
  .op (.extr 0 (.v 0)),
  .op (.extr 1 (.v 1)),
  .nop 1,
  .nop 0] [0, 0, 2, 0, 8, 24, 62, 127, 255, 511, 511, 1023, 4095]) [0, 1] 9)
 (.seq (.post (.regD [.op (.ldn 4 (.v 5)),
  .nop 11,
  .op (.conv .i64 (.v 11)),
  .op (.fld 0 (.v 7)),
  .op (.fld 0 (.v 0)),
  .op (.ld1 (.v 0)),
  .op (.bin .rem 3 (.v 3) (.v 0)),
  .op (.call 33 [(.v 5), (.v 0)]),
  .nop 0,
  .op (.extr 0 (.v 0)),
  .op (.extr 1 (.v 1)),
  .nop 1,
  .nop 0] [0, 0, 2, 0, 8, 24, 62, 127, 255, 511, 511, 1023, 4095]) [0, 1] 9)
 (.seq (.seq (.post (.reg [.nop 4,
  .op (.bin .neq 32 (.v 4) (.c (.int .i64 0))),
  .nop 0,
  .opg (.mov (.v 3)) 0 false,
  .opg (.bin .neq 32 (.v 0) (.c (.int .i64 0))) 1 false,
  .op (.pick (.v 2) (.c (.bool true)) (.v 0)),
  .nop 0,
  .opg (.mov (.v 4)) 0 false,
  .opg (.bin .neq 32 (.v 0) (.c (.int .i64 0))) 1 false,
  .op (.pick (.v 2) (.c (.bool true)) (.v 0)),
  .nop 0,
  .opg (.mov (.v 10)) 0 false,
  .opg (.len false (.v 0)) 1 false,
  .opg (.fld 2 (.v 16)) 2 false,
  .opg (.ld1 (.v 0)) 3 false,
  .opg (.mov (.v 17)) 4 false,
  .opg (.bin .mul 3 (.v 1) (.v 0)) 5 false,
  .opg (.bin .neq 3 (.v 4) (.v 0)) 6 false,
  .op (.pick (.v 7) (.c (.bool true)) (.v 0)),
  .nop 0,
  .opg (.mov (.v 16)) 0 false,
  .opg (.len false (.v 0)) 1 false,
  .opg (.fld 2 (.v 24)) 2 false,
  .opg (.ld1 (.v 0)) 3 false,
  .opg (.mov (.v 25)) 4 false,
  .opg (.bin .mul 3 (.v 1) (.v 0)) 5 false,
  .opg (.bin .neq 3 (.v 4) (.v 0)) 6 false,
  .op (.pick (.v 7) (.c (.bool true)) (.v 0))]) [0] 23)
 (.cond (.v 0) (.seq (.reg [.op (.mov (.c (.bool false)))])
 (.ret [.v 0]))
 .skip))
 (.seq (.reg [.op (.mov (.c (.int .i64 0)))])
 (.seq (.seq (.reg [.op (.mov (.c (.int .i64 0)))])
 (.block 0 [[15], [], [], [78], [50, 14], [49, 13], [39, 12], [38, 11], [28, 10, 51], [27, 9], [26, 8], [7], [19], [6], [0, 20], [1, 31], [2, 42]] (.pre [1, 0] 0 ac9L1)))
 (.seq (.seq (.post (.regD [.nop 15,
  .op (.conv .i64 (.v 15)),
  .op (.fld 0 (.v 12)),
  .op (.fld 0 (.v 0)),
  .op (.ld1 (.v 0)),
  .op (.bin .rem 3 (.v 3) (.v 0)),
  .nop 21,
  .op (.conv .i64 (.v 21)),
  .op (.fld 0 (.v 17)),
  .op (.fld 0 (.v 0)),
  .op (.ld1 (.v 0)),
  .op (.bin .rem 3 (.v 3) (.v 0)),
  .op (.bin .eql 3 (.v 5) (.v 0))] [0, 1, 0, 4, 12, 31, 0, 64, 0, 256, 768, 1984, 4095]) [0] 11)
 (.cond (.v 0) (.seq (.post (.reg [.nop 1,
  .op (.fld 2 (.v 12)),
  .op (.ld1 (.v 0)),
  .nop 13,
  .op (.bin .mul 3 (.v 0) (.v 13)),
  .op (.bin .eql 3 (.v 4) (.v 0)),
  .nop 0]) [0] 4)
 (.ret [.v 0]))
 .skip))
 (.seq (.post (.reg [.nop 1,
  .op (.fld 2 (.v 12)),
  .op (.ld1 (.v 0)),
  .nop 12,
  .op (.bin .mul 3 (.v 0) (.v 12)),
  .op (.bin .eql 3 (.v 4) (.v 0)),
  .nop 0]) [0] 4)
 (.ret [.v 0]))))))))))))⟩

def ac10L0b : AC :=
 (.post (.seq (.seq (.reg [.nop 1,
  .nop 5,
  .op (.len false (.v 5)),
  .op (.bin .lss 3 (.v 2) (.v 0))])
 (.cond (.v 0) .skip
 (.pre [2] 4 (.exit 0))))
 (.seq (.block 1 [[6], [42], [41], [], [11, 39], [], [38, 10], [35, 9], [34, 8, 40], [7], [14], [], [0, 15], [1, 27], [2, 20]] (.post (.seq (.seq (.reg [.nop 7,
  .nop 3,
  .op (.idx 2 (.v 7) (.v 3)),
  .op (.fld 1 (.v 0)),
  .op (.ld1 (.v 0)),
  .op (.bin .lss 3 (.v 0) (.c (.int .i64 0))),
  .nop 0,
  .opg (.mov (.v 11)) 0 false,
  .opg (.mov (.v 8)) 1 false,
  .opg (.idx 2 (.v 1) (.v 0)) 2 false,
  .opg (.fld 1 (.v 0)) 3 false,
  .opg (.ld1 (.v 0)) 4 false,
  .opg (.mov (.v 14)) 5 false,
  .opg (.len false (.v 0)) 6 false,
  .opg (.bin .geq 3 (.v 2) (.v 0)) 7 false,
  .op (.pick (.v 8) (.c (.bool true)) (.v 0))])
 (.cond (.v 0) (.seq (.reg [.op (.mov (.c (.bool false)))])
 (.ret [.v 0]))
 .skip))
 (.reg [.nop 18,
  .nop 20,
  .nop 16,
  .op (.idx 2 (.v 20) (.v 16)),
  .op (.fld 1 (.v 0)),
  .op (.ld1 (.v 0)),
  .op (.idx 1 (.v 21) (.v 0)),
  .op (.ld1 (.v 0)),
  .op (.bin .add 3 (.v 0) (.c (.int .i64 1))),
  .op (.idx 1 (.v 24) (.v 3)),
  .eff (.st 1 (.v 0) (.v 1))])) [22] 20))
 (.reg [.nop 4,
  .op (.bin .add 3 (.v 4) (.c (.int .i64 1))),
  .nop 0]))) [1, 0] 6)
def ac10L0 : AC := .loop [[6], [11], [], [38, 10], [35, 9], [34, 8], [7], [14], [], [0, 15], [1, 27], [2, 20]] ac10L0b
def ac10L1b : AC :=
 (.post (.seq (.seq (.reg [.nop 1,
  .nop 5,
  .op (.len false (.v 5)),
  .op (.bin .lss 3 (.v 2) (.v 0))])
 (.cond (.v 0) .skip
 (.pre [2] 4 (.exit 2))))
 (.seq (.block 3 [[6], [74], [73], [], [12, 71], [], [], [], [38, 10, 72], [35, 9], [34, 8], [7], [14], [], [0, 15], [1, 27], [2, 20]] (.post (.seq (.reg [.nop 7,
  .nop 3,
  .op (.idx 1 (.v 7) (.v 3)),
  .op (.ld1 (.v 0)),
  .nop 9,
  .op (.len false (.v 9)),
  .op (.bin .mul 3 (.v 1) (.v 0)),
  .nop 13,
  .op (.len false (.v 13)),
  .op (.bin .neq 3 (.v 1) (.v 0))])
 (.cond (.v 0) (.seq (.reg [.op (.mov (.c (.bool false)))])
 (.ret [.v 0]))
 .skip)) [8] 6))
 (.reg [.nop 4,
  .op (.bin .add 3 (.v 4) (.c (.int .i64 1))),
  .nop 0]))) [1, 0] 6)
def ac10L1 : AC := .loop [[6], [12], [], [], [], [38, 10], [35, 9], [34, 8], [7], [14], [], [0, 15], [1, 27], [2, 20]] ac10L1b
/-- tegula/tegulalaw21.LayoutSpread -/
def ac10 : AFn := ⟨3, [],
 (.seq (.reg [.op (.mov (.c (.bool false)))])
 (.seq (.seq (.post (.reg [.op (.call 13 []),
  .op (.una .not (.v 0))]) [0] 2)
 (.cond (.v 0) (.seq (.reg [.op (.mov (.c (.bool false)))])
 (.ret [.v 0]))
 .skip))
 (.seq (.post (.reg [.nop 2,
  .op (.call 14 [(.v 2)]),
  .op (.new [(.int .i64 0), (.slice none 0 0), (.int .i64 0), (.int .i64 0)]),
  .eff (.st 4 (.v 0) (.v 1))]) [0] 2)
 (.seq (.post (.reg [.op (.ldn 4 (.v 0)),
  .op (.call 23 [(.v 0)]),
  .op (.fld 2 (.v 2)),
  .eff (.st 1 (.v 0) (.v 1))]) [] 3)
 (.seq (.seq (.reg [.nop 5])
 (.cond (.v 5) (.post (.reg [.op (.fld 2 (.v 0)),
  .op (.ld1 (.v 0)),
  .op (.bin .mul 3 (.c (.int .i64 2)) (.v 0)),
  .op (.fld 2 (.v 3)),
  .eff (.st 1 (.v 0) (.v 1))]) [] 4)
 .skip))
 (.seq (.post (.regD [.op (.ldn 4 (.v 0)),
  .nop 5,
  .op (.conv .i64 (.v 5)),
  .op (.fld 0 (.v 2)),
  .op (.fld 0 (.v 0)),
  .op (.ld1 (.v 0)),
  .op (.bin .rem 3 (.v 3) (.v 0)),
  .op (.call 33 [(.v 5), (.v 0)]),
  .nop 0,
  .op (.extr 0 (.v 0)),
  .op (.extr 1 (.v 1)),
  .nop 1,
  .nop 0] [0, 0, 2, 0, 8, 24, 62, 127, 255, 511, 511, 1023, 4095]) [0, 1] 9)
 (.seq (.post (.reg [.op (.ldn 4 (.v 2)),
  .op (.call 23 [(.v 0)]),
  .op (.make 1 8 [(.int .i64 0)] (.v 0) (.v 0)),
  .nop 0]) [0] 3)
 (.seq (.seq (.reg [.op (.mov (.c (.int .i64 0)))])
 (.block 0 [[6], [], [38, 10], [35, 9], [34, 8], [7], [14], [], [0, 15], [1, 27], [2, 20]] (.pre [6, 0] 0 ac10L0)))
 (.seq (.seq (.reg [.op (.mov (.c (.int .i64 0)))])
 (.block 2 [[6], [], [], [], [38, 10], [35, 9], [34, 8], [7], [14], [], [0, 15], [1, 27], [2, 20]] (.pre [1, 0] 0 ac10L1)))
 (.seq (.post (.reg [.nop 5,
  .op (.bin .eql 32 (.v 5) (.c (.int .i64 0))),
  .nop 0,
  .opg (.mov (.v 7)) 0 true,
  .opg (.len false (.v 0)) 1 true,
  .opg (.bin .gtr 3 (.v 0) (.c (.int .i64 0))) 2 true,
  .op (.pick (.v 3) (.v 0) (.c (.bool false))),
  .nop 0]) [0] 5)
 (.ret [.v 0])))))))))))⟩

/-- tegula/tegulalaw21.LayoutSlots -/
def ac11 : AFn := ⟨2, [],
 (.seq (.reg [.op (.box (.v 1)),
  .op (.mov (.c (.bool false)))])
 (.seq (.seq (.post (.reg [.op (.call 13 []),
  .op (.una .not (.v 0))]) [0] 2)
 (.cond (.v 0) (.seq (.reg [.op (.mov (.c (.bool false)))])
 (.ret [.v 0]))
 .skip))
 (.seq (.post (.regD [.op (.ida 3 1 (.v 2) (.c (.int .i64 0))),
  .op (.ld1 (.v 0)),
  .op (.ida 3 1 (.v 4) (.c (.int .i64 1))),
  .op (.ld1 (.v 0)),
  .op (.ida 3 1 (.v 6) (.c (.int .i64 2))),
  .op (.ld1 (.v 0)),
  .nop 4,
  .nop 2,
  .nop 0] [0, 1, 0, 4, 0, 16, 3, 79, 255]) [0, 2, 4] 6)
 (.seq (.post (.reg [.nop 6,
  .op (.call 14 [(.v 6)]),
  .op (.new [(.int .i64 0), (.slice none 0 0), (.int .i64 0), (.int .i64 0)]),
  .eff (.st 4 (.v 0) (.v 1))]) [0] 2)
 (.seq (.post (.reg [.op (.ldn 4 (.v 0)),
  .op (.call 23 [(.v 0)]),
  .op (.bin .sub 3 (.v 0) (.c (.int .i64 3))),
  .nop 0]) [0] 3)
 (.seq (.post (.reg [.op (.ldn 4 (.v 1)),
  .nop 5,
  .op (.call 35 [(.v 0), (.v 5)]),
  .nop 0,
  .op (.extr 0 (.v 0)),
  .op (.extr 1 (.v 1)),
  .op (.extr 2 (.v 2)),
  .nop 2,
  .nop 1,
  .nop 0]) [0, 1, 2] 5)
 (.seq (.seq (.post (.reg [.nop 7,
  .op (.bin .lss 3 (.v 7) (.c (.int .i64 0))),
  .nop 0,
  .opg (.mov (.v 8)) 0 false,
  .opg (.ldn 4 (.v 6)) 1 false,
  .opg (.call 32 [(.v 0)]) 2 false,
  .opg (.bin .geq 3 (.v 2) (.v 0)) 3 false,
  .op (.pick (.v 4) (.c (.bool true)) (.v 0))]) [0] 6)
 (.cond (.v 0) (.post (.seq (.post (.reg [.nop 1,
  .op (.bin .neq 32 (.v 1) (.c (.int .i64 2))),
  .nop 0,
  .opg (.mov (.v 4)) 0 false,
  .opg (.bin .neq 3 (.v 0) (.c (.int .i64 0))) 1 false,
  .op (.pick (.v 2) (.c (.bool true)) (.v 0)),
  .nop 0,
  .opg (.mov (.v 6)) 0 false,
  .opg (.bin .neq 3 (.v 0) (.c (.int .i64 0))) 1 false,
  .op (.pick (.v 2) (.c (.bool true)) (.v 0))]) [0] 7)
 (.cond (.v 0) (.seq (.reg [.op (.mov (.c (.bool false)))])
 (.ret [.v 0]))
 .skip)) [11] 1)
 (.post (.seq (.post (.reg [.op (.ldn 4 (.v 5)),
  .nop 4,
  .nop 3,
  .op (.call 36 [(.v 0), (.v 4), (.v 3)]),
  .nop 0,
  .op (.extr 0 (.v 0)),
  .op (.extr 1 (.v 1)),
  .nop 1,
  .nop 0]) [0, 1] 4)
 (.seq (.post (.reg [.nop 3,
  .op (.bin .neq 32 (.v 3) (.c (.int .i64 0))),
  .nop 0,
  .opg (.mov (.v 6)) 0 false,
  .opg (.mov (.v 12)) 1 false,
  .opg (.mov (.v 9)) 2 false,
  .opg (.bin .quo 3 (.v 1) (.v 0)) 3 false,
  .opg (.bin .neq 3 (.v 3) (.v 0)) 4 false,
  .op (.pick (.v 5) (.c (.bool true)) (.v 0)),
  .nop 0,
  .opg (.mov (.v 11)) 0 false,
  .opg (.mov (.v 18)) 1 false,
  .opg (.mov (.v 15)) 2 false,
  .opg (.bin .rem 3 (.v 1) (.v 0)) 3 false,
  .opg (.bin .neq 3 (.v 3) (.v 0)) 4 false,
  .op (.pick (.v 5) (.c (.bool true)) (.v 0)),
  .nop 0,
  .opg (.mov (.v 13)) 0 false,
  .opg (.bin .neq 32 (.v 0) (.c (.int .i64 0))) 1 false,
  .op (.pick (.v 2) (.c (.bool true)) (.v 0)),
  .nop 0,
  .opg (.mov (.v 17)) 0 false,
  .opg (.mov (.v 27)) 1 false,
  .opg (.bin .neq 3 (.v 1) (.v 0)) 2 false,
  .op (.pick (.v 3) (.c (.bool true)) (.v 0))]) [0] 20)
 (.cond (.v 0) (.seq (.reg [.op (.mov (.c (.bool false)))])
 (.ret [.v 0]))
 .skip))) [13] 3)))
 (.seq (.post (.reg [.op (.ldn 4 (.v 6)),
  .nop 9,
  .nop 8,
  .op (.call 36 [(.v 0), (.v 9), (.v 8)]),
  .nop 0,
  .op (.extr 0 (.v 0)),
  .op (.extr 1 (.v 1)),
  .nop 1,
  .nop 0]) [0, 1] 4)
 (.seq (.seq (.post (.reg [.op (.ldn 4 (.v 8)),
  .nop 11,
  .nop 10,
  .op (.call 16 [(.v 0), (.v 11), (.v 10)]),
  .op (.una .not (.v 0))]) [0] 3)
 (.cond (.v 0) (.seq (.post (.reg [.nop 1,
  .op (.bin .eql 32 (.v 1) (.c (.int .i64 2))),
  .nop 0,
  .opg (.mov (.v 3)) 0 true,
  .opg (.bin .eql 3 (.v 0) (.c (.int .i64 0))) 1 true,
  .op (.pick (.v 2) (.v 0) (.c (.bool false))),
  .nop 0]) [0] 4)
 (.ret [.v 0]))
 .skip))
 (.seq (.seq (.reg [.nop 10,
  .nop 8,
  .op (.bin .geq 3 (.v 10) (.v 8))])
 (.cond (.v 0) (.seq (.post (.reg [.nop 2,
  .op (.bin .eql 32 (.v 2) (.c (.int .i64 9))),
  .nop 0,
  .opg (.mov (.v 4)) 0 true,
  .opg (.bin .eql 3 (.v 0) (.c (.int .i64 0))) 1 true,
  .op (.pick (.v 2) (.v 0) (.c (.bool false))),
  .nop 0]) [0] 4)
 (.ret [.v 0]))
 .skip))
 (.seq (.post (.reg [.nop 2,
  .op (.bin .eql 32 (.v 2) (.c (.int .i64 0))),
  .nop 0,
  .opg (.mov (.v 4)) 0 true,
  .opg (.mov (.v 14)) 1 true,
  .opg (.mov (.v 12)) 2 true,
  .opg (.bin .mul 3 (.v 1) (.v 0)) 3 true,
  .opg (.mov (.v 16)) 4 true,
  .opg (.bin .add 3 (.v 1) (.v 0)) 5 true,
  .opg (.bin .eql 3 (.v 5) (.v 0)) 6 true,
  .op (.pick (.v 7) (.v 0) (.c (.bool false))),
  .nop 0]) [0] 9)
 (.ret [.v 0]))))))))))))⟩

/-- tegula/tegulalaw21.LayoutErrors -/
def ac12 : AFn := ⟨2, [],
 (.seq (.reg [.op (.box (.v 0)),
  .op (.mov (.c (.bool false)))])
 (.seq (.seq (.post (.reg [.op (.call 13 []),
  .op (.una .not (.v 0))]) [0] 2)
 (.cond (.v 0) (.seq (.reg [.op (.mov (.c (.bool false)))])
 (.ret [.v 0]))
 .skip))
 (.seq (.seq (.post (.reg [.op (.ldn 4 (.v 2)),
  .op (.call 27 [(.v 0)]),
  .op (.una .not (.v 0)),
  .nop 0,
  .opg (.ldn 4 (.v 5)) 0 false,
  .opg (.call 29 [(.v 0)]) 1 false,
  .op (.pick (.v 2) (.c (.bool true)) (.v 0))]) [0] 6)
 (.cond (.v 0) (.seq (.reg [.op (.mov (.c (.bool true)))])
 (.ret [.v 0]))
 .skip))
 (.seq (.post (.reg [.op (.ldn 4 (.v 3)),
  .nop 6,
  .nop 6,
  .op (.call 15 [(.v 0), (.v 6), (.v 6)]),
  .nop 0,
  .op (.extr 0 (.v 0)),
  .op (.extr 1 (.v 1)),
  .op (.new [(.int .i64 0), (.int .i64 0)]),
  .eff (.st 2 (.v 0) (.v 2)),
  .nop 1]) [1] 5)
 (.seq (.post (.reg [.op (.ldn 4 (.v 4)),
  .nop 7,
  .nop 7,
  .op (.build [(.int .i64 0), (.int .i64 0)] [(0, 1, (.v 7)), (1, 1, (.v 7))]),
  .op (.call 18 [(.v 1), (.v 0)]),
  .nop 0,
  .op (.extr 0 (.v 0)),
  .op (.extr 1 (.v 1)),
  .op (.extr 2 (.v 2)),
  .nop 2,
  .nop 1,
  .nop 0]) [0] 6)
 (.seq (.post (.reg [.op (.ldn 4 (.v 5)),
  .nop 8,
  .op (.call 35 [(.v 0), (.v 8)]),
  .nop 0,
  .op (.extr 0 (.v 0)),
  .op (.extr 1 (.v 1)),
  .op (.extr 2 (.v 2)),
  .nop 2,
  .nop 1,
  .nop 0]) [0] 5)
 (.seq (.post (.reg [.op (.ldn 4 (.v 6)),
  .nop 9,
  .nop 9,
  .op (.call 36 [(.v 0), (.v 9), (.v 9)]),
  .nop 0,
  .op (.extr 0 (.v 0)),
  .op (.extr 1 (.v 1)),
  .nop 1,
  .nop 0]) [0] 4)
 (.seq (.post (.reg [.op (.ldn 4 (.v 7)),
  .nop 10,
  .op (.call 33 [(.v 0), (.v 10)]),
  .nop 0,
  .op (.extr 0 (.v 0)),
  .op (.extr 1 (.v 1)),
  .nop 1,
  .nop 0]) [0, 1] 4)
 (.seq (.post (.reg [.nop 5,
  .op (.bin .eql 32 (.v 5) (.c (.int .i64 1))),
  .nop 0,
  .opg (.mov (.v 5)) 0 true,
  .opg (.bin .eql 32 (.v 0) (.c (.int .i64 1))) 1 true,
  .op (.pick (.v 2) (.v 0) (.c (.bool false))),
  .nop 0,
  .opg (.mov (.v 7)) 0 true,
  .opg (.bin .eql 32 (.v 0) (.c (.int .i64 1))) 1 true,
  .op (.pick (.v 2) (.v 0) (.c (.bool false))),
  .nop 0,
  .opg (.mov (.v 9)) 0 true,
  .opg (.bin .eql 32 (.v 0) (.c (.int .i64 1))) 1 true,
  .op (.pick (.v 2) (.v 0) (.c (.bool false))),
  .nop 0,
  .opg (.mov (.v 10)) 0 true,
  .opg (.bin .eql 32 (.v 0) (.c (.int .i64 1))) 1 true,
  .op (.pick (.v 2) (.v 0) (.c (.bool false))),
  .nop 0,
  .opg (.mov (.v 14)) 0 true,
  .opg (.len false (.v 0)) 1 true,
  .opg (.bin .eql 3 (.v 0) (.c (.int .i64 0))) 2 true,
  .op (.pick (.v 3) (.v 0) (.c (.bool false))),
  .nop 0]) [0] 17)
 (.ret [.v 0]))))))))))⟩

/-- tegula/tegulalaw21.awake -/
def ac13 : AFn := ⟨0, [],
 (.seq (.reg [.op (.mov (.c (.bool false)))])
 (.seq (.post (.reg [.op (.call 37 [(.c (.int .i64 5)), (.c (.int .i64 4))]),
  .op (.build [(.int .i64 0), (.slice none 0 0), (.int .i64 0), (.int .i64 0)] [(0, 2, (.v 0)), (2, 1, (.c (.int .i64 2))), (3, 1, (.c (.int .i64 3)))]),
  .op (.new [(.int .i64 0), (.slice none 0 0), (.int .i64 0), (.int .i64 0)]),
  .eff (.st 4 (.v 0) (.v 1))]) [0] 3)
 (.seq (.post (.reg [.op (.ldn 4 (.v 0)),
  .op (.call 15 [(.v 0), (.c (.int .i64 1)), (.c (.int .i64 3))]),
  .nop 0,
  .op (.extr 0 (.v 0)),
  .op (.extr 1 (.v 1)),
  .op (.new [(.int .i64 0), (.int .i64 0)]),
  .eff (.st 2 (.v 0) (.v 2)),
  .nop 1]) [0, 1] 5)
 (.seq (.post (.reg [.op (.ldn 4 (.v 2)),
  .op (.call 15 [(.v 0), (.c (.int .i64 6)), (.c (.int .i64 0))]),
  .nop 0,
  .op (.extr 0 (.v 0)),
  .op (.extr 1 (.v 1)),
  .op (.new [(.int .i64 0), (.int .i64 0)]),
  .eff (.st 2 (.v 0) (.v 2)),
  .nop 1]) [0, 1] 5)
 (.seq (.post (.reg [.op (.ldn 4 (.v 4)),
  .op (.call 15 [(.v 0), (.c (.int .i64 6)), (.c (.int .i64 3))]),
  .nop 0,
  .op (.extr 0 (.v 0)),
  .op (.extr 1 (.v 1)),
  .op (.new [(.int .i64 0), (.int .i64 0)]),
  .eff (.st 2 (.v 0) (.v 2)),
  .nop 1]) [0, 1] 5)
 (.seq (.post (.reg [.op (.ldn 4 (.v 6)),
  .op (.build [(.int .i64 0), (.int .i64 0)] [(0, 1, (.c (.int .i64 4))), (1, 1, (.c (.int .i64 4)))]),
  .op (.call 18 [(.v 1), (.v 0)]),
  .nop 0,
  .op (.extr 0 (.v 0)),
  .op (.extr 1 (.v 1)),
  .op (.extr 2 (.v 2)),
  .nop 2,
  .nop 1,
  .nop 0]) [0, 1, 2] 6)
 (.seq (.post (.reg [.nop 8,
  .op (.bin .eql 32 (.v 8) (.c (.int .i64 0))),
  .nop 0,
  .opg (.mov (.v 7)) 0 true,
  .opg (.bin .eql 32 (.v 0) (.c (.int .i64 0))) 1 true,
  .op (.pick (.v 2) (.v 0) (.c (.bool false))),
  .nop 0,
  .opg (.mov (.v 8)) 0 true,
  .opg (.bin .eql 32 (.v 0) (.c (.int .i64 0))) 1 true,
  .op (.pick (.v 2) (.v 0) (.c (.bool false))),
  .nop 0,
  .opg (.mov (.v 7)) 0 true,
  .opg (.bin .eql 32 (.v 0) (.c (.int .i64 0))) 1 true,
  .op (.pick (.v 2) (.v 0) (.c (.bool false))),
  .nop 0,
  .opg (.ldn 2 (.v 17)) 0 true,
  .opg (.build [(.int .i64 0), (.int .i64 0)] [(0, 1, (.c (.int .i64 4)))]) 1 true,
  .opg (.bin .eql 31 (.v 1) (.v 0)) 2 true,
  .op (.pick (.v 3) (.v 0) (.c (.bool false))),
  .nop 0,
  .opg (.ldn 2 (.v 19)) 0 true,
  .opg (.build [(.int .i64 0), (.int .i64 0)] [(0, 1, (.c (.int .i64 1))), (1, 1, (.c (.int .i64 5)))]) 1 true,
  .opg (.bin .eql 31 (.v 1) (.v 0)) 2 true,
  .op (.pick (.v 3) (.v 0) (.c (.bool false))),
  .nop 0,
  .opg (.ldn 2 (.v 21)) 0 true,
  .opg (.build [(.int .i64 0), (.int .i64 0)] [(0, 1, (.c (.int .i64 0))), (1, 1, (.c (.int .i64 5)))]) 1 true,
  .opg (.bin .eql 31 (.v 1) (.v 0)) 2 true,
  .op (.pick (.v 3) (.v 0) (.c (.bool false))),
  .nop 0,
  .opg (.mov (.v 24)) 0 true,
  .opg (.bin .eql 3 (.v 0) (.c (.int .i64 6))) 1 true,
  .op (.pick (.v 2) (.v 0) (.c (.bool false))),
  .nop 0,
  .opg (.mov (.v 26)) 0 true,
  .opg (.bin .eql 3 (.v 0) (.c (.int .i64 2))) 1 true,
  .op (.pick (.v 2) (.v 0) (.c (.bool false))),
  .nop 0,
  .opg (.ldn 4 (.v 37)) 0 true,
  .opg (.call 31 [(.v 0)]) 1 true,
  .opg (.bin .eql 3 (.v 0) (.c (.int .i64 10))) 2 true,
  .op (.pick (.v 3) (.v 0) (.c (.bool false))),
  .nop 0,
  .opg (.ldn 4 (.v 41)) 0 true,
  .opg (.call 24 [(.v 0)]) 1 true,
  .opg (.bin .eql 3 (.v 0) (.c (.int .i64 11))) 2 true,
  .op (.pick (.v 3) (.v 0) (.c (.bool false))),
  .nop 0]) [0] 36)
 (.ret [.v 0]))))))))⟩

/-- tegula/tegularef21.Small -/
def ac14 : AFn := ⟨1, [],
 (.seq (.reg [.op (.new [(.int .i64 0), (.slice none 0 0), (.int .i64 0), (.int .i64 0)])])
 (.seq (.reg [.op (.new [(.int .i64 0), (.slice none 0 0)])])
 (.seq (.reg [.nop 2,
  .op (.conv .i64 (.v 2)),
  .nop 0])
 (.seq (.seq (.reg [.nop 0,
  .op (.bin .rem 3 (.v 0) (.c (.int .i64 8)))])
 (.block 0 [[8], [6, 4, 7], [3], [2], [0, 5]] (.post (.seq (.seq (.reg [.op (.bin .eql 3 (.v 0) (.c (.int .i64 0))),
  .nop 0])
 (.cond (.v 0) (.post .skip [0] 0)
 (.post (.seq (.reg [.op (.bin .eql 3 (.v 1) (.c (.int .i64 1))),
  .nop 0])
 (.cond (.v 0) (.post .skip [0] 0)
 (.reg [.op (.bin .eql 3 (.v 2) (.c (.int .i64 2))),
  .nop 0]))) [0] 2)))
 (.cond (.v 0) (.post (.reg [.op (.call 37 [(.c (.int .i64 5)), (.c (.int .i64 4))]),
  .eff (.st 2 (.v 5) (.v 0))]) [] 1)
 (.post (.seq (.reg [.op (.bin .eql 3 (.v 2) (.c (.int .i64 3))),
  .nop 0])
 (.cond (.v 0) (.post (.reg [.op (.call 37 [(.c (.int .i64 6)), (.c (.int .i64 4))]),
  .eff (.st 2 (.v 6) (.v 0))]) [] 1)
 (.post (.seq (.reg [.op (.bin .eql 3 (.v 3) (.c (.int .i64 4))),
  .nop 0])
 (.cond (.v 0) (.post (.reg [.op (.call 37 [(.c (.int .i64 6)), (.c (.int .i64 5))]),
  .eff (.st 2 (.v 7) (.v 0))]) [] 1)
 (.post (.seq (.reg [.op (.bin .eql 3 (.v 4) (.c (.int .i64 5))),
  .nop 0])
 (.cond (.v 0) (.post (.reg [.nop 6,
  .op (.bin .quo 3 (.v 6) (.c (.int .i64 8))),
  .op (.bin .rem 3 (.v 0) (.c (.int .i64 2))),
  .op (.bin .add 3 (.c (.int .i64 4)) (.v 0)),
  .nop 9,
  .op (.bin .quo 3 (.v 9) (.c (.int .i64 8))),
  .op (.bin .rem 3 (.v 0) (.c (.int .i64 2))),
  .op (.bin .add 3 (.c (.int .i64 4)) (.v 0)),
  .op (.call 37 [(.v 3), (.v 0)]),
  .eff (.st 2 (.v 14) (.v 0))]) [] 7)
 (.post (.seq (.reg [.op (.bin .eql 3 (.v 5) (.c (.int .i64 6))),
  .nop 0])
 (.cond (.v 0) (.post (.reg [.op (.call 38 [(.c (.int .i64 3))]),
  .eff (.st 2 (.v 9) (.v 0))]) [] 1)
 (.post (.seq (.reg [.op (.bin .eql 3 (.v 6) (.c (.int .i64 7))),
  .nop 0])
 (.cond (.v 0) (.post (.reg [.op (.call 37 [(.c (.int .i64 7)), (.c (.int .i64 5))]),
  .eff (.st 2 (.v 10) (.v 0))]) [] 1)
 .skip)) [] 1))) [] 1))) [] 1))) [] 1))) [] 1))) [] 2)))
 (.seq (.post (.reg [.op (.ldn 2 (.v 2)),
  .nop 2,
  .op (.bin .quo 3 (.v 2) (.c (.int .i64 16))),
  .op (.bin .rem 3 (.v 0) (.c (.int .i64 5))),
  .op (.bin .add 3 (.c (.int .i64 1)) (.v 0)),
  .nop 5,
  .op (.bin .quo 3 (.v 5) (.c (.int .i64 80))),
  .op (.bin .rem 3 (.v 0) (.c (.int .i64 8))),
  .op (.build [(.int .i64 0), (.slice none 0 0), (.int .i64 0), (.int .i64 0)] [(0, 2, (.v 5)), (2, 1, (.v 2)), (3, 1, (.v 0))]),
  .eff (.st 4 (.v 10) (.v 0))]) [] 7)
 (.ret [.cells 3 4]))))))⟩

/-- tegula/layout.Home -/
def ac15 : AFn := ⟨3, [],
 (.seq (.reg [.op (.box (.v 0)),
  .op (.new [(.int .i64 0), (.int .i64 0)]),
  .op (.mov (.c (.int .i64 0)))])
 (.seq (.post (.reg [.op (.ldn 4 (.v 2)),
  .op (.call 39 [(.v 0)]),
  .nop 0,
  .op (.extr 0 (.v 0)),
  .op (.extr 1 (.v 1)),
  .op (.new [(.int .i64 0), (.slice none 0 0), (.int .i64 0), (.int .i64 0), (.int .i64 0), (.int .i64 0), (.int .i64 0), (.slice none 0 0), (.slice none 0 0), (.int .i64 0), (.int .i64 0)]),
  .eff (.st 11 (.v 0) (.v 2)),
  .nop 1]) [0, 1] 5)
 (.seq (.block 0 [[7], [8], [14, 9], [], [6], [3], [0], [1], [2]] (.post (.seq (.reg [.nop 1,
  .op (.una .not (.v 1)),
  .nop 0])
 (.cond (.v 0) (.seq (.post (.reg [.op (.build [(.int .i64 0), (.int .i64 0)] []),
  .eff (.st 2 (.v 5) (.v 0)),
  .op (.mov (.c (.int .i64 1)))]) [0] 2)
 (.ret [.cells 5 2, .v 0]))
 (.seq (.post (.reg [.op (.ldn 11 (.v 1)),
  .nop 8,
  .nop 9,
  .op (.call 40 [(.v 0), (.v 8), (.v 9)]),
  .op (.una .not (.v 0)),
  .nop 0]) [0] 3)
 (.cond (.v 0) (.seq (.post (.reg [.op (.build [(.int .i64 0), (.int .i64 0)] []),
  .eff (.st 2 (.v 6) (.v 0)),
  .op (.mov (.c (.int .i64 2)))]) [0] 2)
 (.ret [.cells 6 2, .v 0]))
 .skip)))) [4] 2))
 (.seq (.post (.reg [.op (.ldn 11 (.v 1)),
  .nop 8,
  .nop 9,
  .op (.call 41 [(.v 0), (.v 8), (.v 9)]),
  .eff (.st 2 (.v 6) (.v 0)),
  .op (.mov (.c (.int .i64 0)))]) [0] 3)
 (.ret [.cells 5 2, .v 0])))))⟩

/-- tegula/tegularef21.Is -/
def ac16 : AFn := ⟨3, [],
 (.seq (.reg [.op (.box (.v 0)),
  .op (.mov (.c (.bool false)))])
 (.seq (.post (.reg [.nop 3,
  .op (.bin .geq 3 (.v 3) (.c (.int .i64 0))),
  .nop 0,
  .opg (.mov (.v 4)) 0 true,
  .opg (.ldn 4 (.v 3)) 1 true,
  .opg (.call 22 [(.v 0)]) 2 true,
  .opg (.bin .lss 3 (.v 2) (.v 0)) 3 true,
  .op (.pick (.v 4) (.v 0) (.c (.bool false))),
  .nop 0,
  .opg (.mov (.v 10)) 0 true,
  .opg (.bin .geq 3 (.v 0) (.c (.int .i64 0))) 1 true,
  .op (.pick (.v 2) (.v 0) (.c (.bool false))),
  .nop 0,
  .opg (.mov (.v 13)) 0 true,
  .opg (.ldn 4 (.v 11)) 1 true,
  .opg (.call 23 [(.v 0)]) 2 true,
  .opg (.bin .lss 3 (.v 2) (.v 0)) 3 true,
  .op (.pick (.v 4) (.v 0) (.c (.bool false))),
  .nop 0]) [0] 14)
 (.ret [.v 0])))⟩

def ac17L0b : AC :=
 (.post (.seq (.seq (.reg [.nop 2,
  .nop 9,
  .op (.bin .lss 3 (.v 2) (.v 9))])
 (.cond (.v 0) .skip
 (.pre [1, 2] 4 (.exit 0))))
 (.seq (.block 1 [[11], [12], [40], [], [], [13, 38], [], [], [], [37, 10], [23, 9, 27], [20, 8, 31], [17, 7, 19, 22, 39], [6], [3], [0], [1, 18, 21], [2, 30]] (.post (.seq (.reg [.op (.fld 0 (.v 12)),
  .op (.fld 1 (.v 0)),
  .op (.ld1 (.v 0)),
  .nop 6,
  .op (.idx 1 (.v 0) (.v 6)),
  .op (.ld1 (.v 0)),
  .nop 12,
  .op (.call 42 [(.v 0), (.v 12)])])
 (.cond (.v 0) (.post (.seq (.reg [.nop 7,
  .op (.bin .add 3 (.v 7) (.c (.int .i64 1))),
  .nop 0])
 (.seq (.reg [.nop 10,
  .nop 15,
  .op (.bin .lss 3 (.v 10) (.v 15))])
 (.cond (.v 0) (.reg [.nop 10,
  .op (.bin .add 3 (.v 10) (.c (.int .i64 1))),
  .nop 0])
 (.post .skip [10] 0)))) [2, 0] 3)
 (.post .skip [7, 8] 0))) [0, 1] 8))
 (.reg [.nop 5,
  .op (.bin .add 3 (.v 5) (.c (.int .i64 1))),
  .nop 0]))) [1, 2, 0] 7)
def ac17L0 : AC := .loop [[11], [12], [13], [], [], [], [37, 10], [23, 9, 27], [20, 8, 31], [17, 7, 19, 22], [6], [3], [0], [1, 18, 21], [2, 30]] ac17L0b
/-- tegula/tegularef21.Home -/
def ac17 : AFn := ⟨3, [],
 (.seq (.reg [.op (.box (.v 0)),
  .op (.new [(.int .i64 0), (.int .i64 0)])])
 (.seq (.post (.reg [.op (.fld 0 (.v 1)),
  .op (.fld 1 (.v 0)),
  .op (.ld1 (.v 0)),
  .op (.len false (.v 0)),
  .nop 0]) [0] 4)
 (.seq (.regD [.nop 4,
  .nop 0,
  .op (.bin .quo 3 (.v 4) (.v 0)),
  .nop 5,
  .nop 1,
  .op (.bin .rem 3 (.v 5) (.v 1)),
  .nop 1,
  .nop 0] [0, 0, 3, 0, 0, 24, 7, 127])
 (.seq (.post (.regD [.op (.fld 0 (.v 4)),
  .op (.fld 1 (.v 0)),
  .op (.ld1 (.v 0)),
  .nop 3,
  .op (.idx 1 (.v 0) (.v 3)),
  .op (.ld1 (.v 0)),
  .nop 12,
  .nop 6,
  .op (.bin .add 3 (.v 12) (.v 6)),
  .op (.ldn 4 (.v 10)),
  .op (.call 23 [(.v 0)]),
  .op (.bin .rem 3 (.v 2) (.v 0)),
  .op (.idx 1 (.v 4) (.v 0)),
  .op (.ld1 (.v 0)),
  .nop 0] [0, 1, 3, 0, 15, 31, 0, 0, 192, 0, 512, 1984, 4095, 8191, 16383]) [0] 11)
 (.seq (.reg [.op (.mov (.c (.int .i64 0))),
  .op (.mov (.c (.int .i64 0)))])
 (.seq (.seq (.reg [.op (.mov (.c (.int .i64 0)))])
 (.block 0 [[11], [12], [], [], [], [37, 10], [23, 9, 27], [20, 8, 31], [17, 7, 19, 22], [6], [3], [0], [1, 18, 21], [2, 30]] (.pre [2, 1, 0] 0 ac17L0)))
 (.seq (.post (.reg [.nop 5,
  .nop 7,
  .nop 0,
  .op (.bin .mul 3 (.v 7) (.v 0)),
  .nop 2,
  .op (.bin .add 3 (.v 0) (.v 2)),
  .op (.build [(.int .i64 0), (.int .i64 0)] [(0, 1, (.v 7)), (1, 1, (.v 0))]),
  .eff (.st 2 (.v 12) (.v 0))]) [] 3)
 (.ret [.cells 9 2]))))))))⟩

/-- tegula/layout.At -/
def ac18 : AFn := ⟨2, [],
 (.seq (.reg [.op (.box (.v 0)),
  .op (.box (.v 2)),
  .op (.mov (.c (.int .i64 0))),
  .op (.mov (.c (.int .i64 0))),
  .op (.mov (.c (.int .i64 0)))])
 (.seq (.post (.reg [.op (.ldn 4 (.v 4)),
  .op (.call 39 [(.v 0)]),
  .nop 0,
  .op (.extr 0 (.v 0)),
  .op (.extr 1 (.v 1)),
  .op (.new [(.int .i64 0), (.slice none 0 0), (.int .i64 0), (.int .i64 0), (.int .i64 0), (.int .i64 0), (.int .i64 0), (.slice none 0 0), (.slice none 0 0), (.int .i64 0), (.int .i64 0)]),
  .eff (.st 11 (.v 0) (.v 2)),
  .nop 1]) [0, 1] 5)
 (.seq (.block 0 [[4], [5], [6], [7], [14, 8], [], [], [], [3], [2], [0], [1]] (.post (.seq (.reg [.nop 1,
  .op (.una .not (.v 1)),
  .nop 0])
 (.cond (.v 0) (.seq (.reg [.op (.mov (.c (.int .i64 0))),
  .op (.mov (.c (.int .i64 0))),
  .op (.mov (.c (.int .i64 1)))])
 (.ret [.v 2, .v 1, .v 0]))
 (.seq (.post (.reg [.op (.fld 0 (.v 6)),
  .op (.ld1 (.v 0)),
  .op (.bin .lss 3 (.v 0) (.c (.int .i64 0))),
  .nop 0,
  .opg (.fld 0 (.v 9)) 0 false,
  .opg (.ld1 (.v 0)) 1 false,
  .opg (.fld 0 (.v 12)) 2 false,
  .opg (.fld 0 (.v 0)) 3 false,
  .opg (.ld1 (.v 0)) 4 false,
  .opg (.bin .geq 3 (.v 3) (.v 0)) 5 false,
  .op (.pick (.v 6) (.c (.bool true)) (.v 0)),
  .nop 0,
  .opg (.fld 1 (.v 16)) 0 false,
  .opg (.ld1 (.v 0)) 1 false,
  .opg (.bin .lss 3 (.v 0) (.c (.int .i64 0))) 2 false,
  .op (.pick (.v 3) (.c (.bool true)) (.v 0)),
  .nop 0,
  .opg (.fld 1 (.v 20)) 0 false,
  .opg (.ld1 (.v 0)) 1 false,
  .opg (.fld 10 (.v 17)) 2 false,
  .opg (.ld1 (.v 0)) 3 false,
  .opg (.bin .geq 3 (.v 2) (.v 0)) 4 false,
  .op (.pick (.v 5) (.c (.bool true)) (.v 0)),
  .nop 0]) [0] 20)
 (.cond (.v 0) (.seq (.reg [.op (.mov (.c (.int .i64 0))),
  .op (.mov (.c (.int .i64 0))),
  .op (.mov (.c (.int .i64 2)))])
 (.ret [.v 2, .v 1, .v 0]))
 (.seq (.post (.reg [.op (.fld 1 (.v 7)),
  .op (.ld1 (.v 0)),
  .op (.fld 9 (.v 4)),
  .op (.ld1 (.v 0)),
  .op (.bin .geq 3 (.v 2) (.v 0)),
  .nop 0]) [0] 5)
 (.cond (.v 0) (.seq (.reg [.op (.mov (.c (.int .i64 0))),
  .op (.mov (.c (.int .i64 0))),
  .op (.mov (.c (.int .i64 9)))])
 (.ret [.v 2, .v 1, .v 0]))
 .skip)))))) [7, 6, 5] 3))
 (.seq (.post (.reg [.op (.ldn 11 (.v 3)),
  .op (.fld 0 (.v 9)),
  .op (.ld1 (.v 0)),
  .op (.fld 1 (.v 11)),
  .op (.ld1 (.v 0)),
  .op (.call 43 [(.v 4), (.v 2), (.v 0)]),
  .op (.new [(.int .i64 0), (.int .i64 0)]),
  .eff (.st 2 (.v 0) (.v 1))]) [0] 7)
 (.seq (.post (.regD [.op (.fld 0 (.v 0)),
  .op (.ld1 (.v 0)),
  .op (.fld 1 (.v 2)),
  .op (.ld1 (.v 0)),
  .nop 2,
  .nop 0,
  .op (.mov (.c (.int .i64 0)))] [0, 1, 0, 4, 3, 31, 63]) [0, 1, 3] 5)
 (.ret [.v 2, .v 1, .v 0]))))))⟩

/-- tegula/tegularef21.Blocks -/
def ac19 : AFn := ⟨1, [],
 (.seq (.reg [.op (.box (.v 0)),
  .op (.mov (.c (.int .i64 0)))])
 (.seq (.post (.regD [.op (.ldn 4 (.v 1)),
  .op (.call 21 [(.v 0)]),
  .op (.fld 3 (.v 3)),
  .op (.ld1 (.v 0)),
  .op (.bin .add 3 (.v 2) (.v 0)),
  .nop 0] [0, 1, 0, 4, 15, 31]) [0] 5)
 (.ret [.v 0])))⟩

def ac20L0b : AC :=
 (.post (.seq (.seq (.reg [.nop 3,
  .op (.ldn 4 (.v 17)),
  .op (.call 23 [(.v 0)]),
  .op (.bin .lss 3 (.v 5) (.v 0))])
 (.cond (.v 0) .skip
 (.pre [3, 4, 5, 6] 7 (.exit 2))))
 (.seq (.block 3 [[4], [5], [6], [18], [17], [16], [], [], [], [8, 15], [], [12], [11], [10], [], [], [], [7, 9], [], [], [], [], [3], [2], [0], [1]] (.post (.seq (.regD [.op (.ldn 4 (.v 20)),
  .nop 15,
  .nop 7,
  .op (.call 17 [(.v 0), (.v 15), (.v 7)]),
  .op (.ldn 2 (.v 21)),
  .op (.bin .eql 31 (.v 1) (.v 0))] [0, 0, 0, 7, 0, 31])
 (.cond (.v 0) (.seq (.reg [.nop 18,
  .nop 10,
  .nop 18,
  .nop 10,
  .op (.mov (.c (.bool true)))])
 (.ret [.v 19, .v 11, .v 0]))
 .skip)) [7, 8, 9] 4))
 (.reg [.nop 9,
  .op (.bin .add 3 (.v 9) (.c (.int .i64 1))),
  .nop 0]))) [1, 2, 3, 0] 11)
def ac20L0 : AC := .loop [[4], [5], [6], [8], [], [12], [11], [10], [], [], [], [7, 9], [], [], [], [], [3], [2], [0], [1]] ac20L0b
def ac20L1b : AC :=
 (.post (.seq (.seq (.reg [.nop 3,
  .op (.ldn 4 (.v 9)),
  .op (.call 22 [(.v 0)]),
  .op (.bin .lss 3 (.v 5) (.v 0))])
 (.cond (.v 0) .skip
 (.pre [3, 4, 5] 7 (.exit 0))))
 (.seq (.block 1 [[4], [5], [6], [12], [11], [10], [], [], [], [7, 9], [], [], [], [], [3], [2], [0], [1]] (.post (.seq (.reg [.op (.mov (.c (.int .i64 0)))])
 (.block 2 [[4], [5], [6], [8], [], [12], [11], [10], [], [], [], [7, 9], [], [], [], [], [3], [2], [0], [1]] (.pre [4, 5, 6, 0] 0 ac20L0))) [0, 1, 2] 5))
 (.reg [.nop 9,
  .op (.bin .add 3 (.v 9) (.c (.int .i64 1))),
  .nop 0]))) [1, 2, 3, 0] 11)
def ac20L1 : AC := .loop [[4], [5], [6], [7], [], [], [], [], [3], [2], [0], [1]] ac20L1b
/-- tegula/tegularef21.At -/
def ac20 : AFn := ⟨2, [],
 (.seq (.reg [.op (.box (.v 0)),
  .op (.box (.v 2)),
  .op (.mov (.c (.int .i64 0))),
  .op (.mov (.c (.int .i64 0))),
  .op (.mov (.c (.bool false)))])
 (.seq (.seq (.reg [.op (.mov (.c (.int .i64 0)))])
 (.block 0 [[4], [5], [6], [], [], [], [], [3], [2], [0], [1]] (.pre [3, 2, 1, 0] 0 ac20L1)))
 (.seq (.reg [.op (.mov (.c (.int .i64 0))),
  .op (.mov (.c (.int .i64 0))),
  .op (.mov (.c (.bool false)))])
 (.ret [.v 2, .v 1, .v 0]))))⟩

/-- tegula/tegularef21.Homes -/
def ac21 : AFn := ⟨1, [],
 (.seq (.reg [.op (.box (.v 0)),
  .op (.mov (.c (.int .i64 0)))])
 (.seq (.post (.reg [.op (.fld 0 (.v 1)),
  .op (.ldn 2 (.v 0)),
  .op (.call 44 [(.v 0)]),
  .nop 0,
  .op (.extr 0 (.v 0)),
  .op (.extr 1 (.v 1)),
  .op (.extr 2 (.v 2)),
  .nop 2,
  .nop 1,
  .nop 0]) [2] 6)
 (.seq (.post (.reg [.op (.fld 2 (.v 2)),
  .op (.ld1 (.v 0)),
  .nop 2,
  .op (.bin .mul 3 (.v 0) (.v 2)),
  .nop 0]) [0] 3)
 (.ret [.v 0]))))⟩

/-- tegula/tegularef21.Groups -/
def ac22 : AFn := ⟨1, [],
 (.seq (.reg [.op (.box (.v 0)),
  .op (.mov (.c (.int .i64 0)))])
 (.seq (.post (.reg [.op (.fld 2 (.v 1)),
  .op (.ld1 (.v 0)),
  .op (.fld 0 (.v 3)),
  .op (.fld 1 (.v 0)),
  .op (.ld1 (.v 0)),
  .op (.len false (.v 0)),
  .op (.bin .mul 3 (.v 4) (.v 0)),
  .nop 0]) [0] 7)
 (.ret [.v 0])))⟩

/-- tegula/tegularef21.Width -/
def ac23 : AFn := ⟨1, [],
 (.seq (.reg [.op (.box (.v 0)),
  .op (.mov (.c (.int .i64 0)))])
 (.seq (.post (.reg [.op (.fld 0 (.v 1)),
  .op (.fld 1 (.v 0)),
  .op (.ld1 (.v 0)),
  .op (.idx 1 (.v 0) (.c (.int .i64 0))),
  .op (.ld1 (.v 0)),
  .op (.len false (.v 0)),
  .nop 0]) [0] 6)
 (.ret [.v 0])))⟩

/-- tegula/layout.Blocks -/
def ac24 : AFn := ⟨1, [],
 (.seq (.reg [.op (.box (.v 0)),
  .op (.mov (.c (.int .i64 0)))])
 (.seq (.post (.reg [.op (.ldn 4 (.v 1)),
  .op (.call 39 [(.v 0)]),
  .nop 0,
  .op (.extr 0 (.v 0)),
  .op (.extr 1 (.v 1)),
  .op (.new [(.int .i64 0), (.slice none 0 0), (.int .i64 0), (.int .i64 0), (.int .i64 0), (.int .i64 0), (.int .i64 0), (.slice none 0 0), (.slice none 0 0), (.int .i64 0), (.int .i64 0)]),
  .eff (.st 11 (.v 0) (.v 2)),
  .nop 1]) [0] 5)
 (.seq (.post (.reg [.op (.fld 10 (.v 0)),
  .op (.ld1 (.v 0)),
  .nop 0]) [0] 2)
 (.ret [.v 0]))))⟩

/-- tegula/layout.Groups -/
def ac25 : AFn := ⟨1, [],
 (.seq (.reg [.op (.box (.v 0)),
  .op (.mov (.c (.int .i64 0)))])
 (.seq (.post (.reg [.op (.ldn 4 (.v 1)),
  .op (.call 39 [(.v 0)]),
  .nop 0,
  .op (.extr 0 (.v 0)),
  .op (.extr 1 (.v 1)),
  .op (.new [(.int .i64 0), (.slice none 0 0), (.int .i64 0), (.int .i64 0), (.int .i64 0), (.int .i64 0), (.int .i64 0), (.slice none 0 0), (.slice none 0 0), (.int .i64 0), (.int .i64 0)]),
  .eff (.st 11 (.v 0) (.v 2)),
  .nop 1]) [0] 5)
 (.seq (.post (.reg [.op (.ldn 11 (.v 0)),
  .op (.call 45 [(.v 0)]),
  .nop 0]) [0] 2)
 (.ret [.v 0]))))⟩

/-- tegula/layout.Width -/
def ac26 : AFn := ⟨1, [],
 (.seq (.reg [.op (.box (.v 0)),
  .op (.mov (.c (.int .i64 0)))])
 (.seq (.post (.reg [.op (.ldn 4 (.v 1)),
  .op (.call 39 [(.v 0)]),
  .nop 0,
  .op (.extr 0 (.v 0)),
  .op (.extr 1 (.v 1)),
  .op (.new [(.int .i64 0), (.slice none 0 0), (.int .i64 0), (.int .i64 0), (.int .i64 0), (.int .i64 0), (.int .i64 0), (.slice none 0 0), (.slice none 0 0), (.int .i64 0), (.int .i64 0)]),
  .eff (.st 11 (.v 0) (.v 2)),
  .nop 1]) [0] 5)
 (.seq (.post (.reg [.op (.fld 4 (.v 0)),
  .op (.ld1 (.v 0)),
  .nop 0]) [0] 2)
 (.ret [.v 0]))))⟩

def ac27L0b : AC :=
 (.post (.seq (.seq (.reg [.nop 1,
  .op (.fld 0 (.v 5)),
  .op (.fld 1 (.v 0)),
  .op (.ld1 (.v 0)),
  .op (.len false (.v 0)),
  .op (.bin .lss 3 (.v 5) (.v 0))])
 (.cond (.v 0) .skip
 (.pre [5] 7 (.exit 0))))
 (.seq (.block 1 [[2], [14], [13], [12], [11], [10], [], [3, 9], [], [8], [], [1], [0]] (.post (.seq (.reg [.op (.fld 0 (.v 10)),
  .op (.fld 1 (.v 0)),
  .op (.ld1 (.v 0)),
  .nop 9,
  .op (.idx 1 (.v 0) (.v 9)),
  .op (.ld1 (.v 0)),
  .op (.len false (.v 0)),
  .op (.bin .gtr 3 (.v 0) (.c (.int .i64 20)))])
 (.cond (.v 0) (.seq (.reg [.op (.mov (.c (.bool false)))])
 (.ret [.v 0]))
 .skip)) [12] 7))
 (.reg [.nop 7,
  .op (.bin .add 3 (.v 7) (.c (.int .i64 1))),
  .nop 0]))) [1, 0] 9)
def ac27L0 : AC := .loop [[2], [3], [], [8], [], [1], [0]] ac27L0b
/-- tegula/tegulalaw21.few -/
def ac27 : AFn := ⟨1, [],
 (.seq (.reg [.op (.box (.v 0)),
  .op (.mov (.c (.bool false)))])
 (.seq (.seq (.post (.reg [.op (.fld 0 (.v 1)),
  .op (.fld 1 (.v 0)),
  .op (.ld1 (.v 0)),
  .op (.len false (.v 0)),
  .op (.bin .gtr 3 (.v 0) (.c (.int .i64 60)))]) [0] 5)
 (.cond (.v 0) (.seq (.reg [.op (.mov (.c (.bool false)))])
 (.ret [.v 0]))
 .skip))
 (.seq (.seq (.reg [.op (.mov (.c (.int .i64 0)))])
 (.block 0 [[2], [], [8], [], [1], [0]] (.pre [2, 0] 0 ac27L0)))
 (.seq (.reg [.op (.mov (.c (.bool true)))])
 (.ret [.v 0])))))⟩

/-- tegula/layout.Valid -/
def ac28 : AFn := ⟨1, [],
 (.seq (.reg [.op (.box (.v 0)),
  .op (.mov (.c (.bool false)))])
 (.seq (.post (.reg [.op (.ldn 4 (.v 1)),
  .op (.call 39 [(.v 0)]),
  .nop 0,
  .op (.extr 0 (.v 0)),
  .op (.extr 1 (.v 1)),
  .op (.new [(.int .i64 0), (.slice none 0 0), (.int .i64 0), (.int .i64 0), (.int .i64 0), (.int .i64 0), (.int .i64 0), (.slice none 0 0), (.slice none 0 0), (.int .i64 0), (.int .i64 0)]),
  .eff (.st 11 (.v 0) (.v 2)),
  .nop 1]) [1] 5)
 (.seq (.reg [.nop 0,
  .nop 0])
 (.ret [.v 0]))))⟩

/-- tegula/tegularef21.Valid -/
def ac29 : AFn := ⟨1, [],
 (.seq (.reg [.op (.box (.v 0)),
  .op (.mov (.c (.bool false)))])
 (.seq (.post (.reg [.op (.fld 0 (.v 1)),
  .op (.ldn 2 (.v 0)),
  .op (.call 44 [(.v 0)]),
  .nop 0,
  .op (.extr 0 (.v 0)),
  .op (.extr 1 (.v 1)),
  .op (.extr 2 (.v 2)),
  .nop 2,
  .nop 1,
  .nop 0]) [0, 2] 6)
 (.seq (.seq (.post (.reg [.nop 0,
  .op (.una .not (.v 0)),
  .nop 0,
  .opg (.fld 2 (.v 4)) 0 false,
  .opg (.ld1 (.v 0)) 1 false,
  .opg (.bin .lss 3 (.v 0) (.c (.int .i64 1))) 2 false,
  .op (.pick (.v 3) (.c (.bool true)) (.v 0)),
  .nop 0,
  .opg (.fld 2 (.v 8)) 0 false,
  .opg (.ld1 (.v 0)) 1 false,
  .opg (.bin .gtr 3 (.v 0) (.c (.int .i64 256))) 2 false,
  .op (.pick (.v 3) (.c (.bool true)) (.v 0)),
  .nop 0,
  .opg (.fld 3 (.v 12)) 0 false,
  .opg (.ld1 (.v 0)) 1 false,
  .opg (.bin .lss 3 (.v 0) (.c (.int .i64 0))) 2 false,
  .op (.pick (.v 3) (.c (.bool true)) (.v 0)),
  .nop 0,
  .opg (.fld 3 (.v 16)) 0 false,
  .opg (.ld1 (.v 0)) 1 false,
  .opg (.bin .gtr 3 (.v 0) (.c (.int .i64 65536))) 2 false,
  .op (.pick (.v 3) (.c (.bool true)) (.v 0))]) [0] 17)
 (.cond (.v 0) (.seq (.reg [.op (.mov (.c (.bool false)))])
 (.ret [.v 0]))
 .skip))
 (.seq (.post (.reg [.op (.fld 0 (.v 4)),
  .op (.fld 1 (.v 0)),
  .op (.ld1 (.v 0)),
  .op (.idx 1 (.v 0) (.c (.int .i64 0))),
  .op (.ld1 (.v 0)),
  .op (.len false (.v 0)),
  .nop 0]) [0] 6)
 (.seq (.post (.reg [.op (.fld 2 (.v 5)),
  .op (.ld1 (.v 0)),
  .op (.fld 0 (.v 7)),
  .op (.fld 1 (.v 0)),
  .op (.ld1 (.v 0)),
  .op (.len false (.v 0)),
  .op (.bin .mul 3 (.v 4) (.v 0)),
  .nop 0]) [0] 7)
 (.seq (.post (.reg [.nop 1,
  .op (.bin .geq 3 (.v 1) (.c (.int .i64 4))),
  .nop 0,
  .opg (.mov (.v 2)) 0 true,
  .opg (.bin .leq 3 (.v 0) (.c (.int .i64 16))) 1 true,
  .op (.pick (.v 2) (.v 0) (.c (.bool false))),
  .nop 0,
  .opg (.mov (.v 4)) 0 true,
  .opg (.bin .leq 3 (.v 0) (.c (.int .i64 4096))) 1 true,
  .op (.pick (.v 2) (.v 0) (.c (.bool false))),
  .nop 0,
  .opg (.mov (.v 7)) 0 true,
  .opg (.mov (.v 9)) 1 true,
  .opg (.bin .sub 3 (.v 0) (.c (.int .i64 3))) 2 true,
  .opg (.bin .mul 3 (.v 2) (.v 0)) 3 true,
  .opg (.bin .leq 3 (.v 0) (.c (.int .i64 65536))) 4 true,
  .op (.pick (.v 5) (.v 0) (.c (.bool false))),
  .nop 0,
  .opg (.fld 2 (.v 19)) 0 true,
  .opg (.ld1 (.v 0)) 1 true,
  .opg (.mov (.v 19)) 2 true,
  .opg (.bin .mul 3 (.v 1) (.v 0)) 3 true,
  .opg (.fld 3 (.v 23)) 4 true,
  .opg (.ld1 (.v 0)) 5 true,
  .opg (.bin .add 3 (.v 2) (.v 0)) 6 true,
  .opg (.bin .leq 3 (.v 0) (.c (.int .i64 65536))) 7 true,
  .op (.pick (.v 8) (.v 0) (.c (.bool false))),
  .nop 0]) [0] 22)
 (.ret [.v 0])))))))⟩

/-- tegula/layout.Data -/
def ac30 : AFn := ⟨1, [],
 (.seq (.reg [.op (.box (.v 0)),
  .op (.mov (.c (.int .i64 0)))])
 (.seq (.post (.reg [.op (.ldn 4 (.v 1)),
  .op (.call 39 [(.v 0)]),
  .nop 0,
  .op (.extr 0 (.v 0)),
  .op (.extr 1 (.v 1)),
  .op (.new [(.int .i64 0), (.slice none 0 0), (.int .i64 0), (.int .i64 0), (.int .i64 0), (.int .i64 0), (.int .i64 0), (.slice none 0 0), (.slice none 0 0), (.int .i64 0), (.int .i64 0)]),
  .eff (.st 11 (.v 0) (.v 2)),
  .nop 1]) [0, 1] 5)
 (.seq (.seq (.reg [.nop 1,
  .op (.una .not (.v 1))])
 (.cond (.v 0) (.seq (.reg [.op (.mov (.c (.int .i64 0)))])
 (.ret [.v 0]))
 .skip))
 (.seq (.post (.reg [.op (.ldn 11 (.v 1)),
  .op (.call 46 [(.v 0)]),
  .nop 0]) [0] 2)
 (.ret [.v 0])))))⟩

/-- tegula/layout.Slots -/
def ac31 : AFn := ⟨1, [],
 (.seq (.reg [.op (.box (.v 0)),
  .op (.mov (.c (.int .i64 0)))])
 (.seq (.post (.regD [.op (.ldn 4 (.v 1)),
  .op (.call 25 [(.v 0)]),
  .op (.ldn 4 (.v 3)),
  .op (.call 30 [(.v 0)]),
  .op (.bin .mul 3 (.v 2) (.v 0)),
  .nop 0] [0, 1, 0, 7, 15, 31]) [0] 5)
 (.ret [.v 0])))⟩

/-- tegula/tegularef21.Slots -/
def ac32 : AFn := ⟨1, [],
 (.seq (.reg [.op (.box (.v 0)),
  .op (.mov (.c (.int .i64 0)))])
 (.seq (.post (.regD [.op (.ldn 4 (.v 1)),
  .op (.call 22 [(.v 0)]),
  .op (.ldn 4 (.v 3)),
  .op (.call 23 [(.v 0)]),
  .op (.bin .sub 3 (.v 0) (.c (.int .i64 3))),
  .op (.bin .mul 3 (.v 3) (.v 0)),
  .nop 0] [0, 1, 0, 7, 15, 31, 63]) [0] 6)
 (.ret [.v 0])))⟩

def ac33L0b : AC :=
 (.post (.seq (.reg [.op (.bin .lss 3 (.v 1) (.v 3))])
 (.seq (.cond (.v 0) .skip
 (.pre [1] 3 (.exit 1)))
 (.seq (.block 2 [[8], [31], [], [30], [], [29], [], [4], [5], [6], [14, 7], [], [], [2], [0], [1]] (.post (.seq (.reg [.nop 2,
  .nop 2])
 (.reg [.nop 1,
  .op (.ldn 11 (.v 8)),
  .nop 15,
  .nop 3,
  .op (.call 43 [(.v 0), (.v 15), (.v 3)]),
  .op (.mkl 2 1 [(.int .i64 0), (.int .i64 0)] [(0, (.v 0))]),
  .op (.app 2 16 (.v 4) (.v 0)),
  .nop 0])) [0] 4))
 (.reg [.op (.bin .add 3 (.v 3) (.c (.int .i64 1))),
  .nop 0])))) [1, 0] 5)
def ac33L0 : AC := .loop [[8], [30], [], [29], [], [4], [5], [6], [14, 7], [], [], [2], [0], [1]] ac33L0b
/-- tegula/layout.OnDisk -/
def ac33 : AFn := ⟨2, [],
 (.seq (.reg [.op (.box (.v 0)),
  .op (.mov (.c (.slice none 0 0))),
  .op (.mov (.c (.int .i64 0)))])
 (.seq (.post (.reg [.op (.ldn 4 (.v 2)),
  .op (.call 39 [(.v 0)]),
  .nop 0,
  .op (.extr 0 (.v 0)),
  .op (.extr 1 (.v 1)),
  .op (.new [(.int .i64 0), (.slice none 0 0), (.int .i64 0), (.int .i64 0), (.int .i64 0), (.int .i64 0), (.int .i64 0), (.slice none 0 0), (.slice none 0 0), (.int .i64 0), (.int .i64 0)]),
  .eff (.st 11 (.v 0) (.v 2)),
  .nop 1]) [0, 1] 5)
 (.seq (.block 0 [[4], [5], [6], [14, 7], [], [], [2], [0], [1]] (.post (.seq (.reg [.nop 1,
  .op (.una .not (.v 1)),
  .nop 0])
 (.cond (.v 0) (.seq (.reg [.op (.mov (.c (.slice none 0 0))),
  .op (.mov (.c (.int .i64 1)))])
 (.ret [.v 1, .v 0]))
 (.seq (.post (.reg [.nop 7,
  .op (.bin .lss 3 (.v 7) (.c (.int .i64 0))),
  .nop 0,
  .opg (.mov (.v 8)) 0 false,
  .opg (.fld 0 (.v 7)) 1 false,
  .opg (.fld 0 (.v 0)) 2 false,
  .opg (.ld1 (.v 0)) 3 false,
  .opg (.bin .geq 3 (.v 3) (.v 0)) 4 false,
  .op (.pick (.v 5) (.c (.bool true)) (.v 0)),
  .nop 0]) [0] 7)
 (.cond (.v 0) (.seq (.reg [.op (.mov (.c (.slice none 0 0))),
  .op (.mov (.c (.int .i64 2)))])
 (.ret [.v 1, .v 0]))
 .skip)))) [5, 4] 2))
 (.seq (.reg [.op (.mov (.c (.slice none 0 0)))])
 (.seq (.seq (.post (.reg [.op (.fld 9 (.v 3)),
  .op (.ld1 (.v 0)),
  .op (.mov (.c (.int .i64 0)))]) [0, 1] 3)
 (.block 1 [[8], [], [29], [], [4], [5], [6], [14, 7], [], [], [2], [0], [1]] (.pre [2, 0] 0 ac33L0)))
 (.seq (.reg [.nop 0,
  .nop 0,
  .op (.mov (.c (.int .i64 0)))])
 (.ret [.v 1, .v 0])))))))⟩

def ac34L0b : AC :=
 (.post (.seq (.reg [.op (.bin .lss 3 (.v 0) (.v 2))])
 (.seq (.cond (.v 0) .skip
 (.pre [1] 2 (.exit 4)))
 (.seq (.block 5 [[36], [35], [], [34], [32, 9], [31], [30], [29], [], [28], [26, 7, 27, 33], [25], [24], [23], [], [22], [21], [5], [19], [4], [3], [2], [1], [0]] (.post (.seq (.reg [.op (.idx 1 (.v 10) (.v 1)),
  .op (.ld1 (.v 0)),
  .nop 0])
 (.regD [.nop 6,
  .nop 0,
  .op (.ida 60 60 (.v 19) (.v 6)),
  .op (.ida 60 1 (.v 0) (.v 1)),
  .op (.ld1 (.v 0)),
  .op (.bin .add 3 (.v 0) (.c (.int .i64 1))),
  .op (.ida 60 60 (.v 23) (.v 10)),
  .op (.ida 60 1 (.v 0) (.v 5)),
  .eff (.st 1 (.v 0) (.v 2))] [0, 0, 1, 7, 15, 31, 1, 127, 255])) [] 8))
 (.reg [.op (.bin .add 3 (.v 1) (.c (.int .i64 1))),
  .nop 0])))) [0] 3)
def ac34L0 : AC := .loop [[35], [], [34], [32, 9], [31], [30], [29], [], [28], [26, 7, 27, 33], [25], [24], [23], [], [22], [21], [5], [19], [4], [3], [2], [1], [0]] ac34L0b
def ac34L1b : AC :=
 (.post (.seq (.reg [.op (.bin .lss 3 (.v 0) (.v 2))])
 (.seq (.cond (.v 0) .skip
 (.pre [1] 2 (.exit 2)))
 (.seq (.block 3 [[30], [29], [], [28], [26, 7, 27], [25], [24], [23], [], [22], [21], [5], [19], [4], [3], [2], [1], [0]] (.post (.seq (.reg [.op (.idx 1 (.v 4) (.v 1)),
  .op (.ld1 (.v 0)),
  .nop 0])
 (.seq (.reg [.nop 6,
  .op (.len false (.v 6)),
  .op (.mov (.c (.int .i64 0)))])
 (.block 4 [[35], [], [34], [32, 9], [31], [30], [29], [], [28], [26, 7, 27, 33], [25], [24], [23], [], [22], [21], [5], [19], [4], [3], [2], [1], [0]] (.pre [0] 0 ac34L0)))) [] 5))
 (.reg [.op (.bin .add 3 (.v 1) (.c (.int .i64 1))),
  .nop 0])))) [0] 3)
def ac34L1 : AC := .loop [[29], [], [28], [26, 7, 27], [25], [24], [23], [], [22], [21], [5], [19], [4], [3], [2], [1], [0]] ac34L1b
def ac34L2b : AC :=
 (.post (.seq (.reg [.op (.bin .lss 3 (.v 0) (.v 2))])
 (.seq (.cond (.v 0) .skip
 (.pre [] 2 (.exit 0)))
 (.seq (.block 1 [[24], [23], [], [22], [21], [5], [19], [4], [3], [2], [1], [0]] (.post (.seq (.reg [.op (.idx 1 (.v 4) (.v 1)),
  .op (.ld1 (.v 0)),
  .nop 0])
 (.seq (.reg [.nop 0,
  .op (.len false (.v 0)),
  .op (.mov (.c (.int .i64 0)))])
 (.block 2 [[29], [], [28], [26, 7, 27], [25], [24], [23], [], [22], [21], [5], [19], [4], [3], [2], [1], [0]] (.pre [0] 0 ac34L1)))) [] 5))
 (.reg [.op (.bin .add 3 (.v 1) (.c (.int .i64 1))),
  .nop 0])))) [0] 3)
def ac34L2 : AC := .loop [[23], [], [22], [21], [5], [19], [4], [3], [2], [1], [0]] ac34L2b
def ac34L3b : AC :=
 (.post (.seq (.reg [.op (.bin .lss 3 (.v 3) (.v 5))])
 (.seq (.cond (.v 0) .skip
 (.pre [1, 2, 3, 4] 5 (.exit 8)))
 (.seq (.block 9 [[2], [3], [4], [64], [], [], [], [63], [], [62], [61], [59], [], [], [], [58, 60, 14], [], [57], [55, 13], [52, 12], [], [22], [21], [5], [19], [], [], [], [1], [0]] (.post (.seq (.reg [.nop 4,
  .nop 4])
 (.seq (.reg [.nop 15,
  .nop 15])
 (.seq (.seq (.reg [.nop 12,
  .nop 4,
  .op (.bin .eql 3 (.v 12) (.v 4))])
 (.cond (.v 0) (.post (.reg [.nop 17,
  .nop 17]) [17] 0)
 (.post .skip [16] 0)))
 (.seq (.reg [.nop 14,
  .nop 6,
  .op (.ida 60 60 (.v 22) (.v 14)),
  .op (.ida 60 1 (.v 0) (.v 7)),
  .op (.ld1 (.v 0)),
  .nop 3,
  .op (.bin .neq 3 (.v 0) (.v 3))])
 (.cond (.v 0) (.seq (.reg [.op (.mov (.c (.int .i64 0))),
  .op (.mov (.c (.int .i64 0))),
  .op (.mov (.c (.int .i64 5)))])
 (.ret [.v 2, .v 1, .v 0]))
 .skip))))) [7, 8, 9] 6))
 (.reg [.op (.bin .add 3 (.v 7) (.c (.int .i64 1))),
  .nop 0])))) [1, 2, 3, 0] 9)
def ac34L3 : AC := .loop [[2], [3], [4], [63], [], [62], [61], [59], [], [], [], [58, 60, 14], [], [57], [55, 13], [52, 12], [], [22], [21], [5], [19], [], [], [], [1], [0]] ac34L3b
def ac34L4b : AC :=
 (.post (.seq (.reg [.op (.bin .lss 3 (.v 3) (.v 5))])
 (.seq (.cond (.v 0) .skip
 (.pre [1, 2, 3] 5 (.exit 6)))
 (.seq (.block 7 [[2], [3], [4], [59], [], [], [], [58], [], [57], [55, 13], [52, 12], [], [22], [21], [5], [19], [], [], [], [1], [0]] (.post (.seq (.reg [.nop 4,
  .nop 4])
 (.seq (.reg [.op (.fld 0 (.v 17)),
  .op (.ld1 (.v 0)),
  .op (.mov (.c (.int .i64 0)))])
 (.block 8 [[2], [3], [4], [63], [], [62], [61], [59], [], [], [], [58, 60, 14], [], [57], [55, 13], [52, 12], [], [22], [21], [5], [19], [], [], [], [1], [0]] (.pre [4, 5, 6, 0] 0 ac34L3)))) [0, 1, 2] 7))
 (.reg [.op (.bin .add 3 (.v 7) (.c (.int .i64 1))),
  .nop 0])))) [1, 2, 3, 0] 9)
def ac34L4 : AC := .loop [[2], [3], [4], [58], [], [57], [55, 13], [52, 12], [], [22], [21], [5], [19], [], [], [], [1], [0]] ac34L4b
/-- tegula/design.Check -/
def ac34 : AFn := ⟨1, [],
 (.seq (.reg [.op (.box (.v 0)),
  .op (.mov (.c (.int .i64 0))),
  .op (.mov (.c (.int .i64 0))),
  .op (.mov (.c (.int .i64 0)))])
 (.seq (.seq (.post (.reg [.op (.ldn 2 (.v 3)),
  .op (.call 47 [(.v 0)]),
  .op (.una .not (.v 0))]) [0] 3)
 (.cond (.v 0) (.seq (.reg [.op (.mov (.c (.int .i64 0))),
  .op (.mov (.c (.int .i64 0))),
  .op (.mov (.c (.int .i64 5)))])
 (.ret [.v 2, .v 1, .v 0]))
 .skip))
 (.seq (.reg [.op (.new (List.replicate 3600 (.int .i64 0)))])
 (.seq (.seq (.post (.reg [.op (.fld 1 (.v 5)),
  .op (.ld1 (.v 0)),
  .op (.len false (.v 0)),
  .op (.mov (.c (.int .i64 0)))]) [0, 1, 2] 4)
 (.block 0 [[], [22], [21], [5], [19], [4], [3], [2], [1], [0]] (.pre [0] 0 ac34L2)))
 (.seq (.post (.regD [.op (.ida 60 60 (.v 3) (.c (.int .i64 0))),
  .op (.ida 60 1 (.v 0) (.c (.int .i64 0))),
  .op (.ld1 (.v 0)),
  .op (.ida 60 60 (.v 6) (.c (.int .i64 0))),
  .op (.ida 60 1 (.v 0) (.c (.int .i64 1))),
  .op (.ld1 (.v 0)),
  .nop 3,
  .nop 0] [0, 1, 3, 0, 8, 24, 7, 127]) [0, 3] 6)
 (.seq (.seq (.post (.reg [.op (.fld 0 (.v 10)),
  .op (.ld1 (.v 0)),
  .op (.mov (.c (.int .i64 0)))]) [0, 1] 3)
 (.block 6 [[2], [3], [4], [], [57], [55, 13], [52, 12], [], [22], [21], [5], [19], [], [], [], [1], [0]] (.pre [11, 10, 9, 0] 0 ac34L4)))
 (.seq (.seq (.reg [.nop 5,
  .op (.bin .lss 3 (.v 5) (.c (.int .i64 1)))])
 (.cond (.v 0) (.seq (.reg [.op (.mov (.c (.int .i64 0))),
  .op (.mov (.c (.int .i64 0))),
  .op (.mov (.c (.int .i64 5)))])
 (.ret [.v 2, .v 1, .v 0]))
 .skip))
 (.seq (.reg [.nop 7,
  .nop 6,
  .nop 7,
  .nop 6,
  .op (.mov (.c (.int .i64 0)))])
 (.ret [.v 8, .v 7, .v 0])))))))))⟩

/-- tegula/layout.Slot -/
def ac35 : AFn := ⟨2, [],
 (.seq (.reg [.op (.box (.v 0)),
  .op (.mov (.c (.int .i64 0))),
  .op (.mov (.c (.int .i64 0))),
  .op (.mov (.c (.int .i64 0)))])
 (.seq (.post (.reg [.op (.ldn 4 (.v 3)),
  .op (.call 39 [(.v 0)]),
  .nop 0,
  .op (.extr 0 (.v 0)),
  .op (.extr 1 (.v 1)),
  .op (.new [(.int .i64 0), (.slice none 0 0), (.int .i64 0), (.int .i64 0), (.int .i64 0), (.int .i64 0), (.int .i64 0), (.slice none 0 0), (.slice none 0 0), (.int .i64 0), (.int .i64 0)]),
  .eff (.st 11 (.v 0) (.v 2)),
  .nop 1]) [0, 1] 5)
 (.seq (.block 0 [[4], [5], [6], [7], [13, 8], [], [], [], [2], [0], [1]] (.post (.seq (.reg [.nop 1,
  .op (.una .not (.v 1)),
  .nop 0])
 (.cond (.v 0) (.seq (.reg [.op (.mov (.c (.int .i64 0))),
  .op (.mov (.c (.int .i64 0))),
  .op (.mov (.c (.int .i64 1)))])
 (.ret [.v 2, .v 1, .v 0]))
 (.seq (.post (.regD [.nop 8,
  .op (.bin .lss 3 (.v 8) (.c (.int .i64 0))),
  .nop 0,
  .opg (.mov (.v 9)) 0 false,
  .opg (.ldn 11 (.v 3)) 1 false,
  .opg (.call 45 [(.v 0)]) 2 false,
  .opg (.ldn 11 (.v 5)) 3 false,
  .opg (.call 46 [(.v 0)]) 4 false,
  .opg (.bin .mul 3 (.v 2) (.v 0)) 5 false,
  .opg (.bin .geq 3 (.v 5) (.v 0)) 6 false,
  .op (.pick (.v 7) (.c (.bool true)) (.v 0)),
  .nop 0] [0, 1, 3, 7, 7, 23, 7, 119, 247, 511, 1023, 2047]) [0] 9)
 (.cond (.v 0) (.seq (.reg [.op (.mov (.c (.int .i64 0))),
  .op (.mov (.c (.int .i64 0))),
  .op (.mov (.c (.int .i64 2)))])
 (.ret [.v 2, .v 1, .v 0]))
 .skip)))) [6, 5, 4] 2))
 (.seq (.post (.regD [.nop 10,
  .op (.ldn 11 (.v 3)),
  .op (.call 46 [(.v 0)]),
  .op (.bin .quo 3 (.v 12) (.v 0)),
  .nop 13,
  .op (.ldn 11 (.v 6)),
  .op (.call 46 [(.v 0)]),
  .op (.bin .rem 3 (.v 15) (.v 0)),
  .nop 3,
  .nop 0,
  .op (.mov (.c (.int .i64 0)))] [0, 0, 2, 7, 0, 0, 38, 118, 111, 511, 1023]) [0, 1, 4] 7)
 (.ret [.v 2, .v 1, .v 0])))))⟩

/-- tegula/layout.Number -/
def ac36 : AFn := ⟨3, [],
 (.seq (.reg [.op (.box (.v 0)),
  .op (.mov (.c (.int .i64 0))),
  .op (.mov (.c (.int .i64 0)))])
 (.seq (.post (.reg [.op (.ldn 4 (.v 2)),
  .op (.call 39 [(.v 0)]),
  .nop 0,
  .op (.extr 0 (.v 0)),
  .op (.extr 1 (.v 1)),
  .op (.new [(.int .i64 0), (.slice none 0 0), (.int .i64 0), (.int .i64 0), (.int .i64 0), (.int .i64 0), (.int .i64 0), (.slice none 0 0), (.slice none 0 0), (.int .i64 0), (.int .i64 0)]),
  .eff (.st 11 (.v 0) (.v 2)),
  .nop 1]) [0, 1] 5)
 (.seq (.block 0 [[6], [7], [8], [14, 9], [], [], [3], [0], [1], [2]] (.post (.seq (.reg [.nop 1,
  .op (.una .not (.v 1)),
  .nop 0])
 (.cond (.v 0) (.seq (.reg [.op (.mov (.c (.int .i64 0))),
  .op (.mov (.c (.int .i64 1)))])
 (.ret [.v 1, .v 0]))
 (.seq (.post (.reg [.op (.ldn 11 (.v 1)),
  .nop 8,
  .nop 9,
  .op (.call 40 [(.v 0), (.v 8), (.v 9)]),
  .op (.una .not (.v 0)),
  .nop 0]) [0] 3)
 (.cond (.v 0) (.seq (.reg [.op (.mov (.c (.int .i64 0))),
  .op (.mov (.c (.int .i64 2)))])
 (.ret [.v 1, .v 0]))
 (.seq (.post (.reg [.nop 9,
  .op (.ldn 11 (.v 2)),
  .op (.call 46 [(.v 0)]),
  .op (.bin .geq 3 (.v 11) (.v 0)),
  .nop 0]) [0] 3)
 (.cond (.v 0) (.seq (.reg [.op (.mov (.c (.int .i64 0))),
  .op (.mov (.c (.int .i64 9)))])
 (.ret [.v 1, .v 0]))
 .skip)))))) [6, 5] 3))
 (.seq (.post (.reg [.nop 8,
  .op (.ldn 11 (.v 2)),
  .op (.call 46 [(.v 0)]),
  .op (.bin .mul 3 (.v 10) (.v 0)),
  .nop 12,
  .op (.bin .add 3 (.v 0) (.v 12)),
  .nop 0,
  .op (.mov (.c (.int .i64 0)))]) [0, 1] 5)
 (.ret [.v 1, .v 0])))))⟩

def ac37L0b : AC :=
 (.post (.seq (.seq (.reg [.nop 0,
  .nop 6,
  .op (.bin .lss 3 (.v 0) (.v 6))])
 (.cond (.v 0) .skip
 (.pre [] 2 (.exit 0))))
 (.seq (.block 1 [[16], [7, 14], [], [13, 6], [5], [4], [0, 10], [1, 12, 15]] (.post (.reg [.nop 3,
  .nop 1,
  .nop 1,
  .op (.idx 1 (.v 3) (.v 1)),
  .eff (.st 1 (.v 0) (.v 2))]) [] 1))
 (.reg [.nop 1,
  .op (.bin .add 3 (.v 1) (.c (.int .i64 1))),
  .nop 0]))) [0] 3)
def ac37L0 : AC := .loop [[7], [], [13, 6], [5], [4], [0, 10], [1, 12]] ac37L0b
def ac37L1b : AC :=
 (.post (.seq (.seq (.reg [.nop 0,
  .op (.bin .geq 3 (.v 0) (.c (.int .i64 0))),
  .nop 0,
  .opg (.mov (.v 11)) 0 true,
  .opg (.mov (.v 2)) 1 true,
  .opg (.idx 1 (.v 1) (.v 0)) 2 true,
  .opg (.ld1 (.v 0)) 3 true,
  .opg (.mov (.v 18)) 4 true,
  .opg (.mov (.v 20)) 5 true,
  .opg (.bin .sub 3 (.v 1) (.v 0)) 6 true,
  .opg (.mov (.v 8)) 7 true,
  .opg (.bin .add 3 (.v 1) (.v 0)) 8 true,
  .opg (.bin .eql 3 (.v 5) (.v 0)) 9 true,
  .op (.pick (.v 10) (.v 0) (.c (.bool false)))])
 (.cond (.v 0) .skip
 (.pre [12] 13 (.exit 4))))
 (.block 5 [[8], [46], [45], [44], [43], [42], [41], [40], [39], [38], [37], [36], [34, 35], [33], [32], [30], [29], [28], [27], [25], [24], [23], [], [13, 6, 26], [5], [4], [0, 10], [1, 12, 31]] (.reg [.nop 12,
  .op (.bin .sub 3 (.v 12) (.c (.int .i64 1))),
  .nop 0]))) [0] 14)
def ac37L1 : AC := .loop [[8], [32], [30], [29], [28], [27], [25], [24], [23], [], [13, 6, 26], [5], [4], [0, 10], [1, 12, 31]] ac37L1b
def ac37L2b : AC :=
 (.post (.seq (.seq (.reg [.nop 0,
  .nop 21,
  .op (.bin .lss 3 (.v 0) (.v 21))])
 (.cond (.v 0) .skip
 (.pre [1] 2 (.exit 6))))
 (.seq (.block 7 [[62], [9, 60], [59], [57], [56], [55], [54], [50], [8, 49, 53, 58], [32], [30], [29], [28], [27], [25], [24], [23], [], [13, 6, 26, 52], [5], [4], [0, 10], [1, 12, 31, 61]] (.post (.reg [.nop 18,
  .nop 1,
  .nop 18,
  .nop 1,
  .op (.bin .sub 3 (.v 1) (.c (.int .i64 1))),
  .op (.idx 1 (.v 19) (.v 0)),
  .op (.ld1 (.v 0)),
  .op (.bin .add 3 (.v 0) (.c (.int .i64 1))),
  .op (.idx 1 (.v 22) (.v 5)),
  .eff (.st 1 (.v 0) (.v 1))]) [] 5))
 (.reg [.nop 1,
  .op (.bin .add 3 (.v 1) (.c (.int .i64 1))),
  .nop 0]))) [0] 3)
def ac37L2 : AC := .loop [[9], [59], [57], [56], [55], [54], [50], [8, 49, 53, 58], [32], [30], [29], [28], [27], [25], [24], [23], [], [13, 6, 26, 52], [5], [4], [0, 10], [1, 12, 31]] ac37L2b
def ac37L3b : AC :=
 (.block 3 [[], [13, 6], [5], [4], [0, 10], [1, 12]] (.post (.seq (.regD [.op (.fld 1 (.v 2)),
  .op (.ld1 (.v 0)),
  .op (.mkl 1 0 [(.int .i64 0)] []),
  .nop 4,
  .op (.app 1 8 (.v 0) (.v 4)),
  .op (.mkl 1 1 [(.slice none 0 0)] [(0, (.v 0))]),
  .op (.app 1 24 (.v 3) (.v 0)),
  .op (.fld 1 (.v 8)),
  .eff (.st 1 (.v 0) (.v 1))] [0, 1, 0, 0, 12, 28, 63, 127, 255])
 (.seq (.reg [.nop 12,
  .op (.bin .sub 3 (.v 12) (.c (.int .i64 1))),
  .nop 0])
 (.seq (.block 4 [[8], [32], [30], [29], [28], [27], [25], [24], [23], [], [13, 6, 26], [5], [4], [0, 10], [1, 12, 31]] (.pre [0] 0 ac37L1))
 (.seq (.seq (.reg [.nop 0,
  .op (.bin .lss 3 (.v 0) (.c (.int .i64 0)))])
 (.cond (.v 0) (.seq (.reg [.op (.ldn 2 (.v 12)),
  .eff (.st 2 (.v 14) (.v 0))])
 (.ret [.cells 14 2]))
 .skip))
 (.seq (.reg [.nop 11,
  .nop 1,
  .op (.idx 1 (.v 11) (.v 1)),
  .op (.ld1 (.v 0)),
  .op (.bin .add 3 (.v 0) (.c (.int .i64 1))),
  .op (.idx 1 (.v 14) (.v 4)),
  .eff (.st 1 (.v 0) (.v 1))])
 (.seq (.reg [.nop 5,
  .op (.bin .add 3 (.v 5) (.c (.int .i64 1))),
  .nop 0])
 (.block 6 [[9], [59], [57], [56], [55], [54], [50], [8, 49, 53, 58], [32], [30], [29], [28], [27], [25], [24], [23], [], [13, 6, 26, 52], [5], [4], [0, 10], [1, 12, 31]] (.pre [0] 0 ac37L2)))))))) [] 16))
def ac37L3 : AC := .loop [[], [13, 6], [5], [4], [0, 10], [1, 12]] ac37L3b
/-- tegula/tegularef07.Complete -/
def ac37 : AFn := ⟨2, [.cells 3 2],
 (.seq (.reg [.op (.new [(.int .i64 0), (.slice none 0 0)])])
 (.seq (.post (.reg [.nop 1,
  .op (.build [(.int .i64 0), (.slice none 0 0)] [(0, 1, (.v 1))]),
  .op (.new [(.int .i64 0), (.slice none 0 0)]),
  .eff (.st 2 (.v 0) (.v 1))]) [0] 2)
 (.seq (.reg [.nop 3,
  .op (.make 1 8 [(.int .i64 0)] (.v 3) (.v 3)),
  .nop 0])
 (.seq (.seq (.reg [.op (.mov (.c (.int .i64 0)))])
 (.block 0 [[], [13, 6], [5], [4], [0, 10], [1, 12]] (.pre [0] 0 ac37L0)))
 (.block 2 [[], [13, 6], [5], [4], [0, 10], [1, 12]] (.pre [] 0 ac37L3))))))⟩

def ac38L0b : AC :=
 (.post (.seq (.seq (.reg [.nop 1,
  .op (.bin .lss 3 (.v 1) (.c (.int .i64 3)))])
 (.cond (.v 0) .skip
 (.pre [1, 2] 3 (.exit 4))))
 (.seq (.block 5 [[8], [28], [], [9, 27], [], [], [24], [23], [6], [7, 21], [], [], [18], [17], [5, 15], [], [4], [11, 3, 12, 16, 22], [2], [0, 10]] (.post (.regD [.nop 18,
  .nop 1,
  .nop 18,
  .nop 16,
  .nop 13,
  .nop 2,
  .op (.idx 3 (.v 16) (.v 13)),
  .op (.ida 3 1 (.v 0) (.v 3)),
  .op (.ld1 (.v 0)),
  .nop 19,
  .nop 11,
  .nop 5,
  .op (.idx 3 (.v 19) (.v 11)),
  .op (.ida 3 1 (.v 0) (.v 6)),
  .op (.ld1 (.v 0)),
  .op (.call 50 [(.v 24), (.v 3), (.v 0)]),
  .op (.call 49 [(.v 25), (.v 8), (.v 0)]),
  .nop 0] [0, 0, 0, 0, 0, 0, 24, 120, 248, 0, 0, 0, 1536, 7680, 15872, 32764, 65535, 131071]) [0] 8))
 (.reg [.nop 3,
  .op (.bin .add 3 (.v 3) (.c (.int .i64 1))),
  .nop 0]))) [1, 0] 5)
def ac38L0 : AC := .loop [[8], [9], [], [], [24], [23], [6], [7, 21], [], [], [18], [17], [5, 15], [], [4], [11, 3, 12, 16, 22], [2], [0, 10]] ac38L0b
def ac38L1b : AC :=
 (.post (.seq (.seq (.reg [.nop 1,
  .nop 9,
  .op (.len false (.v 9)),
  .op (.bin .lss 3 (.v 2) (.v 0))])
 (.cond (.v 0) .skip
 (.pre [2, 3] 4 (.exit 2))))
 (.seq (.block 3 [[6], [24], [23], [], [7, 21], [], [], [18], [17], [5, 15], [], [4], [11, 3, 12, 16, 22], [2], [0, 10]] (.post (.seq (.reg [.op (.mov (.c (.int .i64 0)))])
 (.seq (.seq (.reg [.op (.mov (.c (.int .i64 0)))])
 (.block 4 [[8], [9], [], [], [24], [23], [6], [7, 21], [], [], [18], [17], [5, 15], [], [4], [11, 3, 12, 16, 22], [2], [0, 10]] (.pre [1, 0] 0 ac38L0)))
 (.seq (.reg [.nop 0,
  .op (.bin .eql 3 (.v 0) (.c (.int .i64 0)))])
 (.cond (.v 0) (.post (.reg [.nop 7,
  .nop 8,
  .op (.mkl 1 1 [(.int .i64 0)] [(0, (.v 8))]),
  .op (.app 1 8 (.v 8) (.v 0)),
  .nop 0]) [0] 2)
 (.post .skip [7] 0))))) [0] 6))
 (.reg [.nop 4,
  .op (.bin .add 3 (.v 4) (.c (.int .i64 1))),
  .nop 0]))) [1, 0] 6)
def ac38L1 : AC := .loop [[6], [7], [], [], [18], [17], [5, 15], [], [4], [11, 3, 12, 16], [2], [0, 10]] ac38L1b
def ac38L2b : AC :=
 (.post (.seq (.seq (.reg [.nop 0,
  .nop 3,
  .op (.len false (.v 3)),
  .op (.bin .lss 3 (.v 1) (.v 0))])
 (.cond (.v 0) .skip
 (.pre [] 3 (.exit 0))))
 (.seq (.block 1 [[18], [17], [5, 15], [], [4], [11, 3, 12, 16], [2], [0, 10]] (.post (.seq (.reg [.op (.mov (.c (.slice none 0 0)))])
 (.seq (.seq (.reg [.op (.mov (.c (.int .i64 0)))])
 (.block 2 [[6], [7], [], [], [18], [17], [5, 15], [], [4], [11, 3, 12, 16], [2], [0, 10]] (.pre [1, 0] 0 ac38L1)))
 (.reg [.op (.fld 1 (.v 8)),
  .op (.ld1 (.v 0)),
  .nop 2,
  .op (.mkl 1 1 [(.slice none 0 0)] [(0, (.v 2))]),
  .op (.app 1 24 (.v 1) (.v 0)),
  .op (.fld 1 (.v 12)),
  .eff (.st 1 (.v 0) (.v 1))]))) [] 9))
 (.reg [.nop 2,
  .op (.bin .add 3 (.v 2) (.c (.int .i64 1))),
  .nop 0]))) [0] 4)
def ac38L2 : AC := .loop [[5], [], [4], [11, 3, 12], [2], [0, 10]] ac38L2b
/-- tegula/tegularef06.Projective -/
def ac38 : AFn := ⟨1, [],
 (.seq (.reg [.op (.new [(.int .i64 0), (.slice none 0 0)])])
 (.seq (.reg [.nop 1,
  .op (.call 48 [(.v 1)]),
  .nop 0])
 (.seq (.post (.reg [.nop 0,
  .op (.len false (.v 0)),
  .op (.build [(.int .i64 0), (.slice none 0 0)] [(0, 1, (.v 0))]),
  .op (.new [(.int .i64 0), (.slice none 0 0)]),
  .eff (.st 2 (.v 0) (.v 1))]) [0] 3)
 (.seq (.seq (.reg [.op (.mov (.c (.int .i64 0)))])
 (.block 0 [[], [4], [11, 3, 12], [2], [0, 10]] (.pre [0] 0 ac38L2)))
 (.seq (.post (.reg [.op (.ldn 2 (.v 1)),
  .eff (.st 2 (.v 4) (.v 0))]) [] 1)
 (.ret [.cells 3 2]))))))⟩

def ac39L0b : AC :=
 (.post (.seq (.reg [.op (.bin .lss 3 (.v 1) (.v 3))])
 (.seq (.cond (.v 0) .skip
 (.pre [1, 2] 3 (.exit 2)))
 (.seq (.block 3 [[10], [116], [], [115], [], [114], [], [112, 9, 113], [111], [109], [108, 110, 8], [], [107], [106], [97], [63], [7], [21], [19, 6, 20], [17, 4, 30, 67], [3], [2], [1], [0]] (.post (.seq (.reg [.op (.idx 1 (.v 6) (.v 2)),
  .op (.ld1 (.v 0)),
  .nop 0])
 (.seq (.reg [.nop 3,
  .op (.fld 8 (.v 17)),
  .op (.ld1 (.v 0)),
  .nop 2,
  .op (.idx 1 (.v 0) (.v 2)),
  .op (.ld1 (.v 0)),
  .op (.len false (.v 0)),
  .op (.mkl 1 1 [(.int .i64 0)] [(0, (.v 0))]),
  .op (.app 1 8 (.v 9) (.v 0)),
  .nop 0])
 (.regD [.op (.fld 8 (.v 24)),
  .op (.ld1 (.v 0)),
  .nop 9,
  .op (.fld 8 (.v 26)),
  .op (.ld1 (.v 0)),
  .nop 11,
  .op (.idx 1 (.v 0) (.v 11)),
  .op (.ld1 (.v 0)),
  .nop 24,
  .op (.mkl 1 1 [(.int .i64 0)] [(0, (.v 24))]),
  .op (.app 1 8 (.v 1) (.v 0)),
  .op (.idx 1 (.v 6) (.v 15)),
  .eff (.st 1 (.v 0) (.v 1))] [0, 1, 0, 0, 8, 0, 56, 120, 0, 256, 1016, 2047, 4095]))) [9] 18))
 (.reg [.op (.bin .add 3 (.v 3) (.c (.int .i64 1))),
  .nop 0])))) [1, 0] 5)
def ac39L0 : AC := .loop [[10], [115], [], [114], [], [112, 9, 113], [111], [109], [108, 110, 8], [], [107], [106], [97], [63], [7], [21], [19, 6, 20], [17, 4, 30, 67], [3], [2], [1], [0]] ac39L0b
def ac39L1b : AC :=
 (.post (.seq (.reg [.op (.bin .lss 3 (.v 0) (.v 2))])
 (.seq (.cond (.v 0) .skip
 (.pre [] 2 (.exit 0)))
 (.seq (.block 1 [[109], [108], [], [107], [106], [97], [63], [7], [21], [19, 6, 20], [17, 4, 30, 67], [3], [2], [1], [0]] (.post (.seq (.reg [.nop 1,
  .op (.idx 1 (.v 4) (.v 1)),
  .op (.ld1 (.v 0)),
  .nop 3,
  .nop 0])
 (.seq (.reg [.op (.mov (.c (.slice none 0 0)))])
 (.seq (.seq (.reg [.nop 1,
  .op (.len false (.v 1)),
  .op (.mov (.c (.int .i64 0)))])
 (.block 2 [[10], [115], [], [114], [], [112, 9, 113], [111], [109], [108, 110, 8], [], [107], [106], [97], [63], [7], [21], [19, 6, 20], [17, 4, 30, 67], [3], [2], [1], [0]] (.pre [2, 0] 0 ac39L0)))
 (.reg [.op (.fld 7 (.v 14)),
  .op (.ld1 (.v 0)),
  .nop 2,
  .op (.mkl 1 1 [(.slice none 0 0)] [(0, (.v 2))]),
  .op (.app 1 24 (.v 1) (.v 0)),
  .op (.fld 7 (.v 18)),
  .eff (.st 1 (.v 0) (.v 1))])))) [] 12))
 (.reg [.op (.bin .add 3 (.v 1) (.c (.int .i64 1))),
  .nop 0])))) [0] 3)
def ac39L1 : AC := .loop [[108], [], [107], [106], [97], [63], [7], [21], [19, 6, 20], [17, 4, 30, 67], [3], [2], [1], [0]] ac39L1b
/-- tegula/layout.measure -/
def ac39 : AFn := ⟨1, [],
 (.seq (.reg [.op (.box (.v 0)),
  .op (.new [(.int .i64 0), (.slice none 0 0), (.int .i64 0), (.int .i64 0), (.int .i64 0), (.int .i64 0), (.int .i64 0), (.slice none 0 0), (.slice none 0 0), (.int .i64 0), (.int .i64 0)]),
  .op (.mov (.c (.bool false)))])
 (.seq (.post (.reg [.op (.fld 0 (.v 2)),
  .op (.ldn 2 (.v 0)),
  .op (.call 34 [(.v 0)]),
  .nop 0,
  .op (.extr 0 (.v 0)),
  .op (.extr 1 (.v 1)),
  .op (.extr 2 (.v 2)),
  .nop 2,
  .nop 1,
  .nop 0]) [0, 2] 6)
 (.seq (.seq (.reg [.nop 0,
  .op (.bin .neq 32 (.v 0) (.c (.int .i64 0)))])
 (.cond (.v 0) (.seq (.post (.reg [.op (.build [(.int .i64 0), (.slice none 0 0), (.int .i64 0), (.int .i64 0), (.int .i64 0), (.int .i64 0), (.int .i64 0), (.slice none 0 0), (.slice none 0 0), (.int .i64 0), (.int .i64 0)] []),
  .eff (.st 11 (.v 5) (.v 0)),
  .op (.mov (.c (.bool false)))]) [0] 2)
 (.ret [.cells 5 11, .v 0]))
 .skip))
 (.seq (.post (.regD [.op (.ldn 4 (.v 5)),
  .op (.fld 0 (.v 6)),
  .op (.fld 1 (.v 0)),
  .op (.ld1 (.v 0)),
  .op (.idx 1 (.v 0) (.c (.int .i64 0))),
  .op (.ld1 (.v 0)),
  .op (.len false (.v 0)),
  .nop 9,
  .op (.fld 0 (.v 12)),
  .op (.fld 1 (.v 0)),
  .op (.ld1 (.v 0)),
  .op (.len false (.v 0)),
  .op (.build [(.int .i64 0), (.slice none 0 0), (.int .i64 0), (.int .i64 0), (.int .i64 0), (.int .i64 0), (.int .i64 0), (.slice none 0 0), (.slice none 0 0), (.int .i64 0), (.int .i64 0)] [(0, 4, (.v 10)), (4, 1, (.v 4)), (5, 1, (.v 13)), (6, 1, (.v 0))]),
  .op (.new [(.int .i64 0), (.slice none 0 0), (.int .i64 0), (.int .i64 0), (.int .i64 0), (.int .i64 0), (.int .i64 0), (.slice none 0 0), (.slice none 0 0), (.int .i64 0), (.int .i64 0)]),
  .eff (.st 11 (.v 0) (.v 1))] [0, 0, 2, 6, 14, 30, 62, 0, 0, 256, 768, 1792, 4095, 0, 16383]) [0] 13)
 (.seq (.seq (.post (.reg [.op (.fld 4 (.v 0)),
  .op (.ld1 (.v 0)),
  .op (.bin .leq 3 (.v 0) (.c (.int .i64 3))),
  .nop 0,
  .opg (.fld 4 (.v 3)) 0 false,
  .opg (.ld1 (.v 0)) 1 false,
  .opg (.bin .gtr 3 (.v 0) (.c (.int .i64 16))) 2 false,
  .op (.pick (.v 3) (.c (.bool true)) (.v 0)),
  .nop 0,
  .opg (.fld 2 (.v 13)) 0 false,
  .opg (.ld1 (.v 0)) 1 false,
  .opg (.bin .lss 3 (.v 0) (.c (.int .i64 1))) 2 false,
  .op (.pick (.v 3) (.c (.bool true)) (.v 0)),
  .nop 0,
  .opg (.fld 2 (.v 17)) 0 false,
  .opg (.ld1 (.v 0)) 1 false,
  .opg (.bin .gtr 3 (.v 0) (.c (.int .i64 256))) 2 false,
  .op (.pick (.v 3) (.c (.bool true)) (.v 0)),
  .nop 0,
  .opg (.fld 3 (.v 21)) 0 false,
  .opg (.ld1 (.v 0)) 1 false,
  .opg (.bin .lss 3 (.v 0) (.c (.int .i64 0))) 2 false,
  .op (.pick (.v 3) (.c (.bool true)) (.v 0)),
  .nop 0,
  .opg (.fld 3 (.v 25)) 0 false,
  .opg (.ld1 (.v 0)) 1 false,
  .opg (.bin .gtr 3 (.v 0) (.c (.int .i64 65536))) 2 false,
  .op (.pick (.v 3) (.c (.bool true)) (.v 0))]) [0] 23)
 (.cond (.v 0) (.seq (.post (.reg [.op (.build [(.int .i64 0), (.slice none 0 0), (.int .i64 0), (.int .i64 0), (.int .i64 0), (.int .i64 0), (.int .i64 0), (.slice none 0 0), (.slice none 0 0), (.int .i64 0), (.int .i64 0)] []),
  .eff (.st 11 (.v 7) (.v 0)),
  .op (.mov (.c (.bool false)))]) [0] 2)
 (.ret [.cells 7 11, .v 0]))
 .skip))
 (.seq (.post (.reg [.op (.fld 2 (.v 7)),
  .op (.ld1 (.v 0)),
  .nop 6,
  .op (.bin .mul 3 (.v 0) (.v 6)),
  .op (.fld 9 (.v 4)),
  .eff (.st 1 (.v 0) (.v 1))]) [] 4)
 (.seq (.post (.reg [.op (.fld 9 (.v 1)),
  .op (.ld1 (.v 0)),
  .op (.fld 3 (.v 9)),
  .op (.ld1 (.v 0)),
  .op (.bin .add 3 (.v 2) (.v 0)),
  .op (.fld 10 (.v 6)),
  .eff (.st 1 (.v 0) (.v 1))]) [] 6)
 (.seq (.seq (.post (.regD [.op (.fld 2 (.v 7)),
  .op (.ld1 (.v 0)),
  .op (.fld 6 (.v 3)),
  .op (.ld1 (.v 0)),
  .op (.bin .mul 3 (.v 2) (.v 0)),
  .op (.bin .gtr 3 (.v 0) (.c (.int .i64 4096))),
  .nop 0,
  .opg (.fld 2 (.v 13)) 0 false,
  .opg (.ld1 (.v 0)) 1 false,
  .opg (.fld 6 (.v 9)) 2 false,
  .opg (.ld1 (.v 0)) 3 false,
  .opg (.bin .mul 3 (.v 2) (.v 0)) 4 false,
  .opg (.ldn 11 (.v 12)) 5 false,
  .opg (.call 46 [(.v 0)]) 6 false,
  .opg (.bin .mul 3 (.v 2) (.v 0)) 7 false,
  .opg (.bin .gtr 3 (.v 0) (.c (.int .i64 65536))) 8 false,
  .op (.pick (.v 9) (.c (.bool true)) (.v 0)),
  .nop 0,
  .opg (.fld 10 (.v 17)) 0 false,
  .opg (.ld1 (.v 0)) 1 false,
  .opg (.bin .gtr 3 (.v 0) (.c (.int .i64 65536))) 2 false,
  .op (.pick (.v 3) (.c (.bool true)) (.v 0))] [0, 1, 0, 4, 15, 31, 63, 127, 255, 127, 639, 2047, 127, 4223, 16383, 32767, 65535, 131071, 262143, 524287, 1048575, 2097151]) [0] 20)
 (.cond (.v 0) (.seq (.post (.reg [.op (.build [(.int .i64 0), (.slice none 0 0), (.int .i64 0), (.int .i64 0), (.int .i64 0), (.int .i64 0), (.int .i64 0), (.slice none 0 0), (.slice none 0 0), (.int .i64 0), (.int .i64 0)] []),
  .eff (.st 11 (.v 8) (.v 0)),
  .op (.mov (.c (.bool false)))]) [0] 2)
 (.ret [.cells 8 11, .v 0]))
 .skip))
 (.seq (.post (.reg [.op (.fld 0 (.v 8)),
  .op (.fld 0 (.v 0)),
  .op (.ld1 (.v 0)),
  .op (.make 1 24 [(.slice none 0 0)] (.v 0) (.v 0)),
  .op (.fld 8 (.v 6)),
  .eff (.st 1 (.v 0) (.v 1))]) [] 5)
 (.seq (.seq (.post (.reg [.op (.fld 0 (.v 8)),
  .op (.fld 1 (.v 0)),
  .op (.ld1 (.v 0)),
  .op (.len false (.v 0)),
  .op (.mov (.c (.int .i64 0)))]) [0, 1, 2] 5)
 (.block 0 [[], [107], [106], [97], [63], [7], [21], [19, 6, 20], [17, 4, 30, 67], [3], [2], [1], [0]] (.pre [0] 0 ac39L1)))
 (.seq (.post (.reg [.op (.ldn 11 (.v 5)),
  .eff (.st 11 (.v 11) (.v 0)),
  .op (.mov (.c (.bool true)))]) [0] 2)
 (.ret [.cells 11 11, .v 0]))))))))))))⟩

/-- (tegula/layout.numbers).has -/
def ac40 : AFn := ⟨3, [],
 (.seq (.reg [.op (.box (.v 0)),
  .op (.mov (.c (.bool false)))])
 (.seq (.post (.reg [.nop 3,
  .op (.bin .geq 3 (.v 3) (.c (.int .i64 0))),
  .nop 0,
  .opg (.mov (.v 4)) 0 true,
  .opg (.ldn 11 (.v 3)) 1 true,
  .opg (.call 45 [(.v 0)]) 2 true,
  .opg (.bin .lss 3 (.v 2) (.v 0)) 3 true,
  .op (.pick (.v 4) (.v 0) (.c (.bool false))),
  .nop 0,
  .opg (.mov (.v 10)) 0 true,
  .opg (.bin .geq 3 (.v 0) (.c (.int .i64 0))) 1 true,
  .op (.pick (.v 2) (.v 0) (.c (.bool false))),
  .nop 0,
  .opg (.mov (.v 13)) 0 true,
  .opg (.fld 4 (.v 11)) 1 true,
  .opg (.ld1 (.v 0)) 2 true,
  .opg (.bin .lss 3 (.v 2) (.v 0)) 3 true,
  .op (.pick (.v 4) (.v 0) (.c (.bool false))),
  .nop 0]) [0] 14)
 (.ret [.v 0])))⟩

/-- (tegula/layout.numbers).home -/
def ac41 : AFn := ⟨3, [],
 (.seq (.reg [.op (.box (.v 0)),
  .op (.new [(.int .i64 0), (.int .i64 0)])])
 (.seq (.post (.regD [.nop 3,
  .op (.fld 6 (.v 1)),
  .op (.ld1 (.v 0)),
  .op (.bin .quo 3 (.v 5) (.v 0)),
  .nop 6,
  .op (.fld 6 (.v 4)),
  .op (.ld1 (.v 0)),
  .op (.bin .rem 3 (.v 8) (.v 0)),
  .nop 3,
  .nop 0] [0, 0, 2, 7, 0, 0, 32, 112, 15, 511]) [0, 3] 6)
 (.seq (.post (.reg [.nop 6,
  .nop 1,
  .op (.bin .add 3 (.v 6) (.v 1)),
  .op (.fld 4 (.v 4)),
  .op (.ld1 (.v 0)),
  .op (.bin .rem 3 (.v 2) (.v 0)),
  .nop 0]) [0] 4)
 (.seq (.post (.regD [.op (.fld 0 (.v 4)),
  .op (.fld 0 (.v 0)),
  .op (.fld 1 (.v 0)),
  .op (.ld1 (.v 0)),
  .nop 5,
  .op (.idx 1 (.v 0) (.v 5)),
  .op (.ld1 (.v 0)),
  .nop 6,
  .op (.idx 1 (.v 0) (.v 6)),
  .op (.ld1 (.v 0)),
  .nop 10,
  .op (.fld 5 (.v 12)),
  .op (.ld1 (.v 0)),
  .op (.bin .mul 3 (.v 12) (.v 0)),
  .op (.fld 7 (.v 15)),
  .op (.ld1 (.v 0)),
  .nop 14,
  .op (.idx 1 (.v 0) (.v 14)),
  .op (.ld1 (.v 0)),
  .nop 15,
  .op (.idx 1 (.v 0) (.v 15)),
  .op (.ld1 (.v 0)),
  .op (.bin .add 3 (.v 6) (.v 0)),
  .op (.build [(.int .i64 0), (.int .i64 0)] [(0, 1, (.v 10)), (1, 1, (.v 0))]),
  .eff (.st 2 (.v 22) (.v 0))] [0, 1, 3, 7, 0, 31, 63, 0, 255, 511, 0, 0, 2048, 7168, 0, 16384, 0, 114688, 245760, 0, 1032192, 2080768, 4193280, 8388607, 16777215]) [] 19)
 (.ret [.cells 3 2])))))⟩

def ac42L0b : AC :=
 (.post (.seq (.seq (.reg [.nop 1,
  .nop 4,
  .op (.len false (.v 4)),
  .op (.bin .lss 3 (.v 2) (.v 0))])
 (.cond (.v 0) .skip
 (.pre [2] 4 (.exit 0))))
 (.seq (.block 1 [[4], [9], [8], [], [5, 6], [], [], [0, 7], [1]] (.post (.seq (.reg [.nop 6,
  .nop 3,
  .op (.idx 1 (.v 6) (.v 3)),
  .op (.ld1 (.v 0)),
  .nop 9,
  .op (.bin .eql 3 (.v 0) (.v 9))])
 (.cond (.v 0) (.seq (.reg [.op (.mov (.c (.bool true)))])
 (.ret [.v 0]))
 .skip)) [5] 3))
 (.reg [.nop 4,
  .op (.bin .add 3 (.v 4) (.c (.int .i64 1))),
  .nop 0]))) [1, 0] 6)
def ac42L0 : AC := .loop [[4], [5], [], [], [0], [1]] ac42L0b
/-- tegula/tegularef06.Has -/
def ac42 : AFn := ⟨2, [],
 (.seq (.reg [.op (.mov (.c (.bool false)))])
 (.seq (.seq (.reg [.op (.mov (.c (.int .i64 0)))])
 (.block 0 [[4], [], [], [0], [1]] (.pre [1, 0] 0 ac42L0)))
 (.seq (.reg [.op (.mov (.c (.bool false)))])
 (.ret [.v 0]))))⟩

/-- (tegula/layout.numbers).at -/
def ac43 : AFn := ⟨3, [],
 (.seq (.reg [.op (.box (.v 0)),
  .op (.new [(.int .i64 0), (.int .i64 0)])])
 (.seq (.post (.reg [.nop 4,
  .op (.fld 5 (.v 1)),
  .op (.ld1 (.v 0)),
  .op (.bin .quo 3 (.v 6) (.v 0)),
  .nop 0]) [0] 3)
 (.seq (.post (.regD [.op (.fld 8 (.v 2)),
  .op (.ld1 (.v 0)),
  .nop 6,
  .op (.idx 1 (.v 0) (.v 6)),
  .op (.ld1 (.v 0)),
  .nop 9,
  .op (.fld 5 (.v 6)),
  .op (.ld1 (.v 0)),
  .op (.bin .rem 3 (.v 11) (.v 0)),
  .op (.idx 1 (.v 3) (.v 0)),
  .op (.ld1 (.v 0)),
  .nop 0] [0, 1, 0, 7, 15, 0, 0, 64, 224, 511, 1023, 2047]) [0] 9)
 (.seq (.post (.reg [.op (.fld 0 (.v 3)),
  .op (.fld 0 (.v 0)),
  .op (.fld 1 (.v 0)),
  .op (.ld1 (.v 0)),
  .nop 4,
  .op (.idx 1 (.v 0) (.v 4)),
  .op (.ld1 (.v 0)),
  .nop 11,
  .op (.call 51 [(.v 0), (.v 11)]),
  .nop 0]) [0] 7)
 (.seq (.post (.regD [.nop 2,
  .op (.fld 6 (.v 4)),
  .op (.ld1 (.v 0)),
  .op (.bin .mul 3 (.v 4) (.v 0)),
  .nop 4,
  .op (.bin .add 3 (.v 0) (.v 4)),
  .nop 4,
  .nop 6,
  .op (.bin .sub 3 (.v 4) (.v 6)),
  .op (.fld 4 (.v 9)),
  .op (.ld1 (.v 0)),
  .op (.bin .rem 3 (.v 2) (.v 0)),
  .op (.fld 4 (.v 12)),
  .op (.ld1 (.v 0)),
  .op (.bin .add 3 (.v 2) (.v 0)),
  .op (.fld 4 (.v 15)),
  .op (.ld1 (.v 0)),
  .op (.bin .rem 3 (.v 2) (.v 0)),
  .op (.build [(.int .i64 0), (.int .i64 0)] [(0, 1, (.v 10)), (1, 1, (.v 0))]),
  .eff (.st 2 (.v 18) (.v 0))] [0, 0, 2, 7, 0, 31, 0, 0, 192, 0, 512, 1984, 0, 4096, 16320, 0, 32768, 131008, 262143, 524287]) [] 15)
 (.ret [.cells 3 2]))))))⟩

def ac44L0b : AC :=
 (.post (.seq (.seq (.reg [.nop 3,
  .nop 16,
  .op (.len false (.v 16)),
  .op (.bin .lss 3 (.v 4) (.v 0))])
 (.cond (.v 0) .skip
 (.pre [2, 3, 4, 5] 6 (.exit 2))))
 (.seq (.block 3 [[2], [3], [4], [61], [60], [], [], [], [8, 58], [], [57], [56], [55], [54], [53], [52], [51], [50], [49], [47, 48], [46], [44, 7, 45, 59], [43], [41], [40], [37], [36], [35], [34], [], [], [], [6, 33, 42], [], [5], [32], [], [], [], [1], [0]] (.post (.seq (.regD [.nop 18,
  .nop 5,
  .op (.idx 1 (.v 18) (.v 5)),
  .op (.ld1 (.v 0)),
  .op (.bin .lss 3 (.v 0) (.c (.int .i64 0))),
  .nop 0,
  .opg (.mov (.v 21)) 0 false,
  .opg (.mov (.v 9)) 1 false,
  .opg (.idx 1 (.v 1) (.v 0)) 2 false,
  .opg (.ld1 (.v 0)) 3 false,
  .opg (.fld 0 (.v 43)) 4 false,
  .opg (.ld1 (.v 0)) 5 false,
  .opg (.bin .geq 3 (.v 2) (.v 0)) 6 false,
  .op (.pick (.v 7) (.c (.bool true)) (.v 0)),
  .nop 0,
  .opg (.mov (.v 16)) 0 false,
  .opg (.bin .gtr 3 (.v 0) (.c (.int .i64 0))) 1 false,
  .opg (.mov (.v 0)) 2 false,
  .opg (.mov (.v 32)) 0 true,
  .opg (.mov (.v 20)) 1 true,
  .opg (.idx 1 (.v 1) (.v 0)) 2 true,
  .opg (.ld1 (.v 0)) 3 true,
  .opg (.mov (.v 36)) 4 true,
  .opg (.mov (.v 24)) 5 true,
  .opg (.bin .sub 3 (.v 0) (.c (.int .i64 1))) 6 true,
  .opg (.idx 1 (.v 2) (.v 0)) 7 true,
  .opg (.ld1 (.v 0)) 8 true,
  .opg (.bin .leq 3 (.v 5) (.v 0)) 9 true,
  .opg (.pick (.v 10) (.v 0) (.c (.bool false))) 13 false,
  .op (.pick (.v 14) (.c (.bool true)) (.v 0))] [0, 0, 3, 7, 15, 31, 63, 63, 255, 511, 63, 1087, 4095, 8191, 16383, 32767, 65535, 131071, 262143, 262143, 1048575, 2097151, 262143, 262143, 8650751, 29622271, 63176703, 134217727, 268435455, 536870911])
 (.cond (.v 0) (.seq (.reg [.op (.mov (.c (.int .i64 0))),
  .op (.mov (.c (.int .i64 0))),
  .op (.mov (.c (.bool false)))])
 (.ret [.v 2, .v 1, .v 0]))
 .skip)) [28, 29, 30] 26))
 (.reg [.nop 8,
  .op (.bin .add 3 (.v 8) (.c (.int .i64 1))),
  .nop 0]))) [1, 2, 3, 0] 10)
def ac44L0 : AC := .loop [[2], [3], [4], [8], [], [57], [56], [55], [54], [53], [52], [51], [50], [49], [47, 48], [46], [44, 7, 45], [43], [41], [40], [37], [36], [35], [34], [], [], [], [6, 33, 42], [], [5], [32], [], [], [], [1], [0]] ac44L0b
def ac44L1b : AC :=
 (.post (.seq (.seq (.reg [.nop 0,
  .nop 22,
  .op (.len false (.v 22)),
  .op (.bin .lss 3 (.v 1) (.v 0))])
 (.cond (.v 0) .skip
 (.pre [2] 3 (.exit 6))))
 (.seq (.block 7 [[103], [102], [10, 100], [], [97], [96], [9, 94], [], [2], [3], [4], [8], [], [57], [56], [55], [54], [53], [52], [51], [50], [49], [47, 48], [46], [44, 7, 45, 95, 101], [43], [41], [40], [37], [36], [35], [34], [], [], [], [6, 33, 42], [], [5], [32], [], [], [], [1], [0]] (.post (.regD [.nop 24,
  .nop 6,
  .op (.idx 1 (.v 24) (.v 6)),
  .op (.ld1 (.v 0)),
  .nop 26,
  .nop 4,
  .op (.idx 1 (.v 26) (.v 4)),
  .op (.ld1 (.v 0)),
  .op (.ida 60 60 (.v 41) (.v 2)),
  .op (.ida 60 1 (.v 0) (.v 1)),
  .op (.ld1 (.v 0)),
  .op (.bin .add 3 (.v 0) (.c (.int .i64 1))),
  .op (.ida 60 60 (.v 45) (.v 6)),
  .op (.ida 60 1 (.v 0) (.v 5)),
  .eff (.st 1 (.v 0) (.v 2))] [0, 0, 3, 7, 0, 0, 48, 112, 15, 511, 1023, 2047, 15, 8191, 16383]) [] 10))
 (.reg [.nop 2,
  .op (.bin .add 3 (.v 2) (.c (.int .i64 1))),
  .nop 0]))) [0] 4)
def ac44L1 : AC := .loop [[10], [], [97], [96], [9, 94], [], [2], [3], [4], [8], [], [57], [56], [55], [54], [53], [52], [51], [50], [49], [47, 48], [46], [44, 7, 45, 95], [43], [41], [40], [37], [36], [35], [34], [], [], [], [6, 33, 42], [], [5], [32], [], [], [], [1], [0]] ac44L1b
def ac44L2b : AC :=
 (.post (.seq (.seq (.reg [.nop 0,
  .nop 18,
  .op (.len false (.v 18)),
  .op (.bin .lss 3 (.v 1) (.v 0))])
 (.cond (.v 0) .skip
 (.pre [2] 3 (.exit 4))))
 (.seq (.block 5 [[97], [96], [9, 94], [], [2], [3], [4], [8], [], [57], [56], [55], [54], [53], [52], [51], [50], [49], [47, 48], [46], [44, 7, 45, 95], [43], [41], [40], [37], [36], [35], [34], [], [], [], [6, 33, 42], [], [5], [32], [], [], [], [1], [0]] (.post (.seq (.reg [.op (.mov (.c (.int .i64 0)))])
 (.block 6 [[10], [], [97], [96], [9, 94], [], [2], [3], [4], [8], [], [57], [56], [55], [54], [53], [52], [51], [50], [49], [47, 48], [46], [44, 7, 45, 95], [43], [41], [40], [37], [36], [35], [34], [], [], [], [6, 33, 42], [], [5], [32], [], [], [], [1], [0]] (.pre [0] 0 ac44L1))) [] 2))
 (.reg [.nop 2,
  .op (.bin .add 3 (.v 2) (.c (.int .i64 1))),
  .nop 0]))) [0] 4)
def ac44L2 : AC := .loop [[9], [], [2], [3], [4], [8], [], [57], [56], [55], [54], [53], [52], [51], [50], [49], [47, 48], [46], [44, 7, 45], [43], [41], [40], [37], [36], [35], [34], [], [], [], [6, 33, 42], [], [5], [32], [], [], [], [1], [0]] ac44L2b
def ac44L3b : AC :=
 (.post (.seq (.seq (.reg [.nop 3,
  .op (.fld 1 (.v 10)),
  .op (.ld1 (.v 0)),
  .op (.len false (.v 0)),
  .op (.bin .lss 3 (.v 6) (.v 0))])
 (.cond (.v 0) .skip
 (.pre [4, 5, 6] 8 (.exit 0))))
 (.seq (.block 1 [[2], [3], [4], [37], [36], [35], [34], [], [], [], [6, 33], [], [5], [32], [], [], [], [1], [0]] (.post (.seq (.reg [.op (.fld 1 (.v 14)),
  .op (.ld1 (.v 0)),
  .nop 9,
  .op (.idx 1 (.v 0) (.v 9)),
  .op (.ld1 (.v 0)),
  .nop 0])
 (.seq (.seq (.reg [.nop 0,
  .op (.len false (.v 0)),
  .op (.bin .lss 3 (.v 0) (.c (.int .i64 2))),
  .nop 0,
  .opg (.mov (.v 2)) 0 false,
  .opg (.len false (.v 0)) 1 false,
  .opg (.fld 1 (.v 22)) 2 false,
  .opg (.ld1 (.v 0)) 3 false,
  .opg (.idx 1 (.v 0) (.c (.int .i64 0))) 4 false,
  .opg (.ld1 (.v 0)) 5 false,
  .opg (.len false (.v 0)) 6 false,
  .opg (.bin .neq 3 (.v 5) (.v 0)) 7 false,
  .op (.pick (.v 8) (.c (.bool true)) (.v 0))])
 (.cond (.v 0) (.seq (.reg [.op (.mov (.c (.int .i64 0))),
  .op (.mov (.c (.int .i64 0))),
  .op (.mov (.c (.bool false)))])
 (.ret [.v 2, .v 1, .v 0]))
 .skip))
 (.seq (.seq (.reg [.op (.mov (.c (.int .i64 0)))])
 (.block 2 [[2], [3], [4], [8], [], [57], [56], [55], [54], [53], [52], [51], [50], [49], [47, 48], [46], [44, 7, 45], [43], [41], [40], [37], [36], [35], [34], [], [], [], [6, 33, 42], [], [5], [32], [], [], [], [1], [0]] (.pre [20, 21, 22, 0] 0 ac44L0)))
 (.seq (.reg [.op (.mov (.c (.int .i64 0)))])
 (.block 4 [[9], [], [2], [3], [4], [8], [], [57], [56], [55], [54], [53], [52], [51], [50], [49], [47, 48], [46], [44, 7, 45], [43], [41], [40], [37], [36], [35], [34], [], [], [], [6, 33, 42], [], [5], [32], [], [], [], [1], [0]] (.pre [0] 0 ac44L2)))))) [2, 3, 4] 22))
 (.reg [.nop 10,
  .op (.bin .add 3 (.v 10) (.c (.int .i64 1))),
  .nop 0]))) [1, 2, 3, 0] 12)
def ac44L3 : AC := .loop [[2], [3], [4], [6], [], [5], [32], [], [], [], [1], [0]] ac44L3b
def ac44L4b : AC :=
 (.post (.seq (.seq (.reg [.nop 3,
  .op (.fld 0 (.v 22)),
  .op (.ld1 (.v 0)),
  .op (.bin .lss 3 (.v 5) (.v 0))])
 (.cond (.v 0) .skip
 (.pre [3, 4, 5, 6] 7 (.exit 10))))
 (.seq (.block 11 [[2], [3], [4], [129], [128], [127], [], [], [], [12, 126], [], [123], [122], [121], [], [], [], [11, 120], [], [], [], [], [], [5], [32], [], [], [], [1], [0]] (.post (.seq (.regD [.nop 14,
  .nop 6,
  .op (.bin .eql 3 (.v 14) (.v 6)),
  .nop 0,
  .opg (.mov (.v 15)) 0 true,
  .opg (.mov (.v 16)) 1 true,
  .opg (.ida 60 60 (.v 23) (.v 1)) 2 true,
  .opg (.ida 60 1 (.v 0) (.v 1)) 3 true,
  .opg (.ld1 (.v 0)) 4 true,
  .opg (.ida 60 60 (.v 26) (.c (.int .i64 0))) 5 true,
  .opg (.ida 60 1 (.v 0) (.c (.int .i64 0))) 6 true,
  .opg (.ld1 (.v 0)) 7 true,
  .opg (.bin .neq 3 (.v 3) (.v 0)) 8 true,
  .op (.pick (.v 9) (.v 0) (.c (.bool false))),
  .nop 0,
  .opg (.mov (.v 25)) 0 false,
  .opg (.mov (.v 18)) 1 false,
  .opg (.bin .neq 3 (.v 1) (.v 0)) 2 false,
  .opg (.mov (.v 0)) 3 false,
  .opg (.mov (.v 29)) 0 true,
  .opg (.mov (.v 22)) 1 true,
  .opg (.ida 60 60 (.v 37) (.v 1)) 2 true,
  .opg (.ida 60 1 (.v 0) (.v 1)) 3 true,
  .opg (.ld1 (.v 0)) 4 true,
  .opg (.ida 60 60 (.v 40) (.c (.int .i64 0))) 5 true,
  .opg (.ida 60 1 (.v 0) (.c (.int .i64 1))) 6 true,
  .opg (.ld1 (.v 0)) 7 true,
  .opg (.bin .neq 3 (.v 3) (.v 0)) 8 true,
  .opg (.pick (.v 9) (.v 0) (.c (.bool false))) 13 false,
  .op (.pick (.v 14) (.c (.bool true)) (.v 0))] [0, 0, 3, 7, 15, 15, 31, 127, 255, 15, 527, 1551, 4095, 8191, 16383, 32767, 32767, 131071, 262143, 524287, 524287, 1048575, 4194303, 8388607, 524287, 17301503, 50855935, 134217727, 268435455, 536870911])
 (.cond (.v 0) (.seq (.reg [.op (.mov (.c (.int .i64 0))),
  .op (.mov (.c (.int .i64 0))),
  .op (.mov (.c (.bool false)))])
 (.ret [.v 2, .v 1, .v 0]))
 .skip)) [29, 30, 31] 26))
 (.reg [.nop 9,
  .op (.bin .add 3 (.v 9) (.c (.int .i64 1))),
  .nop 0]))) [1, 2, 3, 0] 11)
def ac44L4 : AC := .loop [[2], [3], [4], [12], [], [123], [122], [121], [], [], [], [11, 120], [], [], [], [], [], [5], [32], [], [], [], [1], [0]] ac44L4b
def ac44L5b : AC :=
 (.post (.seq (.seq (.reg [.nop 3,
  .op (.fld 0 (.v 14)),
  .op (.ld1 (.v 0)),
  .op (.bin .lss 3 (.v 5) (.v 0))])
 (.cond (.v 0) .skip
 (.pre [3, 4, 5] 7 (.exit 8))))
 (.seq (.block 9 [[2], [3], [4], [123], [122], [121], [], [], [], [11, 120], [], [], [], [], [], [5], [32], [], [], [], [1], [0]] (.post (.seq (.reg [.op (.mov (.c (.int .i64 0)))])
 (.block 10 [[2], [3], [4], [12], [], [123], [122], [121], [], [], [], [11, 120], [], [], [], [], [], [5], [32], [], [], [], [1], [0]] (.pre [4, 5, 6, 0] 0 ac44L4))) [0, 1, 2] 5))
 (.reg [.nop 9,
  .op (.bin .add 3 (.v 9) (.c (.int .i64 1))),
  .nop 0]))) [1, 2, 3, 0] 11)
def ac44L5 : AC := .loop [[2], [3], [4], [11], [], [], [], [], [], [5], [32], [], [], [], [1], [0]] ac44L5b
/-- tegula/tegularef07.Check -/
def ac44 : AFn := ⟨1, [],
 (.seq (.reg [.op (.box (.v 0)),
  .op (.mov (.c (.int .i64 0))),
  .op (.mov (.c (.int .i64 0))),
  .op (.mov (.c (.bool false)))])
 (.seq (.seq (.post (.reg [.op (.fld 0 (.v 3)),
  .op (.ld1 (.v 0)),
  .op (.bin .lss 3 (.v 0) (.c (.int .i64 2))),
  .nop 0,
  .opg (.fld 0 (.v 6)) 0 false,
  .opg (.ld1 (.v 0)) 1 false,
  .opg (.bin .gtr 3 (.v 0) (.c (.int .i64 60))) 2 false,
  .op (.pick (.v 3) (.c (.bool true)) (.v 0)),
  .nop 0,
  .opg (.fld 1 (.v 10)) 0 false,
  .opg (.ld1 (.v 0)) 1 false,
  .opg (.len false (.v 0)) 2 false,
  .opg (.bin .lss 3 (.v 0) (.c (.int .i64 1))) 3 false,
  .op (.pick (.v 4) (.c (.bool true)) (.v 0)),
  .nop 0,
  .opg (.fld 1 (.v 15)) 0 false,
  .opg (.ld1 (.v 0)) 1 false,
  .opg (.len false (.v 0)) 2 false,
  .opg (.bin .gtr 3 (.v 0) (.c (.int .i64 4096))) 3 false,
  .op (.pick (.v 4) (.c (.bool true)) (.v 0))]) [0] 17)
 (.cond (.v 0) (.seq (.reg [.op (.mov (.c (.int .i64 0))),
  .op (.mov (.c (.int .i64 0))),
  .op (.mov (.c (.bool false)))])
 (.ret [.v 2, .v 1, .v 0]))
 .skip))
 (.seq (.reg [.op (.new (List.replicate 3600 (.int .i64 0)))])
 (.seq (.seq (.reg [.op (.mov (.c (.int .i64 0)))])
 (.block 0 [[2], [3], [4], [], [5], [32], [], [], [], [1], [0]] (.pre [5, 4, 3, 0] 0 ac44L3)))
 (.seq (.seq (.reg [.op (.mov (.c (.int .i64 0)))])
 (.block 8 [[2], [3], [4], [], [], [], [], [], [5], [32], [], [], [], [1], [0]] (.pre [1, 2, 3, 0] 0 ac44L5)))
 (.seq (.post (.regD [.op (.ida 60 60 (.v 8) (.c (.int .i64 0))),
  .op (.ida 60 1 (.v 0) (.c (.int .i64 0))),
  .op (.ld1 (.v 0)),
  .op (.ida 60 60 (.v 11) (.c (.int .i64 0))),
  .op (.ida 60 1 (.v 0) (.c (.int .i64 1))),
  .op (.ld1 (.v 0)),
  .op (.ida 60 60 (.v 14) (.c (.int .i64 0))),
  .op (.ida 60 1 (.v 0) (.c (.int .i64 1))),
  .op (.ld1 (.v 0)),
  .op (.bin .gtr 3 (.v 0) (.c (.int .i64 0))),
  .nop 7,
  .nop 4,
  .nop 0] [0, 1, 3, 0, 8, 24, 0, 64, 192, 448, 7, 1087, 4095]) [0, 4, 7] 10)
 (.ret [.v 2, .v 1, .v 0])))))))⟩

/-- (tegula/layout.numbers).groups -/
def ac45 : AFn := ⟨1, [],
 (.seq (.reg [.op (.box (.v 0)),
  .op (.mov (.c (.int .i64 0)))])
 (.seq (.post (.reg [.op (.fld 0 (.v 1)),
  .op (.fld 2 (.v 0)),
  .op (.ld1 (.v 0)),
  .op (.fld 6 (.v 4)),
  .op (.ld1 (.v 0)),
  .op (.bin .mul 3 (.v 2) (.v 0)),
  .nop 0]) [0] 6)
 (.ret [.v 0])))⟩

/-- (tegula/layout.numbers).data -/
def ac46 : AFn := ⟨1, [],
 (.seq (.reg [.op (.box (.v 0)),
  .op (.mov (.c (.int .i64 0)))])
 (.seq (.post (.reg [.op (.fld 4 (.v 1)),
  .op (.ld1 (.v 0)),
  .op (.bin .sub 3 (.v 0) (.c (.int .i64 3))),
  .nop 0]) [0] 3)
 (.ret [.v 0])))⟩

def ac47L0b : AC :=
 (.post (.seq (.reg [.op (.bin .lss 3 (.v 1) (.v 3))])
 (.seq (.cond (.v 0) .skip
 (.pre [1, 2] 3 (.exit 2)))
 (.seq (.block 3 [[2], [53], [], [52], [], [51], [49], [48], [47], [46], [45], [44], [43], [41, 4, 42, 50], [40], [39], [], [38], [], [37], [36], [34], [], [1], [0]] (.post (.seq (.reg [.nop 2,
  .op (.idx 1 (.v 12) (.v 2)),
  .op (.ld1 (.v 0)),
  .nop 4,
  .nop 0])
 (.seq (.reg [.nop 0,
  .op (.bin .lss 3 (.v 0) (.c (.int .i64 0))),
  .nop 0,
  .opg (.mov (.v 1)) 0 false,
  .opg (.fld 0 (.v 26)) 1 false,
  .opg (.ld1 (.v 0)) 2 false,
  .opg (.bin .geq 3 (.v 2) (.v 0)) 3 false,
  .op (.pick (.v 4) (.c (.bool true)) (.v 0)),
  .nop 0,
  .opg (.mov (.v 10)) 0 false,
  .opg (.bin .gtr 3 (.v 0) (.c (.int .i64 0))) 1 false,
  .opg (.mov (.v 0)) 2 false,
  .opg (.mov (.v 23)) 0 true,
  .opg (.mov (.v 14)) 1 true,
  .opg (.bin .sub 3 (.v 0) (.c (.int .i64 1))) 2 true,
  .opg (.idx 1 (.v 2) (.v 0)) 3 true,
  .opg (.ld1 (.v 0)) 4 true,
  .opg (.mov (.v 14)) 5 true,
  .opg (.bin .geq 3 (.v 1) (.v 0)) 6 true,
  .opg (.pick (.v 7) (.v 0) (.c (.bool false))) 10 false,
  .op (.pick (.v 11) (.c (.bool true)) (.v 0))])
 (.cond (.v 0) (.seq (.reg [.op (.mov (.c (.bool false)))])
 (.ret [.v 0]))
 .skip))) [21] 20))
 (.reg [.op (.bin .add 3 (.v 3) (.c (.int .i64 1))),
  .nop 0])))) [1, 0] 5)
def ac47L0 : AC := .loop [[2], [52], [], [51], [49], [48], [47], [46], [45], [44], [43], [41, 4, 42, 50], [40], [39], [], [38], [], [37], [36], [34], [], [1], [0]] ac47L0b
def ac47L1b : AC :=
 (.post (.seq (.reg [.op (.bin .lss 3 (.v 1) (.v 3))])
 (.seq (.cond (.v 0) .skip
 (.pre [1] 3 (.exit 0)))
 (.seq (.block 1 [[2], [39], [], [38], [], [37], [36], [34], [], [1], [0]] (.post (.seq (.reg [.op (.idx 1 (.v 5) (.v 2)),
  .op (.ld1 (.v 0)),
  .nop 0])
 (.seq (.seq (.reg [.nop 0,
  .op (.len false (.v 0)),
  .op (.fld 1 (.v 11)),
  .op (.ld1 (.v 0)),
  .op (.idx 1 (.v 0) (.c (.int .i64 0))),
  .op (.ld1 (.v 0)),
  .op (.len false (.v 0)),
  .op (.bin .neq 3 (.v 5) (.v 0))])
 (.cond (.v 0) (.seq (.reg [.op (.mov (.c (.bool false)))])
 (.ret [.v 0]))
 .skip))
 (.seq (.reg [.nop 7,
  .op (.len false (.v 7)),
  .op (.mov (.c (.int .i64 0)))])
 (.block 2 [[2], [52], [], [51], [49], [48], [47], [46], [45], [44], [43], [41, 4, 42, 50], [40], [39], [], [38], [], [37], [36], [34], [], [1], [0]] (.pre [12, 0] 0 ac47L0))))) [0] 13))
 (.reg [.op (.bin .add 3 (.v 3) (.c (.int .i64 1))),
  .nop 0])))) [1, 0] 5)
def ac47L1 : AC := .loop [[2], [38], [], [37], [36], [34], [], [1], [0]] ac47L1b
/-- tegula/design.formed -/
def ac47 : AFn := ⟨1, [],
 (.seq (.reg [.op (.box (.v 0)),
  .op (.mov (.c (.bool false)))])
 (.seq (.seq (.post (.reg [.op (.fld 0 (.v 1)),
  .op (.ld1 (.v 0)),
  .op (.bin .lss 3 (.v 0) (.c (.int .i64 2))),
  .nop 0,
  .opg (.fld 0 (.v 4)) 0 false,
  .opg (.ld1 (.v 0)) 1 false,
  .opg (.bin .gtr 3 (.v 0) (.c (.int .i64 60))) 2 false,
  .op (.pick (.v 3) (.c (.bool true)) (.v 0)),
  .nop 0,
  .opg (.fld 1 (.v 8)) 0 false,
  .opg (.ld1 (.v 0)) 1 false,
  .opg (.len false (.v 0)) 2 false,
  .opg (.bin .lss 3 (.v 0) (.c (.int .i64 1))) 3 false,
  .op (.pick (.v 4) (.c (.bool true)) (.v 0)),
  .nop 0,
  .opg (.fld 1 (.v 13)) 0 false,
  .opg (.ld1 (.v 0)) 1 false,
  .opg (.len false (.v 0)) 2 false,
  .opg (.bin .gtr 3 (.v 0) (.c (.int .i64 4096))) 3 false,
  .op (.pick (.v 4) (.c (.bool true)) (.v 0)),
  .nop 0,
  .opg (.fld 1 (.v 18)) 0 false,
  .opg (.ld1 (.v 0)) 1 false,
  .opg (.idx 1 (.v 0) (.c (.int .i64 0))) 2 false,
  .opg (.ld1 (.v 0)) 3 false,
  .opg (.len false (.v 0)) 4 false,
  .opg (.bin .lss 3 (.v 0) (.c (.int .i64 2))) 5 false,
  .op (.pick (.v 6) (.c (.bool true)) (.v 0))]) [0] 24)
 (.cond (.v 0) (.seq (.reg [.op (.mov (.c (.bool false)))])
 (.ret [.v 0]))
 .skip))
 (.seq (.seq (.post (.reg [.op (.fld 1 (.v 2)),
  .op (.ld1 (.v 0)),
  .op (.len false (.v 0)),
  .op (.mov (.c (.int .i64 0)))]) [0, 1, 2] 4)
 (.block 0 [[2], [], [37], [36], [34], [], [1], [0]] (.pre [4, 0] 0 ac47L1)))
 (.seq (.reg [.op (.mov (.c (.bool true)))])
 (.ret [.v 0])))))⟩

def ac48L0b : AC :=
 (.post (.seq (.seq (.reg [.nop 1,
  .nop 13,
  .op (.bin .lss 3 (.v 1) (.v 13))])
 (.cond (.v 0) .skip
 (.pre [1, 2] 3 (.exit 4))))
 (.seq (.block 5 [[3], [19], [], [6, 17], [], [14], [], [5, 12], [], [9], [], [4, 7], [], [], [2], [0, 8, 13, 18]] (.post (.seq (.reg [.nop 10,
  .op (.bin .eql 3 (.v 10) (.c (.int .i64 1))),
  .nop 0,
  .opg (.mov (.v 11)) 0 false,
  .opg (.bin .eql 3 (.v 0) (.c (.int .i64 0))) 1 false,
  .opg (.mov (.v 0)) 2 false,
  .opg (.mov (.v 10)) 0 true,
  .opg (.bin .eql 3 (.v 0) (.c (.int .i64 1))) 1 true,
  .opg (.pick (.v 2) (.v 0) (.c (.bool false))) 5 false,
  .op (.pick (.v 6) (.c (.bool true)) (.v 0)),
  .nop 0,
  .opg (.mov (.v 18)) 0 false,
  .opg (.bin .eql 3 (.v 0) (.c (.int .i64 0))) 1 false,
  .opg (.mov (.v 0)) 2 false,
  .opg (.mov (.v 17)) 0 true,
  .opg (.bin .eql 3 (.v 0) (.c (.int .i64 0))) 1 true,
  .opg (.pick (.v 2) (.v 0) (.c (.bool false))) 5 false,
  .opg (.mov (.v 0)) 6 false,
  .opg (.mov (.v 17)) 0 true,
  .opg (.bin .eql 3 (.v 0) (.c (.int .i64 1))) 1 true,
  .opg (.pick (.v 2) (.v 0) (.c (.bool false))) 9 false,
  .op (.pick (.v 10) (.c (.bool true)) (.v 0))])
 (.cond (.v 0) (.post (.reg [.nop 20,
  .nop 29,
  .nop 25,
  .nop 21,
  .op (.build [(.int .i64 0), (.int .i64 0), (.int .i64 0)] [(0, 1, (.v 29)), (1, 1, (.v 25)), (2, 1, (.v 21))]),
  .op (.mkl 3 1 [(.int .i64 0), (.int .i64 0), (.int .i64 0)] [(0, (.v 0))]),
  .op (.app 3 24 (.v 22) (.v 0)),
  .nop 0]) [0] 3)
 (.post .skip [20] 0))) [0] 20))
 (.reg [.nop 3,
  .op (.bin .add 3 (.v 3) (.c (.int .i64 1))),
  .nop 0]))) [1, 0] 5)
def ac48L0 : AC := .loop [[3], [6], [], [14], [], [5, 12], [], [9], [], [4, 7], [], [], [2], [0, 8, 13]] ac48L0b
def ac48L1b : AC :=
 (.post (.seq (.seq (.reg [.nop 1,
  .nop 9,
  .op (.bin .lss 3 (.v 1) (.v 9))])
 (.cond (.v 0) .skip
 (.pre [1, 2] 3 (.exit 2))))
 (.seq (.block 3 [[3], [14], [], [5, 12], [], [9], [], [4, 7], [], [], [2], [0, 8, 13]] (.post (.seq (.reg [.op (.mov (.c (.int .i64 0)))])
 (.block 4 [[3], [6], [], [14], [], [5, 12], [], [9], [], [4, 7], [], [], [2], [0, 8, 13]] (.pre [2, 0] 0 ac48L0))) [0] 3))
 (.reg [.nop 3,
  .op (.bin .add 3 (.v 3) (.c (.int .i64 1))),
  .nop 0]))) [1, 0] 5)
def ac48L1 : AC := .loop [[3], [5], [], [9], [], [4, 7], [], [], [2], [0, 8]] ac48L1b
def ac48L2b : AC :=
 (.post (.seq (.seq (.reg [.nop 1,
  .nop 5,
  .op (.bin .lss 3 (.v 1) (.v 5))])
 (.cond (.v 0) .skip
 (.pre [1] 3 (.exit 0))))
 (.seq (.block 1 [[3], [9], [], [4, 7], [], [], [2], [0, 8]] (.post (.seq (.reg [.op (.mov (.c (.int .i64 0)))])
 (.block 2 [[3], [5], [], [9], [], [4, 7], [], [], [2], [0, 8]] (.pre [2, 0] 0 ac48L1))) [0] 3))
 (.reg [.nop 3,
  .op (.bin .add 3 (.v 3) (.c (.int .i64 1))),
  .nop 0]))) [1, 0] 5)
def ac48L2 : AC := .loop [[3], [4], [], [], [2], [0]] ac48L2b
/-- tegula/tegularef06.coordinates -/
def ac48 : AFn := ⟨1, [],
 (.seq (.reg [.op (.mov (.c (.slice none 0 0)))])
 (.seq (.reg [.op (.mov (.c (.slice none 0 0)))])
 (.seq (.seq (.reg [.op (.mov (.c (.int .i64 0)))])
 (.block 0 [[3], [], [], [2], [0]] (.pre [1, 0] 0 ac48L2)))
 (.seq (.reg [.nop 0,
  .nop 0])
 (.ret [.v 0])))))⟩

def ac49L0b : AC :=
 (.post (.seq (.seq (.reg [.nop 0,
  .nop 4,
  .op (.bin .lss 3 (.v 0) (.v 4))])
 (.cond (.v 0) .skip
 (.pre [] 2 (.exit 0))))
 (.seq (.block 1 [[27], [11, 25], [], [24, 10], [20, 9], [16, 8, 19, 23, 26], [15, 7, 18, 22], [6], [0, 13], [1, 17], [2, 21]] (.post (.regD [.nop 4,
  .nop 1,
  .nop 4,
  .nop 1,
  .op (.idx 1 (.v 4) (.v 1)),
  .op (.ld1 (.v 0)),
  .nop 5,
  .nop 3,
  .op (.idx 1 (.v 5) (.v 3)),
  .op (.ld1 (.v 0)),
  .op (.bin .add 3 (.v 2) (.v 0)),
  .nop 11,
  .op (.bin .rem 3 (.v 0) (.v 11)),
  .op (.idx 1 (.v 10) (.v 7)),
  .eff (.st 1 (.v 0) (.v 1))] [0, 0, 0, 0, 12, 28, 0, 0, 192, 448, 1020, 0, 4092, 8191, 16383]) [] 7))
 (.reg [.nop 1,
  .op (.bin .add 3 (.v 1) (.c (.int .i64 1))),
  .nop 0]))) [0] 3)
def ac49L0 : AC := .loop [[11], [], [24, 10], [20, 9], [16, 8, 19, 23], [15, 7, 18, 22], [6], [0, 13], [1, 17], [2, 21]] ac49L0b
/-- tegula/tegularef05.Add -/
def ac49 : AFn := ⟨3, [],
 (.seq (.reg [.op (.mov (.c (.int .i64 0)))])
 (.seq (.post (.reg [.nop 1,
  .op (.call 52 [(.v 1)]),
  .nop 0,
  .op (.extr 0 (.v 0)),
  .op (.extr 1 (.v 1)),
  .nop 1,
  .nop 0]) [0, 1] 3)
 (.seq (.reg [.nop 4,
  .nop 1,
  .nop 0,
  .op (.call 53 [(.v 4), (.v 1), (.v 0)]),
  .nop 6,
  .nop 2,
  .nop 1,
  .op (.call 53 [(.v 6), (.v 2), (.v 1)]),
  .nop 1,
  .nop 0])
 (.seq (.seq (.reg [.op (.mov (.c (.int .i64 0)))])
 (.block 0 [[], [24, 10], [20, 9], [16, 8, 19, 23], [15, 7, 18, 22], [6], [0, 13], [1, 17], [2, 21]] (.pre [0] 0 ac49L0)))
 (.seq (.reg [.nop 2,
  .nop 4,
  .op (.call 54 [(.v 2), (.v 4)]),
  .nop 0])
 (.ret [.v 0]))))))⟩

def ac50L0b : AC :=
 (.post (.seq (.seq (.reg [.nop 0,
  .nop 9,
  .op (.bin .lss 3 (.v 0) (.v 9))])
 (.cond (.v 0) .skip
 (.pre [1] 2 (.exit 2))))
 (.seq (.block 3 [[48], [13, 46], [], [43], [12, 41], [], [40, 11], [36, 10], [32, 9], [23], [21, 8, 22, 31, 35, 37, 42, 47], [20, 7, 30, 34], [6], [0, 18], [1, 29], [2, 33]] (.post (.regD [.nop 6,
  .nop 4,
  .nop 1,
  .op (.bin .add 3 (.v 4) (.v 1)),
  .nop 7,
  .nop 5,
  .nop 2,
  .op (.bin .add 3 (.v 5) (.v 2)),
  .op (.idx 1 (.v 8) (.v 0)),
  .op (.ld1 (.v 0)),
  .nop 12,
  .nop 8,
  .op (.idx 1 (.v 12) (.v 8)),
  .op (.ld1 (.v 0)),
  .nop 13,
  .nop 7,
  .op (.idx 1 (.v 13) (.v 7)),
  .op (.ld1 (.v 0)),
  .op (.bin .mul 3 (.v 2) (.v 0)),
  .op (.bin .add 3 (.v 5) (.v 0)),
  .nop 21,
  .op (.bin .rem 3 (.v 0) (.v 21)),
  .op (.idx 1 (.v 17) (.v 10)),
  .eff (.st 1 (.v 0) (.v 1))] [0, 0, 0, 6, 0, 0, 0, 96, 240, 496, 0, 0, 3072, 7168, 0, 0, 49152, 114688, 261120, 524272, 0, 2097136, 4194303, 8388607]) [] 12))
 (.reg [.nop 1,
  .op (.bin .add 3 (.v 1) (.c (.int .i64 1))),
  .nop 0]))) [0] 3)
def ac50L0 : AC := .loop [[13], [], [43], [12, 41], [], [40, 11], [36, 10], [32, 9], [23], [21, 8, 22, 31, 35, 37, 42], [20, 7, 30, 34], [6], [0, 18], [1, 29], [2, 33]] ac50L0b
def ac50L1b : AC :=
 (.post (.seq (.seq (.reg [.nop 0,
  .nop 6,
  .op (.bin .lss 3 (.v 0) (.v 6))])
 (.cond (.v 0) .skip
 (.pre [] 2 (.exit 0))))
 (.seq (.block 1 [[43], [12, 41], [], [40, 11], [36, 10], [32, 9], [23], [21, 8, 22, 31, 35, 37, 42], [20, 7, 30, 34], [6], [0, 18], [1, 29], [2, 33]] (.post (.seq (.reg [.op (.mov (.c (.int .i64 0)))])
 (.block 2 [[13], [], [43], [12, 41], [], [40, 11], [36, 10], [32, 9], [23], [21, 8, 22, 31, 35, 37, 42], [20, 7, 30, 34], [6], [0, 18], [1, 29], [2, 33]] (.pre [0] 0 ac50L0))) [] 2))
 (.reg [.nop 1,
  .op (.bin .add 3 (.v 1) (.c (.int .i64 1))),
  .nop 0]))) [0] 3)
def ac50L1 : AC := .loop [[12], [], [40, 11], [36, 10], [32, 9], [23], [21, 8, 22, 31, 35, 37], [20, 7, 30, 34], [6], [0, 18], [1, 29], [2, 33]] ac50L1b
def ac50L2b : AC :=
 (.post (.seq (.seq (.reg [.nop 0,
  .nop 15,
  .op (.bin .lss 3 (.v 0) (.v 15))])
 (.cond (.v 0) .skip
 (.pre [1] 2 (.exit 6))))
 (.seq (.block 7 [[91], [16, 89], [], [86], [15, 84], [83], [14], [79], [], [76], [74], [], [40, 11], [36, 10], [32, 9], [23], [21, 8, 22, 31, 35, 37, 81, 85, 90], [20, 7, 30, 34], [6], [0, 18, 75, 78], [1, 29], [2, 33]] (.post (.regD [.nop 12,
  .nop 4,
  .nop 16,
  .op (.bin .sub 3 (.v 4) (.v 16)),
  .nop 2,
  .op (.bin .add 3 (.v 0) (.v 2)),
  .nop 14,
  .nop 6,
  .nop 18,
  .op (.bin .sub 3 (.v 6) (.v 18)),
  .nop 4,
  .op (.bin .add 3 (.v 0) (.v 4)),
  .op (.idx 1 (.v 16) (.v 0)),
  .op (.ld1 (.v 0)),
  .nop 18,
  .nop 10,
  .op (.idx 1 (.v 18) (.v 10)),
  .op (.ld1 (.v 0)),
  .nop 25,
  .nop 14,
  .nop 9,
  .op (.idx 1 (.v 14) (.v 9)),
  .op (.ld1 (.v 0)),
  .op (.bin .sub 3 (.v 27) (.v 0)),
  .op (.bin .mul 3 (.v 3) (.v 0)),
  .op (.bin .add 3 (.v 6) (.v 0)),
  .nop 30,
  .op (.bin .rem 3 (.v 0) (.v 30)),
  .op (.idx 1 (.v 26) (.v 12)),
  .eff (.st 1 (.v 0) (.v 1))] [0, 0, 0, 6, 0, 30, 0, 0, 0, 384, 0, 1920, 4032, 8128, 0, 0, 49152, 114688, 0, 0, 0, 1572864, 3670016, 8126464, 16760832, 33554368, 0, 134217664, 268435455, 536870911]) [] 15))
 (.reg [.nop 1,
  .op (.bin .add 3 (.v 1) (.c (.int .i64 1))),
  .nop 0]))) [0] 3)
def ac50L2 : AC := .loop [[16], [], [86], [15, 84], [83], [14], [79], [], [76], [74], [], [40, 11], [36, 10], [32, 9], [23], [21, 8, 22, 31, 35, 37, 81, 85], [20, 7, 30, 34], [6], [0, 18, 75, 78], [1, 29], [2, 33]] ac50L2b
def ac50L3b : AC :=
 (.post (.seq (.seq (.reg [.nop 0,
  .nop 12,
  .op (.bin .geq 3 (.v 0) (.v 12))])
 (.cond (.v 0) .skip
 (.pre [] 2 (.exit 4))))
 (.seq (.block 5 [[86], [15, 84], [83], [14], [79], [], [76], [74], [], [40, 11], [36, 10], [32, 9], [23], [21, 8, 22, 31, 35, 37, 81, 85], [20, 7, 30, 34], [6], [0, 18, 75, 78], [1, 29], [2, 33]] (.post (.seq (.seq (.reg [.op (.mov (.c (.int .i64 0)))])
 (.block 6 [[16], [], [86], [15, 84], [83], [14], [79], [], [76], [74], [], [40, 11], [36, 10], [32, 9], [23], [21, 8, 22, 31, 35, 37, 81, 85], [20, 7, 30, 34], [6], [0, 18, 75, 78], [1, 29], [2, 33]] (.pre [0] 0 ac50L2)))
 (.reg [.nop 11,
  .nop 3,
  .op (.idx 1 (.v 11) (.v 3)),
  .eff (.st 1 (.v 0) (.c (.int .i64 0)))])) [] 3))
 (.reg [.nop 1,
  .op (.bin .sub 3 (.v 1) (.c (.int .i64 1))),
  .nop 0]))) [0] 3)
def ac50L3 : AC := .loop [[15], [83], [14], [79], [], [76], [74], [], [40, 11], [36, 10], [32, 9], [23], [21, 8, 22, 31, 35, 37, 81], [20, 7, 30, 34], [6], [0, 18, 75, 78], [1, 29], [2, 33]] ac50L3b
/-- tegula/tegularef05.Mul -/
def ac50 : AFn := ⟨3, [],
 (.seq (.reg [.op (.mov (.c (.int .i64 0)))])
 (.seq (.post (.reg [.nop 1,
  .op (.call 52 [(.v 1)]),
  .nop 0,
  .op (.extr 0 (.v 0)),
  .op (.extr 1 (.v 1)),
  .nop 1,
  .nop 0]) [0, 1] 3)
 (.seq (.seq (.reg [.nop 0,
  .op (.bin .eql 3 (.v 0) (.c (.int .i64 1)))])
 (.cond (.v 0) (.seq (.post (.reg [.nop 5,
  .nop 6,
  .op (.bin .mul 3 (.v 5) (.v 6)),
  .nop 3,
  .op (.bin .rem 3 (.v 0) (.v 3)),
  .nop 0]) [0] 2)
 (.ret [.v 0]))
 .skip))
 (.seq (.reg [.nop 5,
  .nop 2,
  .nop 1,
  .op (.call 53 [(.v 5), (.v 2), (.v 1)]),
  .nop 7,
  .nop 3,
  .nop 2,
  .op (.call 53 [(.v 7), (.v 3), (.v 2)]),
  .nop 1,
  .nop 0])
 (.seq (.post (.reg [.nop 3,
  .op (.bin .mul 3 (.c (.int .i64 2)) (.v 3)),
  .op (.bin .sub 3 (.v 0) (.c (.int .i64 1))),
  .op (.make 1 8 [(.int .i64 0)] (.v 0) (.v 0)),
  .nop 0]) [0] 3)
 (.seq (.seq (.reg [.op (.mov (.c (.int .i64 0)))])
 (.block 0 [[], [40, 11], [36, 10], [32, 9], [23], [21, 8, 22, 31, 35, 37], [20, 7, 30, 34], [6], [0, 18], [1, 29], [2, 33]] (.pre [0] 0 ac50L1)))
 (.seq (.reg [.op (.mkl 1 2 [(.int .i64 0)] [(0, (.c (.int .i64 1))), (1, (.c (.int .i64 1)))]),
  .nop 0])
 (.seq (.seq (.reg [.nop 9,
  .op (.bin .eql 3 (.v 9) (.c (.int .i64 8)))])
 (.cond (.v 0) (.reg [.op (.mkl 1 3 [(.int .i64 0)] [(0, (.c (.int .i64 1))), (1, (.c (.int .i64 1))), (2, (.c (.int .i64 0)))]),
  .nop 0])
 (.post .skip [1] 0)))
 (.seq (.seq (.reg [.nop 11,
  .op (.bin .eql 3 (.v 11) (.c (.int .i64 9)))])
 (.cond (.v 0) (.reg [.op (.mkl 1 2 [(.int .i64 0)] [(0, (.c (.int .i64 1))), (1, (.c (.int .i64 0)))]),
  .nop 0])
 (.post .skip [1] 0)))
 (.seq (.seq (.post (.reg [.nop 10,
  .op (.bin .mul 3 (.c (.int .i64 2)) (.v 10)),
  .op (.bin .sub 3 (.v 0) (.c (.int .i64 2))),
  .nop 0]) [0] 2)
 (.block 4 [[83], [14], [79], [], [76], [74], [], [40, 11], [36, 10], [32, 9], [23], [21, 8, 22, 31, 35, 37, 81], [20, 7, 30, 34], [6], [0, 18, 75, 78], [1, 29], [2, 33]] (.pre [0] 0 ac50L3)))
 (.seq (.post (.reg [.nop 7,
  .nop 11,
  .op (.slc 1 (.v 7) none (some (.v 11))),
  .nop 13,
  .op (.call 54 [(.v 0), (.v 13)]),
  .nop 0]) [0] 2)
 (.ret [.v 0]))))))))))))⟩

def ac51L0b : AC :=
 (.post (.seq (.reg [.op (.bin .lss 3 (.v 1) (.v 3))])
 (.seq (.cond (.v 0) .skip
 (.pre [1] 3 (.exit 0)))
 (.seq (.block 1 [[4], [9], [], [8], [], [7], [], [0, 6], [1]] (.post (.seq (.reg [.nop 2,
  .nop 2])
 (.seq (.reg [.nop 7,
  .nop 6,
  .nop 2,
  .op (.idx 1 (.v 6) (.v 2)),
  .op (.ld1 (.v 0)),
  .op (.bin .eql 3 (.v 9) (.v 0))])
 (.cond (.v 0) (.seq (.reg [.nop 5,
  .nop 5])
 (.ret [.v 5]))
 .skip))) [4] 3))
 (.reg [.op (.bin .add 3 (.v 3) (.c (.int .i64 1))),
  .nop 0])))) [1, 0] 5)
def ac51L0 : AC := .loop [[4], [8], [], [7], [], [0, 6], [1]] ac51L0b
/-- slices.Index[[]int,int] -/
def ac51 : AFn := ⟨2, [],
 (.seq (.reg [.op (.mov (.c (.int .i64 0)))])
 (.seq (.seq (.reg [.nop 1,
  .op (.len false (.v 1)),
  .op (.mov (.c (.int .i64 0)))])
 (.block 0 [[4], [], [7], [], [0, 6], [1]] (.pre [2, 0] 0 ac51L0)))
 (.seq (.reg [.op (.mov (.c (.int .i64 (-1))))])
 (.ret [.v 0]))))⟩

/-- tegula/tegularef05.Prime -/
def ac52 : AFn := ⟨1, [],
 (.seq (.reg [.op (.mov (.c (.int .i64 0))),
  .op (.mov (.c (.int .i64 0)))])
 (.seq (.seq (.reg [.nop 2])
 (.block 0 [[2], [3], [], [], [0, 4]] (.post (.seq (.seq (.reg [.op (.bin .eql 3 (.v 2) (.c (.int .i64 2))),
  .nop 0])
 (.cond (.v 0) (.post .skip [0] 0)
 (.post (.seq (.reg [.op (.bin .eql 3 (.v 3) (.c (.int .i64 3))),
  .nop 0])
 (.cond (.v 0) (.post .skip [0] 0)
 (.post (.seq (.reg [.op (.bin .eql 3 (.v 4) (.c (.int .i64 5))),
  .nop 0])
 (.cond (.v 0) (.post .skip [0] 0)
 (.reg [.op (.bin .eql 3 (.v 5) (.c (.int .i64 7))),
  .nop 0]))) [0] 2))) [0] 2)))
 (.cond (.v 0) (.seq (.reg [.nop 4,
  .nop 4,
  .op (.mov (.c (.int .i64 1)))])
 (.ret [.v 5, .v 0]))
 (.seq (.reg [.op (.bin .eql 3 (.v 4) (.c (.int .i64 4))),
  .nop 0])
 (.cond (.v 0) (.seq (.reg [.op (.mov (.c (.int .i64 2))),
  .op (.mov (.c (.int .i64 2)))])
 (.ret [.v 1, .v 0]))
 (.seq (.reg [.op (.bin .eql 3 (.v 5) (.c (.int .i64 8))),
  .nop 0])
 (.cond (.v 0) (.seq (.reg [.op (.mov (.c (.int .i64 2))),
  .op (.mov (.c (.int .i64 3)))])
 (.ret [.v 1, .v 0]))
 (.seq (.reg [.op (.bin .eql 3 (.v 6) (.c (.int .i64 9))),
  .nop 0])
 (.cond (.v 0) (.seq (.reg [.op (.mov (.c (.int .i64 3))),
  .op (.mov (.c (.int .i64 2)))])
 (.ret [.v 1, .v 0]))
 .skip)))))))) [6, 5] 5)))
 (.seq (.reg [.op (.mov (.c (.int .i64 0))),
  .op (.mov (.c (.int .i64 0)))])
 (.ret [.v 1, .v 0]))))⟩

def ac53L0b : AC :=
 (.post (.seq (.seq (.reg [.nop 2,
  .nop 8,
  .op (.bin .lss 3 (.v 2) (.v 8))])
 (.cond (.v 0) .skip
 (.pre [2] 4 (.exit 0))))
 (.seq (.block 1 [[0], [7], [11], [], [], [8, 9], [], [], [6], [], [1], [2, 10]] (.post (.seq (.reg [.nop 2,
  .nop 1,
  .nop 8,
  .op (.bin .rem 3 (.v 1) (.v 8)),
  .op (.mkl 1 1 [(.int .i64 0)] [(0, (.v 0))]),
  .op (.app 1 8 (.v 4) (.v 0)),
  .nop 0])
 (.reg [.nop 4,
  .nop 11,
  .op (.bin .quo 3 (.v 4) (.v 11)),
  .nop 0])) [0, 1] 4))
 (.reg [.nop 5,
  .op (.bin .add 3 (.v 5) (.c (.int .i64 1))),
  .nop 0]))) [1, 2, 0] 7)
def ac53L0 : AC := .loop [[0], [7], [8], [], [], [6], [], [1], [2]] ac53L0b
/-- tegula/tegularef05.digits -/
def ac53 : AFn := ⟨3, [],
 (.seq (.reg [.op (.mov (.c (.slice none 0 0)))])
 (.seq (.reg [.op (.mov (.c (.slice none 0 0)))])
 (.seq (.seq (.reg [.op (.mov (.c (.int .i64 0)))])
 (.block 0 [[7], [], [], [6], [], [1], [2]] (.pre [3, 1, 0] 0 ac53L0)))
 (.seq (.reg [.nop 0,
  .nop 0])
 (.ret [.v 0])))))⟩

def ac54L0b : AC :=
 (.post (.seq (.seq (.reg [.nop 1,
  .op (.bin .geq 3 (.v 1) (.c (.int .i64 0)))])
 (.cond (.v 0) .skip
 (.pre [1] 3 (.exit 0))))
 (.seq (.block 1 [[5], [11], [], [6, 10], [9], [], [4], [0, 7], [1]] (.post (.reg [.nop 1,
  .nop 7,
  .op (.bin .mul 3 (.v 1) (.v 7)),
  .nop 7,
  .nop 3,
  .op (.idx 1 (.v 7) (.v 3)),
  .op (.ld1 (.v 0)),
  .op (.bin .add 3 (.v 2) (.v 0)),
  .nop 0]) [0] 4))
 (.reg [.nop 3,
  .op (.bin .sub 3 (.v 3) (.c (.int .i64 1))),
  .nop 0]))) [1, 0] 5)
def ac54L0 : AC := .loop [[5], [6], [9], [], [4], [0, 7], [1]] ac54L0b
/-- tegula/tegularef05.number -/
def ac54 : AFn := ⟨2, [],
 (.seq (.reg [.op (.mov (.c (.int .i64 0)))])
 (.seq (.reg [.op (.mov (.c (.int .i64 0)))])
 (.seq (.seq (.post (.reg [.nop 2,
  .op (.len false (.v 2)),
  .op (.bin .sub 3 (.v 0) (.c (.int .i64 1))),
  .nop 0]) [0] 2)
 (.block 0 [[5], [9], [], [4], [0, 7], [1]] (.pre [1, 0] 0 ac54L0)))
 (.seq (.reg [.nop 0,
  .nop 0])
 (.ret [.v 0])))))⟩

theorem chk2 : chkFn Proofs.Try.prog Proofs.Try.f2 ac2 = true := by kernel_rfl
theorem chk3 : chkFn Proofs.Try.prog Proofs.Try.f3 ac3 = true := by kernel_rfl
theorem chk4 : chkFn Proofs.Try.prog Proofs.Try.f4 ac4 = true := by kernel_rfl
theorem chk5 : chkFn Proofs.Try.prog Proofs.Try.f5 ac5 = true := by kernel_rfl
theorem chk6 : chkFn Proofs.Try.prog Proofs.Try.f6 ac6 = true := by kernel_rfl
theorem chk7 : chkFn Proofs.Try.prog Proofs.Try.f7 ac7 = true := by kernel_rfl
theorem chk8 : chkFn Proofs.Try.prog Proofs.Try.f8 ac8 = true := by kernel_rfl
theorem chk9 : chkFn Proofs.Try.prog Proofs.Try.f9 ac9 = true := by kernel_rfl
theorem chk10 : chkFn Proofs.Try.prog Proofs.Try.f10 ac10 = true := by kernel_rfl
theorem chk11 : chkFn Proofs.Try.prog Proofs.Try.f11 ac11 = true := by kernel_rfl
theorem chk12 : chkFn Proofs.Try.prog Proofs.Try.f12 ac12 = true := by kernel_rfl
theorem chk13 : chkFn Proofs.Try.prog Proofs.Try.f13 ac13 = true := by kernel_rfl
theorem chk14 : chkFn Proofs.Try.prog Proofs.Try.f14 ac14 = true := by kernel_rfl
theorem chk15 : chkFn Proofs.Try.prog Proofs.Try.f15 ac15 = true := by kernel_rfl
theorem chk16 : chkFn Proofs.Try.prog Proofs.Try.f16 ac16 = true := by kernel_rfl
theorem chk17 : chkFn Proofs.Try.prog Proofs.Try.f17 ac17 = true := by kernel_rfl
theorem chk18 : chkFn Proofs.Try.prog Proofs.Try.f18 ac18 = true := by kernel_rfl
theorem chk19 : chkFn Proofs.Try.prog Proofs.Try.f19 ac19 = true := by kernel_rfl
theorem chk20 : chkFn Proofs.Try.prog Proofs.Try.f20 ac20 = true := by kernel_rfl
theorem chk21 : chkFn Proofs.Try.prog Proofs.Try.f21 ac21 = true := by kernel_rfl
theorem chk22 : chkFn Proofs.Try.prog Proofs.Try.f22 ac22 = true := by kernel_rfl
theorem chk23 : chkFn Proofs.Try.prog Proofs.Try.f23 ac23 = true := by kernel_rfl
theorem chk24 : chkFn Proofs.Try.prog Proofs.Try.f24 ac24 = true := by kernel_rfl
theorem chk25 : chkFn Proofs.Try.prog Proofs.Try.f25 ac25 = true := by kernel_rfl
theorem chk26 : chkFn Proofs.Try.prog Proofs.Try.f26 ac26 = true := by kernel_rfl
theorem chk27 : chkFn Proofs.Try.prog Proofs.Try.f27 ac27 = true := by kernel_rfl
theorem chk28 : chkFn Proofs.Try.prog Proofs.Try.f28 ac28 = true := by kernel_rfl
theorem chk29 : chkFn Proofs.Try.prog Proofs.Try.f29 ac29 = true := by kernel_rfl
theorem chk30 : chkFn Proofs.Try.prog Proofs.Try.f30 ac30 = true := by kernel_rfl
theorem chk31 : chkFn Proofs.Try.prog Proofs.Try.f31 ac31 = true := by kernel_rfl
theorem chk32 : chkFn Proofs.Try.prog Proofs.Try.f32 ac32 = true := by kernel_rfl
theorem chk33 : chkFn Proofs.Try.prog Proofs.Try.f33 ac33 = true := by kernel_rfl
theorem chk34 : chkFn Proofs.Try.prog Proofs.Try.f34 ac34 = true := by kernel_rfl
theorem chk35 : chkFn Proofs.Try.prog Proofs.Try.f35 ac35 = true := by kernel_rfl
theorem chk36 : chkFn Proofs.Try.prog Proofs.Try.f36 ac36 = true := by kernel_rfl
theorem chk37 : chkFn Proofs.Try.prog Proofs.Try.f37 ac37 = true := by kernel_rfl
theorem chk38 : chkFn Proofs.Try.prog Proofs.Try.f38 ac38 = true := by kernel_rfl
theorem chk39 : chkFn Proofs.Try.prog Proofs.Try.f39 ac39 = true := by kernel_rfl
theorem chk40 : chkFn Proofs.Try.prog Proofs.Try.f40 ac40 = true := by kernel_rfl
theorem chk41 : chkFn Proofs.Try.prog Proofs.Try.f41 ac41 = true := by kernel_rfl
theorem chk42 : chkFn Proofs.Try.prog Proofs.Try.f42 ac42 = true := by kernel_rfl
theorem chk43 : chkFn Proofs.Try.prog Proofs.Try.f43 ac43 = true := by kernel_rfl
theorem chk44 : chkFn Proofs.Try.prog Proofs.Try.f44 ac44 = true := by kernel_rfl
theorem chk45 : chkFn Proofs.Try.prog Proofs.Try.f45 ac45 = true := by kernel_rfl
theorem chk46 : chkFn Proofs.Try.prog Proofs.Try.f46 ac46 = true := by kernel_rfl
theorem chk47 : chkFn Proofs.Try.prog Proofs.Try.f47 ac47 = true := by kernel_rfl
theorem chk48 : chkFn Proofs.Try.prog Proofs.Try.f48 ac48 = true := by kernel_rfl
theorem chk49 : chkFn Proofs.Try.prog Proofs.Try.f49 ac49 = true := by kernel_rfl
theorem chk50 : chkFn Proofs.Try.prog Proofs.Try.f50 ac50 = true := by kernel_rfl
theorem chk51 : chkFn Proofs.Try.prog Proofs.Try.f51 ac51 = true := by kernel_rfl
theorem chk52 : chkFn Proofs.Try.prog Proofs.Try.f52 ac52 = true := by kernel_rfl
theorem chk53 : chkFn Proofs.Try.prog Proofs.Try.f53 ac53 = true := by kernel_rfl
theorem chk54 : chkFn Proofs.Try.prog Proofs.Try.f54 ac54 = true := by kernel_rfl
noncomputable def tab : List (Nat × AFn) := [(2, ac2), (3, ac3), (4, ac4), (5, ac5), (6, ac6), (7, ac7), (8, ac8), (9, ac9), (10, ac10), (11, ac11), (12, ac12), (13, ac13), (14, ac14), (15, ac15), (16, ac16), (17, ac17), (18, ac18), (19, ac19), (20, ac20), (21, ac21), (22, ac22), (23, ac23), (24, ac24), (25, ac25), (26, ac26), (27, ac27), (28, ac28), (29, ac29), (30, ac30), (31, ac31), (32, ac32), (33, ac33), (34, ac34), (35, ac35), (36, ac36), (37, ac37), (38, ac38), (39, ac39), (40, ac40), (41, ac41), (42, ac42), (43, ac43), (44, ac44), (45, ac45), (46, ac46), (47, ac47), (48, ac48), (49, ac49), (50, ac50), (51, ac51), (52, ac52), (53, ac53), (54, ac54)]
theorem good : Good Proofs.Try.prog tab := (.cons Proofs.Try.func2 chk2 (.cons Proofs.Try.func3 chk3 (.cons Proofs.Try.func4 chk4 (.cons Proofs.Try.func5 chk5 (.cons Proofs.Try.func6 chk6 (.cons Proofs.Try.func7 chk7 (.cons Proofs.Try.func8 chk8 (.cons Proofs.Try.func9 chk9 (.cons Proofs.Try.func10 chk10 (.cons Proofs.Try.func11 chk11 (.cons Proofs.Try.func12 chk12 (.cons Proofs.Try.func13 chk13 (.cons Proofs.Try.func14 chk14 (.cons Proofs.Try.func15 chk15 (.cons Proofs.Try.func16 chk16 (.cons Proofs.Try.func17 chk17 (.cons Proofs.Try.func18 chk18 (.cons Proofs.Try.func19 chk19 (.cons Proofs.Try.func20 chk20 (.cons Proofs.Try.func21 chk21 (.cons Proofs.Try.func22 chk22 (.cons Proofs.Try.func23 chk23 (.cons Proofs.Try.func24 chk24 (.cons Proofs.Try.func25 chk25 (.cons Proofs.Try.func26 chk26 (.cons Proofs.Try.func27 chk27 (.cons Proofs.Try.func28 chk28 (.cons Proofs.Try.func29 chk29 (.cons Proofs.Try.func30 chk30 (.cons Proofs.Try.func31 chk31 (.cons Proofs.Try.func32 chk32 (.cons Proofs.Try.func33 chk33 (.cons Proofs.Try.func34 chk34 (.cons Proofs.Try.func35 chk35 (.cons Proofs.Try.func36 chk36 (.cons Proofs.Try.func37 chk37 (.cons Proofs.Try.func38 chk38 (.cons Proofs.Try.func39 chk39 (.cons Proofs.Try.func40 chk40 (.cons Proofs.Try.func41 chk41 (.cons Proofs.Try.func42 chk42 (.cons Proofs.Try.func43 chk43 (.cons Proofs.Try.func44 chk44 (.cons Proofs.Try.func45 chk45 (.cons Proofs.Try.func46 chk46 (.cons Proofs.Try.func47 chk47 (.cons Proofs.Try.func48 chk48 (.cons Proofs.Try.func49 chk49 (.cons Proofs.Try.func50 chk50 (.cons Proofs.Try.func51 chk51 (.cons Proofs.Try.func52 chk52 (.cons Proofs.Try.func53 chk53 (.cons Proofs.Try.func54 chk54 .nil)))))))))))))))))))))))))))))))))))))))))))))))))))))
end Go.Am.C21
