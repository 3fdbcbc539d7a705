/- The machine and its runs, part 6: An39. -/
import Derived.Test.YtibpnegblcdioaaDoorProg
import Derived.Test.YtibpnegblcdioaaDoorB5
set_option linter.unusedVariables false
set_option linter.unusedSimpArgs false
set_option linter.unusedSectionVars false
set_option maxRecDepth 1000000
namespace Go.Am.C39
open Go Go.Am
def ac3 : AFn := ⟨1, [],
 (.seq (.reg [.op (.box (.v 0)),
  .op (.mov (.c (.bool false)))])
 (.seq (.seq (.post (.reg [.op (.call 9 []),
  .op (.una .not (.v 0)),
  .nop 0,
  .opg (.ldn 9 (.v 3)) 0 false,
  .opg (.call 10 [(.v 0)]) 1 false,
  .opg (.una .not (.v 0)) 2 false,
  .op (.pick (.v 3) (.c (.bool true)) (.v 0)),
  .nop 0,
  .opg (.ldn 9 (.v 7)) 0 false,
  .opg (.call 11 [(.v 0)]) 1 false,
  .opg (.una .not (.v 0)) 2 false,
  .op (.pick (.v 3) (.c (.bool true)) (.v 0))]) [0] 10)
 (.cond (.v 0) (.seq (.reg [.op (.call 9 []),
  .nop 0])
 (.ret [.v 0]))
 .skip))
 (.seq (.post (.reg [.op (.ldn 9 (.v 2)),
  .op (.call 13 [(.v 0)]),
  .op (.call 12 [(.v 0)]),
  .nop 0,
  .op (.extr 0 (.v 0)),
  .op (.extr 1 (.v 1)),
  .op (.new [(.int .i64 0), (.int .i64 0), (.int .i64 0), (.bool false), (.string ⟨#[]⟩), (.string ⟨#[]⟩), (.int .i64 0), (.int .i64 0), (.slice none 0 0)]),
  .eff (.st 9 (.v 0) (.v 2)),
  .nop 1]) [0, 1] 6)
 (.seq (.post (.reg [.nop 1,
  .op (.bin .eql 27 (.v 1) (.c (.int .i64 0))),
  .nop 0,
  .opg (.ldn 9 (.v 5)) 0 true,
  .opg (.ldn 9 (.v 2)) 1 true,
  .opg (.call 14 [(.v 1), (.v 0)]) 2 true,
  .op (.pick (.v 3) (.v 0) (.c (.bool false))),
  .nop 0]) [0] 5)
 (.ret [.v 0])))))⟩


def ac4 : AFn := ⟨2, [],
 (.seq (.reg [.op (.box (.v 0)),
  .op (.box (.v 2)),
  .op (.mov (.c (.bool false)))])
 (.seq (.seq (.post (.reg [.op (.call 9 []),
  .op (.una .not (.v 0)),
  .nop 0,
  .opg (.ldn 9 (.v 4)) 0 false,
  .opg (.call 10 [(.v 0)]) 1 false,
  .opg (.una .not (.v 0)) 2 false,
  .op (.pick (.v 3) (.c (.bool true)) (.v 0)),
  .nop 0,
  .opg (.ldn 9 (.v 7)) 0 false,
  .opg (.call 10 [(.v 0)]) 1 false,
  .opg (.una .not (.v 0)) 2 false,
  .op (.pick (.v 3) (.c (.bool true)) (.v 0)),
  .nop 0,
  .opg (.ldn 9 (.v 12)) 0 false,
  .opg (.call 11 [(.v 0)]) 1 false,
  .opg (.una .not (.v 0)) 2 false,
  .op (.pick (.v 3) (.c (.bool true)) (.v 0)),
  .nop 0,
  .opg (.ldn 9 (.v 15)) 0 false,
  .opg (.call 11 [(.v 0)]) 1 false,
  .opg (.una .not (.v 0)) 2 false,
  .op (.pick (.v 3) (.c (.bool true)) (.v 0))]) [0] 18)
 (.cond (.v 0) (.seq (.reg [.op (.call 9 []),
  .nop 0])
 (.ret [.v 0]))
 .skip))
 (.seq (.post (.regD [.op (.ldn 9 (.v 3)),
  .op (.call 13 [(.v 0)]),
  .op (.ldn 9 (.v 4)),
  .op (.call 13 [(.v 0)]),
  .op (.bin .eql 9 (.v 2) (.v 0)),
  .op (.ldn 9 (.v 8)),
  .op (.ldn 9 (.v 8)),
  .op (.call 14 [(.v 1), (.v 0)]),
  .op (.bin .eql 4 (.v 3) (.v 0)),
  .nop 0] [0, 1, 0, 7, 15, 0, 0, 111, 255, 511]) [0] 9)
 (.ret [.v 0]))))⟩


def ac5 : AFn := ⟨1, [],
 (.seq (.reg [.op (.box (.v 0)),
  .op (.mov (.c (.bool false)))])
 (.seq (.seq (.post (.reg [.op (.call 9 []),
  .op (.una .not (.v 0)),
  .nop 0,
  .opg (.ldn 9 (.v 3)) 0 false,
  .opg (.call 10 [(.v 0)]) 1 false,
  .opg (.una .not (.v 0)) 2 false,
  .op (.pick (.v 3) (.c (.bool true)) (.v 0))]) [0] 6)
 (.cond (.v 0) (.seq (.reg [.op (.call 9 []),
  .nop 0])
 (.ret [.v 0]))
 .skip))
 (.seq (.post (.reg [.op (.ldn 9 (.v 2)),
  .op (.call 15 [(.v 0)]),
  .nop 0,
  .op (.extr 0 (.v 0)),
  .op (.extr 1 (.v 1)),
  .op (.extr 2 (.v 2)),
  .op (.extr 3 (.v 3)),
  .nop 3,
  .nop 2,
  .nop 1,
  .nop 0]) [0, 1, 2, 3] 6)
 (.seq (.post (.reg [.op (.ldn 9 (.v 6)),
  .op (.call 16 [(.v 0)]),
  .nop 0,
  .op (.extr 0 (.v 0)),
  .op (.extr 1 (.v 1)),
  .op (.extr 2 (.v 2)),
  .op (.extr 3 (.v 3)),
  .nop 3,
  .nop 2,
  .nop 1,
  .nop 0]) [0, 1, 2, 3] 6)
 (.seq (.post (.regD [.op (.ldn 9 (.v 10)),
  .op (.call 17 [(.v 0)]),
  .op (.ldn 9 (.v 12)),
  .op (.call 11 [(.v 0)]),
  .op (.bin .eql 4 (.v 2) (.v 0)),
  .nop 0,
  .opg (.ldn 9 (.v 15)) 0 true,
  .opg (.call 13 [(.v 0)]) 1 true,
  .opg (.ldn 9 (.v 17)) 2 true,
  .opg (.call 18 [(.v 0)]) 3 true,
  .opg (.bin .eql 9 (.v 2) (.v 0)) 4 true,
  .op (.pick (.v 5) (.v 0) (.c (.bool false))),
  .nop 0,
  .opg (.mov (.v 18)) 0 true,
  .opg (.mov (.v 15)) 1 true,
  .opg (.bin .eql 9 (.v 1) (.v 0)) 2 true,
  .op (.pick (.v 3) (.v 0) (.c (.bool false))),
  .nop 0,
  .opg (.mov (.v 21)) 0 true,
  .opg (.mov (.v 18)) 1 true,
  .opg (.bin .eql 3 (.v 1) (.v 0)) 2 true,
  .op (.pick (.v 3) (.v 0) (.c (.bool false))),
  .nop 0,
  .opg (.mov (.v 24)) 0 true,
  .opg (.mov (.v 21)) 1 true,
  .opg (.bin .eql 3 (.v 1) (.v 0)) 2 true,
  .op (.pick (.v 3) (.v 0) (.c (.bool false))),
  .nop 0,
  .opg (.mov (.v 27)) 0 true,
  .opg (.mov (.v 24)) 1 true,
  .opg (.bin .eql 4 (.v 1) (.v 0)) 2 true,
  .op (.pick (.v 3) (.v 0) (.c (.bool false))),
  .nop 0] [0, 1, 0, 7, 15, 31, 63, 127, 63, 511, 1023, 2047, 4095, 8191, 8191, 32767, 65535, 131071, 262143, 262143, 1048575, 2097151, 4194303, 8388607, 8388607, 33554431, 67108863, 134217727, 268435455, 268435455, 1073741823, 2147483647, 4294967295]) [0] 27)
 (.ret [.v 0]))))))⟩


def ac6 : AFn := ⟨2, [],
 (.seq (.reg [.op (.box (.v 0)),
  .op (.box (.v 2)),
  .op (.mov (.c (.bool false)))])
 (.seq (.seq (.post (.reg [.op (.call 9 []),
  .op (.una .not (.v 0)),
  .nop 0,
  .opg (.ldn 9 (.v 4)) 0 false,
  .opg (.call 10 [(.v 0)]) 1 false,
  .opg (.una .not (.v 0)) 2 false,
  .op (.pick (.v 3) (.c (.bool true)) (.v 0)),
  .nop 0,
  .opg (.ldn 9 (.v 7)) 0 false,
  .opg (.call 10 [(.v 0)]) 1 false,
  .opg (.una .not (.v 0)) 2 false,
  .op (.pick (.v 3) (.c (.bool true)) (.v 0))]) [0] 10)
 (.cond (.v 0) (.seq (.reg [.op (.call 9 []),
  .nop 0])
 (.ret [.v 0]))
 .skip))
 (.seq (.post (.regD [.op (.ldn 9 (.v 3)),
  .op (.ldn 9 (.v 3)),
  .op (.call 19 [(.v 1), (.v 0)]),
  .op (.ldn 9 (.v 6)),
  .op (.ldn 9 (.v 6)),
  .op (.call 20 [(.v 1), (.v 0)]),
  .op (.bin .eql 4 (.v 3) (.v 0)),
  .nop 0,
  .opg (.ldn 9 (.v 9)) 0 true,
  .opg (.ldn 9 (.v 11)) 1 true,
  .opg (.call 19 [(.v 1), (.v 0)]) 2 true,
  .opg (.ldn 9 (.v 13)) 3 true,
  .opg (.ldn 9 (.v 13)) 4 true,
  .opg (.call 19 [(.v 1), (.v 0)]) 5 true,
  .opg (.bin .eql 4 (.v 3) (.v 0)) 6 true,
  .op (.pick (.v 7) (.v 0) (.c (.bool false))),
  .nop 0] [0, 0, 3, 0, 0, 31, 63, 127, 255, 255, 1023, 255, 255, 8191, 16383, 32767, 65535]) [0] 15)
 (.ret [.v 0]))))⟩


def ac7 : AFn := ⟨1, [],
 (.seq (.reg [.op (.box (.v 0)),
  .op (.mov (.c (.bool false)))])
 (.seq (.seq (.post (.reg [.op (.call 9 []),
  .op (.una .not (.v 0)),
  .nop 0,
  .opg (.ldn 9 (.v 3)) 0 false,
  .opg (.call 10 [(.v 0)]) 1 false,
  .opg (.una .not (.v 0)) 2 false,
  .op (.pick (.v 3) (.c (.bool true)) (.v 0))]) [0] 6)
 (.cond (.v 0) (.seq (.reg [.op (.call 9 []),
  .nop 0])
 (.ret [.v 0]))
 .skip))
 (.seq (.post (.regD [.op (.ldn 9 (.v 2)),
  .op (.ldn 9 (.v 3)),
  .op (.call 19 [(.v 1), (.v 0)]),
  .op (.ldn 9 (.v 5)),
  .op (.call 11 [(.v 0)]),
  .nop 0,
  .opg (.fld 1 (.v 7)) 0 true,
  .opg (.ld1 (.v 0)) 1 true,
  .opg (.bin .neq 3 (.v 0) (.c (.int .i64 1))) 2 true,
  .op (.pick (.v 3) (.v 0) (.c (.bool false))),
  .nop 0,
  .opg (.fld 1 (.v 11)) 0 true,
  .opg (.ld1 (.v 0)) 1 true,
  .opg (.bin .neq 3 (.v 0) (.c (.int .i64 4))) 2 true,
  .op (.pick (.v 3) (.v 0) (.c (.bool false))),
  .op (.bin .eql 4 (.v 10) (.v 0)),
  .nop 0] [0, 0, 3, 0, 15, 31, 63, 127, 255, 511, 1023, 2047, 4095, 8191, 16383, 32767, 65535]) [0] 14)
 (.ret [.v 0]))))⟩


def ac8L0b : AC :=
 (.post (.seq (.seq (.reg [.nop 1,
  .nop 10,
  .nop 9,
  .op (.bin .add 3 (.v 10) (.v 9)),
  .op (.bin .lss 3 (.v 2) (.v 0))])
 (.cond (.v 0) .skip
 (.pre [2] 4 (.exit 0))))
 (.seq (.block 1 [[13], [63], [62], [], [14, 59], [], [56], [28, 12], [27, 11], [26, 10], [25, 9], [21, 8], [20, 7, 61], [19, 6, 58, 60], [18, 5], [4], [3], [2], [0], [1]] (.post (.reg [.nop 2,
  .nop 2,
  .opg (.mov (.v 3)) 2 false,
  .opg (.mov (.v 9)) 3 false,
  .opg (.bin .geq 3 (.v 1) (.v 0)) 4 false,
  .opg (.mov (.v 0)) 5 false,
  .opg (.mov (.v 7)) 0 true,
  .opg (.mov (.v 13)) 1 true,
  .opg (.mov (.v 13)) 2 true,
  .opg (.bin .add 3 (.v 1) (.v 0)) 3 true,
  .opg (.bin .lss 3 (.v 3) (.v 0)) 4 true,
  .opg (.pick (.v 5) (.v 0) (.c (.bool false))) 11 false,
  .op (.pick (.v 12) (.c (.bool true)) (.v 0)),
  .nop 0]) [0] 11))
 (.reg [.nop 4,
  .op (.bin .add 3 (.v 4) (.c (.int .i64 1))),
  .nop 0]))) [1, 0] 6)
def ac8L0 : AC := .loop [[13], [14], [], [56], [28, 12], [27, 11], [26, 10], [25, 9], [21, 8], [20, 7], [19, 6, 58], [18, 5], [4], [3], [2], [0], [1]] ac8L0b
def ac8 : AFn := ⟨2, [],
 (.seq (.reg [.op (.box (.v 0)),
  .op (.box (.v 2)),
  .op (.mov (.c (.bool false)))])
 (.seq (.post (.reg [.op (.ldn 9 (.v 2)),
  .op (.call 15 [(.v 0)]),
  .nop 0,
  .op (.extr 0 (.v 0)),
  .op (.extr 1 (.v 1)),
  .op (.extr 2 (.v 2)),
  .op (.extr 3 (.v 3)),
  .nop 3,
  .nop 2,
  .nop 1,
  .nop 0]) [0, 1, 2, 3] 6)
 (.seq (.post (.reg [.op (.ldn 9 (.v 5)),
  .op (.call 15 [(.v 0)]),
  .nop 0,
  .op (.extr 0 (.v 0)),
  .op (.extr 1 (.v 1)),
  .op (.extr 2 (.v 2)),
  .op (.extr 3 (.v 3)),
  .nop 3,
  .nop 2,
  .nop 1,
  .nop 0]) [0, 1, 2, 3] 6)
 (.seq (.seq (.post (.reg [.op (.call 9 []),
  .op (.una .not (.v 0)),
  .nop 0,
  .opg (.ldn 9 (.v 12)) 0 false,
  .opg (.call 10 [(.v 0)]) 1 false,
  .opg (.una .not (.v 0)) 2 false,
  .op (.pick (.v 3) (.c (.bool true)) (.v 0)),
  .nop 0,
  .opg (.ldn 9 (.v 15)) 0 false,
  .opg (.call 10 [(.v 0)]) 1 false,
  .opg (.una .not (.v 0)) 2 false,
  .op (.pick (.v 3) (.c (.bool true)) (.v 0)),
  .nop 0,
  .opg (.mov (.v 14)) 0 false,
  .opg (.una .not (.v 0)) 1 false,
  .op (.pick (.v 2) (.c (.bool true)) (.v 0)),
  .nop 0,
  .opg (.mov (.v 13)) 0 false,
  .opg (.una .not (.v 0)) 1 false,
  .op (.pick (.v 2) (.c (.bool true)) (.v 0)),
  .nop 0,
  .opg (.mov (.v 21)) 0 false,
  .opg (.bin .gtr 3 (.v 0) (.c (.int .i64 40))) 1 false,
  .op (.pick (.v 2) (.c (.bool true)) (.v 0)),
  .nop 0,
  .opg (.mov (.v 20)) 0 false,
  .opg (.bin .gtr 3 (.v 0) (.c (.int .i64 40))) 1 false,
  .op (.pick (.v 2) (.c (.bool true)) (.v 0))]) [0] 22)
 (.cond (.v 0) (.seq (.reg [.op (.call 9 []),
  .nop 0])
 (.ret [.v 0]))
 .skip))
 (.seq (.reg [.op (.mov (.c (.bool false)))])
 (.seq (.seq (.reg [.nop 8,
  .nop 8])
 (.block 0 [[13], [], [56], [28, 12], [27, 11], [26, 10], [25, 9], [21, 8], [20, 7], [19, 6, 58], [18, 5], [4], [3], [2], [0], [1]] (.pre [0, 8] 0 ac8L0)))
 (.seq (.post (.reg [.op (.ldn 9 (.v 13)),
  .op (.ldn 9 (.v 13)),
  .op (.call 19 [(.v 1), (.v 0)]),
  .nop 13,
  .nop 9,
  .op (.bin .eql 9 (.v 13) (.v 9)),
  .nop 0,
  .opg (.mov (.v 4)) 0 true,
  .op (.pick (.v 1) (.v 0) (.c (.bool false))),
  .nop 0,
  .opg (.fld 1 (.v 19)) 0 true,
  .opg (.ld1 (.v 0)) 1 true,
  .opg (.bin .neq 3 (.v 0) (.c (.int .i64 1))) 2 true,
  .opg (.mov (.v 0)) 3 true,
  .opg (.fld 1 (.v 22)) 0 false,
  .opg (.ld1 (.v 0)) 1 false,
  .opg (.bin .neq 3 (.v 0) (.c (.int .i64 1))) 2 false,
  .opg (.pick (.v 3) (.c (.bool true)) (.v 0)) 7 true,
  .op (.pick (.v 8) (.v 0) (.c (.bool false))),
  .op (.bin .eql 4 (.v 12) (.v 0)),
  .nop 0]) [0] 16)
 (.ret [.v 0]))))))))⟩


def ac9 : AFn := ⟨0, [],
 (.seq (.reg [.op (.mov (.c (.bool false)))])
 (.seq (.post (.reg [.op (.call 12 [(.c (.string ⟨#[119, 114, 105, 116, 101, 32, 55, 32, 118, 111, 108, 32, 51, 32, 48, 48, 49, 49, 50, 50, 51, 51, 52, 52, 53, 53, 54, 54, 55, 55, 32, 56, 56, 57, 57, 97, 97, 98, 98, 99, 99, 100, 100, 101, 101, 102, 102, 32, 102, 111, 114, 99, 101]⟩))]),
  .nop 0,
  .op (.extr 0 (.v 0)),
  .op (.extr 1 (.v 1)),
  .op (.new [(.int .i64 0), (.int .i64 0), (.int .i64 0), (.bool false), (.string ⟨#[]⟩), (.string ⟨#[]⟩), (.int .i64 0), (.int .i64 0), (.slice none 0 0)]),
  .eff (.st 9 (.v 0) (.v 2)),
  .nop 1]) [0, 1] 4)
 (.seq (.post (.reg [.op (.call 12 [(.c (.string ⟨#[114, 101, 97, 100, 32, 48, 56, 32, 118, 111, 108, 32, 48, 32, 52]⟩))]),
  .nop 0,
  .op (.extr 0 (.v 0)),
  .op (.extr 1 (.v 1)),
  .op (.new [(.int .i64 0), (.int .i64 0), (.int .i64 0), (.bool false), (.string ⟨#[]⟩), (.string ⟨#[]⟩), (.int .i64 0), (.int .i64 0), (.slice none 0 0)]),
  .eff (.st 9 (.v 0) (.v 2)),
  .nop 1]) [1] 4)
 (.seq (.post (.reg [.op (.call 12 [(.c (.string ⟨#[114, 101, 97, 100, 32, 56, 32, 118, 111, 108, 32, 48, 32, 49, 55]⟩))]),
  .nop 0,
  .op (.extr 0 (.v 0)),
  .op (.extr 1 (.v 1)),
  .op (.new [(.int .i64 0), (.int .i64 0), (.int .i64 0), (.bool false), (.string ⟨#[]⟩), (.string ⟨#[]⟩), (.int .i64 0), (.int .i64 0), (.slice none 0 0)]),
  .eff (.st 9 (.v 0) (.v 2)),
  .nop 1]) [1] 4)
 (.seq (.post (.reg [.nop 3,
  .op (.bin .eql 27 (.v 3) (.c (.int .i64 0))),
  .nop 0,
  .opg (.fld 1 (.v 3)) 0 true,
  .opg (.ld1 (.v 0)) 1 true,
  .opg (.bin .eql 3 (.v 0) (.c (.int .i64 2))) 2 true,
  .op (.pick (.v 3) (.v 0) (.c (.bool false))),
  .nop 0,
  .opg (.fld 0 (.v 7)) 0 true,
  .opg (.ld1 (.v 0)) 1 true,
  .opg (.bin .eql 3 (.v 0) (.c (.int .i64 7))) 2 true,
  .op (.pick (.v 3) (.v 0) (.c (.bool false))),
  .nop 0,
  .opg (.fld 6 (.v 11)) 0 true,
  .opg (.ld1 (.v 0)) 1 true,
  .opg (.bin .eql 3 (.v 0) (.c (.int .i64 3))) 2 true,
  .op (.pick (.v 3) (.v 0) (.c (.bool false))),
  .nop 0,
  .opg (.fld 7 (.v 15)) 0 true,
  .opg (.ld1 (.v 0)) 1 true,
  .opg (.bin .eql 3 (.v 0) (.c (.int .i64 2))) 2 true,
  .op (.pick (.v 3) (.v 0) (.c (.bool false))),
  .nop 0,
  .opg (.fld 3 (.v 19)) 0 true,
  .opg (.ld1 (.v 0)) 1 true,
  .op (.pick (.v 2) (.v 0) (.c (.bool false))),
  .nop 0,
  .opg (.fld 8 (.v 22)) 0 true,
  .opg (.ld1 (.v 0)) 1 true,
  .opg (.idx 8 (.v 0) (.c (.int .i64 1))) 2 true,
  .opg (.ida 8 1 (.v 0) (.c (.int .i64 0))) 3 true,
  .opg (.ld1 (.v 0)) 4 true,
  .opg (.bin .eql 5 (.v 0) (.c (.int .u8 136))) 5 true,
  .op (.pick (.v 6) (.v 0) (.c (.bool false))),
  .nop 0,
  .opg (.mov (.v 28)) 0 true,
  .opg (.bin .eql 27 (.v 0) (.c (.int .i64 4))) 1 true,
  .op (.pick (.v 2) (.v 0) (.c (.bool false))),
  .nop 0,
  .opg (.mov (.v 30)) 0 true,
  .opg (.bin .eql 27 (.v 0) (.c (.int .i64 4))) 1 true,
  .op (.pick (.v 2) (.v 0) (.c (.bool false))),
  .nop 0,
  .opg (.ldn 9 (.v 35)) 0 true,
  .opg (.call 13 [(.v 0)]) 1 true,
  .opg (.bin .eql 9 (.v 0) (.c (.string ⟨#[119, 114, 105, 116, 101, 32, 55, 32, 118, 111, 108, 32, 51, 32, 48, 48, 49, 49, 50, 50, 51, 51, 52, 52, 53, 53, 54, 54, 55, 55, 32, 56, 56, 57, 57, 97, 97, 98, 98, 99, 99, 100, 100, 101, 101, 102, 102, 32, 102, 111, 114, 99, 101]⟩))) 2 true,
  .op (.pick (.v 3) (.v 0) (.c (.bool false))),
  .nop 0]) [0] 37)
 (.ret [.v 0]))))))⟩


def ac10 : AFn := ⟨1, [],
 (.seq (.reg [.op (.box (.v 0)),
  .op (.mov (.c (.bool false)))])
 (.seq (.post (.reg [.op (.fld 8 (.v 1)),
  .op (.ld1 (.v 0)),
  .op (.len false (.v 0)),
  .op (.bin .leq 3 (.v 0) (.c (.int .i64 40))),
  .nop 0,
  .opg (.fld 4 (.v 5)) 0 true,
  .opg (.ld1 (.v 0)) 1 true,
  .opg (.len true (.v 0)) 2 true,
  .opg (.bin .leq 3 (.v 0) (.c (.int .i64 100))) 3 true,
  .op (.pick (.v 4) (.v 0) (.c (.bool false))),
  .nop 0,
  .opg (.fld 5 (.v 10)) 0 true,
  .opg (.ld1 (.v 0)) 1 true,
  .opg (.len true (.v 0)) 2 true,
  .opg (.bin .leq 3 (.v 0) (.c (.int .i64 100))) 3 true,
  .op (.pick (.v 4) (.v 0) (.c (.bool false))),
  .nop 0]) [0] 14)
 (.ret [.v 0])))⟩


def ac11 : AFn := ⟨1, [],
 (.seq (.reg [.op (.box (.v 0)),
  .op (.mov (.c (.bool false)))])
 (.seq (.seq (.post (.reg [.op (.fld 0 (.v 1)),
  .op (.ld1 (.v 0)),
  .op (.bin .lss 3 (.v 0) (.c (.int .i64 0))),
  .nop 0,
  .opg (.fld 0 (.v 4)) 0 false,
  .opg (.ld1 (.v 0)) 1 false,
  .opg (.bin .geq 3 (.v 0) (.c (.int .i64 2147483648))) 2 false,
  .op (.pick (.v 3) (.c (.bool true)) (.v 0)),
  .nop 0,
  .opg (.fld 2 (.v 8)) 0 false,
  .opg (.ld1 (.v 0)) 1 false,
  .opg (.bin .neq 3 (.v 0) (.c (.int .i64 0))) 2 false,
  .opg (.mov (.v 0)) 3 false,
  .opg (.fld 2 (.v 12)) 0 true,
  .opg (.ld1 (.v 0)) 1 true,
  .opg (.bin .neq 3 (.v 0) (.c (.int .i64 1))) 2 true,
  .opg (.pick (.v 3) (.v 0) (.c (.bool false))) 7 false,
  .op (.pick (.v 8) (.c (.bool true)) (.v 0))]) [0] 16)
 (.cond (.v 0) (.seq (.reg [.op (.mov (.c (.bool false)))])
 (.ret [.v 0]))
 .skip))
 (.seq (.post (.reg [.op (.fld 4 (.v 2)),
  .op (.ld1 (.v 0)),
  .op (.call 21 [(.v 0)]),
  .nop 0]) [0] 3)
 (.seq (.post (.reg [.op (.fld 5 (.v 3)),
  .op (.ld1 (.v 0)),
  .op (.bin .eql 9 (.v 0) (.c (.string ⟨#[]⟩))),
  .nop 0,
  .opg (.fld 8 (.v 6)) 0 true,
  .opg (.ld1 (.v 0)) 1 true,
  .opg (.len false (.v 0)) 2 true,
  .opg (.bin .eql 3 (.v 0) (.c (.int .i64 0))) 3 true,
  .op (.pick (.v 4) (.v 0) (.c (.bool false))),
  .nop 0]) [0] 8)
 (.seq (.seq (.post (.reg [.op (.fld 1 (.v 4)),
  .op (.ld1 (.v 0))]) [0] 2)
 (.block 0 [[2], [36], [34, 4], [25, 3], [22], [], [1], [0]] (.post (.seq (.reg [.op (.bin .eql 3 (.v 0) (.c (.int .i64 1))),
  .nop 0])
 (.cond (.v 0) (.seq (.post (.reg [.nop 3,
  .nop 3,
  .opg (.mov (.v 2)) 3 true,
  .op (.pick (.v 4) (.v 0) (.c (.bool false))),
  .nop 0,
  .opg (.fld 3 (.v 8)) 0 true,
  .opg (.ld1 (.v 0)) 1 true,
  .opg (.una .not (.v 0)) 2 true,
  .op (.pick (.v 3) (.v 0) (.c (.bool false))),
  .nop 0,
  .opg (.fld 6 (.v 12)) 0 true,
  .opg (.ld1 (.v 0)) 1 true,
  .opg (.fld 7 (.v 14)) 2 true,
  .opg (.ld1 (.v 0)) 3 true,
  .opg (.call 22 [(.v 2), (.v 0)]) 4 true,
  .op (.pick (.v 5) (.v 0) (.c (.bool false))),
  .nop 0,
  .opg (.fld 7 (.v 18)) 0 true,
  .opg (.ld1 (.v 0)) 1 true,
  .opg (.bin .leq 3 (.v 0) (.c (.int .i64 16))) 2 true,
  .op (.pick (.v 3) (.v 0) (.c (.bool false))),
  .nop 0]) [0] 16)
 (.ret [.v 0]))
 (.seq (.reg [.op (.bin .eql 3 (.v 1) (.c (.int .i64 2))),
  .nop 0])
 (.cond (.v 0) (.seq (.post (.reg [.nop 4,
  .nop 4,
  .opg (.fld 5 (.v 7)) 4 true,
  .opg (.ld1 (.v 0)) 5 true,
  .opg (.bin .eql 9 (.v 0) (.c (.string ⟨#[]⟩))) 6 true,
  .op (.pick (.v 7) (.v 0) (.c (.bool false))),
  .nop 0,
  .opg (.fld 6 (.v 11)) 0 true,
  .opg (.ld1 (.v 0)) 1 true,
  .opg (.fld 7 (.v 13)) 2 true,
  .opg (.ld1 (.v 0)) 3 true,
  .opg (.call 22 [(.v 2), (.v 0)]) 4 true,
  .op (.pick (.v 5) (.v 0) (.c (.bool false))),
  .nop 0,
  .opg (.fld 7 (.v 17)) 0 true,
  .opg (.ld1 (.v 0)) 1 true,
  .opg (.bin .leq 3 (.v 0) (.c (.int .i64 16))) 2 true,
  .op (.pick (.v 3) (.v 0) (.c (.bool false))),
  .nop 0,
  .opg (.fld 8 (.v 21)) 0 true,
  .opg (.ld1 (.v 0)) 1 true,
  .opg (.len false (.v 0)) 2 true,
  .opg (.fld 7 (.v 24)) 3 true,
  .opg (.ld1 (.v 0)) 4 true,
  .opg (.bin .eql 3 (.v 2) (.v 0)) 5 true,
  .op (.pick (.v 6) (.v 0) (.c (.bool false))),
  .nop 0]) [0] 21)
 (.ret [.v 0]))
 (.seq (.reg [.op (.bin .eql 3 (.v 2) (.c (.int .i64 3))),
  .nop 0])
 (.cond (.v 0) (.seq (.post (.reg [.nop 5,
  .nop 5,
  .opg (.mov (.v 4)) 5 true,
  .op (.pick (.v 6) (.v 0) (.c (.bool false))),
  .nop 0,
  .opg (.fld 6 (.v 10)) 0 true,
  .opg (.ld1 (.v 0)) 1 true,
  .opg (.fld 7 (.v 12)) 2 true,
  .opg (.ld1 (.v 0)) 3 true,
  .opg (.call 22 [(.v 2), (.v 0)]) 4 true,
  .op (.pick (.v 5) (.v 0) (.c (.bool false))),
  .nop 0]) [0] 8)
 (.ret [.v 0]))
 (.seq (.reg [.op (.bin .eql 3 (.v 3) (.c (.int .i64 4))),
  .nop 0])
 (.cond (.v 0) (.seq (.post (.reg [.op (.fld 4 (.v 9)),
  .op (.ld1 (.v 0)),
  .op (.bin .eql 9 (.v 0) (.c (.string ⟨#[]⟩))),
  .nop 0,
  .opg (.mov (.v 8)) 0 true,
  .op (.pick (.v 1) (.v 0) (.c (.bool false))),
  .nop 0,
  .opg (.fld 3 (.v 14)) 0 true,
  .opg (.ld1 (.v 0)) 1 true,
  .opg (.una .not (.v 0)) 2 true,
  .op (.pick (.v 3) (.v 0) (.c (.bool false))),
  .nop 0,
  .opg (.fld 6 (.v 18)) 0 true,
  .opg (.ld1 (.v 0)) 1 true,
  .opg (.bin .eql 3 (.v 0) (.c (.int .i64 0))) 2 true,
  .op (.pick (.v 3) (.v 0) (.c (.bool false))),
  .nop 0,
  .opg (.fld 7 (.v 22)) 0 true,
  .opg (.ld1 (.v 0)) 1 true,
  .opg (.bin .eql 3 (.v 0) (.c (.int .i64 0))) 2 true,
  .op (.pick (.v 3) (.v 0) (.c (.bool false))),
  .nop 0]) [0] 17)
 (.ret [.v 0]))
 (.seq (.reg [.op (.bin .eql 3 (.v 4) (.c (.int .i64 5))),
  .nop 0])
 (.cond (.v 0) (.seq (.post (.reg [.nop 7,
  .nop 7,
  .opg (.mov (.v 6)) 7 true,
  .op (.pick (.v 8) (.v 0) (.c (.bool false))),
  .nop 0,
  .opg (.fld 3 (.v 12)) 0 true,
  .opg (.ld1 (.v 0)) 1 true,
  .opg (.una .not (.v 0)) 2 true,
  .op (.pick (.v 3) (.v 0) (.c (.bool false))),
  .nop 0,
  .opg (.fld 7 (.v 16)) 0 true,
  .opg (.ld1 (.v 0)) 1 true,
  .opg (.bin .geq 3 (.v 0) (.c (.int .i64 1))) 2 true,
  .op (.pick (.v 3) (.v 0) (.c (.bool false))),
  .nop 0,
  .opg (.fld 7 (.v 20)) 0 true,
  .opg (.ld1 (.v 0)) 1 true,
  .opg (.bin .leq 3 (.v 0) (.c (.int .i64 65536))) 2 true,
  .op (.pick (.v 3) (.v 0) (.c (.bool false))),
  .nop 0,
  .opg (.fld 6 (.v 24)) 0 true,
  .opg (.ld1 (.v 0)) 1 true,
  .opg (.bin .geq 3 (.v 0) (.c (.int .i64 0))) 2 true,
  .op (.pick (.v 3) (.v 0) (.c (.bool false))),
  .nop 0,
  .opg (.fld 6 (.v 28)) 0 true,
  .opg (.ld1 (.v 0)) 1 true,
  .opg (.fld 7 (.v 30)) 2 true,
  .opg (.ld1 (.v 0)) 3 true,
  .opg (.bin .leq 3 (.v 2) (.v 0)) 4 true,
  .op (.pick (.v 5) (.v 0) (.c (.bool false))),
  .nop 0]) [0] 24)
 (.ret [.v 0]))
 (.seq (.reg [.op (.bin .eql 3 (.v 5) (.c (.int .i64 6))),
  .nop 0])
 (.cond (.v 0) (.seq (.post (.reg [.nop 8,
  .nop 8,
  .opg (.fld 5 (.v 11)) 8 true,
  .opg (.ld1 (.v 0)) 9 true,
  .opg (.call 21 [(.v 0)]) 10 true,
  .op (.pick (.v 11) (.v 0) (.c (.bool false))),
  .nop 0,
  .opg (.fld 5 (.v 15)) 0 true,
  .opg (.ld1 (.v 0)) 1 true,
  .opg (.fld 4 (.v 17)) 2 true,
  .opg (.ld1 (.v 0)) 3 true,
  .opg (.bin .neq 9 (.v 2) (.v 0)) 4 true,
  .op (.pick (.v 5) (.v 0) (.c (.bool false))),
  .nop 0,
  .opg (.fld 8 (.v 21)) 0 true,
  .opg (.ld1 (.v 0)) 1 true,
  .opg (.len false (.v 0)) 2 true,
  .opg (.bin .eql 3 (.v 0) (.c (.int .i64 0))) 3 true,
  .op (.pick (.v 4) (.v 0) (.c (.bool false))),
  .nop 0,
  .opg (.fld 3 (.v 26)) 0 true,
  .opg (.ld1 (.v 0)) 1 true,
  .opg (.una .not (.v 0)) 2 true,
  .op (.pick (.v 3) (.v 0) (.c (.bool false))),
  .nop 0,
  .opg (.fld 6 (.v 30)) 0 true,
  .opg (.ld1 (.v 0)) 1 true,
  .opg (.bin .eql 3 (.v 0) (.c (.int .i64 0))) 2 true,
  .op (.pick (.v 3) (.v 0) (.c (.bool false))),
  .nop 0,
  .opg (.fld 7 (.v 34)) 0 true,
  .opg (.ld1 (.v 0)) 1 true,
  .opg (.bin .eql 3 (.v 0) (.c (.int .i64 0))) 2 true,
  .op (.pick (.v 3) (.v 0) (.c (.bool false))),
  .nop 0]) [0] 27)
 (.ret [.v 0]))
 (.seq (.reg [.op (.bin .eql 3 (.v 6) (.c (.int .i64 7))),
  .nop 0])
 (.cond (.v 0) (.seq (.post (.reg [.nop 9,
  .nop 9,
  .opg (.mov (.v 8)) 9 true,
  .op (.pick (.v 10) (.v 0) (.c (.bool false))),
  .nop 0,
  .opg (.fld 3 (.v 14)) 0 true,
  .opg (.ld1 (.v 0)) 1 true,
  .opg (.una .not (.v 0)) 2 true,
  .op (.pick (.v 3) (.v 0) (.c (.bool false))),
  .nop 0,
  .opg (.fld 6 (.v 18)) 0 true,
  .opg (.ld1 (.v 0)) 1 true,
  .opg (.bin .eql 3 (.v 0) (.c (.int .i64 0))) 2 true,
  .op (.pick (.v 3) (.v 0) (.c (.bool false))),
  .nop 0,
  .opg (.fld 7 (.v 22)) 0 true,
  .opg (.ld1 (.v 0)) 1 true,
  .opg (.bin .eql 3 (.v 0) (.c (.int .i64 0))) 2 true,
  .op (.pick (.v 3) (.v 0) (.c (.bool false))),
  .nop 0]) [0] 14)
 (.ret [.v 0]))
 .skip)))))))))))))) [11] 7)))
 (.seq (.reg [.op (.mov (.c (.bool false)))])
 (.ret [.v 0])))))))⟩


def ac12L0b : AC :=
 (.post (.seq (.seq (.reg [.nop 1])
 (.cond (.v 1) .skip
 (.pre [] 2 (.exit 0))))
 (.block 1 [[5], [6], [], [18], [], [4], [3], [2], [0, 17]] (.post (.seq (.reg [.op (.mov (.c (.string ⟨#[]⟩)))])
 (.seq (.reg [.nop 1,
  .op (.call 23 [(.v 1), (.c (.string ⟨#[32]⟩))]),
  .nop 0,
  .op (.extr 0 (.v 0)),
  .op (.extr 1 (.v 1)),
  .op (.extr 2 (.v 2)),
  .nop 2,
  .nop 1,
  .nop 0])
 (.reg [.op (.ld1 (.v 8)),
  .nop 3,
  .op (.mkl 1 1 [(.string ⟨#[]⟩)] [(0, (.v 3))]),
  .op (.app 1 16 (.v 1) (.v 0)),
  .eff (.st 1 (.v 11) (.v 0))]))) [4, 3] 8))) [0, 1] 4)
def ac12L0 : AC := .loop [[5], [6], [], [4], [3], [2], [0, 17]] ac12L0b
def ac12L1b : AC :=
 (.post (.seq (.reg [.op (.bin .lss 3 (.v 0) (.c (.int .i64 8)))])
 (.seq (.cond (.v 0) .skip
 (.pre [] 2 (.exit 2)))
 (.seq (.block 3 [[31], [30], [], [29], [8], [], [4], [3], [2], [0, 17]] (.post (.seq (.reg [.nop 1,
  .op (.pur (.ind 8) [(.v 3), (.v 1)]),
  .nop 2,
  .nop 0])
 (.seq (.reg [.nop 0,
  .op (.ld1 (.v 7)),
  .op (.idx 1 (.v 0) (.c (.int .i64 0))),
  .op (.ld1 (.v 0)),
  .op (.bin .eql 9 (.v 3) (.v 0))])
 (.cond (.v 0) (.post (.reg [.nop 6,
  .op (.fld 1 (.v 9)),
  .eff (.st 1 (.v 0) (.v 7))]) [] 1)
 .skip))) [] 5))
 (.reg [.op (.bin .add 3 (.v 1) (.c (.int .i64 1))),
  .nop 0])))) [0] 3)
def ac12L1 : AC := .loop [[30], [], [29], [8], [], [4], [3], [2], [0, 17]] ac12L1b
def ac12L2b : AC :=
 (.post (.seq (.seq (.reg [.nop 0,
  .op (.ld1 (.v 15)),
  .op (.len false (.v 0)),
  .op (.bin .lss 3 (.v 2) (.v 0))])
 (.cond (.v 0) .skip
 (.pre [] 4 (.exit 5))))
 (.seq (.block 6 [[106], [105], [104], [14, 103], [], [98, 97], [86], [87], [85], [76, 13, 77, 80, 99], [70], [60, 12, 61], [53], [43, 11, 44], [], [29], [8], [], [4], [3], [2], [0, 17]] (.post (.seq (.reg [.op (.ld1 (.v 18)),
  .nop 4,
  .op (.idx 1 (.v 0) (.v 4)),
  .op (.ld1 (.v 0)),
  .op (.call 27 [(.v 0)]),
  .nop 0,
  .op (.extr 0 (.v 0)),
  .op (.extr 1 (.v 1)),
  .op (.new [(.int .u8 0), (.int .u8 0), (.int .u8 0), (.int .u8 0), (.int .u8 0), (.int .u8 0), (.int .u8 0), (.int .u8 0)]),
  .eff (.st 8 (.v 0) (.v 2)),
  .nop 1])
 (.reg [.op (.fld 8 (.v 23)),
  .op (.ld1 (.v 0)),
  .op (.ldn 8 (.v 2)),
  .op (.mkl 8 1 [(.int .u8 0), (.int .u8 0), (.int .u8 0), (.int .u8 0), (.int .u8 0), (.int .u8 0), (.int .u8 0), (.int .u8 0)] [(0, (.v 0))]),
  .op (.app 8 8 (.v 2) (.v 0)),
  .op (.fld 8 (.v 28)),
  .eff (.st 1 (.v 0) (.v 1))])) [] 13))
 (.reg [.nop 3,
  .op (.bin .add 3 (.v 3) (.c (.int .i64 1))),
  .nop 0]))) [0] 5)
def ac12L2 : AC := .loop [[14], [], [98, 97], [86], [87], [85], [76, 13, 77, 80, 99], [70], [60, 12, 61], [53], [43, 11, 44], [], [29], [8], [], [4], [3], [2], [0, 17]] ac12L2b
def ac12 : AFn := ⟨1, [],
 (.seq (.reg [.op (.new [(.int .i64 0), (.int .i64 0), (.int .i64 0), (.bool false), (.string ⟨#[]⟩), (.string ⟨#[]⟩), (.int .i64 0), (.int .i64 0), (.slice none 0 0)]),
  .op (.mov (.c (.int .i64 0)))])
 (.seq (.reg [.op (.new [(.slice none 0 0)])])
 (.seq (.seq (.reg [.nop 3,
  .nop 3,
  .op (.mov (.c (.bool true)))])
 (.block 0 [[], [4], [3], [2], [0, 17]] (.pre [4, 0] 0 ac12L0)))
 (.seq (.reg [.op (.new [(.int .i64 0), (.int .i64 0), (.int .i64 0), (.bool false), (.string ⟨#[]⟩), (.string ⟨#[]⟩), (.int .i64 0), (.int .i64 0), (.slice none 0 0)])])
 (.seq (.seq (.reg [.op (.call 24 []),
  .op (.mov (.c (.int .i64 0)))])
 (.block 2 [[], [29], [8], [], [4], [3], [2], [0, 17]] (.pre [0] 0 ac12L1)))
 (.seq (.seq (.post (.reg [.op (.ld1 (.v 4)),
  .op (.len false (.v 0)),
  .nop 0]) [0] 2)
 (.seq (.post (.reg [.nop 0,
  .op (.bin .gtr 3 (.v 0) (.c (.int .i64 1))),
  .nop 0,
  .opg (.ld1 (.v 6)) 0 true,
  .opg (.mov (.v 2)) 1 true,
  .opg (.bin .sub 3 (.v 0) (.c (.int .i64 1))) 2 true,
  .opg (.idx 1 (.v 2) (.v 0)) 3 true,
  .opg (.ld1 (.v 0)) 4 true,
  .opg (.bin .eql 9 (.v 0) (.c (.string ⟨#[111, 114, 100, 101, 114, 101, 100]⟩))) 5 true,
  .op (.pick (.v 6) (.v 0) (.c (.bool false)))]) [0] 8)
 (.cond (.v 0) (.post (.regD [.op (.ld1 (.v 6)),
  .nop 2,
  .op (.bin .sub 3 (.v 2) (.c (.int .i64 1))),
  .op (.slc 1 (.v 1) none (some (.v 0))),
  .op (.fld 2 (.v 7)),
  .eff (.st 1 (.v 0) (.c (.int .i64 1))),
  .eff (.st 1 (.v 10) (.v 1))] [0, 0, 2, 7, 0, 16, 63]) [] 4)
 .skip)))
 (.seq (.seq (.post (.reg [.op (.ld1 (.v 6)),
  .op (.len false (.v 0)),
  .nop 0]) [0] 2)
 (.seq (.post (.reg [.nop 0,
  .op (.bin .gtr 3 (.v 0) (.c (.int .i64 1))),
  .nop 0,
  .opg (.ld1 (.v 8)) 0 true,
  .opg (.mov (.v 2)) 1 true,
  .opg (.bin .sub 3 (.v 0) (.c (.int .i64 1))) 2 true,
  .opg (.idx 1 (.v 2) (.v 0)) 3 true,
  .opg (.ld1 (.v 0)) 4 true,
  .opg (.bin .eql 9 (.v 0) (.c (.string ⟨#[102, 111, 114, 99, 101]⟩))) 5 true,
  .op (.pick (.v 6) (.v 0) (.c (.bool false)))]) [0] 8)
 (.cond (.v 0) (.post (.regD [.op (.ld1 (.v 8)),
  .nop 2,
  .op (.bin .sub 3 (.v 2) (.c (.int .i64 1))),
  .op (.slc 1 (.v 1) none (some (.v 0))),
  .op (.fld 3 (.v 9)),
  .eff (.st 1 (.v 0) (.c (.bool true))),
  .eff (.st 1 (.v 12) (.v 1))] [0, 0, 2, 7, 0, 16, 63]) [] 4)
 .skip)))
 (.seq (.reg [.op (.func 25 [] [(.v 8)]),
  .nop 0])
 (.seq (.post (.reg [.nop 0,
  .op (.callv (.v 0) [(.c (.int .i64 1))]),
  .op (.call 26 [(.v 0)]),
  .nop 2,
  .op (.callv (.v 2) [(.c (.int .i64 2))]),
  .op (.fld 0 (.v 10)),
  .eff (.st 1 (.v 0) (.v 2)),
  .op (.fld 4 (.v 11)),
  .eff (.st 1 (.v 0) (.v 2))]) [] 5)
 (.seq (.seq (.post (.reg [.op (.fld 1 (.v 7)),
  .op (.ld1 (.v 0))]) [0] 2)
 (.block 4 [[85], [76, 13, 77, 80], [70], [60, 12, 61], [53], [43, 11, 44], [], [29], [8], [], [4], [3], [2], [0, 17]] (.post (.seq (.seq (.reg [.op (.bin .eql 3 (.v 0) (.c (.int .i64 1))),
  .nop 0])
 (.cond (.v 0) (.post .skip [0] 0)
 (.reg [.op (.bin .eql 3 (.v 1) (.c (.int .i64 3))),
  .nop 0])))
 (.cond (.v 0) (.post (.reg [.nop 3,
  .op (.callv (.v 3) [(.c (.int .i64 3))]),
  .op (.call 26 [(.v 0)]),
  .nop 5,
  .op (.callv (.v 5) [(.c (.int .i64 4))]),
  .op (.call 26 [(.v 0)]),
  .op (.fld 6 (.v 14)),
  .eff (.st 1 (.v 0) (.v 3)),
  .op (.fld 7 (.v 15)),
  .eff (.st 1 (.v 0) (.v 2))]) [] 6)
 (.post (.seq (.reg [.op (.bin .eql 3 (.v 2) (.c (.int .i64 2))),
  .nop 0])
 (.cond (.v 0) (.post (.seq (.post (.reg [.nop 4,
  .op (.callv (.v 4) [(.c (.int .i64 3))]),
  .op (.call 26 [(.v 0)]),
  .op (.fld 6 (.v 13)),
  .eff (.st 1 (.v 0) (.v 1))]) [] 3)
 (.seq (.seq (.reg [.op (.mov (.c (.int .i64 4)))])
 (.block 5 [[], [98, 97], [86], [87], [85], [76, 13, 77, 80, 99], [70], [60, 12, 61], [53], [43, 11, 44], [], [29], [8], [], [4], [3], [2], [0, 17]] (.pre [0] 0 ac12L2)))
 (.post (.reg [.op (.fld 8 (.v 12)),
  .op (.ld1 (.v 0)),
  .op (.len false (.v 0)),
  .op (.fld 7 (.v 15)),
  .eff (.st 1 (.v 0) (.v 1))]) [] 4))) [] 1)
 (.post (.seq (.reg [.op (.bin .eql 3 (.v 3) (.c (.int .i64 5))),
  .nop 0])
 (.cond (.v 0) (.post (.reg [.nop 5,
  .op (.callv (.v 5) [(.c (.int .i64 3))]),
  .op (.call 26 [(.v 0)]),
  .nop 7,
  .op (.callv (.v 7) [(.c (.int .i64 4))]),
  .op (.call 26 [(.v 0)]),
  .op (.fld 7 (.v 16)),
  .eff (.st 1 (.v 0) (.v 3)),
  .op (.fld 6 (.v 17)),
  .eff (.st 1 (.v 0) (.v 2))]) [] 6)
 (.post (.seq (.reg [.op (.bin .eql 3 (.v 4) (.c (.int .i64 6))),
  .nop 0])
 (.cond (.v 0) (.post (.reg [.nop 6,
  .op (.callv (.v 6) [(.c (.int .i64 3))]),
  .op (.fld 5 (.v 14)),
  .eff (.st 1 (.v 0) (.v 1))]) [] 2)
 .skip)) [] 1))) [] 1))) [] 1))) [] 2)))
 (.seq (.seq (.post (.reg [.op (.ldn 9 (.v 8)),
  .op (.call 13 [(.v 0)]),
  .nop 15,
  .op (.bin .neq 9 (.v 0) (.v 15)),
  .nop 0,
  .opg (.mov (.v 16)) 0 false,
  .opg (.bin .eql 9 (.v 0) (.c (.string ⟨#[]⟩))) 1 false,
  .op (.pick (.v 2) (.c (.bool true)) (.v 0))]) [0] 6)
 (.cond (.v 0) (.seq (.post (.reg [.op (.ldn 9 (.v 9)),
  .op (.ld1 (.v 12)),
  .nop 16,
  .op (.call 28 [(.v 1), (.v 0), (.v 16)]),
  .op (.extr 0 (.v 0)),
  .op (.extr 1 (.v 1)),
  .eff (.st 9 (.v 18) (.v 1)),
  .nop 0]) [0] 5)
 (.ret [.cells 14 9, .v 0]))
 .skip))
 (.seq (.post (.reg [.op (.ldn 9 (.v 9)),
  .eff (.st 9 (.v 14) (.v 0)),
  .op (.mov (.c (.int .i64 0)))]) [0] 2)
 (.ret [.cells 14 9, .v 0])))))))))))))⟩


def ac13L0b : AC :=
 (.post (.seq (.reg [.op (.bin .lss 3 (.v 1) (.v 3))])
 (.seq (.cond (.v 0) .skip
 (.pre [1] 3 (.exit 1)))
 (.seq (.block 2 [[3], [51], [], [50], [], [49], [48], [46], [40, 39], [27], [28], [26], [41], [19], [16], [8], [2], [1], [0]] (.post (.seq (.reg [.op (.idx 8 (.v 5) (.v 2)),
  .op (.ldn 8 (.v 0)),
  .op (.new [(.int .u8 0), (.int .u8 0), (.int .u8 0), (.int .u8 0), (.int .u8 0), (.int .u8 0), (.int .u8 0), (.int .u8 0)]),
  .eff (.st 8 (.v 0) (.v 1))])
 (.reg [.nop 4,
  .op (.ldn 8 (.v 0)),
  .op (.call 30 [(.v 0)]),
  .op (.mkl 1 1 [(.string ⟨#[]⟩)] [(0, (.v 0))]),
  .op (.app 1 16 (.v 7) (.v 0)),
  .nop 0])) [0] 7))
 (.reg [.op (.bin .add 3 (.v 3) (.c (.int .i64 1))),
  .nop 0])))) [1, 0] 5)
def ac13L0 : AC := .loop [[3], [50], [], [49], [48], [46], [40, 39], [27], [28], [26], [41], [19], [16], [8], [2], [1], [0]] ac13L0b
def ac13 : AFn := ⟨1, [],
 (.seq (.reg [.op (.box (.v 0)),
  .op (.mov (.c (.string ⟨#[]⟩)))])
 (.seq (.seq (.post (.reg [.op (.ldn 9 (.v 1)),
  .op (.call 17 [(.v 0)]),
  .op (.una .not (.v 0))]) [0] 3)
 (.cond (.v 0) (.seq (.reg [.op (.mov (.c (.string ⟨#[]⟩)))])
 (.ret [.v 0]))
 .skip))
 (.seq (.post (.regD [.op (.call 24 []),
  .op (.fld 1 (.v 3)),
  .op (.ld1 (.v 0)),
  .op (.pur (.ind 8) [(.v 2), (.v 0)]),
  .op (.fld 0 (.v 6)),
  .op (.ld1 (.v 0)),
  .op (.call 29 [(.v 0)]),
  .op (.mkl 1 2 [(.string ⟨#[]⟩)] [(0, (.v 3)), (1, (.v 0))]),
  .nop 0] [0, 0, 2, 7, 0, 16, 49, 127, 255]) [0] 8)
 (.seq (.seq (.post (.reg [.op (.fld 1 (.v 3)),
  .op (.ld1 (.v 0)),
  .op (.bin .neq 3 (.v 0) (.c (.int .i64 4)))]) [0] 3)
 (.cond (.v 0) (.post (.reg [.nop 1,
  .op (.fld 4 (.v 4)),
  .op (.ld1 (.v 0)),
  .op (.mkl 1 1 [(.string ⟨#[]⟩)] [(0, (.v 0))]),
  .op (.app 1 16 (.v 4) (.v 0)),
  .nop 0]) [0] 4)
 (.post .skip [1] 0)))
 (.seq (.seq (.post (.reg [.op (.fld 1 (.v 5)),
  .op (.ld1 (.v 0))]) [0] 2)
 (.block 0 [[3], [26], [], [19], [16], [8], [2], [1], [0]] (.post (.seq (.seq (.reg [.op (.bin .eql 3 (.v 0) (.c (.int .i64 1))),
  .nop 0])
 (.cond (.v 0) (.post .skip [0] 0)
 (.reg [.op (.bin .eql 3 (.v 1) (.c (.int .i64 3))),
  .nop 0])))
 (.cond (.v 0) (.post (.regD [.nop 3,
  .op (.fld 6 (.v 8)),
  .op (.ld1 (.v 0)),
  .op (.call 29 [(.v 0)]),
  .op (.fld 7 (.v 11)),
  .op (.ld1 (.v 0)),
  .op (.call 29 [(.v 0)]),
  .op (.mkl 1 2 [(.string ⟨#[]⟩)] [(0, (.v 3)), (1, (.v 0))]),
  .op (.app 1 16 (.v 10) (.v 0)),
  .nop 0] [0, 0, 2, 6, 0, 16, 62, 126, 255, 511]) [0] 8)
 (.post (.seq (.reg [.op (.bin .eql 3 (.v 2) (.c (.int .i64 2))),
  .nop 0])
 (.cond (.v 0) (.post (.seq (.post (.reg [.nop 4,
  .op (.fld 6 (.v 9)),
  .op (.ld1 (.v 0)),
  .op (.call 29 [(.v 0)]),
  .op (.mkl 1 1 [(.string ⟨#[]⟩)] [(0, (.v 0))]),
  .op (.app 1 16 (.v 8) (.v 0)),
  .nop 0]) [0] 5)
 (.seq (.post (.reg [.op (.fld 8 (.v 10)),
  .op (.ld1 (.v 0)),
  .op (.len false (.v 0)),
  .op (.mov (.c (.int .i64 0)))]) [0, 1, 2] 4)
 (.block 1 [[3], [], [49], [48], [46], [40, 39], [27], [28], [26], [41], [19], [16], [8], [2], [1], [0]] (.pre [3, 0] 0 ac13L0)))) [0] 5)
 (.post (.seq (.reg [.op (.bin .eql 3 (.v 3) (.c (.int .i64 5))),
  .nop 0])
 (.cond (.v 0) (.post (.regD [.nop 5,
  .op (.fld 7 (.v 10)),
  .op (.ld1 (.v 0)),
  .op (.call 29 [(.v 0)]),
  .op (.fld 6 (.v 13)),
  .op (.ld1 (.v 0)),
  .op (.call 29 [(.v 0)]),
  .op (.mkl 1 2 [(.string ⟨#[]⟩)] [(0, (.v 3)), (1, (.v 0))]),
  .op (.app 1 16 (.v 12) (.v 0)),
  .nop 0] [0, 0, 2, 6, 0, 16, 62, 126, 255, 511]) [0] 8)
 (.post (.seq (.reg [.op (.bin .eql 3 (.v 4) (.c (.int .i64 6))),
  .nop 0])
 (.cond (.v 0) (.post (.reg [.nop 6,
  .op (.fld 5 (.v 11)),
  .op (.ld1 (.v 0)),
  .op (.mkl 1 1 [(.string ⟨#[]⟩)] [(0, (.v 0))]),
  .op (.app 1 16 (.v 9) (.v 0)),
  .nop 0]) [0] 4)
 (.post .skip [6] 0))) [0] 2))) [0] 2))) [0] 2))) [0] 3)))
 (.seq (.seq (.post (.reg [.op (.fld 3 (.v 7)),
  .op (.ld1 (.v 0))]) [0] 2)
 (.cond (.v 0) (.post (.reg [.nop 1,
  .op (.mkl 1 1 [(.string ⟨#[]⟩)] [(0, (.c (.string ⟨#[102, 111, 114, 99, 101]⟩)))]),
  .op (.app 1 16 (.v 2) (.v 0)),
  .nop 0]) [0] 2)
 (.post .skip [1] 0)))
 (.seq (.seq (.post (.reg [.op (.fld 2 (.v 9)),
  .op (.ld1 (.v 0)),
  .op (.bin .eql 3 (.v 0) (.c (.int .i64 1)))]) [0] 3)
 (.cond (.v 0) (.post (.reg [.nop 1,
  .op (.mkl 1 1 [(.string ⟨#[]⟩)] [(0, (.c (.string ⟨#[111, 114, 100, 101, 114, 101, 100]⟩)))]),
  .op (.app 1 16 (.v 2) (.v 0)),
  .nop 0]) [0] 2)
 (.post .skip [1] 0)))
 (.seq (.reg [.nop 0,
  .op (.call 31 [(.v 0), (.c (.string ⟨#[32]⟩))]),
  .nop 0])
 (.ret [.v 0])))))))))⟩


def ac14L0b : AC :=
 (.post (.seq (.seq (.reg [.nop 1,
  .op (.fld 8 (.v 6)),
  .op (.ld1 (.v 0)),
  .op (.len false (.v 0)),
  .op (.bin .lss 3 (.v 4) (.v 0))])
 (.cond (.v 0) .skip
 (.pre [4] 6 (.exit 0))))
 (.seq (.block 1 [[4], [17], [16], [15], [14], [], [5, 13], [], [12], [], [3], [2], [0], [1]] (.post (.seq (.regD [.op (.fld 8 (.v 10)),
  .op (.ld1 (.v 0)),
  .nop 7,
  .op (.idx 8 (.v 0) (.v 7)),
  .op (.ldn 8 (.v 0)),
  .op (.fld 8 (.v 13)),
  .op (.ld1 (.v 0)),
  .nop 11,
  .op (.idx 8 (.v 0) (.v 11)),
  .op (.ldn 8 (.v 0)),
  .op (.bin .neq 35 (.v 4) (.v 0))] [0, 1, 0, 7, 15, 0, 32, 0, 224, 480, 1023])
 (.cond (.v 0) (.seq (.reg [.op (.mov (.c (.bool false)))])
 (.ret [.v 0]))
 .skip)) [13] 9))
 (.reg [.nop 6,
  .op (.bin .add 3 (.v 6) (.c (.int .i64 1))),
  .nop 0]))) [1, 0] 8)
def ac14L0 : AC := .loop [[4], [5], [], [12], [], [3], [2], [0], [1]] ac14L0b
def ac14 : AFn := ⟨2, [],
 (.seq (.reg [.op (.box (.v 0)),
  .op (.box (.v 2)),
  .op (.mov (.c (.bool false)))])
 (.seq (.seq (.post (.reg [.op (.fld 8 (.v 2)),
  .op (.ld1 (.v 0)),
  .op (.len false (.v 0)),
  .op (.fld 8 (.v 4)),
  .op (.ld1 (.v 0)),
  .op (.len false (.v 0)),
  .op (.bin .neq 3 (.v 3) (.v 0))]) [0] 7)
 (.cond (.v 0) (.seq (.reg [.op (.mov (.c (.bool false)))])
 (.ret [.v 0]))
 .skip))
 (.seq (.seq (.reg [.op (.mov (.c (.int .i64 0)))])
 (.block 0 [[4], [], [12], [], [3], [2], [0], [1]] (.pre [2, 0] 0 ac14L0)))
 (.seq (.post (.reg [.op (.fld 0 (.v 5)),
  .op (.ld1 (.v 0)),
  .op (.fld 0 (.v 6)),
  .op (.ld1 (.v 0)),
  .op (.bin .eql 3 (.v 2) (.v 0)),
  .nop 0,
  .opg (.fld 1 (.v 10)) 0 true,
  .opg (.ld1 (.v 0)) 1 true,
  .opg (.fld 1 (.v 11)) 2 true,
  .opg (.ld1 (.v 0)) 3 true,
  .opg (.bin .eql 3 (.v 2) (.v 0)) 4 true,
  .op (.pick (.v 5) (.v 0) (.c (.bool false))),
  .nop 0,
  .opg (.fld 2 (.v 16)) 0 true,
  .opg (.ld1 (.v 0)) 1 true,
  .opg (.fld 2 (.v 17)) 2 true,
  .opg (.ld1 (.v 0)) 3 true,
  .opg (.bin .eql 3 (.v 2) (.v 0)) 4 true,
  .op (.pick (.v 5) (.v 0) (.c (.bool false))),
  .nop 0,
  .opg (.fld 3 (.v 22)) 0 true,
  .opg (.ld1 (.v 0)) 1 true,
  .opg (.fld 3 (.v 23)) 2 true,
  .opg (.ld1 (.v 0)) 3 true,
  .opg (.bin .eql 4 (.v 2) (.v 0)) 4 true,
  .op (.pick (.v 5) (.v 0) (.c (.bool false))),
  .nop 0,
  .opg (.fld 4 (.v 28)) 0 true,
  .opg (.ld1 (.v 0)) 1 true,
  .opg (.fld 4 (.v 29)) 2 true,
  .opg (.ld1 (.v 0)) 3 true,
  .opg (.bin .eql 9 (.v 2) (.v 0)) 4 true,
  .op (.pick (.v 5) (.v 0) (.c (.bool false))),
  .nop 0,
  .opg (.fld 5 (.v 34)) 0 true,
  .opg (.ld1 (.v 0)) 1 true,
  .opg (.fld 5 (.v 35)) 2 true,
  .opg (.ld1 (.v 0)) 3 true,
  .opg (.bin .eql 9 (.v 2) (.v 0)) 4 true,
  .op (.pick (.v 5) (.v 0) (.c (.bool false))),
  .nop 0,
  .opg (.fld 6 (.v 40)) 0 true,
  .opg (.ld1 (.v 0)) 1 true,
  .opg (.fld 6 (.v 41)) 2 true,
  .opg (.ld1 (.v 0)) 3 true,
  .opg (.bin .eql 3 (.v 2) (.v 0)) 4 true,
  .op (.pick (.v 5) (.v 0) (.c (.bool false))),
  .nop 0,
  .opg (.fld 7 (.v 46)) 0 true,
  .opg (.ld1 (.v 0)) 1 true,
  .opg (.fld 7 (.v 47)) 2 true,
  .opg (.ld1 (.v 0)) 3 true,
  .opg (.bin .eql 3 (.v 2) (.v 0)) 4 true,
  .op (.pick (.v 5) (.v 0) (.c (.bool false))),
  .nop 0]) [0] 47)
 (.ret [.v 0])))))⟩


def ac15 : AFn := ⟨1, [],
 (.seq (.reg [.op (.box (.v 0)),
  .op (.mov (.c (.string ⟨#[]⟩))),
  .op (.mov (.c (.int .i64 0))),
  .op (.mov (.c (.int .i64 0))),
  .op (.mov (.c (.bool false)))])
 (.seq (.seq (.post (.reg [.op (.ldn 9 (.v 4)),
  .op (.call 17 [(.v 0)]),
  .op (.una .not (.v 0)),
  .nop 0,
  .opg (.fld 1 (.v 7)) 0 false,
  .opg (.ld1 (.v 0)) 1 false,
  .opg (.bin .gtr 3 (.v 0) (.c (.int .i64 3))) 2 false,
  .op (.pick (.v 3) (.c (.bool true)) (.v 0))]) [0] 7)
 (.cond (.v 0) (.seq (.reg [.op (.mov (.c (.string ⟨#[]⟩))),
  .op (.mov (.c (.int .i64 0))),
  .op (.mov (.c (.int .i64 0))),
  .op (.mov (.c (.bool false)))])
 (.ret [.v 3, .v 2, .v 1, .v 0]))
 .skip))
 (.seq (.post (.regD [.op (.fld 4 (.v 5)),
  .op (.ld1 (.v 0)),
  .op (.fld 6 (.v 7)),
  .op (.ld1 (.v 0)),
  .op (.fld 7 (.v 9)),
  .op (.ld1 (.v 0)),
  .nop 4,
  .nop 2,
  .nop 0,
  .op (.mov (.c (.bool true)))] [0, 1, 0, 4, 0, 16, 3, 79, 255, 511]) [0, 1, 3, 5] 7)
 (.ret [.v 3, .v 2, .v 1, .v 0]))))⟩


def ac16 : AFn := ⟨1, [],
 (.seq (.reg [.op (.box (.v 0)),
  .op (.mov (.c (.string ⟨#[]⟩))),
  .op (.mov (.c (.int .i64 0))),
  .op (.mov (.c (.int .i64 0))),
  .op (.mov (.c (.bool false)))])
 (.seq (.seq (.post (.reg [.op (.ldn 9 (.v 4)),
  .op (.call 11 [(.v 0)]),
  .op (.una .not (.v 0)),
  .nop 0,
  .opg (.fld 1 (.v 7)) 0 false,
  .opg (.ld1 (.v 0)) 1 false,
  .opg (.bin .neq 3 (.v 0) (.c (.int .i64 1))) 2 false,
  .opg (.mov (.v 0)) 3 false,
  .opg (.fld 1 (.v 11)) 0 true,
  .opg (.ld1 (.v 0)) 1 true,
  .opg (.bin .neq 3 (.v 0) (.c (.int .i64 2))) 2 true,
  .opg (.pick (.v 3) (.v 0) (.c (.bool false))) 7 false,
  .opg (.mov (.v 0)) 8 false,
  .opg (.fld 1 (.v 16)) 0 true,
  .opg (.ld1 (.v 0)) 1 true,
  .opg (.bin .neq 3 (.v 0) (.c (.int .i64 3))) 2 true,
  .opg (.pick (.v 3) (.v 0) (.c (.bool false))) 12 false,
  .op (.pick (.v 13) (.c (.bool true)) (.v 0))]) [0] 17)
 (.cond (.v 0) (.seq (.reg [.op (.mov (.c (.string ⟨#[]⟩))),
  .op (.mov (.c (.int .i64 0))),
  .op (.mov (.c (.int .i64 0))),
  .op (.mov (.c (.bool false)))])
 (.ret [.v 3, .v 2, .v 1, .v 0]))
 .skip))
 (.seq (.post (.regD [.op (.fld 4 (.v 5)),
  .op (.ld1 (.v 0)),
  .op (.fld 6 (.v 7)),
  .op (.ld1 (.v 0)),
  .op (.fld 7 (.v 9)),
  .op (.ld1 (.v 0)),
  .nop 4,
  .nop 2,
  .nop 0,
  .op (.mov (.c (.bool true)))] [0, 1, 0, 4, 0, 16, 3, 79, 255, 511]) [0, 1, 3, 5] 7)
 (.ret [.v 3, .v 2, .v 1, .v 0]))))⟩


def ac17 : AFn := ⟨1, [],
 (.seq (.reg [.op (.box (.v 0)),
  .op (.mov (.c (.bool false)))])
 (.seq (.seq (.post (.reg [.op (.fld 0 (.v 1)),
  .op (.ld1 (.v 0)),
  .op (.bin .lss 3 (.v 0) (.c (.int .i64 0))),
  .nop 0,
  .opg (.fld 0 (.v 4)) 0 false,
  .opg (.ld1 (.v 0)) 1 false,
  .opg (.bin .gtr 3 (.v 0) (.c (.int .i64 2147483647))) 2 false,
  .op (.pick (.v 3) (.c (.bool true)) (.v 0)),
  .nop 0,
  .opg (.fld 2 (.v 8)) 0 false,
  .opg (.ld1 (.v 0)) 1 false,
  .opg (.bin .neq 3 (.v 0) (.c (.int .i64 0))) 2 false,
  .opg (.mov (.v 0)) 3 false,
  .opg (.fld 2 (.v 12)) 0 true,
  .opg (.ld1 (.v 0)) 1 true,
  .opg (.bin .neq 3 (.v 0) (.c (.int .i64 1))) 2 true,
  .opg (.pick (.v 3) (.v 0) (.c (.bool false))) 7 false,
  .op (.pick (.v 8) (.c (.bool true)) (.v 0))]) [0] 16)
 (.cond (.v 0) (.seq (.reg [.op (.mov (.c (.bool false)))])
 (.ret [.v 0]))
 .skip))
 (.seq (.post (.reg [.op (.ldn 9 (.v 2)),
  .op (.call 32 [(.v 0)]),
  .op (.new [(.int .i64 0), (.int .i64 0), (.int .i64 0), (.bool false), (.string ⟨#[]⟩), (.string ⟨#[]⟩), (.int .i64 0), (.int .i64 0), (.slice none 0 0)]),
  .eff (.st 9 (.v 0) (.v 1))]) [0] 3)
 (.seq (.post (.reg [.op (.fld 4 (.v 3)),
  .op (.ld1 (.v 0)),
  .op (.fld 4 (.v 2)),
  .eff (.st 1 (.v 0) (.v 1))]) [] 3)
 (.seq (.post (.reg [.op (.fld 4 (.v 3)),
  .op (.ld1 (.v 0)),
  .op (.call 33 [(.v 0)]),
  .nop 0]) [0] 3)
 (.seq (.seq (.post (.reg [.op (.fld 1 (.v 4)),
  .op (.ld1 (.v 0))]) [0] 2)
 (.block 0 [[2], [4], [32], [30], [3], [22], [], [1], [0]] (.post (.seq (.reg [.op (.bin .eql 3 (.v 0) (.c (.int .i64 1))),
  .nop 0])
 (.cond (.v 0) (.post (.seq (.post (.regD [.op (.fld 6 (.v 6)),
  .op (.ld1 (.v 0)),
  .op (.fld 7 (.v 8)),
  .op (.ld1 (.v 0)),
  .op (.fld 6 (.v 7)),
  .eff (.st 1 (.v 0) (.v 3)),
  .op (.fld 7 (.v 8)),
  .eff (.st 1 (.v 0) (.v 2))] [0, 1, 0, 4, 3, 19, 63, 127]) [] 6)
 (.post (.reg [.nop 2,
  .nop 2,
  .opg (.fld 6 (.v 6)) 2 true,
  .opg (.ld1 (.v 0)) 3 true,
  .opg (.fld 7 (.v 8)) 4 true,
  .opg (.ld1 (.v 0)) 5 true,
  .opg (.call 34 [(.v 2), (.v 0)]) 6 true,
  .op (.pick (.v 7) (.v 0) (.c (.bool false))),
  .nop 0,
  .opg (.fld 7 (.v 12)) 0 true,
  .opg (.ld1 (.v 0)) 1 true,
  .opg (.bin .leq 3 (.v 0) (.c (.int .i64 16))) 2 true,
  .op (.pick (.v 3) (.v 0) (.c (.bool false))),
  .nop 0]) [0] 10)) [6, 0] 1)
 (.post (.seq (.reg [.op (.bin .eql 3 (.v 1) (.c (.int .i64 2))),
  .nop 0])
 (.cond (.v 0) (.post (.seq (.post (.regD [.op (.fld 6 (.v 7)),
  .op (.ld1 (.v 0)),
  .op (.fld 7 (.v 9)),
  .op (.ld1 (.v 0)),
  .op (.fld 8 (.v 11)),
  .op (.ld1 (.v 0)),
  .op (.fld 3 (.v 13)),
  .op (.ld1 (.v 0)),
  .op (.fld 6 (.v 12)),
  .eff (.st 1 (.v 0) (.v 7)),
  .op (.fld 7 (.v 13)),
  .eff (.st 1 (.v 0) (.v 6)),
  .op (.fld 8 (.v 14)),
  .eff (.st 1 (.v 0) (.v 5)),
  .op (.fld 3 (.v 15)),
  .eff (.st 1 (.v 0) (.v 4))] [0, 1, 0, 4, 0, 16, 0, 64, 3, 259, 783, 1807, 3903, 7999, 16383, 32767]) [] 12)
 (.post (.reg [.nop 3,
  .nop 3,
  .opg (.fld 6 (.v 7)) 3 true,
  .opg (.ld1 (.v 0)) 4 true,
  .opg (.fld 7 (.v 9)) 5 true,
  .opg (.ld1 (.v 0)) 6 true,
  .opg (.call 34 [(.v 2), (.v 0)]) 7 true,
  .op (.pick (.v 8) (.v 0) (.c (.bool false))),
  .nop 0,
  .opg (.fld 7 (.v 13)) 0 true,
  .opg (.ld1 (.v 0)) 1 true,
  .opg (.bin .leq 3 (.v 0) (.c (.int .i64 16))) 2 true,
  .op (.pick (.v 3) (.v 0) (.c (.bool false))),
  .nop 0,
  .opg (.fld 8 (.v 17)) 0 true,
  .opg (.ld1 (.v 0)) 1 true,
  .opg (.len false (.v 0)) 2 true,
  .opg (.fld 7 (.v 20)) 3 true,
  .opg (.ld1 (.v 0)) 4 true,
  .opg (.bin .eql 3 (.v 2) (.v 0)) 5 true,
  .op (.pick (.v 6) (.v 0) (.c (.bool false))),
  .nop 0]) [0] 17)) [7, 0] 1)
 (.post (.seq (.reg [.op (.bin .eql 3 (.v 2) (.c (.int .i64 3))),
  .nop 0])
 (.cond (.v 0) (.post (.seq (.post (.regD [.op (.fld 6 (.v 8)),
  .op (.ld1 (.v 0)),
  .op (.fld 7 (.v 10)),
  .op (.ld1 (.v 0)),
  .op (.fld 3 (.v 12)),
  .op (.ld1 (.v 0)),
  .op (.fld 6 (.v 11)),
  .eff (.st 1 (.v 0) (.v 5)),
  .op (.fld 7 (.v 12)),
  .eff (.st 1 (.v 0) (.v 4)),
  .op (.fld 3 (.v 13)),
  .eff (.st 1 (.v 0) (.v 3))] [0, 1, 0, 4, 0, 16, 3, 67, 207, 463, 1023, 2047]) [] 9)
 (.post (.reg [.nop 4,
  .nop 4,
  .opg (.fld 6 (.v 8)) 4 true,
  .opg (.ld1 (.v 0)) 5 true,
  .opg (.fld 7 (.v 10)) 6 true,
  .opg (.ld1 (.v 0)) 7 true,
  .opg (.call 34 [(.v 2), (.v 0)]) 8 true,
  .op (.pick (.v 9) (.v 0) (.c (.bool false))),
  .nop 0]) [0] 6)) [8, 0] 1)
 (.post (.seq (.reg [.op (.bin .eql 3 (.v 3) (.c (.int .i64 4))),
  .nop 0])
 (.cond (.v 0) (.post (.post (.reg [.op (.fld 4 (.v 9)),
  .op (.ld1 (.v 0)),
  .op (.bin .eql 9 (.v 0) (.c (.string ⟨#[]⟩))),
  .nop 0]) [0] 3) [9, 0] 1)
 (.post (.seq (.reg [.op (.bin .eql 3 (.v 4) (.c (.int .i64 5))),
  .nop 0])
 (.cond (.v 0) (.post (.seq (.post (.regD [.op (.fld 6 (.v 10)),
  .op (.ld1 (.v 0)),
  .op (.fld 7 (.v 12)),
  .op (.ld1 (.v 0)),
  .op (.fld 6 (.v 11)),
  .eff (.st 1 (.v 0) (.v 3)),
  .op (.fld 7 (.v 12)),
  .eff (.st 1 (.v 0) (.v 2))] [0, 1, 0, 4, 3, 19, 63, 127]) [] 6)
 (.post (.reg [.nop 6,
  .nop 6,
  .opg (.fld 7 (.v 10)) 6 true,
  .opg (.ld1 (.v 0)) 7 true,
  .opg (.bin .geq 3 (.v 0) (.c (.int .i64 1))) 8 true,
  .op (.pick (.v 9) (.v 0) (.c (.bool false))),
  .nop 0,
  .opg (.fld 7 (.v 14)) 0 true,
  .opg (.ld1 (.v 0)) 1 true,
  .opg (.bin .leq 3 (.v 0) (.c (.int .i64 65536))) 2 true,
  .op (.pick (.v 3) (.v 0) (.c (.bool false))),
  .nop 0,
  .opg (.fld 6 (.v 18)) 0 true,
  .opg (.ld1 (.v 0)) 1 true,
  .opg (.bin .geq 3 (.v 0) (.c (.int .i64 0))) 2 true,
  .op (.pick (.v 3) (.v 0) (.c (.bool false))),
  .nop 0,
  .opg (.fld 6 (.v 22)) 0 true,
  .opg (.ld1 (.v 0)) 1 true,
  .opg (.fld 7 (.v 24)) 2 true,
  .opg (.ld1 (.v 0)) 3 true,
  .opg (.bin .leq 3 (.v 2) (.v 0)) 4 true,
  .op (.pick (.v 5) (.v 0) (.c (.bool false))),
  .nop 0]) [0] 18)) [10, 0] 1)
 (.post (.seq (.reg [.op (.bin .eql 3 (.v 5) (.c (.int .i64 6))),
  .nop 0])
 (.cond (.v 0) (.post (.seq (.post (.reg [.op (.fld 5 (.v 11)),
  .op (.ld1 (.v 0)),
  .op (.fld 5 (.v 10)),
  .eff (.st 1 (.v 0) (.v 1))]) [] 3)
 (.post (.reg [.nop 7,
  .nop 7,
  .opg (.fld 5 (.v 11)) 7 true,
  .opg (.ld1 (.v 0)) 8 true,
  .opg (.call 33 [(.v 0)]) 9 true,
  .op (.pick (.v 10) (.v 0) (.c (.bool false))),
  .nop 0,
  .opg (.fld 5 (.v 15)) 0 true,
  .opg (.ld1 (.v 0)) 1 true,
  .opg (.fld 4 (.v 17)) 2 true,
  .opg (.ld1 (.v 0)) 3 true,
  .opg (.bin .neq 9 (.v 2) (.v 0)) 4 true,
  .op (.pick (.v 5) (.v 0) (.c (.bool false))),
  .nop 0]) [0] 10)) [11, 0] 1)
 (.post (.seq (.reg [.op (.bin .eql 3 (.v 6) (.c (.int .i64 7))),
  .nop 0])
 (.cond (.v 0) .skip
 (.seq (.reg [.op (.mov (.c (.bool false)))])
 (.ret [.v 0])))) [11, 8] 1))) [0, 1] 3))) [0, 1] 3))) [0, 1] 3))) [0, 1] 3))) [0, 1] 3))) [0, 1] 3)))
 (.seq (.post (.reg [.nop 1,
  .nop 1,
  .opg (.ldn 9 (.v 7)) 1 true,
  .opg (.ldn 9 (.v 5)) 2 true,
  .opg (.call 35 [(.v 1), (.v 0)]) 3 true,
  .op (.pick (.v 4) (.v 0) (.c (.bool false))),
  .nop 0]) [0] 4)
 (.ret [.v 0]))))))))⟩


def ac18 : AFn := ⟨1, [],
 (.seq (.reg [.op (.box (.v 0)),
  .op (.mov (.c (.string ⟨#[]⟩)))])
 (.seq (.seq (.post (.reg [.op (.ldn 9 (.v 1)),
  .op (.call 11 [(.v 0)]),
  .op (.una .not (.v 0))]) [0] 3)
 (.cond (.v 0) (.seq (.reg [.op (.mov (.c (.string ⟨#[]⟩)))])
 (.ret [.v 0]))
 .skip))
 (.seq (.post (.reg [.op (.ldn 9 (.v 2)),
  .op (.call 36 [(.v 0)]),
  .nop 0]) [0] 2)
 (.seq (.seq (.post (.reg [.op (.fld 3 (.v 3)),
  .op (.ld1 (.v 0))]) [0] 2)
 (.cond (.v 0) (.reg [.nop 1,
  .op (.bin .add 9 (.v 1) (.c (.string ⟨#[32, 102, 111, 114, 99, 101]⟩))),
  .nop 0])
 (.post .skip [1] 0)))
 (.seq (.seq (.post (.reg [.op (.fld 2 (.v 5)),
  .op (.ld1 (.v 0)),
  .op (.bin .eql 3 (.v 0) (.c (.int .i64 1)))]) [0] 3)
 (.cond (.v 0) (.reg [.nop 1,
  .op (.bin .add 9 (.v 1) (.c (.string ⟨#[32, 111, 114, 100, 101, 114, 101, 100]⟩))),
  .nop 0])
 (.post .skip [1] 0)))
 (.seq (.reg [.nop 0,
  .nop 0])
 (.ret [.v 0])))))))⟩


def ac19 : AFn := ⟨2, [],
 (.seq (.reg [.op (.box (.v 0)),
  .op (.box (.v 2)),
  .op (.mov (.c (.bool false)))])
 (.seq (.seq (.post (.reg [.op (.ldn 9 (.v 2)),
  .op (.call 17 [(.v 0)]),
  .op (.una .not (.v 0)),
  .nop 0,
  .opg (.ldn 9 (.v 4)) 0 false,
  .opg (.call 17 [(.v 0)]) 1 false,
  .opg (.una .not (.v 0)) 2 false,
  .op (.pick (.v 3) (.c (.bool true)) (.v 0))]) [0] 7)
 (.cond (.v 0) (.seq (.reg [.op (.mov (.c (.bool false)))])
 (.ret [.v 0]))
 .skip))
 (.seq (.seq (.post (.reg [.op (.fld 1 (.v 3)),
  .op (.ld1 (.v 0)),
  .op (.bin .geq 3 (.v 0) (.c (.int .i64 5))),
  .nop 0,
  .opg (.fld 1 (.v 5)) 0 false,
  .opg (.ld1 (.v 0)) 1 false,
  .opg (.bin .geq 3 (.v 0) (.c (.int .i64 5))) 2 false,
  .op (.pick (.v 3) (.c (.bool true)) (.v 0))]) [0] 7)
 (.cond (.v 0) (.seq (.post (.reg [.op (.ldn 9 (.v 4)),
  .op (.ldn 9 (.v 4)),
  .op (.call 37 [(.v 1), (.v 0)]),
  .nop 0]) [0] 3)
 (.ret [.v 0]))
 .skip))
 (.seq (.post (.reg [.op (.ldn 9 (.v 4)),
  .op (.call 15 [(.v 0)]),
  .nop 0,
  .op (.extr 0 (.v 0)),
  .op (.extr 1 (.v 1)),
  .op (.extr 2 (.v 2)),
  .op (.extr 3 (.v 3)),
  .nop 3,
  .nop 2,
  .nop 1,
  .nop 0]) [0, 1, 2, 3] 6)
 (.seq (.post (.reg [.op (.ldn 9 (.v 7)),
  .op (.call 15 [(.v 0)]),
  .nop 0,
  .op (.extr 0 (.v 0)),
  .op (.extr 1 (.v 1)),
  .op (.extr 2 (.v 2)),
  .op (.extr 3 (.v 3)),
  .nop 3,
  .nop 2,
  .nop 1,
  .nop 0]) [0, 1, 2, 3] 6)
 (.seq (.post (.reg [.nop 4,
  .nop 4,
  .opg (.mov (.v 0)) 4 true,
  .op (.pick (.v 5) (.v 0) (.c (.bool false))),
  .nop 0,
  .opg (.mov (.v 9)) 0 true,
  .opg (.mov (.v 6)) 1 true,
  .opg (.bin .eql 9 (.v 1) (.v 0)) 2 true,
  .op (.pick (.v 3) (.v 0) (.c (.bool false))),
  .nop 0,
  .opg (.mov (.v 12)) 0 true,
  .opg (.mov (.v 9)) 1 true,
  .opg (.mov (.v 9)) 2 true,
  .opg (.bin .add 3 (.v 1) (.v 0)) 3 true,
  .opg (.bin .lss 3 (.v 3) (.v 0)) 4 true,
  .op (.pick (.v 5) (.v 0) (.c (.bool false))),
  .nop 0,
  .opg (.mov (.v 14)) 0 true,
  .opg (.mov (.v 19)) 1 true,
  .opg (.mov (.v 19)) 2 true,
  .opg (.bin .add 3 (.v 1) (.v 0)) 3 true,
  .opg (.bin .lss 3 (.v 3) (.v 0)) 4 true,
  .op (.pick (.v 5) (.v 0) (.c (.bool false))),
  .nop 0,
  .opg (.fld 1 (.v 30)) 0 true,
  .opg (.ld1 (.v 0)) 1 true,
  .opg (.bin .neq 3 (.v 0) (.c (.int .i64 1))) 2 true,
  .opg (.mov (.v 0)) 3 true,
  .opg (.fld 1 (.v 33)) 0 false,
  .opg (.ld1 (.v 0)) 1 false,
  .opg (.bin .neq 3 (.v 0) (.c (.int .i64 1))) 2 false,
  .opg (.pick (.v 3) (.c (.bool true)) (.v 0)) 7 true,
  .op (.pick (.v 8) (.v 0) (.c (.bool false))),
  .nop 0]) [0] 27)
 (.ret [.v 0])))))))⟩


def ac20 : AFn := ⟨2, [],
 (.seq (.reg [.op (.box (.v 0)),
  .op (.box (.v 2)),
  .op (.mov (.c (.bool false)))])
 (.seq (.seq (.post (.reg [.op (.ldn 9 (.v 2)),
  .op (.call 11 [(.v 0)]),
  .op (.una .not (.v 0)),
  .nop 0,
  .opg (.ldn 9 (.v 4)) 0 false,
  .opg (.call 11 [(.v 0)]) 1 false,
  .opg (.una .not (.v 0)) 2 false,
  .op (.pick (.v 3) (.c (.bool true)) (.v 0))]) [0] 7)
 (.cond (.v 0) (.seq (.reg [.op (.mov (.c (.bool false)))])
 (.ret [.v 0]))
 .skip))
 (.seq (.post (.reg [.op (.ldn 9 (.v 3)),
  .op (.call 16 [(.v 0)]),
  .nop 0,
  .op (.extr 0 (.v 0)),
  .op (.extr 1 (.v 1)),
  .op (.extr 2 (.v 2)),
  .op (.extr 3 (.v 3)),
  .nop 3,
  .nop 2,
  .nop 1,
  .nop 0]) [0, 1, 2, 3] 6)
 (.seq (.post (.reg [.op (.ldn 9 (.v 6)),
  .op (.call 16 [(.v 0)]),
  .nop 0,
  .op (.extr 0 (.v 0)),
  .op (.extr 1 (.v 1)),
  .op (.extr 2 (.v 2)),
  .op (.extr 3 (.v 3)),
  .nop 3,
  .nop 2,
  .nop 1,
  .nop 0]) [0, 1, 2, 3] 6)
 (.seq (.seq (.post (.reg [.nop 4,
  .nop 4,
  .opg (.mov (.v 0)) 4 true,
  .op (.pick (.v 5) (.v 0) (.c (.bool false)))]) [0] 2)
 (.cond (.v 0) (.seq (.post (.reg [.nop 8,
  .nop 4,
  .op (.bin .eql 9 (.v 8) (.v 4)),
  .nop 0,
  .opg (.mov (.v 8)) 0 true,
  .opg (.mov (.v 5)) 1 true,
  .opg (.mov (.v 5)) 2 true,
  .opg (.bin .add 3 (.v 1) (.v 0)) 3 true,
  .opg (.bin .lss 3 (.v 3) (.v 0)) 4 true,
  .op (.pick (.v 5) (.v 0) (.c (.bool false))),
  .nop 0,
  .opg (.mov (.v 10)) 0 true,
  .opg (.mov (.v 15)) 1 true,
  .opg (.mov (.v 15)) 2 true,
  .opg (.bin .add 3 (.v 1) (.v 0)) 3 true,
  .opg (.bin .lss 3 (.v 3) (.v 0)) 4 true,
  .op (.pick (.v 5) (.v 0) (.c (.bool false))),
  .nop 0,
  .opg (.fld 1 (.v 25)) 0 true,
  .opg (.ld1 (.v 0)) 1 true,
  .opg (.bin .neq 3 (.v 0) (.c (.int .i64 1))) 2 true,
  .opg (.mov (.v 0)) 3 true,
  .opg (.fld 1 (.v 28)) 0 false,
  .opg (.ld1 (.v 0)) 1 false,
  .opg (.bin .neq 3 (.v 0) (.c (.int .i64 1))) 2 false,
  .opg (.pick (.v 3) (.c (.bool true)) (.v 0)) 7 true,
  .op (.pick (.v 8) (.v 0) (.c (.bool false))),
  .nop 0]) [0] 22)
 (.ret [.v 0]))
 .skip))
 (.seq (.seq (.post (.reg [.op (.fld 1 (.v 12)),
  .op (.ld1 (.v 0)),
  .op (.bin .lss 3 (.v 0) (.c (.int .i64 5))),
  .nop 0,
  .opg (.fld 1 (.v 14)) 0 true,
  .opg (.ld1 (.v 0)) 1 true,
  .opg (.bin .lss 3 (.v 0) (.c (.int .i64 5))) 2 true,
  .op (.pick (.v 3) (.v 0) (.c (.bool false)))]) [0] 7)
 (.cond (.v 0) (.seq (.reg [.op (.mov (.c (.bool false)))])
 (.ret [.v 0]))
 .skip))
 (.seq (.post (.reg [.op (.ldn 9 (.v 13)),
  .op (.fld 4 (.v 13)),
  .op (.ld1 (.v 0)),
  .op (.call 38 [(.v 2), (.v 0)]),
  .nop 0,
  .opg (.ldn 9 (.v 17)) 0 false,
  .opg (.fld 5 (.v 17)) 1 false,
  .opg (.ld1 (.v 0)) 2 false,
  .opg (.call 38 [(.v 2), (.v 0)]) 3 false,
  .op (.pick (.v 4) (.c (.bool true)) (.v 0)),
  .nop 0]) [0] 9)
 (.ret [.v 0]))))))))⟩


def ac21L0b : AC :=
 (.post (.seq (.seq (.reg [.nop 1,
  .nop 5,
  .op (.len true (.v 5)),
  .op (.bin .lss 3 (.v 2) (.v 0))])
 (.cond (.v 0) .skip
 (.pre [2] 4 (.exit 0))))
 (.seq (.block 1 [[2], [16], [15], [], [3, 13], [], [12], [], [0, 5, 14]] (.post (.seq (.reg [.nop 7,
  .nop 3,
  .op (.pur .byte [(.v 7), (.v 3)]),
  .op (.bin .geq 5 (.v 0) (.c (.int .u8 97))),
  .nop 0,
  .opg (.mov (.v 9)) 0 true,
  .opg (.mov (.v 6)) 1 true,
  .opg (.pur .byte [(.v 1), (.v 0)]) 2 true,
  .opg (.bin .leq 5 (.v 0) (.c (.int .u8 122))) 3 true,
  .op (.pick (.v 4) (.v 0) (.c (.bool false))),
  .nop 0])
 (.seq (.reg [.nop 0,
  .op (.una .not (.v 0)),
  .nop 0,
  .opg (.mov (.v 11)) 0 true,
  .opg (.bin .eql 3 (.v 0) (.c (.int .i64 0))) 1 true,
  .opg (.mov (.v 0)) 2 true,
  .opg (.mov (.v 18)) 0 false,
  .opg (.mov (.v 15)) 1 false,
  .opg (.pur .byte [(.v 1), (.v 0)]) 2 false,
  .opg (.bin .lss 5 (.v 0) (.c (.int .u8 48))) 3 false,
  .opg (.pick (.v 4) (.c (.bool true)) (.v 0)) 7 true,
  .opg (.mov (.v 0)) 8 true,
  .opg (.mov (.v 24)) 0 false,
  .opg (.mov (.v 21)) 1 false,
  .opg (.pur .byte [(.v 1), (.v 0)]) 2 false,
  .opg (.bin .gtr 5 (.v 0) (.c (.int .u8 57))) 3 false,
  .opg (.pick (.v 4) (.c (.bool true)) (.v 0)) 13 true,
  .op (.pick (.v 14) (.v 0) (.c (.bool false)))])
 (.cond (.v 0) (.seq (.reg [.op (.mov (.c (.bool false)))])
 (.ret [.v 0]))
 .skip))) [25] 23))
 (.reg [.nop 4,
  .op (.bin .add 3 (.v 4) (.c (.int .i64 1))),
  .nop 0]))) [1, 0] 6)
def ac21L0 : AC := .loop [[2], [3], [], [12], [], [0, 5]] ac21L0b
def ac21 : AFn := ⟨1, [],
 (.seq (.reg [.op (.mov (.c (.bool false)))])
 (.seq (.seq (.post (.reg [.nop 1,
  .op (.len true (.v 1)),
  .op (.bin .lss 3 (.v 0) (.c (.int .i64 1))),
  .nop 0,
  .opg (.mov (.v 3)) 0 false,
  .opg (.len true (.v 0)) 1 false,
  .opg (.bin .gtr 3 (.v 0) (.c (.int .i64 16))) 2 false,
  .op (.pick (.v 3) (.c (.bool true)) (.v 0))]) [0] 6)
 (.cond (.v 0) (.seq (.reg [.op (.mov (.c (.bool false)))])
 (.ret [.v 0]))
 .skip))
 (.seq (.seq (.reg [.op (.mov (.c (.int .i64 0)))])
 (.block 0 [[2], [], [12], [], [0, 5]] (.pre [2, 0] 0 ac21L0)))
 (.seq (.reg [.op (.mov (.c (.bool true)))])
 (.ret [.v 0])))))⟩


def ac22 : AFn := ⟨2, [],
 (.seq (.reg [.op (.mov (.c (.bool false)))])
 (.seq (.post (.reg [.nop 1,
  .op (.bin .geq 3 (.v 1) (.c (.int .i64 0))),
  .nop 0,
  .opg (.mov (.v 3)) 0 true,
  .opg (.bin .geq 3 (.v 0) (.c (.int .i64 1))) 1 true,
  .op (.pick (.v 2) (.v 0) (.c (.bool false))),
  .nop 0,
  .opg (.mov (.v 5)) 0 true,
  .opg (.bin .leq 3 (.v 0) (.c (.int .i64 65536))) 1 true,
  .op (.pick (.v 2) (.v 0) (.c (.bool false))),
  .nop 0,
  .opg (.mov (.v 9)) 0 true,
  .opg (.bin .leq 3 (.v 0) (.c (.int .i64 65536))) 1 true,
  .op (.pick (.v 2) (.v 0) (.c (.bool false))),
  .nop 0,
  .opg (.mov (.v 11)) 0 true,
  .opg (.mov (.v 13)) 1 true,
  .opg (.bin .add 3 (.v 1) (.v 0)) 2 true,
  .opg (.bin .leq 3 (.v 0) (.c (.int .i64 65536))) 3 true,
  .op (.pick (.v 4) (.v 0) (.c (.bool false))),
  .nop 0]) [0] 15)
 (.ret [.v 0])))⟩


def ac24 : AFn := ⟨0, [],
 (.seq (.reg [.op (.new [(.string ⟨#[]⟩), (.string ⟨#[]⟩), (.string ⟨#[]⟩), (.string ⟨#[]⟩), (.string ⟨#[]⟩), (.string ⟨#[]⟩), (.string ⟨#[]⟩), (.string ⟨#[]⟩)])])
 (.seq (.post (.reg [.op (.build [(.string ⟨#[]⟩), (.string ⟨#[]⟩), (.string ⟨#[]⟩), (.string ⟨#[]⟩), (.string ⟨#[]⟩), (.string ⟨#[]⟩), (.string ⟨#[]⟩), (.string ⟨#[]⟩)] [(1, 1, (.c (.string ⟨#[114, 101, 97, 100]⟩))), (2, 1, (.c (.string ⟨#[119, 114, 105, 116, 101]⟩))), (3, 1, (.c (.string ⟨#[116, 114, 105, 109]⟩))), (4, 1, (.c (.string ⟨#[102, 108, 117, 115, 104]⟩))), (5, 1, (.c (.string ⟨#[99, 114, 101, 97, 116, 101]⟩))), (6, 1, (.c (.string ⟨#[99, 108, 111, 110, 101]⟩))), (7, 1, (.c (.string ⟨#[100, 101, 108, 101, 116, 101]⟩)))]),
  .eff (.st 8 (.v 1) (.v 0))]) [] 1)
 (.ret [.cells 0 8])))⟩


def ac25 : AFn := ⟨2, [],
 (.seq (.reg [.op (.mov (.c (.string ⟨#[]⟩)))])
 (.seq (.seq (.post (.reg [.nop 1,
  .op (.ld1 (.v 2)),
  .op (.len false (.v 0)),
  .op (.bin .lss 3 (.v 3) (.v 0))]) [0] 3)
 (.cond (.v 0) (.seq (.post (.reg [.op (.ld1 (.v 3)),
  .nop 3,
  .op (.idx 1 (.v 0) (.v 3)),
  .op (.ld1 (.v 0)),
  .nop 0]) [0] 3)
 (.ret [.v 0]))
 .skip))
 (.seq (.reg [.op (.mov (.c (.string ⟨#[]⟩)))])
 (.ret [.v 0]))))⟩


def ac26 : AFn := ⟨1, [],
 (.seq (.reg [.op (.mov (.c (.int .i64 0)))])
 (.seq (.post (.reg [.nop 1,
  .op (.call 40 [(.v 1)]),
  .nop 0,
  .op (.extr 0 (.v 0)),
  .op (.extr 1 (.v 1)),
  .nop 1,
  .nop 0]) [1] 3)
 (.seq (.reg [.nop 0,
  .nop 0])
 (.ret [.v 0]))))⟩


def ac27L0b : AC :=
 (.post (.seq (.reg [.op (.bin .lss 3 (.v 1) (.c (.int .i64 8)))])
 (.seq (.cond (.v 0) .skip
 (.pre [1] 3 (.exit 0)))
 (.seq (.block 1 [[3], [13], [], [12], [], [10], [4], [], [2], [0, 8]] (.post (.seq (.reg [.nop 2,
  .nop 2])
 (.seq (.reg [.nop 8,
  .nop 2,
  .op (.bin .mul 3 (.c (.int .i64 2)) (.v 2)),
  .nop 3,
  .op (.bin .mul 3 (.c (.int .i64 2)) (.v 3)),
  .op (.bin .add 3 (.v 0) (.c (.int .i64 2))),
  .op (.pur .sub [(.v 11), (.v 2), (.v 0)]),
  .op (.call 41 [(.v 0), (.c (.int .i64 16)), (.c (.int .i64 8))]),
  .nop 0,
  .op (.extr 0 (.v 0)),
  .op (.extr 1 (.v 1)),
  .nop 1,
  .nop 0])
 (.seq (.seq (.reg [.nop 0,
  .op (.pur (.isn .neq 53) [(.v 0)])])
 (.cond (.v 0) (.seq (.reg [.op (.ldn 8 (.v 13)),
  .eff (.st 8 (.v 16) (.v 0)),
  .op (.mov (.c (.bool false)))])
 (.ret [.cells 17 8, .v 0]))
 .skip))
 (.reg [.nop 10,
  .nop 2,
  .op (.conv .u8 (.v 2)),
  .op (.ida 8 1 (.v 14) (.v 11)),
  .eff (.st 1 (.v 0) (.v 1))])))) [11] 10))
 (.reg [.op (.bin .add 3 (.v 3) (.c (.int .i64 1))),
  .nop 0])))) [1, 0] 5)
def ac27L0 : AC := .loop [[3], [12], [], [10], [4], [], [2], [0, 8]] ac27L0b
def ac27 : AFn := ⟨1, [],
 (.seq (.reg [.op (.new [(.int .u8 0), (.int .u8 0), (.int .u8 0), (.int .u8 0), (.int .u8 0), (.int .u8 0), (.int .u8 0), (.int .u8 0)]),
  .op (.mov (.c (.bool false)))])
 (.seq (.reg [.op (.new [(.int .u8 0), (.int .u8 0), (.int .u8 0), (.int .u8 0), (.int .u8 0), (.int .u8 0), (.int .u8 0), (.int .u8 0)])])
 (.seq (.seq (.post (.reg [.nop 3,
  .op (.len true (.v 3)),
  .op (.bin .neq 3 (.v 0) (.c (.int .i64 16)))]) [0] 2)
 (.cond (.v 0) (.seq (.post (.reg [.op (.ldn 8 (.v 1)),
  .eff (.st 8 (.v 4) (.v 0)),
  .op (.mov (.c (.bool false)))]) [0] 2)
 (.ret [.cells 4 8, .v 0]))
 .skip))
 (.seq (.seq (.reg [.op (.mov (.c (.int .i64 0)))])
 (.block 0 [[3], [], [10], [4], [], [2], [0, 8]] (.pre [3, 0] 0 ac27L0)))
 (.seq (.post (.regD [.op (.ldn 8 (.v 3)),
  .op (.ldn 8 (.v 4)),
  .op (.call 30 [(.v 0)]),
  .nop 9,
  .op (.bin .eql 9 (.v 0) (.v 9)),
  .eff (.st 8 (.v 9) (.v 3)),
  .nop 0] [0, 0, 2, 0, 14, 7, 63]) [0] 4)
 (.ret [.cells 6 8, .v 0]))))))⟩


def ac28L0b : AC :=
 (.post (.seq (.reg [.op (.bin .lss 3 (.v 1) (.v 3))])
 (.seq (.cond (.v 0) .skip
 (.pre [1, 2] 3 (.exit 2)))
 (.seq (.block 3 [[7], [23], [], [22], [], [21], [20], [19, 9], [18], [17], [], [16], [], [15], [14], [], [6], [3], [0], [1], [2]] (.post (.seq (.reg [.op (.idx 1 (.v 5) (.v 2)),
  .op (.ld1 (.v 0)),
  .nop 0])
 (.seq (.reg [.op (.ldn 9 (.v 18)),
  .op (.new [(.int .i64 0), (.int .i64 0), (.int .i64 0), (.bool false), (.string ⟨#[]⟩), (.string ⟨#[]⟩), (.int .i64 0), (.int .i64 0), (.slice none 0 0)]),
  .eff (.st 9 (.v 0) (.v 1))])
 (.seq (.reg [.nop 10,
  .nop 2,
  .op (.fld 3 (.v 0)),
  .eff (.st 1 (.v 0) (.v 11)),
  .op (.fld 2 (.v 1)),
  .eff (.st 1 (.v 0) (.v 4))])
 (.seq (.reg [.nop 25,
  .op (.call 42 [(.v 25), (.c (.string ⟨#[32]⟩))]),
  .nop 0])
 (.seq (.seq (.reg [.nop 5,
  .op (.bin .eql 3 (.v 5) (.c (.int .i64 1)))])
 (.cond (.v 0) (.post (.reg [.nop 1,
  .nop 1,
  .op (.len false (.v 1)),
  .op (.bin .sub 3 (.v 0) (.c (.int .i64 1))),
  .op (.mx (.v 0) (.c (.int .i64 0))),
  .op (.slc 1 (.v 4) none (some (.v 0))),
  .nop 0]) [0] 4)
 (.post .skip [1] 0)))
 (.seq (.seq (.reg [.nop 15])
 (.cond (.v 15) (.post (.reg [.nop 0,
  .nop 0,
  .op (.len false (.v 0)),
  .op (.bin .sub 3 (.v 0) (.c (.int .i64 1))),
  .op (.mx (.v 0) (.c (.int .i64 0))),
  .op (.slc 1 (.v 3) none (some (.v 0))),
  .nop 0]) [0] 4)
 (.post .skip [0] 0)))
 (.seq (.seq (.reg [.nop 0,
  .op (.len false (.v 0)),
  .op (.bin .gtr 3 (.v 0) (.c (.int .i64 2)))])
 (.cond (.v 0) (.post (.reg [.nop 2,
  .op (.idx 1 (.v 2) (.c (.int .i64 2))),
  .op (.ld1 (.v 0)),
  .op (.fld 4 (.v 10)),
  .eff (.st 1 (.v 0) (.v 1))]) [] 3)
 .skip))
 (.seq (.seq (.reg [.op (.fld 1 (.v 8)),
  .op (.ld1 (.v 0)),
  .op (.bin .eql 3 (.v 0) (.c (.int .i64 6))),
  .nop 0,
  .opg (.mov (.v 5)) 0 true,
  .opg (.len false (.v 0)) 1 true,
  .opg (.bin .gtr 3 (.v 0) (.c (.int .i64 3))) 2 true,
  .op (.pick (.v 3) (.v 0) (.c (.bool false)))])
 (.cond (.v 0) (.post (.reg [.nop 9,
  .op (.idx 1 (.v 9) (.c (.int .i64 3))),
  .op (.ld1 (.v 0)),
  .op (.fld 5 (.v 17)),
  .eff (.st 1 (.v 0) (.v 1))]) [] 3)
 .skip))
 (.seq (.reg [.nop 37,
  .op (.len false (.v 37)),
  .op (.bin .gtr 3 (.v 0) (.c (.int .i64 0))),
  .nop 0,
  .opg (.mov (.v 40)) 0 true,
  .opg (.bin .neq 9 (.v 0) (.c (.string ⟨#[]⟩))) 1 true,
  .op (.pick (.v 2) (.v 0) (.c (.bool false))),
  .nop 0,
  .opg (.ldn 9 (.v 20)) 0 true,
  .opg (.call 13 [(.v 0)]) 1 true,
  .opg (.mov (.v 45)) 2 true,
  .opg (.bin .eql 9 (.v 1) (.v 0)) 3 true,
  .op (.pick (.v 4) (.v 0) (.c (.bool false)))])
 (.cond (.v 0) (.seq (.reg [.op (.ldn 9 (.v 25)),
  .eff (.st 9 (.v 45) (.v 0)),
  .op (.mov (.c (.int .i64 0)))])
 (.ret [.cells 46 9, .v 0]))
 .skip)))))))))) [30] 29))
 (.reg [.op (.bin .add 3 (.v 3) (.c (.int .i64 1))),
  .nop 0])))) [1, 0] 5)
def ac28L0 : AC := .loop [[7], [22], [], [21], [20], [19, 9], [18], [17], [], [16], [], [15], [14], [], [6], [3], [0], [1], [2]] ac28L0b
def ac28L1b : AC :=
 (.post (.seq (.reg [.op (.bin .lss 3 (.v 1) (.v 3))])
 (.seq (.cond (.v 0) .skip
 (.pre [1] 3 (.exit 0)))
 (.seq (.block 1 [[7], [17], [], [16], [], [15], [14], [], [6], [3], [0], [1], [2]] (.post (.seq (.reg [.op (.idx 1 (.v 5) (.v 2)),
  .op (.ld1 (.v 0)),
  .nop 0])
 (.seq (.reg [.op (.mkl 1 2 [(.int .i64 0)] [(0, (.c (.int .i64 0))), (1, (.c (.int .i64 1)))]),
  .op (.len false (.v 0)),
  .op (.mov (.c (.int .i64 0)))])
 (.block 2 [[7], [22], [], [21], [20], [19, 9], [18], [17], [], [16], [], [15], [14], [], [6], [3], [0], [1], [2]] (.pre [6, 0] 0 ac28L0)))) [0] 7))
 (.reg [.op (.bin .add 3 (.v 3) (.c (.int .i64 1))),
  .nop 0])))) [1, 0] 5)
def ac28L1 : AC := .loop [[7], [16], [], [15], [14], [], [6], [3], [0], [1], [2]] ac28L1b
def ac28 : AFn := ⟨3, [],
 (.seq (.reg [.op (.box (.v 0)),
  .op (.new [(.int .i64 0), (.int .i64 0), (.int .i64 0), (.bool false), (.string ⟨#[]⟩), (.string ⟨#[]⟩), (.int .i64 0), (.int .i64 0), (.slice none 0 0)]),
  .op (.mov (.c (.int .i64 0)))])
 (.seq (.seq (.reg [.op (.mkl 1 2 [(.bool false)] [(0, (.c (.bool false))), (1, (.c (.bool true)))]),
  .op (.len false (.v 0)),
  .op (.mov (.c (.int .i64 0)))])
 (.block 0 [[7], [], [15], [14], [], [6], [3], [0], [1], [2]] (.pre [3, 0] 0 ac28L1)))
 (.seq (.post (.reg [.op (.build [(.int .i64 0), (.int .i64 0), (.int .i64 0), (.bool false), (.string ⟨#[]⟩), (.string ⟨#[]⟩), (.int .i64 0), (.int .i64 0), (.slice none 0 0)] []),
  .eff (.st 9 (.v 6) (.v 0)),
  .op (.mov (.c (.int .i64 4)))]) [0] 2)
 (.ret [.cells 6 9, .v 0]))))⟩


def ac30L0b : AC :=
 (.post (.seq (.reg [.op (.bin .lss 3 (.v 1) (.c (.int .i64 8)))])
 (.seq (.cond (.v 0) .skip
 (.pre [1] 3 (.exit 0)))
 (.seq (.block 1 [[3], [8], [], [7], [], [6], [], [2], [1], [0]] (.post (.seq (.reg [.op (.pur (.ind 8) [(.v 4), (.v 2)]),
  .nop 0])
 (.regD [.nop 2,
  .nop 0,
  .op (.pur (.bit .shr 5) [(.v 0), (.c (.int .u64 4))]),
  .op (.pur .byte [(.c (.string ⟨#[48, 49, 50, 51, 52, 53, 54, 55, 56, 57, 97, 98, 99, 100, 101, 102]⟩)), (.v 0)]),
  .nop 2,
  .op (.pur (.bit .and 5) [(.v 2), (.c (.int .u8 15))]),
  .op (.pur .byte [(.c (.string ⟨#[48, 49, 50, 51, 52, 53, 54, 55, 56, 57, 97, 98, 99, 100, 101, 102]⟩)), (.v 0)]),
  .op (.mkl 1 2 [(.int .u8 0)] [(0, (.v 2)), (1, (.v 0))]),
  .op (.app 1 1 (.v 7) (.v 0)),
  .nop 0] [0, 0, 2, 6, 0, 16, 48, 126, 255, 511])) [0] 7))
 (.reg [.op (.bin .add 3 (.v 3) (.c (.int .i64 1))),
  .nop 0])))) [1, 0] 5)
def ac30L0 : AC := .loop [[3], [7], [], [6], [], [2], [1], [0]] ac30L0b
def ac30 : AFn := ⟨1, [],
 (.seq (.reg [.op (.box (.v 0)),
  .op (.mov (.c (.string ⟨#[]⟩)))])
 (.seq (.reg [.op (.mov (.c (.slice none 0 0)))])
 (.seq (.seq (.reg [.op (.ldn 8 (.v 2)),
  .op (.mov (.c (.int .i64 0)))])
 (.block 0 [[3], [], [6], [], [2], [1], [0]] (.pre [2, 0] 0 ac30L0)))
 (.seq (.reg [.nop 0,
  .op (.mp .str [(.v 0)]),
  .nop 0])
 (.ret [.v 0])))))⟩


def ac32 : AFn := ⟨1, [],
 (.seq (.reg [.op (.box (.v 0)),
  .op (.new [(.int .i64 0), (.int .i64 0), (.int .i64 0), (.bool false), (.string ⟨#[]⟩), (.string ⟨#[]⟩), (.int .i64 0), (.int .i64 0), (.slice none 0 0)])])
 (.seq (.post (.reg [.op (.fld 0 (.v 1)),
  .op (.ld1 (.v 0)),
  .op (.fld 1 (.v 3)),
  .op (.ld1 (.v 0)),
  .op (.fld 2 (.v 5)),
  .op (.ld1 (.v 0)),
  .op (.build [(.int .i64 0), (.int .i64 0), (.int .i64 0), (.bool false), (.string ⟨#[]⟩), (.string ⟨#[]⟩), (.int .i64 0), (.int .i64 0), (.slice none 0 0)] [(0, 1, (.v 4)), (1, 1, (.v 2)), (2, 1, (.v 0))]),
  .eff (.st 9 (.v 7) (.v 0))]) [] 7)
 (.ret [.cells 0 9])))⟩


def ac33 : AFn := ⟨1, [],
 (.seq (.reg [.op (.mov (.c (.bool false)))])
 (.seq (.seq (.post (.reg [.nop 1,
  .op (.len true (.v 1)),
  .op (.bin .lss 3 (.v 0) (.c (.int .i64 1))),
  .nop 0,
  .opg (.mov (.v 3)) 0 false,
  .opg (.len true (.v 0)) 1 false,
  .opg (.bin .gtr 3 (.v 0) (.c (.int .i64 16))) 2 false,
  .op (.pick (.v 3) (.c (.bool true)) (.v 0)),
  .nop 0,
  .opg (.mov (.v 7)) 0 false,
  .opg (.pur .byte [(.v 0), (.c (.int .i64 0))]) 1 false,
  .opg (.bin .lss 5 (.v 0) (.c (.int .u8 97))) 2 false,
  .op (.pick (.v 3) (.c (.bool true)) (.v 0)),
  .nop 0,
  .opg (.mov (.v 11)) 0 false,
  .opg (.pur .byte [(.v 0), (.c (.int .i64 0))]) 1 false,
  .opg (.bin .gtr 5 (.v 0) (.c (.int .u8 122))) 2 false,
  .op (.pick (.v 3) (.c (.bool true)) (.v 0))]) [0] 14)
 (.cond (.v 0) (.seq (.reg [.op (.mov (.c (.bool false)))])
 (.ret [.v 0]))
 .skip))
 (.seq (.post (.reg [.nop 2,
  .op (.call 47 [(.v 2), (.c (.string ⟨#[97, 98, 99, 100, 101, 102, 103, 104, 105, 106, 107, 108, 109, 110, 111, 112, 113, 114, 115, 116, 117, 118, 119, 120, 121, 122, 48, 49, 50, 51, 52, 53, 54, 55, 56, 57]⟩))]),
  .op (.bin .eql 9 (.v 0) (.c (.string ⟨#[]⟩))),
  .nop 0]) [0] 2)
 (.ret [.v 0]))))⟩


def ac34 : AFn := ⟨2, [],
 (.seq (.reg [.op (.mov (.c (.bool false)))])
 (.seq (.post (.reg [.nop 1,
  .op (.bin .geq 3 (.v 1) (.c (.int .i64 0))),
  .nop 0,
  .opg (.mov (.v 3)) 0 true,
  .opg (.bin .geq 3 (.v 0) (.c (.int .i64 1))) 1 true,
  .op (.pick (.v 2) (.v 0) (.c (.bool false))),
  .nop 0,
  .opg (.mov (.v 5)) 0 true,
  .opg (.bin .leq 3 (.v 0) (.c (.int .i64 65536))) 1 true,
  .op (.pick (.v 2) (.v 0) (.c (.bool false))),
  .nop 0,
  .opg (.mov (.v 9)) 0 true,
  .opg (.mov (.v 9)) 1 true,
  .opg (.bin .sub 3 (.c (.int .i64 65536)) (.v 0)) 2 true,
  .opg (.bin .leq 3 (.v 2) (.v 0)) 3 true,
  .op (.pick (.v 4) (.v 0) (.c (.bool false))),
  .nop 0]) [0] 12)
 (.ret [.v 0])))⟩


def ac35L0b : AC :=
 (.post (.seq (.reg [.op (.bin .lss 3 (.v 1) (.v 3))])
 (.seq (.cond (.v 0) .skip
 (.pre [1] 3 (.exit 0)))
 (.seq (.block 1 [[4], [18], [], [17], [], [16], [15], [13], [], [3], [2], [0], [1]] (.post (.seq (.reg [.nop 2,
  .op (.idx 8 (.v 5) (.v 2)),
  .op (.ldn 8 (.v 0)),
  .op (.new [(.int .u8 0), (.int .u8 0), (.int .u8 0), (.int .u8 0), (.int .u8 0), (.int .u8 0), (.int .u8 0), (.int .u8 0)]),
  .nop 5,
  .eff (.st 8 (.v 0) (.v 1))])
 (.seq (.regD [.op (.ldn 8 (.v 0)),
  .op (.fld 8 (.v 12)),
  .op (.ld1 (.v 0)),
  .nop 8,
  .op (.idx 8 (.v 0) (.v 8)),
  .op (.ldn 8 (.v 0)),
  .op (.bin .neq 35 (.v 4) (.v 0))] [0, 0, 2, 0, 14, 30, 63])
 (.cond (.v 0) (.seq (.reg [.op (.mov (.c (.bool false)))])
 (.ret [.v 0]))
 .skip))) [10] 9))
 (.reg [.op (.bin .add 3 (.v 3) (.c (.int .i64 1))),
  .nop 0])))) [1, 0] 5)
def ac35L0 : AC := .loop [[4], [17], [], [16], [15], [13], [], [3], [2], [0], [1]] ac35L0b
def ac35 : AFn := ⟨2, [],
 (.seq (.reg [.op (.box (.v 0)),
  .op (.box (.v 2)),
  .op (.mov (.c (.bool false)))])
 (.seq (.seq (.post (.reg [.op (.fld 8 (.v 2)),
  .op (.ld1 (.v 0)),
  .op (.len false (.v 0)),
  .op (.fld 8 (.v 4)),
  .op (.ld1 (.v 0)),
  .op (.len false (.v 0)),
  .op (.bin .neq 3 (.v 3) (.v 0))]) [0] 7)
 (.cond (.v 0) (.seq (.reg [.op (.mov (.c (.bool false)))])
 (.ret [.v 0]))
 .skip))
 (.seq (.seq (.post (.reg [.op (.fld 8 (.v 3)),
  .op (.ld1 (.v 0)),
  .op (.len false (.v 0)),
  .op (.mov (.c (.int .i64 0)))]) [0, 1, 2] 4)
 (.block 0 [[4], [], [16], [15], [13], [], [3], [2], [0], [1]] (.pre [4, 0] 0 ac35L0)))
 (.seq (.post (.reg [.op (.fld 0 (.v 7)),
  .op (.ld1 (.v 0)),
  .op (.fld 0 (.v 8)),
  .op (.ld1 (.v 0)),
  .op (.bin .eql 3 (.v 2) (.v 0)),
  .nop 0,
  .opg (.fld 1 (.v 12)) 0 true,
  .opg (.ld1 (.v 0)) 1 true,
  .opg (.fld 1 (.v 13)) 2 true,
  .opg (.ld1 (.v 0)) 3 true,
  .opg (.bin .eql 3 (.v 2) (.v 0)) 4 true,
  .op (.pick (.v 5) (.v 0) (.c (.bool false))),
  .nop 0,
  .opg (.fld 2 (.v 18)) 0 true,
  .opg (.ld1 (.v 0)) 1 true,
  .opg (.fld 2 (.v 19)) 2 true,
  .opg (.ld1 (.v 0)) 3 true,
  .opg (.bin .eql 3 (.v 2) (.v 0)) 4 true,
  .op (.pick (.v 5) (.v 0) (.c (.bool false))),
  .nop 0,
  .opg (.fld 3 (.v 24)) 0 true,
  .opg (.ld1 (.v 0)) 1 true,
  .opg (.fld 3 (.v 25)) 2 true,
  .opg (.ld1 (.v 0)) 3 true,
  .opg (.bin .eql 4 (.v 2) (.v 0)) 4 true,
  .op (.pick (.v 5) (.v 0) (.c (.bool false))),
  .nop 0,
  .opg (.fld 4 (.v 30)) 0 true,
  .opg (.ld1 (.v 0)) 1 true,
  .opg (.fld 4 (.v 31)) 2 true,
  .opg (.ld1 (.v 0)) 3 true,
  .opg (.bin .eql 9 (.v 2) (.v 0)) 4 true,
  .op (.pick (.v 5) (.v 0) (.c (.bool false))),
  .nop 0,
  .opg (.fld 5 (.v 36)) 0 true,
  .opg (.ld1 (.v 0)) 1 true,
  .opg (.fld 5 (.v 37)) 2 true,
  .opg (.ld1 (.v 0)) 3 true,
  .opg (.bin .eql 9 (.v 2) (.v 0)) 4 true,
  .op (.pick (.v 5) (.v 0) (.c (.bool false))),
  .nop 0,
  .opg (.fld 6 (.v 42)) 0 true,
  .opg (.ld1 (.v 0)) 1 true,
  .opg (.fld 6 (.v 43)) 2 true,
  .opg (.ld1 (.v 0)) 3 true,
  .opg (.bin .eql 3 (.v 2) (.v 0)) 4 true,
  .op (.pick (.v 5) (.v 0) (.c (.bool false))),
  .nop 0,
  .opg (.fld 7 (.v 48)) 0 true,
  .opg (.ld1 (.v 0)) 1 true,
  .opg (.fld 7 (.v 49)) 2 true,
  .opg (.ld1 (.v 0)) 3 true,
  .opg (.bin .eql 3 (.v 2) (.v 0)) 4 true,
  .op (.pick (.v 5) (.v 0) (.c (.bool false))),
  .nop 0]) [0] 47)
 (.ret [.v 0])))))⟩


def ac36L0b : AC :=
 (.post (.seq (.seq (.reg [.nop 1,
  .op (.fld 8 (.v 11)),
  .op (.ld1 (.v 0)),
  .op (.len false (.v 0)),
  .op (.bin .lss 3 (.v 4) (.v 0))])
 (.cond (.v 0) .skip
 (.pre [4] 6 (.exit 1))))
 (.seq (.block 2 [[6], [48], [47], [46], [45], [], [7, 44], [], [43], [35, 34], [23, 22], [21], [19, 5], [15, 4, 42], [11, 3, 36], [2], [1], [0]] (.post (.reg [.nop 4,
  .op (.bin .add 9 (.v 4) (.c (.string ⟨#[32]⟩))),
  .op (.fld 8 (.v 16)),
  .op (.ld1 (.v 0)),
  .nop 8,
  .op (.idx 8 (.v 0) (.v 8)),
  .op (.ldn 8 (.v 0)),
  .op (.call 49 [(.v 0)]),
  .op (.bin .add 9 (.v 5) (.v 0)),
  .nop 0]) [0] 7))
 (.reg [.nop 6,
  .op (.bin .add 3 (.v 6) (.c (.int .i64 1))),
  .nop 0]))) [1, 0] 8)
def ac36L0 : AC := .loop [[6], [7], [], [43], [35, 34], [23, 22], [21], [19, 5], [15, 4, 42], [11, 3, 36], [2], [1], [0]] ac36L0b
def ac36 : AFn := ⟨1, [],
 (.seq (.reg [.op (.box (.v 0)),
  .op (.mov (.c (.string ⟨#[]⟩)))])
 (.seq (.post (.reg [.op (.fld 0 (.v 1)),
  .op (.ld1 (.v 0)),
  .op (.call 48 [(.v 0)]),
  .op (.bin .add 9 (.c (.string ⟨#[32]⟩)) (.v 0)),
  .nop 0]) [0] 4)
 (.seq (.post (.regD [.op (.fld 6 (.v 2)),
  .op (.ld1 (.v 0)),
  .op (.call 48 [(.v 0)]),
  .op (.bin .add 9 (.c (.string ⟨#[32]⟩)) (.v 0)),
  .op (.fld 7 (.v 6)),
  .op (.ld1 (.v 0)),
  .op (.call 48 [(.v 0)]),
  .op (.bin .add 9 (.c (.string ⟨#[32]⟩)) (.v 0)),
  .nop 4,
  .nop 0] [0, 1, 3, 7, 0, 16, 55, 119, 127, 511]) [0, 4] 8)
 (.seq (.seq (.post (.reg [.op (.fld 1 (.v 4)),
  .op (.ld1 (.v 0))]) [0] 2)
 (.block 0 [[2], [21], [19, 5], [15, 4], [11, 3], [], [1], [0]] (.post (.seq (.reg [.op (.bin .eql 3 (.v 0) (.c (.int .i64 1))),
  .nop 0])
 (.cond (.v 0) (.seq (.post (.reg [.nop 4,
  .op (.bin .add 9 (.c (.string ⟨#[114, 101, 97, 100]⟩)) (.v 4)),
  .op (.bin .add 9 (.v 0) (.c (.string ⟨#[32]⟩))),
  .op (.fld 4 (.v 8)),
  .op (.ld1 (.v 0)),
  .op (.bin .add 9 (.v 2) (.v 0)),
  .nop 8,
  .op (.bin .add 9 (.v 0) (.v 8)),
  .nop 8,
  .op (.bin .add 9 (.v 0) (.v 8)),
  .nop 0]) [0] 7)
 (.ret [.v 0]))
 (.seq (.reg [.op (.bin .eql 3 (.v 1) (.c (.int .i64 2))),
  .nop 0])
 (.cond (.v 0) (.seq (.post (.reg [.nop 5,
  .op (.bin .add 9 (.c (.string ⟨#[119, 114, 105, 116, 101]⟩)) (.v 5)),
  .op (.bin .add 9 (.v 0) (.c (.string ⟨#[32]⟩))),
  .op (.fld 4 (.v 9)),
  .op (.ld1 (.v 0)),
  .op (.bin .add 9 (.v 2) (.v 0)),
  .nop 9,
  .op (.bin .add 9 (.v 0) (.v 9)),
  .nop 0]) [0] 6)
 (.seq (.seq (.reg [.op (.mov (.c (.int .i64 0)))])
 (.block 1 [[6], [], [43], [35, 34], [23, 22], [21], [19, 5], [15, 4, 42], [11, 3, 36], [2], [1], [0]] (.pre [1, 0] 0 ac36L0)))
 (.seq (.reg [.nop 0,
  .nop 0])
 (.ret [.v 0]))))
 (.seq (.reg [.op (.bin .eql 3 (.v 2) (.c (.int .i64 3))),
  .nop 0])
 (.cond (.v 0) (.seq (.post (.reg [.nop 6,
  .op (.bin .add 9 (.c (.string ⟨#[116, 114, 105, 109]⟩)) (.v 6)),
  .op (.bin .add 9 (.v 0) (.c (.string ⟨#[32]⟩))),
  .op (.fld 4 (.v 10)),
  .op (.ld1 (.v 0)),
  .op (.bin .add 9 (.v 2) (.v 0)),
  .nop 10,
  .op (.bin .add 9 (.v 0) (.v 10)),
  .nop 10,
  .op (.bin .add 9 (.v 0) (.v 10)),
  .nop 0]) [0] 7)
 (.ret [.v 0]))
 (.seq (.reg [.op (.bin .eql 3 (.v 3) (.c (.int .i64 4))),
  .nop 0])
 (.cond (.v 0) (.seq (.reg [.nop 7,
  .op (.bin .add 9 (.c (.string ⟨#[102, 108, 117, 115, 104]⟩)) (.v 7)),
  .nop 0])
 (.ret [.v 0]))
 (.seq (.reg [.op (.bin .eql 3 (.v 4) (.c (.int .i64 5))),
  .nop 0])
 (.cond (.v 0) (.seq (.post (.reg [.nop 8,
  .op (.bin .add 9 (.c (.string ⟨#[99, 114, 101, 97, 116, 101]⟩)) (.v 8)),
  .op (.bin .add 9 (.v 0) (.c (.string ⟨#[32]⟩))),
  .op (.fld 4 (.v 12)),
  .op (.ld1 (.v 0)),
  .op (.bin .add 9 (.v 2) (.v 0)),
  .nop 11,
  .op (.bin .add 9 (.v 0) (.v 11)),
  .nop 13,
  .op (.bin .add 9 (.v 0) (.v 13)),
  .nop 0]) [0] 7)
 (.ret [.v 0]))
 (.seq (.reg [.op (.bin .eql 3 (.v 5) (.c (.int .i64 6))),
  .nop 0])
 (.cond (.v 0) (.seq (.post (.reg [.nop 9,
  .op (.bin .add 9 (.c (.string ⟨#[99, 108, 111, 110, 101]⟩)) (.v 9)),
  .op (.bin .add 9 (.v 0) (.c (.string ⟨#[32]⟩))),
  .op (.fld 4 (.v 13)),
  .op (.ld1 (.v 0)),
  .op (.bin .add 9 (.v 2) (.v 0)),
  .op (.bin .add 9 (.v 0) (.c (.string ⟨#[32]⟩))),
  .op (.fld 5 (.v 17)),
  .op (.ld1 (.v 0)),
  .op (.bin .add 9 (.v 2) (.v 0)),
  .nop 0]) [0] 9)
 (.ret [.v 0]))
 .skip)))))))))))) [10] 6)))
 (.seq (.post (.reg [.nop 4,
  .op (.bin .add 9 (.c (.string ⟨#[100, 101, 108, 101, 116, 101]⟩)) (.v 4)),
  .op (.bin .add 9 (.v 0) (.c (.string ⟨#[32]⟩))),
  .op (.fld 4 (.v 8)),
  .op (.ld1 (.v 0)),
  .op (.bin .add 9 (.v 2) (.v 0)),
  .nop 0]) [0] 5)
 (.ret [.v 0]))))))⟩


def ac37L0b : AC :=
 (.post (.seq (.reg [.op (.bin .lss 3 (.v 1) (.c (.int .i64 2)))])
 (.seq (.cond (.v 0) .skip
 (.pre [1] 3 (.exit 0)))
 (.seq (.block 1 [[4], [13], [], [12], [], [11], [], [3], [2], [0], [1]] (.post (.seq (.reg [.op (.pur (.ind 2) [(.v 4), (.v 2)]),
  .nop 0])
 (.seq (.reg [.nop 0,
  .op (.bin .neq 9 (.v 0) (.c (.string ⟨#[]⟩))),
  .nop 0,
  .opg (.mov (.v 1)) 0 true,
  .opg (.fld 4 (.v 9)) 1 true,
  .opg (.ld1 (.v 0)) 2 true,
  .opg (.bin .eql 9 (.v 2) (.v 0)) 3 true,
  .opg (.mov (.v 0)) 4 true,
  .opg (.mov (.v 6)) 0 false,
  .opg (.fld 5 (.v 14)) 1 false,
  .opg (.ld1 (.v 0)) 2 false,
  .opg (.bin .eql 9 (.v 2) (.v 0)) 3 false,
  .opg (.pick (.v 4) (.c (.bool true)) (.v 0)) 9 true,
  .op (.pick (.v 10) (.v 0) (.c (.bool false)))])
 (.cond (.v 0) (.seq (.reg [.op (.mov (.c (.bool true)))])
 (.ret [.v 0]))
 .skip))) [14] 13))
 (.reg [.op (.bin .add 3 (.v 3) (.c (.int .i64 1))),
  .nop 0])))) [1, 0] 5)
def ac37L0 : AC := .loop [[4], [12], [], [11], [], [3], [2], [0], [1]] ac37L0b
def ac37 : AFn := ⟨2, [],
 (.seq (.reg [.op (.box (.v 0)),
  .op (.box (.v 2)),
  .op (.mov (.c (.bool false)))])
 (.seq (.seq (.post (.reg [.op (.fld 4 (.v 2)),
  .op (.ld1 (.v 0)),
  .op (.fld 5 (.v 4)),
  .op (.ld1 (.v 0)),
  .op (.build [(.string ⟨#[]⟩), (.string ⟨#[]⟩)] [(0, 1, (.v 2)), (1, 1, (.v 0))]),
  .op (.mov (.c (.int .i64 0)))]) [0, 1] 6)
 (.block 0 [[4], [], [11], [], [3], [2], [0], [1]] (.pre [2, 0] 0 ac37L0)))
 (.seq (.reg [.op (.mov (.c (.bool false)))])
 (.ret [.v 0]))))⟩


def ac38 : AFn := ⟨2, [],
 (.seq (.reg [.op (.box (.v 0)),
  .op (.mov (.c (.bool false)))])
 (.seq (.post (.reg [.nop 3,
  .op (.bin .neq 9 (.v 3) (.c (.string ⟨#[]⟩))),
  .nop 0,
  .opg (.fld 4 (.v 2)) 0 true,
  .opg (.ld1 (.v 0)) 1 true,
  .opg (.mov (.v 6)) 2 true,
  .opg (.bin .eql 9 (.v 1) (.v 0)) 3 true,
  .opg (.mov (.v 0)) 4 true,
  .opg (.fld 5 (.v 7)) 0 false,
  .opg (.ld1 (.v 0)) 1 false,
  .opg (.mov (.v 11)) 2 false,
  .opg (.bin .eql 9 (.v 1) (.v 0)) 3 false,
  .opg (.pick (.v 4) (.c (.bool true)) (.v 0)) 9 true,
  .op (.pick (.v 10) (.v 0) (.c (.bool false))),
  .nop 0]) [0] 12)
 (.ret [.v 0])))⟩


def ac47 : AFn := ⟨2, [],
 (.seq (.reg [.op (.mov (.c (.string ⟨#[]⟩)))])
 (.seq (.seq (.post (.reg [.nop 1,
  .op (.bin .eql 9 (.v 1) (.c (.string ⟨#[]⟩))),
  .nop 0,
  .opg (.mov (.v 3)) 0 false,
  .opg (.bin .eql 9 (.v 0) (.c (.string ⟨#[]⟩))) 1 false,
  .op (.pick (.v 2) (.c (.bool true)) (.v 0))]) [0] 4)
 (.cond (.v 0) (.seq (.reg [.nop 2,
  .nop 2])
 (.ret [.v 2]))
 .skip))
 (.seq (.seq (.post (.reg [.nop 3,
  .op (.len true (.v 3)),
  .op (.bin .eql 3 (.v 0) (.c (.int .i64 1))),
  .nop 0,
  .opg (.mov (.v 5)) 0 true,
  .opg (.pur .byte [(.v 0), (.c (.int .i64 0))]) 1 true,
  .opg (.bin .lss 5 (.v 0) (.c (.int .u8 128))) 2 true,
  .op (.pick (.v 3) (.v 0) (.c (.bool false)))]) [0] 6)
 (.cond (.v 0) (.seq (.post (.regD [.nop 3,
  .nop 4,
  .op (.pur .byte [(.v 4), (.c (.int .i64 0))]),
  .op (.call 59 [(.v 4), (.v 0)]),
  .nop 6,
  .op (.pur .byte [(.v 6), (.c (.int .i64 0))]),
  .op (.call 58 [(.v 1), (.v 0)]),
  .nop 0] [0, 0, 2, 7, 0, 16, 63, 127]) [0] 4)
 (.ret [.v 0]))
 .skip))
 (.seq (.seq (.post (.reg [.nop 4,
  .op (.call 60 [(.v 4)]),
  .nop 0,
  .op (.extr 0 (.v 0)),
  .op (.extr 1 (.v 1)),
  .op (.new (List.replicate 256 (.bool false))),
  .eff (.st 256 (.v 0) (.v 2)),
  .nop 1]) [0, 1] 4)
 (.seq (.reg [.nop 1])
 (.cond (.v 1) (.seq (.post (.reg [.nop 5,
  .op (.call 62 [(.v 5), (.v 0)]),
  .op (.call 61 [(.v 0), (.v 1)]),
  .nop 0]) [0] 2)
 (.ret [.v 0]))
 .skip)))
 (.seq (.post (.reg [.nop 5,
  .nop 6,
  .op (.call 64 [(.v 5), (.v 6)]),
  .nop 7,
  .op (.call 63 [(.v 0), (.v 7)]),
  .nop 0]) [0] 2)
 (.ret [.v 0]))))))⟩


def ac48 : AFn := ⟨1, [],
 (.seq (.reg [.op (.mov (.c (.string ⟨#[]⟩)))])
 (.seq (.seq (.reg [.nop 1,
  .op (.bin .lss 3 (.v 1) (.c (.int .i64 10)))])
 (.cond (.v 0) (.seq (.post (.reg [.nop 2,
  .op (.bin .add 3 (.c (.int .i64 48)) (.v 2)),
  .op (.conv .u8 (.v 0)),
  .op (.mkl 1 1 [(.int .u8 0)] [(0, (.v 0))]),
  .op (.mp .str [(.v 0)]),
  .nop 0]) [0] 4)
 (.ret [.v 0]))
 .skip))
 (.seq (.post (.regD [.nop 2,
  .op (.bin .quo 3 (.v 2) (.c (.int .i64 10))),
  .op (.call 48 [(.v 0)]),
  .nop 4,
  .op (.bin .rem 3 (.v 4) (.c (.int .i64 10))),
  .op (.bin .add 3 (.c (.int .i64 48)) (.v 0)),
  .op (.conv .u8 (.v 0)),
  .op (.mkl 1 1 [(.int .u8 0)] [(0, (.v 0))]),
  .op (.mp .str [(.v 0)]),
  .op (.bin .add 9 (.v 5) (.v 0)),
  .nop 0] [0, 1, 3, 0, 8, 24, 56, 120, 248, 511, 1023]) [0] 8)
 (.ret [.v 0]))))⟩


def ac49L0b : AC :=
 (.post (.seq (.seq (.reg [.nop 1,
  .op (.bin .lss 3 (.v 1) (.c (.int .i64 8)))])
 (.cond (.v 0) .skip
 (.pre [1] 3 (.exit 0))))
 (.seq (.block 1 [[3], [6], [], [4, 5], [], [], [2], [1], [0]] (.post (.regD [.nop 1,
  .nop 2,
  .op (.ida 8 1 (.v 6) (.v 2)),
  .op (.ld1 (.v 0)),
  .op (.pur (.bit .shr 5) [(.v 0), (.c (.int .u64 4))]),
  .op (.call 65 [(.v 0)]),
  .nop 6,
  .op (.ida 8 1 (.v 10) (.v 6)),
  .op (.ld1 (.v 0)),
  .op (.pur (.bit .and 5) [(.v 0), (.c (.int .u8 15))]),
  .op (.call 65 [(.v 0)]),
  .op (.mkl 1 2 [(.int .u8 0)] [(0, (.v 4)), (1, (.v 0))]),
  .op (.app 1 1 (.v 10) (.v 0)),
  .nop 0] [0, 0, 2, 6, 14, 30, 0, 64, 192, 448, 1022, 2046, 4095, 8191]) [0] 10))
 (.reg [.nop 3,
  .op (.bin .add 3 (.v 3) (.c (.int .i64 1))),
  .nop 0]))) [1, 0] 5)
def ac49L0 : AC := .loop [[3], [4], [], [], [2], [1], [0]] ac49L0b
def ac49 : AFn := ⟨1, [],
 (.seq (.reg [.op (.box (.v 0)),
  .op (.mov (.c (.string ⟨#[]⟩)))])
 (.seq (.reg [.op (.mov (.c (.slice none 0 0)))])
 (.seq (.seq (.reg [.op (.mov (.c (.int .i64 0)))])
 (.block 0 [[3], [], [], [2], [1], [0]] (.pre [1, 0] 0 ac49L0)))
 (.seq (.reg [.nop 0,
  .op (.mp .str [(.v 0)]),
  .nop 0])
 (.ret [.v 0])))))⟩


def ac58L0b : AC :=
 (.post (.seq (.seq (.reg [.nop 0,
  .op (.len true (.v 0)),
  .op (.bin .gtr 3 (.v 0) (.c (.int .i64 0))),
  .nop 0,
  .opg (.mov (.v 2)) 0 true,
  .opg (.pur .byte [(.v 0), (.c (.int .i64 0))]) 1 true,
  .opg (.mov (.v 7)) 2 true,
  .opg (.bin .eql 5 (.v 1) (.v 0)) 3 true,
  .op (.pick (.v 4) (.v 0) (.c (.bool false)))])
 (.cond (.v 0) .skip
 (.pre [7] 8 (.exit 0))))
 (.block 1 [[0], [13], [12], [11], [10], [9], [7, 8], [6], [5], [4], [], [1]] (.reg [.nop 7,
  .op (.pur .subl [(.v 7), (.c (.int .i64 1))]),
  .nop 0]))) [0] 9)
def ac58L0 : AC := .loop [[0], [4], [], [1]] ac58L0b
def ac58 : AFn := ⟨2, [],
 (.seq (.reg [.op (.mov (.c (.string ⟨#[]⟩)))])
 (.seq (.block 0 [[0], [4], [], [1]] (.pre [1] 0 ac58L0))
 (.seq (.reg [.nop 0,
  .nop 0])
 (.ret [.v 0]))))⟩


def ac59L0b : AC :=
 (.post (.seq (.seq (.reg [.nop 0,
  .op (.len true (.v 0)),
  .op (.bin .gtr 3 (.v 0) (.c (.int .i64 0))),
  .nop 0,
  .opg (.mov (.v 2)) 0 true,
  .opg (.mov (.v 3)) 1 true,
  .opg (.len true (.v 0)) 2 true,
  .opg (.bin .sub 3 (.v 0) (.c (.int .i64 1))) 3 true,
  .opg (.pur .byte [(.v 3), (.v 0)]) 4 true,
  .opg (.mov (.v 10)) 5 true,
  .opg (.bin .eql 5 (.v 1) (.v 0)) 6 true,
  .op (.pick (.v 7) (.v 0) (.c (.bool false)))])
 (.cond (.v 0) .skip
 (.pre [10] 11 (.exit 0))))
 (.block 1 [[0], [16], [15], [14], [13], [12], [11], [10], [9], [7, 8], [6], [5], [4], [], [1]] (.post (.reg [.nop 10,
  .nop 10,
  .op (.len true (.v 10)),
  .op (.bin .sub 3 (.v 0) (.c (.int .i64 1))),
  .op (.pur .subh [(.v 12), (.v 0)]),
  .nop 0]) [0] 3))) [0] 12)
def ac59L0 : AC := .loop [[0], [4], [], [1]] ac59L0b
def ac59 : AFn := ⟨2, [],
 (.seq (.reg [.op (.mov (.c (.string ⟨#[]⟩)))])
 (.seq (.block 0 [[0], [4], [], [1]] (.pre [1] 0 ac59L0))
 (.seq (.reg [.nop 0,
  .nop 0])
 (.ret [.v 0]))))⟩


def ac60L0b : AC :=
 (.post (.seq (.seq (.reg [.nop 1,
  .nop 5,
  .op (.len true (.v 5)),
  .op (.bin .lss 3 (.v 2) (.v 0))])
 (.cond (.v 0) .skip
 (.pre [2] 4 (.exit 0))))
 (.seq (.block 1 [[3], [9], [8], [], [4, 6], [], [], [2], [0, 7]] (.post (.seq (.reg [.nop 7,
  .nop 3,
  .op (.pur .byte [(.v 7), (.v 3)]),
  .nop 0])
 (.seq (.seq (.reg [.nop 0,
  .op (.bin .geq 5 (.v 0) (.c (.int .u8 128)))])
 (.cond (.v 0) (.seq (.reg [.op (.ldn 256 (.v 8)),
  .eff (.st 256 (.v 9) (.v 0)),
  .op (.mov (.c (.bool false)))])
 (.ret [.cells 10 256, .v 0]))
 .skip))
 (.reg [.nop 1,
  .op (.ida 256 1 (.v 8) (.v 1)),
  .eff (.st 1 (.v 0) (.c (.bool true)))]))) [5] 3))
 (.reg [.nop 4,
  .op (.bin .add 3 (.v 4) (.c (.int .i64 1))),
  .nop 0]))) [1, 0] 6)
def ac60L0 : AC := .loop [[3], [4], [], [], [2], [0]] ac60L0b
def ac60 : AFn := ⟨1, [],
 (.seq (.reg [.op (.new (List.replicate 256 (.bool false))),
  .op (.mov (.c (.bool false)))])
 (.seq (.seq (.reg [.op (.mov (.c (.int .i64 0)))])
 (.block 0 [[3], [], [], [2], [0]] (.pre [1, 0] 0 ac60L0)))
 (.seq (.post (.reg [.op (.ldn 256 (.v 3)),
  .eff (.st 256 (.v 4) (.v 0)),
  .op (.mov (.c (.bool true)))]) [0] 2)
 (.ret [.cells 4 256, .v 0]))))⟩


def ac61L0b : AC :=
 (.post (.seq (.seq (.reg [.nop 0,
  .op (.len true (.v 0)),
  .op (.bin .gtr 3 (.v 0) (.c (.int .i64 0)))])
 (.cond (.v 0) .skip
 (.pre [2] 3 (.exit 0))))
 (.block 1 [[0], [7], [6], [5], [4], [], [1]] (.post (.seq (.seq (.reg [.nop 5,
  .nop 2,
  .op (.pur .byte [(.v 2), (.c (.int .i64 0))]),
  .op (.call 86 [(.v 6), (.v 0)]),
  .op (.una .not (.v 0))])
 (.cond (.v 0) (.pre [5] 6 (.exit 0))
 .skip))
 (.reg [.nop 5,
  .op (.pur .subl [(.v 5), (.c (.int .i64 1))]),
  .nop 0])) [0] 4))) [0] 4)
def ac61L0 : AC := .loop [[0], [4], [], [1]] ac61L0b
def ac61 : AFn := ⟨2, [],
 (.seq (.reg [.op (.mov (.c (.string ⟨#[]⟩)))])
 (.seq (.block 0 [[0], [4], [], [1]] (.pre [1] 0 ac61L0))
 (.seq (.reg [.nop 0,
  .nop 0])
 (.ret [.v 0]))))⟩


def ac62L0b : AC :=
 (.post (.seq (.seq (.reg [.nop 0,
  .op (.len true (.v 0)),
  .op (.bin .gtr 3 (.v 0) (.c (.int .i64 0)))])
 (.cond (.v 0) .skip
 (.pre [2] 3 (.exit 0))))
 (.block 1 [[0], [7], [6], [5], [4], [], [1]] (.post (.seq (.seq (.reg [.nop 5,
  .nop 2,
  .nop 2,
  .op (.len true (.v 2)),
  .op (.bin .sub 3 (.v 0) (.c (.int .i64 1))),
  .op (.pur .byte [(.v 4), (.v 0)]),
  .op (.call 86 [(.v 8), (.v 0)]),
  .op (.una .not (.v 0))])
 (.cond (.v 0) (.pre [7] 8 (.exit 0))
 .skip))
 (.reg [.nop 7,
  .nop 7,
  .op (.len true (.v 7)),
  .op (.bin .sub 3 (.v 0) (.c (.int .i64 1))),
  .op (.pur .subh [(.v 9), (.v 0)]),
  .nop 0])) [0] 8))) [0] 4)
def ac62L0 : AC := .loop [[0], [4], [], [1]] ac62L0b
def ac62 : AFn := ⟨2, [],
 (.seq (.reg [.op (.mov (.c (.string ⟨#[]⟩)))])
 (.seq (.block 0 [[0], [4], [], [1]] (.pre [1] 0 ac62L0))
 (.seq (.reg [.nop 0,
  .nop 0])
 (.ret [.v 0]))))⟩


def ac63L0b : AC :=
 (.post (.seq (.seq (.reg [.nop 0,
  .op (.len true (.v 0)),
  .op (.bin .gtr 3 (.v 0) (.c (.int .i64 0)))])
 (.cond (.v 0) .skip
 (.pre [2] 3 (.exit 0))))
 (.block 1 [[0], [9], [8], [7], [4], [], [1]] (.post (.seq (.reg [.nop 2,
  .op (.call 87 [(.v 2)]),
  .nop 0,
  .op (.extr 0 (.v 0)),
  .op (.extr 1 (.v 1)),
  .nop 1,
  .nop 0])
 (.seq (.seq (.reg [.nop 8,
  .nop 1,
  .op (.call 88 [(.v 8), (.v 1)]),
  .op (.una .not (.v 0))])
 (.cond (.v 0) (.pre [7] 8 (.exit 0))
 .skip))
 (.reg [.nop 7,
  .nop 2,
  .op (.pur .subl [(.v 7), (.v 2)]),
  .nop 0]))) [0] 6))) [0] 4)
def ac63L0 : AC := .loop [[0], [4], [], [1]] ac63L0b
def ac63 : AFn := ⟨2, [],
 (.seq (.reg [.op (.mov (.c (.string ⟨#[]⟩)))])
 (.seq (.block 0 [[0], [4], [], [1]] (.pre [1] 0 ac63L0))
 (.seq (.reg [.nop 0,
  .nop 0])
 (.ret [.v 0]))))⟩


def ac64L0b : AC :=
 (.post (.seq (.seq (.reg [.nop 0,
  .op (.len true (.v 0)),
  .op (.bin .gtr 3 (.v 0) (.c (.int .i64 0)))])
 (.cond (.v 0) .skip
 (.pre [2] 3 (.exit 0))))
 (.block 1 [[0], [9], [8], [7], [4], [], [1]] (.post (.seq (.reg [.nop 2,
  .nop 2,
  .op (.len true (.v 2)),
  .op (.bin .sub 3 (.v 0) (.c (.int .i64 1))),
  .op (.pur .byte [(.v 4), (.v 0)]),
  .op (.conv .i32 (.v 0)),
  .nop 0,
  .op (.mov (.c (.int .i64 1)))])
 (.seq (.seq (.reg [.nop 1,
  .op (.bin .geq 21 (.v 1) (.c (.int .i32 128)))])
 (.cond (.v 0) (.post (.reg [.nop 8,
  .op (.call 89 [(.v 8)]),
  .nop 0,
  .op (.extr 0 (.v 0)),
  .op (.extr 1 (.v 1)),
  .nop 1,
  .nop 0]) [1, 0] 3)
 (.post .skip [2, 1] 0)))
 (.seq (.seq (.reg [.nop 13,
  .nop 0,
  .op (.call 88 [(.v 13), (.v 0)]),
  .op (.una .not (.v 0))])
 (.cond (.v 0) (.pre [12] 13 (.exit 0))
 .skip))
 (.reg [.nop 12,
  .nop 12,
  .op (.len true (.v 12)),
  .nop 4,
  .op (.bin .sub 3 (.v 0) (.v 4)),
  .op (.pur .subh [(.v 14), (.v 0)]),
  .nop 0])))) [0] 13))) [0] 4)
def ac64L0 : AC := .loop [[0], [4], [], [1]] ac64L0b
def ac64 : AFn := ⟨2, [],
 (.seq (.reg [.op (.mov (.c (.string ⟨#[]⟩)))])
 (.seq (.block 0 [[0], [4], [], [1]] (.pre [1] 0 ac64L0))
 (.seq (.reg [.nop 0,
  .nop 0])
 (.ret [.v 0]))))⟩


def ac65 : AFn := ⟨1, [],
 (.seq (.reg [.op (.mov (.c (.int .u8 0)))])
 (.seq (.seq (.reg [.nop 1,
  .op (.bin .lss 5 (.v 1) (.c (.int .u8 10)))])
 (.cond (.v 0) (.seq (.reg [.nop 2,
  .op (.bin .add 5 (.c (.int .u8 48)) (.v 2)),
  .nop 0])
 (.ret [.v 0]))
 .skip))
 (.seq (.post (.reg [.nop 2,
  .op (.bin .add 5 (.c (.int .u8 97)) (.v 2)),
  .op (.bin .sub 5 (.v 0) (.c (.int .u8 10))),
  .nop 0]) [0] 2)
 (.ret [.v 0]))))⟩


def ac86 : AFn := ⟨2, [],
 (.seq (.reg [.op (.mov (.c (.bool false)))])
 (.seq (.post (.reg [.nop 1,
  .nop 2,
  .op (.nilck (.v 1)),
  .op (.ida 256 1 (.v 0) (.v 3)),
  .op (.ld1 (.v 0)),
  .nop 0]) [0] 3)
 (.ret [.v 0])))⟩


theorem chk3 : chkFn Proofs.Tryd.prog Proofs.Tryd.f3 ac3 = true := by kernel_rfl
theorem chk4 : chkFn Proofs.Tryd.prog Proofs.Tryd.f4 ac4 = true := by kernel_rfl
theorem chk5 : chkFn Proofs.Tryd.prog Proofs.Tryd.f5 ac5 = true := by kernel_rfl
theorem chk6 : chkFn Proofs.Tryd.prog Proofs.Tryd.f6 ac6 = true := by kernel_rfl
theorem chk7 : chkFn Proofs.Tryd.prog Proofs.Tryd.f7 ac7 = true := by kernel_rfl
theorem chk8 : chkFn Proofs.Tryd.prog Proofs.Tryd.f8 ac8 = true := by kernel_rfl
theorem chk9 : chkFn Proofs.Tryd.prog Proofs.Tryd.f9 ac9 = true := by kernel_rfl
theorem chk10 : chkFn Proofs.Tryd.prog Proofs.Tryd.f10 ac10 = true := by kernel_rfl
theorem chk11 : chkFn Proofs.Tryd.prog Proofs.Tryd.f11 ac11 = true := by kernel_rfl
theorem chk12 : chkFn Proofs.Tryd.prog Proofs.Tryd.f12 ac12 = true := by kernel_rfl
theorem chk13 : chkFn Proofs.Tryd.prog Proofs.Tryd.f13 ac13 = true := by kernel_rfl
theorem chk14 : chkFn Proofs.Tryd.prog Proofs.Tryd.f14 ac14 = true := by kernel_rfl
theorem chk15 : chkFn Proofs.Tryd.prog Proofs.Tryd.f15 ac15 = true := by kernel_rfl
theorem chk16 : chkFn Proofs.Tryd.prog Proofs.Tryd.f16 ac16 = true := by kernel_rfl
theorem chk17 : chkFn Proofs.Tryd.prog Proofs.Tryd.f17 ac17 = true := by kernel_rfl
theorem chk18 : chkFn Proofs.Tryd.prog Proofs.Tryd.f18 ac18 = true := by kernel_rfl
theorem chk19 : chkFn Proofs.Tryd.prog Proofs.Tryd.f19 ac19 = true := by kernel_rfl
theorem chk20 : chkFn Proofs.Tryd.prog Proofs.Tryd.f20 ac20 = true := by kernel_rfl
theorem chk21 : chkFn Proofs.Tryd.prog Proofs.Tryd.f21 ac21 = true := by kernel_rfl
theorem chk22 : chkFn Proofs.Tryd.prog Proofs.Tryd.f22 ac22 = true := by kernel_rfl
theorem chk24 : chkFn Proofs.Tryd.prog Proofs.Tryd.f24 ac24 = true := by kernel_rfl
theorem chk25 : chkFn Proofs.Tryd.prog Proofs.Tryd.f25 ac25 = true := by kernel_rfl
theorem chk26 : chkFn Proofs.Tryd.prog Proofs.Tryd.f26 ac26 = true := by kernel_rfl
theorem chk27 : chkFn Proofs.Tryd.prog Proofs.Tryd.f27 ac27 = true := by kernel_rfl
theorem chk28 : chkFn Proofs.Tryd.prog Proofs.Tryd.f28 ac28 = true := by kernel_rfl
theorem chk30 : chkFn Proofs.Tryd.prog Proofs.Tryd.f30 ac30 = true := by kernel_rfl
theorem chk32 : chkFn Proofs.Tryd.prog Proofs.Tryd.f32 ac32 = true := by kernel_rfl
theorem chk33 : chkFn Proofs.Tryd.prog Proofs.Tryd.f33 ac33 = true := by kernel_rfl
theorem chk34 : chkFn Proofs.Tryd.prog Proofs.Tryd.f34 ac34 = true := by kernel_rfl
theorem chk35 : chkFn Proofs.Tryd.prog Proofs.Tryd.f35 ac35 = true := by kernel_rfl
theorem chk36 : chkFn Proofs.Tryd.prog Proofs.Tryd.f36 ac36 = true := by kernel_rfl
theorem chk37 : chkFn Proofs.Tryd.prog Proofs.Tryd.f37 ac37 = true := by kernel_rfl
theorem chk38 : chkFn Proofs.Tryd.prog Proofs.Tryd.f38 ac38 = true := by kernel_rfl
theorem chk47 : chkFn Proofs.Tryd.prog Proofs.Tryd.f47 ac47 = true := by kernel_rfl
theorem chk48 : chkFn Proofs.Tryd.prog Proofs.Tryd.f48 ac48 = true := by kernel_rfl
theorem chk49 : chkFn Proofs.Tryd.prog Proofs.Tryd.f49 ac49 = true := by kernel_rfl
theorem chk58 : chkFn Proofs.Tryd.prog Proofs.Tryd.f58 ac58 = true := by kernel_rfl
theorem chk59 : chkFn Proofs.Tryd.prog Proofs.Tryd.f59 ac59 = true := by kernel_rfl
theorem chk60 : chkFn Proofs.Tryd.prog Proofs.Tryd.f60 ac60 = true := by kernel_rfl
theorem chk61 : chkFn Proofs.Tryd.prog Proofs.Tryd.f61 ac61 = true := by kernel_rfl
theorem chk62 : chkFn Proofs.Tryd.prog Proofs.Tryd.f62 ac62 = true := by kernel_rfl
theorem chk63 : chkFn Proofs.Tryd.prog Proofs.Tryd.f63 ac63 = true := by kernel_rfl
theorem chk64 : chkFn Proofs.Tryd.prog Proofs.Tryd.f64 ac64 = true := by kernel_rfl
theorem chk65 : chkFn Proofs.Tryd.prog Proofs.Tryd.f65 ac65 = true := by kernel_rfl
theorem chk86 : chkFn Proofs.Tryd.prog Proofs.Tryd.f86 ac86 = true := by kernel_rfl
noncomputable def tab : List (Nat × AFn) := [(3, ac3), (4, ac4), (5, ac5), (6, ac6), (7, ac7), (8, ac8), (9, ac9), (10, ac10), (11, ac11), (12, ac12), (13, ac13), (14, ac14), (15, ac15), (16, ac16), (17, ac17), (18, ac18), (19, ac19), (20, ac20), (21, ac21), (22, ac22), (24, ac24), (25, ac25), (26, ac26), (27, ac27), (28, ac28), (30, ac30), (32, ac32), (33, ac33), (34, ac34), (35, ac35), (36, ac36), (37, ac37), (38, ac38), (47, ac47), (48, ac48), (49, ac49), (58, ac58), (59, ac59), (60, ac60), (61, ac61), (62, ac62), (63, ac63), (64, ac64), (65, ac65), (86, ac86)]
theorem good : Good Proofs.Tryd.prog tab := (.cons Proofs.Tryd.func3 chk3 (.cons Proofs.Tryd.func4 chk4 (.cons Proofs.Tryd.func5 chk5 (.cons Proofs.Tryd.func6 chk6 (.cons Proofs.Tryd.func7 chk7 (.cons Proofs.Tryd.func8 chk8 (.cons Proofs.Tryd.func9 chk9 (.cons Proofs.Tryd.func10 chk10 (.cons Proofs.Tryd.func11 chk11 (.cons Proofs.Tryd.func12 chk12 (.cons Proofs.Tryd.func13 chk13 (.cons Proofs.Tryd.func14 chk14 (.cons Proofs.Tryd.func15 chk15 (.cons Proofs.Tryd.func16 chk16 (.cons Proofs.Tryd.func17 chk17 (.cons Proofs.Tryd.func18 chk18 (.cons Proofs.Tryd.func19 chk19 (.cons Proofs.Tryd.func20 chk20 (.cons Proofs.Tryd.func21 chk21 (.cons Proofs.Tryd.func22 chk22 (.cons Proofs.Tryd.func24 chk24 (.cons Proofs.Tryd.func25 chk25 (.cons Proofs.Tryd.func26 chk26 (.cons Proofs.Tryd.func27 chk27 (.cons Proofs.Tryd.func28 chk28 (.cons Proofs.Tryd.func30 chk30 (.cons Proofs.Tryd.func32 chk32 (.cons Proofs.Tryd.func33 chk33 (.cons Proofs.Tryd.func34 chk34 (.cons Proofs.Tryd.func35 chk35 (.cons Proofs.Tryd.func36 chk36 (.cons Proofs.Tryd.func37 chk37 (.cons Proofs.Tryd.func38 chk38 (.cons Proofs.Tryd.func47 chk47 (.cons Proofs.Tryd.func48 chk48 (.cons Proofs.Tryd.func49 chk49 (.cons Proofs.Tryd.func58 chk58 (.cons Proofs.Tryd.func59 chk59 (.cons Proofs.Tryd.func60 chk60 (.cons Proofs.Tryd.func61 chk61 (.cons Proofs.Tryd.func62 chk62 (.cons Proofs.Tryd.func63 chk63 (.cons Proofs.Tryd.func64 chk64 (.cons Proofs.Tryd.func65 chk65 (.cons Proofs.Tryd.func86 chk86 .nil)))))))))))))))))))))))))))))))))))))))))))))
end Go.Am.C39
