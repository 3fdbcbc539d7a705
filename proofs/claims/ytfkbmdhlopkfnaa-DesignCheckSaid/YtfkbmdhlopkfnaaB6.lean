/- The machine and its runs, part 6: Am07. -/
import Derived.Test.YtfkbmdhlopkfnaaProg
import Derived.Test.YtfkbmdhlopkfnaaB5
set_option linter.unusedVariables false
set_option linter.unusedSimpArgs false
set_option linter.unusedSectionVars false
set_option maxRecDepth 1000000
namespace Go.Am.C07
open Go Go.Am
def ac3 : AFn := ⟨2, [],
 (.seq (.reg [.op (.mov (.c (.bool false)))])
 (.seq (.seq (.post (.reg [.op (.call 10 []),
  .op (.una .not (.v 0))]) [0] 2)
 (.cond (.v 0) (.seq (.reg [.op (.mov (.c (.bool false)))])
 (.ret [.v 0]))
 .skip))
 (.seq (.post (.reg [.nop 2,
  .nop 3,
  .op (.call 11 [(.v 2), (.v 3)]),
  .nop 0,
  .op (.extr 0 (.v 0)),
  .op (.extr 1 (.v 1)),
  .op (.new [(.int .i64 0), (.slice none 0 0)]),
  .eff (.st 2 (.v 0) (.v 2)),
  .nop 1]) [0, 1] 4)
 (.seq (.seq (.post (.reg [.nop 4,
  .op (.bin .lss 3 (.v 4) (.c (.int .i64 2))),
  .nop 0,
  .opg (.mov (.v 5)) 0 false,
  .opg (.bin .gtr 3 (.v 0) (.c (.int .i64 60))) 1 false,
  .op (.pick (.v 2) (.c (.bool true)) (.v 0)),
  .nop 0,
  .opg (.mov (.v 9)) 0 false,
  .opg (.bin .lss 3 (.v 0) (.c (.int .i64 2))) 1 false,
  .op (.pick (.v 2) (.c (.bool true)) (.v 0)),
  .nop 0,
  .opg (.mov (.v 12)) 0 false,
  .opg (.mov (.v 12)) 1 false,
  .opg (.bin .gtr 3 (.v 1) (.v 0)) 2 false,
  .op (.pick (.v 3) (.c (.bool true)) (.v 0))]) [0] 11)
 (.cond (.v 0) (.seq (.post (.reg [.nop 2,
  .op (.bin .eql 26 (.v 2) (.c (.int .i64 1))),
  .nop 0,
  .opg (.fld 0 (.v 2)) 0 true,
  .opg (.ld1 (.v 0)) 1 true,
  .opg (.bin .eql 3 (.v 0) (.c (.int .i64 0))) 2 true,
  .op (.pick (.v 3) (.v 0) (.c (.bool false))),
  .nop 0,
  .opg (.fld 1 (.v 6)) 0 true,
  .opg (.ld1 (.v 0)) 1 true,
  .opg (.len false (.v 0)) 2 true,
  .opg (.bin .eql 3 (.v 0) (.c (.int .i64 0))) 3 true,
  .op (.pick (.v 4) (.v 0) (.c (.bool false))),
  .nop 0]) [0] 10)
 (.ret [.v 0]))
 .skip))
 (.seq (.reg [.nop 5,
  .nop 6,
  .op (.call 12 [(.v 5), (.v 6)]),
  .nop 0])
 (.seq (.seq (.reg [.nop 0,
  .op (.bin .gtr 3 (.v 0) (.c (.int .i64 4096)))])
 (.cond (.v 0) (.seq (.post (.reg [.nop 4,
  .op (.bin .eql 26 (.v 4) (.c (.int .i64 7))),
  .nop 0,
  .opg (.fld 0 (.v 4)) 0 true,
  .opg (.ld1 (.v 0)) 1 true,
  .opg (.bin .eql 3 (.v 0) (.c (.int .i64 0))) 2 true,
  .op (.pick (.v 3) (.v 0) (.c (.bool false))),
  .nop 0,
  .opg (.fld 1 (.v 8)) 0 true,
  .opg (.ld1 (.v 0)) 1 true,
  .opg (.len false (.v 0)) 2 true,
  .opg (.bin .eql 3 (.v 0) (.c (.int .i64 0))) 3 true,
  .op (.pick (.v 4) (.v 0) (.c (.bool false))),
  .nop 0]) [0] 10)
 (.ret [.v 0]))
 .skip))
 (.seq (.post (.regD [.nop 4,
  .op (.bin .eql 26 (.v 4) (.c (.int .i64 0))),
  .nop 0,
  .opg (.fld 1 (.v 4)) 0 true,
  .opg (.ld1 (.v 0)) 1 true,
  .opg (.len false (.v 0)) 2 true,
  .opg (.mov (.v 5)) 3 true,
  .opg (.bin .eql 3 (.v 1) (.v 0)) 4 true,
  .op (.pick (.v 5) (.v 0) (.c (.bool false))),
  .nop 0,
  .opg (.mov (.v 8)) 0 true,
  .opg (.bin .gtr 3 (.v 0) (.c (.int .i64 1000))) 1 true,
  .opg (.mov (.v 0)) 2 true,
  .opg (.ldn 2 (.v 13)) 0 false,
  .opg (.mov (.v 18)) 1 false,
  .opg (.mov (.v 20)) 2 false,
  .opg (.call 14 [(.v 1), (.v 0)]) 3 false,
  .opg (.call 13 [(.v 3), (.v 0)]) 4 false,
  .opg (.pick (.v 5) (.c (.bool true)) (.v 0)) 8 true,
  .op (.pick (.v 9) (.v 0) (.c (.bool false))),
  .nop 0] [0, 1, 3, 7, 15, 31, 7, 127, 255, 511, 1023, 2047, 4095, 8191, 8191, 8191, 57343, 131071, 262143, 524287, 1048575]) [0] 17)
 (.ret [.v 0]))))))))⟩


def ac4 : AFn := ⟨1, [],
 (.seq (.reg [.op (.box (.v 0)),
  .op (.mov (.c (.bool false)))])
 (.seq (.seq (.post (.reg [.op (.call 10 []),
  .op (.una .not (.v 0))]) [0] 2)
 (.cond (.v 0) (.seq (.reg [.op (.mov (.c (.bool false)))])
 (.ret [.v 0]))
 .skip))
 (.seq (.seq (.post (.reg [.op (.ldn 2 (.v 2)),
  .op (.call 15 [(.v 0)]),
  .op (.una .not (.v 0))]) [0] 3)
 (.cond (.v 0) (.seq (.reg [.op (.mov (.c (.bool true)))])
 (.ret [.v 0]))
 .skip))
 (.seq (.post (.reg [.op (.ldn 2 (.v 3)),
  .op (.call 16 [(.v 0)]),
  .nop 0,
  .op (.extr 0 (.v 0)),
  .op (.extr 1 (.v 1)),
  .op (.extr 2 (.v 2)),
  .nop 2,
  .nop 1,
  .nop 0]) [0, 1, 2] 5)
 (.seq (.post (.reg [.op (.ldn 2 (.v 6)),
  .op (.call 17 [(.v 0)]),
  .nop 0,
  .op (.extr 0 (.v 0)),
  .op (.extr 1 (.v 1)),
  .op (.extr 2 (.v 2)),
  .nop 2,
  .nop 1,
  .nop 0]) [0, 1, 2] 5)
 (.seq (.seq (.reg [.nop 0,
  .op (.una .not (.v 0))])
 (.cond (.v 0) (.seq (.post (.reg [.nop 4,
  .op (.bin .eql 26 (.v 4) (.c (.int .i64 5))),
  .nop 0,
  .opg (.mov (.v 7)) 0 true,
  .opg (.bin .eql 3 (.v 0) (.c (.int .i64 0))) 1 true,
  .op (.pick (.v 2) (.v 0) (.c (.bool false))),
  .nop 0,
  .opg (.mov (.v 9)) 0 true,
  .opg (.bin .eql 3 (.v 0) (.c (.int .i64 0))) 1 true,
  .op (.pick (.v 2) (.v 0) (.c (.bool false))),
  .nop 0]) [0] 7)
 (.ret [.v 0]))
 .skip))
 (.seq (.post (.reg [.nop 4,
  .op (.bin .eql 26 (.v 4) (.c (.int .i64 0))),
  .nop 0,
  .opg (.mov (.v 7)) 0 true,
  .opg (.mov (.v 5)) 1 true,
  .opg (.bin .eql 3 (.v 1) (.v 0)) 2 true,
  .op (.pick (.v 3) (.v 0) (.c (.bool false))),
  .nop 0,
  .opg (.mov (.v 10)) 0 true,
  .opg (.mov (.v 8)) 1 true,
  .opg (.bin .eql 3 (.v 1) (.v 0)) 2 true,
  .op (.pick (.v 3) (.v 0) (.c (.bool false))),
  .nop 0]) [0] 9)
 (.ret [.v 0]))))))))⟩


def ac5 : AFn := ⟨2, [],
 (.seq (.reg [.op (.mov (.c (.bool false)))])
 (.seq (.seq (.post (.reg [.op (.call 10 []),
  .op (.una .not (.v 0))]) [0] 2)
 (.cond (.v 0) (.seq (.reg [.op (.mov (.c (.bool false)))])
 (.ret [.v 0]))
 .skip))
 (.seq (.post (.reg [.nop 2,
  .nop 3,
  .op (.call 18 [(.v 2), (.v 3)]),
  .nop 0,
  .op (.extr 0 (.v 0)),
  .op (.extr 1 (.v 1)),
  .op (.new [(.int .i64 0), (.slice none 0 0)]),
  .eff (.st 2 (.v 0) (.v 2)),
  .nop 1]) [0, 1] 4)
 (.seq (.seq (.post (.reg [.nop 4,
  .op (.bin .geq 3 (.v 4) (.c (.int .i64 2))),
  .nop 0,
  .opg (.mov (.v 5)) 0 true,
  .opg (.bin .leq 3 (.v 0) (.c (.int .i64 60))) 1 true,
  .op (.pick (.v 2) (.v 0) (.c (.bool false))),
  .nop 0,
  .opg (.mov (.v 9)) 0 true,
  .opg (.bin .geq 3 (.v 0) (.c (.int .i64 2))) 1 true,
  .op (.pick (.v 2) (.v 0) (.c (.bool false))),
  .nop 0,
  .opg (.mov (.v 12)) 0 true,
  .opg (.mov (.v 12)) 1 true,
  .opg (.bin .leq 3 (.v 1) (.v 0)) 2 true,
  .op (.pick (.v 3) (.v 0) (.c (.bool false)))]) [0] 11)
 (.cond (.v 0) (.post (.seq (.reg [.nop 5,
  .nop 6,
  .op (.call 12 [(.v 5), (.v 6)]),
  .nop 0])
 (.seq (.post (.reg [.nop 0,
  .op (.bin .gtr 3 (.v 0) (.c (.int .i64 1000))),
  .nop 0,
  .opg (.mov (.v 1)) 0 true,
  .opg (.bin .leq 3 (.v 0) (.c (.int .i64 4096))) 1 true,
  .op (.pick (.v 2) (.v 0) (.c (.bool false))),
  .nop 0,
  .opg (.mov (.v 11)) 0 true,
  .opg (.bin .geq 3 (.v 0) (.c (.int .i64 4))) 1 true,
  .op (.pick (.v 2) (.v 0) (.c (.bool false))),
  .nop 0,
  .opg (.mov (.v 14)) 0 true,
  .opg (.bin .leq 3 (.v 0) (.c (.int .i64 16))) 1 true,
  .op (.pick (.v 2) (.v 0) (.c (.bool false))),
  .nop 0,
  .opg (.mov (.v 16)) 0 true,
  .opg (.bin .neq 3 (.v 0) (.c (.int .i64 16))) 1 true,
  .opg (.mov (.v 0)) 2 true,
  .opg (.mov (.v 20)) 0 false,
  .opg (.bin .neq 3 (.v 0) (.c (.int .i64 4))) 1 false,
  .opg (.pick (.v 2) (.c (.bool true)) (.v 0)) 5 true,
  .op (.pick (.v 6) (.v 0) (.c (.bool false)))]) [0] 17)
 (.cond (.v 0) (.seq (.post (.reg [.nop 4,
  .op (.bin .eql 26 (.v 4) (.c (.int .i64 0))),
  .nop 0,
  .opg (.fld 0 (.v 4)) 0 true,
  .opg (.ld1 (.v 0)) 1 true,
  .opg (.mov (.v 10)) 2 true,
  .opg (.bin .eql 3 (.v 1) (.v 0)) 3 true,
  .op (.pick (.v 4) (.v 0) (.c (.bool false))),
  .nop 0,
  .opg (.fld 1 (.v 9)) 0 true,
  .opg (.ld1 (.v 0)) 1 true,
  .opg (.len false (.v 0)) 2 true,
  .opg (.mov (.v 10)) 3 true,
  .opg (.bin .eql 3 (.v 1) (.v 0)) 4 true,
  .op (.pick (.v 5) (.v 0) (.c (.bool false))),
  .nop 0]) [0] 12)
 (.ret [.v 0]))
 .skip))) [6] 2)
 (.post .skip [4] 0)))
 (.seq (.post (.reg [.nop 6,
  .nop 7,
  .op (.call 19 [(.v 6), (.v 7)]),
  .nop 0,
  .op (.extr 0 (.v 0)),
  .op (.extr 1 (.v 1)),
  .op (.new [(.int .i64 0), (.slice none 0 0)]),
  .eff (.st 2 (.v 0) (.v 2)),
  .nop 1]) [0, 1] 4)
 (.seq (.post (.reg [.nop 5,
  .nop 1,
  .op (.bin .eql 26 (.v 5) (.v 1)),
  .nop 0,
  .opg (.ldn 2 (.v 5)) 0 true,
  .opg (.ldn 2 (.v 2)) 1 true,
  .opg (.call 13 [(.v 1), (.v 0)]) 2 true,
  .op (.pick (.v 3) (.v 0) (.c (.bool false))),
  .nop 0]) [0] 5)
 (.ret [.v 0])))))))⟩


def ac6 : AFn := ⟨2, [],
 (.seq (.reg [.op (.mov (.c (.bool false)))])
 (.seq (.seq (.post (.reg [.op (.call 10 []),
  .op (.una .not (.v 0))]) [0] 2)
 (.cond (.v 0) (.seq (.reg [.op (.mov (.c (.bool false)))])
 (.ret [.v 0]))
 .skip))
 (.seq (.post (.reg [.op (.build [(.int .i64 0), (.int .i64 0)] [(0, 1, (.c (.int .i64 13))), (1, 1, (.c (.int .i64 4)))]),
  .op (.build [(.int .i64 0), (.int .i64 0)] [(0, 1, (.c (.int .i64 16))), (1, 1, (.c (.int .i64 4)))]),
  .op (.build [(.int .i64 0), (.int .i64 0)] [(0, 1, (.c (.int .i64 21))), (1, 1, (.c (.int .i64 5)))]),
  .op (.build [(.int .i64 0), (.int .i64 0)] [(0, 1, (.c (.int .i64 25))), (1, 1, (.c (.int .i64 5)))]),
  .op (.build [(.int .i64 0), (.int .i64 0)] [(0, 1, (.c (.int .i64 31))), (1, 1, (.c (.int .i64 6)))]),
  .op (.build [(.int .i64 0), (.int .i64 0)] [(0, 1, (.c (.int .i64 49))), (1, 1, (.c (.int .i64 7)))]),
  .op (.build [(.int .i64 0), (.int .i64 0)] [(0, 1, (.c (.int .i64 57))), (1, 1, (.c (.int .i64 8)))]),
  .op (.mkl 2 7 [(.int .i64 0), (.int .i64 0)] [(0, (.v 6)), (1, (.v 5)), (2, (.v 4)), (3, (.v 3)), (4, (.v 2)), (5, (.v 1)), (6, (.v 0))]),
  .nop 0]) [0] 8)
 (.seq (.post (.reg [.nop 3,
  .op (.conv .i64 (.v 3)),
  .op (.bin .rem 3 (.v 0) (.c (.int .i64 13))),
  .op (.bin .add 3 (.c (.int .i64 4)) (.v 0)),
  .nop 0]) [0] 3)
 (.seq (.post (.reg [.nop 5,
  .op (.conv .i64 (.v 5)),
  .nop 1,
  .op (.bin .sub 3 (.v 1) (.c (.int .i64 3))),
  .op (.bin .rem 3 (.v 1) (.v 0)),
  .op (.bin .add 3 (.c (.int .i64 4)) (.v 0)),
  .nop 0]) [0] 4)
 (.seq (.seq (.reg [.nop 5,
  .op (.bin .geq 5 (.v 5) (.c (.int .u8 200)))])
 (.cond (.v 0) (.post (.post (.regD [.nop 3,
  .nop 7,
  .op (.conv .i64 (.v 7)),
  .nop 4,
  .op (.len false (.v 4)),
  .op (.bin .rem 3 (.v 1) (.v 0)),
  .op (.idx 2 (.v 6) (.v 0)),
  .op (.ida 2 1 (.v 0) (.c (.int .i64 0))),
  .op (.ld1 (.v 0)),
  .nop 9,
  .nop 13,
  .op (.conv .i64 (.v 13)),
  .nop 10,
  .op (.len false (.v 10)),
  .op (.bin .rem 3 (.v 1) (.v 0)),
  .op (.idx 2 (.v 12) (.v 0)),
  .op (.ida 2 1 (.v 0) (.c (.int .i64 1))),
  .op (.ld1 (.v 0)),
  .nop 6,
  .nop 0] [0, 0, 2, 0, 8, 30, 63, 127, 255, 0, 0, 1024, 0, 4096, 15360, 32256, 65024, 130560, 511, 524287]) [0, 6] 12) [1, 0] 2)
 (.post .skip [2, 1] 0)))
 (.seq (.seq (.post (.reg [.nop 1,
  .op (.bin .gtr 3 (.v 1) (.c (.int .i64 16))),
  .nop 0,
  .opg (.mov (.v 1)) 0 false,
  .opg (.mov (.v 3)) 1 false,
  .opg (.call 12 [(.v 1), (.v 0)]) 2 false,
  .opg (.bin .gtr 3 (.v 0) (.c (.int .i64 300))) 3 false,
  .opg (.mov (.v 0)) 4 false,
  .opg (.mov (.v 14)) 0 true,
  .opg (.bin .lss 5 (.v 0) (.c (.int .u8 200))) 1 true,
  .opg (.pick (.v 2) (.v 0) (.c (.bool false))) 7 false,
  .op (.pick (.v 8) (.c (.bool true)) (.v 0))]) [0] 10)
 (.cond (.v 0) (.seq (.reg [.op (.mov (.c (.bool true)))])
 (.ret [.v 0]))
 .skip))
 (.seq (.post (.reg [.nop 1,
  .nop 2,
  .op (.call 18 [(.v 1), (.v 2)]),
  .nop 0,
  .op (.extr 0 (.v 0)),
  .op (.extr 1 (.v 1)),
  .op (.new [(.int .i64 0), (.slice none 0 0)]),
  .eff (.st 2 (.v 0) (.v 2)),
  .nop 1]) [0, 1] 4)
 (.seq (.post (.reg [.op (.ldn 2 (.v 0)),
  .op (.call 16 [(.v 0)]),
  .nop 0,
  .op (.extr 0 (.v 0)),
  .op (.extr 1 (.v 1)),
  .op (.extr 2 (.v 2)),
  .nop 2,
  .nop 1,
  .nop 0]) [0, 1, 2] 5)
 (.seq (.seq (.post (.reg [.nop 4,
  .op (.bin .neq 26 (.v 4) (.c (.int .i64 0))),
  .nop 0,
  .opg (.mov (.v 1)) 0 false,
  .opg (.bin .neq 26 (.v 0) (.c (.int .i64 0))) 1 false,
  .op (.pick (.v 2) (.c (.bool true)) (.v 0)),
  .nop 0,
  .opg (.fld 0 (.v 7)) 0 false,
  .opg (.ld1 (.v 0)) 1 false,
  .opg (.mov (.v 12)) 2 false,
  .opg (.bin .neq 3 (.v 1) (.v 0)) 3 false,
  .op (.pick (.v 4) (.c (.bool true)) (.v 0)),
  .nop 0,
  .opg (.fld 1 (.v 12)) 0 false,
  .opg (.ld1 (.v 0)) 1 false,
  .opg (.len false (.v 0)) 2 false,
  .opg (.bin .lss 3 (.v 0) (.c (.int .i64 1))) 3 false,
  .op (.pick (.v 4) (.c (.bool true)) (.v 0)),
  .nop 0,
  .opg (.fld 1 (.v 17)) 0 false,
  .opg (.ld1 (.v 0)) 1 false,
  .opg (.idx 1 (.v 0) (.c (.int .i64 0))) 2 false,
  .opg (.ld1 (.v 0)) 3 false,
  .opg (.len false (.v 0)) 4 false,
  .opg (.mov (.v 26)) 5 false,
  .opg (.bin .neq 3 (.v 1) (.v 0)) 6 false,
  .op (.pick (.v 7) (.c (.bool true)) (.v 0))]) [0] 22)
 (.cond (.v 0) (.seq (.reg [.op (.mov (.c (.bool false)))])
 (.ret [.v 0]))
 .skip))
 (.seq (.post (.reg [.op (.fld 1 (.v 4)),
  .op (.ld1 (.v 0)),
  .op (.len false (.v 0)),
  .nop 0]) [0] 3)
 (.seq (.post (.reg [.nop 0,
  .nop 9,
  .op (.bin .mul 3 (.v 0) (.v 9)),
  .nop 9,
  .nop 5,
  .op (.bin .mul 3 (.v 9) (.v 5)),
  .op (.bin .eql 3 (.v 1) (.v 0)),
  .nop 0,
  .opg (.mov (.v 7)) 0 true,
  .opg (.mov (.v 13)) 1 true,
  .opg (.bin .sub 3 (.v 0) (.c (.int .i64 1))) 2 true,
  .opg (.bin .mul 3 (.v 2) (.v 0)) 3 true,
  .opg (.mov (.v 10)) 4 true,
  .opg (.mov (.v 16)) 5 true,
  .opg (.bin .sub 3 (.v 0) (.c (.int .i64 1))) 6 true,
  .opg (.bin .mul 3 (.v 2) (.v 0)) 7 true,
  .opg (.bin .eql 3 (.v 4) (.v 0)) 8 true,
  .op (.pick (.v 9) (.v 0) (.c (.bool false))),
  .nop 0,
  .opg (.mov (.v 22)) 0 true,
  .opg (.mov (.v 22)) 1 true,
  .opg (.bin .eql 3 (.v 1) (.v 0)) 2 true,
  .opg (.mov (.v 0)) 3 true,
  .opg (.mov (.v 17)) 0 false,
  .opg (.mov (.v 26)) 1 false,
  .opg (.bin .geq 3 (.v 1) (.v 0)) 2 false,
  .opg (.pick (.v 3) (.c (.bool true)) (.v 0)) 7 true,
  .op (.pick (.v 8) (.v 0) (.c (.bool false))),
  .nop 0,
  .opg (.mov (.v 25)) 0 true,
  .opg (.bin .geq 3 (.v 0) (.c (.int .i64 1))) 1 true,
  .op (.pick (.v 2) (.v 0) (.c (.bool false))),
  .nop 0]) [0] 25)
 (.ret [.v 0])))))))))))))⟩


def ac7L0b : AC :=
 (.post (.seq (.seq (.reg [.nop 1,
  .op (.fld 1 (.v 7)),
  .op (.ld1 (.v 0)),
  .op (.len false (.v 0)),
  .op (.bin .lss 3 (.v 4) (.v 0))])
 (.cond (.v 0) .skip
 (.pre [4] 6 (.exit 0))))
 (.seq (.block 1 [[7], [18], [17], [16], [15], [], [8, 14], [], [], [13], [10], [6], [3], [0], [1], [2]] (.post (.seq (.reg [.op (.fld 1 (.v 11)),
  .op (.ld1 (.v 0)),
  .nop 7,
  .op (.idx 1 (.v 0) (.v 7)),
  .op (.ld1 (.v 0)),
  .nop 17,
  .op (.call 20 [(.v 0), (.v 17)]),
  .nop 0,
  .opg (.fld 1 (.v 16)) 0 true,
  .opg (.ld1 (.v 0)) 1 true,
  .opg (.mov (.v 12)) 2 true,
  .opg (.idx 1 (.v 1) (.v 0)) 3 true,
  .opg (.ld1 (.v 0)) 4 true,
  .opg (.mov (.v 24)) 5 true,
  .opg (.call 20 [(.v 1), (.v 0)]) 6 true,
  .op (.pick (.v 7) (.v 0) (.c (.bool false)))])
 (.cond (.v 0) (.reg [.nop 17,
  .op (.bin .add 3 (.v 17) (.c (.int .i64 1))),
  .nop 0])
 (.post .skip [17] 0))) [0] 14))
 (.reg [.nop 6,
  .op (.bin .add 3 (.v 6) (.c (.int .i64 1))),
  .nop 0]))) [1, 0] 8)
def ac7L0 : AC := .loop [[7], [8], [], [], [13], [10], [6], [3], [0], [1], [2]] ac7L0b
def ac7 : AFn := ⟨3, [],
 (.seq (.reg [.op (.box (.v 0)),
  .op (.mov (.c (.bool false)))])
 (.seq (.seq (.post (.reg [.op (.call 10 []),
  .op (.una .not (.v 0))]) [0] 2)
 (.cond (.v 0) (.seq (.reg [.op (.mov (.c (.bool false)))])
 (.ret [.v 0]))
 .skip))
 (.seq (.seq (.post (.reg [.op (.ldn 2 (.v 2)),
  .op (.call 15 [(.v 0)]),
  .op (.una .not (.v 0))]) [0] 3)
 (.cond (.v 0) (.seq (.reg [.op (.mov (.c (.bool true)))])
 (.ret [.v 0]))
 .skip))
 (.seq (.reg [.op (.mov (.c (.int .i64 0)))])
 (.seq (.seq (.reg [.op (.mov (.c (.int .i64 0)))])
 (.block 0 [[7], [], [], [13], [10], [6], [3], [0], [1], [2]] (.pre [1, 0] 0 ac7L0)))
 (.seq (.seq (.post (.reg [.nop 8,
  .op (.bin .lss 3 (.v 8) (.c (.int .i64 0))),
  .nop 0,
  .opg (.mov (.v 9)) 0 false,
  .opg (.fld 0 (.v 8)) 1 false,
  .opg (.ld1 (.v 0)) 2 false,
  .opg (.bin .geq 3 (.v 2) (.v 0)) 3 false,
  .op (.pick (.v 4) (.c (.bool true)) (.v 0)),
  .nop 0,
  .opg (.mov (.v 15)) 0 false,
  .opg (.bin .lss 3 (.v 0) (.c (.int .i64 0))) 1 false,
  .op (.pick (.v 2) (.c (.bool true)) (.v 0)),
  .nop 0,
  .opg (.mov (.v 18)) 0 false,
  .opg (.fld 0 (.v 16)) 1 false,
  .opg (.ld1 (.v 0)) 2 false,
  .opg (.bin .geq 3 (.v 2) (.v 0)) 3 false,
  .op (.pick (.v 4) (.c (.bool true)) (.v 0))]) [0] 14)
 (.cond (.v 0) (.reg [.op (.mov (.c (.int .i64 0)))])
 (.post .skip [1] 0)))
 (.seq (.post (.reg [.op (.ldn 2 (.v 8)),
  .nop 11,
  .nop 12,
  .op (.call 21 [(.v 0), (.v 11), (.v 12)]),
  .nop 2,
  .op (.bin .eql 3 (.v 0) (.v 2)),
  .nop 0,
  .opg (.ldn 2 (.v 11)) 0 true,
  .opg (.mov (.v 15)) 1 true,
  .opg (.mov (.v 15)) 2 true,
  .opg (.call 21 [(.v 2), (.v 1), (.v 0)]) 3 true,
  .opg (.mov (.v 7)) 4 true,
  .opg (.bin .eql 3 (.v 1) (.v 0)) 5 true,
  .op (.pick (.v 6) (.v 0) (.c (.bool false))),
  .nop 0]) [0] 10)
 (.ret [.v 0]))))))))⟩


def ac8L0b : AC :=
 (.post (.seq (.seq (.reg [.nop 1,
  .nop 14,
  .op (.bin .lss 3 (.v 1) (.v 14))])
 (.cond (.v 0) .skip
 (.pre [1, 2] 3 (.exit 2))))
 (.seq (.block 3 [[2], [51], [], [11, 49], [], [46], [], [10, 44], [], [43], [31, 9], [30, 8], [29, 7], [5], [25, 6, 32], [19, 4, 22], [18, 3, 21, 45, 50], [14], [], [0, 16]] (.post (.seq (.reg [.nop 10,
  .nop 10])
 (.seq (.seq (.reg [.nop 6,
  .nop 2,
  .op (.bin .eql 3 (.v 6) (.v 2))])
 (.cond (.v 0) (.post (.reg [.nop 12,
  .nop 12]) [12] 0)
 (.post .skip [11] 0)))
 (.seq (.reg [.op (.ldn 2 (.v 14)),
  .nop 9,
  .nop 5,
  .op (.call 21 [(.v 0), (.v 9), (.v 5)]),
  .nop 2,
  .op (.bin .neq 3 (.v 0) (.v 2))])
 (.cond (.v 0) (.seq (.reg [.op (.mov (.c (.bool false)))])
 (.ret [.v 0]))
 .skip)))) [6] 5))
 (.reg [.nop 3,
  .op (.bin .add 3 (.v 3) (.c (.int .i64 1))),
  .nop 0]))) [1, 0] 5)
def ac8L0 : AC := .loop [[2], [11], [], [46], [], [10, 44], [], [43], [31, 9], [30, 8], [29, 7], [5], [25, 6, 32], [19, 4, 22], [18, 3, 21, 45], [14], [], [0, 16]] ac8L0b
def ac8L1b : AC :=
 (.post (.seq (.seq (.reg [.nop 1,
  .nop 10,
  .op (.bin .lss 3 (.v 1) (.v 10))])
 (.cond (.v 0) .skip
 (.pre [1] 3 (.exit 0))))
 (.seq (.block 1 [[2], [46], [], [10, 44], [], [43], [31, 9], [30, 8], [29, 7], [5], [25, 6, 32], [19, 4, 22], [18, 3, 21, 45], [14], [], [0, 16]] (.post (.seq (.reg [.op (.mov (.c (.int .i64 0)))])
 (.block 2 [[2], [11], [], [46], [], [10, 44], [], [43], [31, 9], [30, 8], [29, 7], [5], [25, 6, 32], [19, 4, 22], [18, 3, 21, 45], [14], [], [0, 16]] (.pre [2, 0] 0 ac8L0))) [0] 3))
 (.reg [.nop 3,
  .op (.bin .add 3 (.v 3) (.c (.int .i64 1))),
  .nop 0]))) [1, 0] 5)
def ac8L1 : AC := .loop [[2], [10], [], [43], [31, 9], [30, 8], [29, 7], [5], [25, 6, 32], [19, 4, 22], [18, 3, 21], [14], [], [0, 16]] ac8L1b
def ac8 : AFn := ⟨1, [],
 (.seq (.reg [.op (.mov (.c (.bool false)))])
 (.seq (.seq (.post (.reg [.op (.call 10 []),
  .op (.una .not (.v 0))]) [0] 2)
 (.cond (.v 0) (.seq (.reg [.op (.mov (.c (.bool false)))])
 (.ret [.v 0]))
 .skip))
 (.seq (.post (.reg [.nop 2,
  .op (.call 22 [(.v 2)]),
  .nop 0,
  .op (.extr 0 (.v 0)),
  .op (.extr 1 (.v 1)),
  .nop 1,
  .nop 0]) [0, 1] 3)
 (.seq (.post (.reg [.nop 1,
  .nop 0,
  .op (.call 11 [(.v 1), (.v 0)]),
  .nop 0,
  .op (.extr 0 (.v 0)),
  .op (.extr 1 (.v 1)),
  .op (.new [(.int .i64 0), (.slice none 0 0)]),
  .eff (.st 2 (.v 0) (.v 2)),
  .nop 1]) [0, 1] 4)
 (.seq (.post (.reg [.op (.ldn 2 (.v 0)),
  .op (.call 16 [(.v 0)]),
  .nop 0,
  .op (.extr 0 (.v 0)),
  .op (.extr 1 (.v 1)),
  .op (.extr 2 (.v 2)),
  .nop 2,
  .nop 1,
  .nop 0]) [0, 1, 2] 5)
 (.seq (.seq (.post (.reg [.nop 4,
  .op (.bin .neq 26 (.v 4) (.c (.int .i64 0))),
  .nop 0,
  .opg (.mov (.v 1)) 0 false,
  .opg (.bin .neq 26 (.v 0) (.c (.int .i64 0))) 1 false,
  .op (.pick (.v 2) (.c (.bool true)) (.v 0)),
  .nop 0,
  .opg (.fld 0 (.v 7)) 0 false,
  .opg (.ld1 (.v 0)) 1 false,
  .opg (.mov (.v 12)) 2 false,
  .opg (.bin .neq 3 (.v 1) (.v 0)) 3 false,
  .op (.pick (.v 4) (.c (.bool true)) (.v 0))]) [0] 9)
 (.cond (.v 0) (.seq (.reg [.op (.mov (.c (.bool false)))])
 (.ret [.v 0]))
 .skip))
 (.seq (.seq (.reg [.op (.mov (.c (.int .i64 0)))])
 (.block 0 [[2], [], [43], [31, 9], [30, 8], [29, 7], [5], [25, 6, 32], [19, 4, 22], [18, 3, 21], [14], [], [0, 16]] (.pre [10, 0] 0 ac8L1)))
 (.seq (.post (.reg [.op (.fld 1 (.v 6)),
  .op (.ld1 (.v 0)),
  .op (.len false (.v 0)),
  .nop 11,
  .op (.bin .mul 3 (.v 0) (.v 11)),
  .nop 13,
  .nop 9,
  .op (.bin .mul 3 (.v 13) (.v 9)),
  .op (.bin .eql 3 (.v 1) (.v 0)),
  .nop 0,
  .opg (.mov (.v 11)) 0 true,
  .opg (.mov (.v 15)) 1 true,
  .opg (.bin .sub 3 (.v 0) (.c (.int .i64 1))) 2 true,
  .opg (.bin .mul 3 (.v 2) (.v 0)) 3 true,
  .opg (.mov (.v 14)) 4 true,
  .opg (.mov (.v 20)) 5 true,
  .opg (.bin .sub 3 (.v 0) (.c (.int .i64 1))) 6 true,
  .opg (.bin .mul 3 (.v 2) (.v 0)) 7 true,
  .opg (.bin .eql 3 (.v 4) (.v 0)) 8 true,
  .op (.pick (.v 9) (.v 0) (.c (.bool false))),
  .nop 0]) [0] 16)
 (.ret [.v 0])))))))))⟩


def ac9 : AFn := ⟨2, [],
 (.seq (.reg [.op (.mov (.c (.bool false)))])
 (.seq (.seq (.post (.reg [.op (.call 10 []),
  .op (.una .not (.v 0))]) [0] 2)
 (.cond (.v 0) (.seq (.reg [.op (.mov (.c (.bool false)))])
 (.ret [.v 0]))
 .skip))
 (.seq (.post (.reg [.nop 2,
  .op (.call 22 [(.v 2)]),
  .nop 0,
  .op (.extr 0 (.v 0)),
  .op (.extr 1 (.v 1)),
  .nop 1,
  .nop 0]) [0, 1] 3)
 (.seq (.post (.reg [.nop 1,
  .nop 0,
  .op (.call 11 [(.v 1), (.v 0)]),
  .nop 0,
  .op (.extr 0 (.v 0)),
  .op (.extr 1 (.v 1)),
  .op (.new [(.int .i64 0), (.slice none 0 0)]),
  .eff (.st 2 (.v 0) (.v 2)),
  .nop 1]) [0, 1] 4)
 (.seq (.post (.reg [.op (.ldn 2 (.v 0)),
  .op (.call 16 [(.v 0)]),
  .nop 0,
  .op (.extr 0 (.v 0)),
  .op (.extr 1 (.v 1)),
  .op (.extr 2 (.v 2)),
  .nop 2,
  .nop 1,
  .nop 0]) [0, 1, 2] 5)
 (.seq (.seq (.post (.reg [.nop 4,
  .op (.bin .neq 26 (.v 4) (.c (.int .i64 0))),
  .nop 0,
  .opg (.mov (.v 1)) 0 false,
  .opg (.bin .neq 26 (.v 0) (.c (.int .i64 0))) 1 false,
  .op (.pick (.v 2) (.c (.bool true)) (.v 0)),
  .nop 0,
  .opg (.fld 1 (.v 7)) 0 false,
  .opg (.ld1 (.v 0)) 1 false,
  .opg (.len false (.v 0)) 2 false,
  .opg (.bin .eql 3 (.v 0) (.c (.int .i64 0))) 3 false,
  .op (.pick (.v 4) (.c (.bool true)) (.v 0))]) [0] 9)
 (.cond (.v 0) (.seq (.reg [.op (.mov (.c (.bool false)))])
 (.ret [.v 0]))
 .skip))
 (.seq (.post (.regD [.nop 7,
  .op (.mkl 1 0 [(.slice none 0 0)] []),
  .op (.fld 1 (.v 5)),
  .op (.ld1 (.v 0)),
  .op (.app 1 24 (.v 2) (.v 0)),
  .op (.fld 1 (.v 8)),
  .op (.ld1 (.v 0)),
  .op (.app 1 24 (.v 2) (.v 0)),
  .op (.build [(.int .i64 0), (.slice none 0 0)] [(0, 1, (.v 14)), (1, 1, (.v 0))]),
  .op (.new [(.int .i64 0), (.slice none 0 0)]),
  .eff (.st 2 (.v 0) (.v 1))] [0, 0, 0, 4, 14, 0, 32, 126, 255, 0, 1023]) [0] 9)
 (.seq (.post (.reg [.op (.ldn 2 (.v 0)),
  .op (.call 16 [(.v 0)]),
  .nop 0,
  .op (.extr 0 (.v 0)),
  .op (.extr 1 (.v 1)),
  .op (.extr 2 (.v 2)),
  .nop 2,
  .nop 1,
  .nop 0]) [0, 1, 2] 5)
 (.seq (.post (.reg [.nop 15,
  .op (.conv .i64 (.v 15)),
  .op (.fld 1 (.v 9)),
  .op (.ld1 (.v 0)),
  .op (.len false (.v 0)),
  .op (.bin .rem 3 (.v 3) (.v 0)),
  .nop 0]) [0] 5)
 (.seq (.post (.regD [.nop 12,
  .op (.mkl 1 0 [(.slice none 0 0)] []),
  .op (.fld 1 (.v 10)),
  .op (.ld1 (.v 0)),
  .nop 3,
  .op (.slc 1 (.v 0) none (some (.v 3))),
  .op (.app 1 24 (.v 3) (.v 0)),
  .op (.fld 1 (.v 14)),
  .op (.ld1 (.v 0)),
  .nop 7,
  .op (.bin .add 3 (.v 7) (.c (.int .i64 1))),
  .op (.slc 1 (.v 1) (some (.v 0)) none),
  .op (.app 1 24 (.v 4) (.v 0)),
  .op (.build [(.int .i64 0), (.slice none 0 0)] [(0, 1, (.v 22)), (1, 1, (.v 0))]),
  .op (.new [(.int .i64 0), (.slice none 0 0)]),
  .eff (.st 2 (.v 0) (.v 1))] [0, 0, 0, 4, 0, 28, 62, 0, 128, 0, 512, 1920, 4094, 8191, 0, 32767]) [0] 12)
 (.seq (.post (.reg [.op (.ldn 2 (.v 0)),
  .op (.call 16 [(.v 0)]),
  .nop 0,
  .op (.extr 0 (.v 0)),
  .op (.extr 1 (.v 1)),
  .op (.extr 2 (.v 2)),
  .nop 2,
  .nop 1,
  .nop 0]) [0] 5)
 (.seq (.post (.reg [.nop 3,
  .op (.bin .eql 26 (.v 3) (.c (.int .i64 0))),
  .nop 0,
  .opg (.mov (.v 6)) 0 true,
  .opg (.mov (.v 12)) 1 true,
  .opg (.bin .mul 3 (.c (.int .i64 2)) (.v 0)) 2 true,
  .opg (.bin .eql 3 (.v 2) (.v 0)) 3 true,
  .op (.pick (.v 4) (.v 0) (.c (.bool false))),
  .nop 0,
  .opg (.mov (.v 10)) 0 true,
  .opg (.mov (.v 16)) 1 true,
  .opg (.bin .mul 3 (.c (.int .i64 2)) (.v 0)) 2 true,
  .opg (.bin .eql 3 (.v 2) (.v 0)) 3 true,
  .op (.pick (.v 4) (.v 0) (.c (.bool false))),
  .nop 0,
  .opg (.mov (.v 11)) 0 true,
  .opg (.bin .eql 26 (.v 0) (.c (.int .i64 5))) 1 true,
  .op (.pick (.v 2) (.v 0) (.c (.bool false))),
  .nop 0]) [0] 14)
 (.ret [.v 0])))))))))))))⟩


def ac10 : AFn := ⟨0, [],
 (.seq (.reg [.op (.mov (.c (.bool false)))])
 (.seq (.post (.reg [.op (.call 11 [(.c (.int .i64 4)), (.c (.int .i64 2))]),
  .nop 0,
  .op (.extr 0 (.v 0)),
  .op (.extr 1 (.v 1)),
  .op (.new [(.int .i64 0), (.slice none 0 0)]),
  .eff (.st 2 (.v 0) (.v 2)),
  .nop 1]) [0, 1] 4)
 (.seq (.post (.reg [.op (.ldn 2 (.v 0)),
  .op (.call 16 [(.v 0)]),
  .nop 0,
  .op (.extr 0 (.v 0)),
  .op (.extr 1 (.v 1)),
  .op (.extr 2 (.v 2)),
  .nop 2,
  .nop 1,
  .nop 0]) [0, 1, 2] 5)
 (.seq (.post (.reg [.op (.call 18 [(.c (.int .i64 13)), (.c (.int .i64 4))]),
  .nop 0,
  .op (.extr 0 (.v 0)),
  .op (.extr 1 (.v 1)),
  .op (.new [(.int .i64 0), (.slice none 0 0)]),
  .eff (.st 2 (.v 0) (.v 2)),
  .nop 1]) [0, 1] 4)
 (.seq (.post (.reg [.op (.ldn 2 (.v 0)),
  .op (.call 16 [(.v 0)]),
  .nop 0,
  .op (.extr 0 (.v 0)),
  .op (.extr 1 (.v 1)),
  .op (.extr 2 (.v 2)),
  .nop 2,
  .nop 1,
  .nop 0]) [0, 1, 2] 5)
 (.seq (.post (.reg [.op (.call 18 [(.c (.int .i64 40)), (.c (.int .i64 8))]),
  .nop 0,
  .op (.extr 0 (.v 0)),
  .op (.extr 1 (.v 1)),
  .op (.new [(.int .i64 0), (.slice none 0 0)]),
  .eff (.st 2 (.v 0) (.v 2)),
  .nop 1]) [1] 4)
 (.seq (.post (.reg [.nop 10,
  .op (.bin .eql 26 (.v 10) (.c (.int .i64 0))),
  .nop 0,
  .opg (.mov (.v 7)) 0 true,
  .opg (.bin .eql 26 (.v 0) (.c (.int .i64 0))) 1 true,
  .op (.pick (.v 2) (.v 0) (.c (.bool false))),
  .nop 0,
  .opg (.mov (.v 9)) 0 true,
  .opg (.bin .eql 26 (.v 0) (.c (.int .i64 0))) 1 true,
  .op (.pick (.v 2) (.v 0) (.c (.bool false))),
  .nop 0,
  .opg (.mov (.v 8)) 0 true,
  .opg (.bin .eql 26 (.v 0) (.c (.int .i64 0))) 1 true,
  .op (.pick (.v 2) (.v 0) (.c (.bool false))),
  .nop 0,
  .opg (.mov (.v 10)) 0 true,
  .opg (.bin .eql 26 (.v 0) (.c (.int .i64 7))) 1 true,
  .op (.pick (.v 2) (.v 0) (.c (.bool false))),
  .nop 0,
  .opg (.mov (.v 21)) 0 true,
  .opg (.bin .eql 3 (.v 0) (.c (.int .i64 3))) 1 true,
  .op (.pick (.v 2) (.v 0) (.c (.bool false))),
  .nop 0,
  .opg (.mov (.v 23)) 0 true,
  .opg (.bin .eql 3 (.v 0) (.c (.int .i64 1))) 1 true,
  .op (.pick (.v 2) (.v 0) (.c (.bool false))),
  .nop 0,
  .opg (.mov (.v 22)) 0 true,
  .opg (.bin .eql 3 (.v 0) (.c (.int .i64 4))) 1 true,
  .op (.pick (.v 2) (.v 0) (.c (.bool false))),
  .nop 0,
  .opg (.mov (.v 24)) 0 true,
  .opg (.bin .eql 3 (.v 0) (.c (.int .i64 1))) 1 true,
  .op (.pick (.v 2) (.v 0) (.c (.bool false))),
  .nop 0,
  .opg (.ldn 2 (.v 34)) 0 true,
  .opg (.mkl 1 2 [(.int .i64 0)] [(0, (.c (.int .i64 0))), (1, (.c (.int .i64 1)))]) 1 true,
  .opg (.mkl 1 2 [(.int .i64 0)] [(0, (.c (.int .i64 0))), (1, (.c (.int .i64 2)))]) 2 true,
  .opg (.mkl 1 2 [(.int .i64 0)] [(0, (.c (.int .i64 0))), (1, (.c (.int .i64 3)))]) 3 true,
  .opg (.mkl 1 2 [(.int .i64 0)] [(0, (.c (.int .i64 1))), (1, (.c (.int .i64 2)))]) 4 true,
  .opg (.mkl 1 2 [(.int .i64 0)] [(0, (.c (.int .i64 1))), (1, (.c (.int .i64 3)))]) 5 true,
  .opg (.mkl 1 2 [(.int .i64 0)] [(0, (.c (.int .i64 2))), (1, (.c (.int .i64 3)))]) 6 true,
  .opg (.mkl 1 6 [(.slice none 0 0)] [(0, (.v 5)), (1, (.v 4)), (2, (.v 3)), (3, (.v 2)), (4, (.v 1)), (5, (.v 0))]) 7 true,
  .opg (.build [(.int .i64 0), (.slice none 0 0)] [(0, 1, (.c (.int .i64 4))), (1, 1, (.v 0))]) 8 true,
  .opg (.call 13 [(.v 8), (.v 0)]) 9 true,
  .op (.pick (.v 10) (.v 0) (.c (.bool false))),
  .nop 0,
  .opg (.ldn 2 (.v 40)) 0 true,
  .opg (.call 21 [(.v 0), (.c (.int .i64 0)), (.c (.int .i64 1))]) 1 true,
  .opg (.bin .eql 3 (.v 0) (.c (.int .i64 1))) 2 true,
  .op (.pick (.v 3) (.v 0) (.c (.bool false))),
  .nop 0]) [0] 40)
 (.ret [.v 0]))))))))⟩


def ac12 : AFn := ⟨2, [],
 (.seq (.reg [.op (.mov (.c (.int .i64 0)))])
 (.seq (.post (.reg [.nop 1,
  .nop 2,
  .nop 1,
  .nop 2,
  .op (.bin .sub 3 (.v 1) (.v 2)),
  .op (.pur .min [(.v 3), (.v 0)]),
  .op (.call 25 [(.v 3), (.v 0)]),
  .nop 0]) [0] 3)
 (.ret [.v 0])))⟩


def ac13L0b : AC :=
 (.post (.seq (.seq (.reg [.nop 1,
  .op (.fld 1 (.v 24)),
  .op (.ld1 (.v 0)),
  .nop 21,
  .op (.idx 1 (.v 0) (.v 21)),
  .op (.ld1 (.v 0)),
  .op (.len false (.v 0)),
  .op (.bin .lss 3 (.v 6) (.v 0))])
 (.cond (.v 0) .skip
 (.pre [6, 7] 8 (.exit 2))))
 (.seq (.block 3 [[4], [48], [47], [46], [45], [43], [42], [], [6, 41], [], [40], [39], [38], [37], [35], [34], [33], [32], [31], [29], [28], [25], [24], [23], [22], [], [5, 21, 30, 36, 44], [], [20], [], [3], [2], [0], [1]] (.post (.seq (.regD [.op (.fld 1 (.v 30)),
  .op (.ld1 (.v 0)),
  .nop 27,
  .op (.idx 1 (.v 0) (.v 27)),
  .op (.ld1 (.v 0)),
  .nop 11,
  .op (.idx 1 (.v 0) (.v 11)),
  .op (.ld1 (.v 0)),
  .op (.fld 1 (.v 35)),
  .op (.ld1 (.v 0)),
  .nop 33,
  .op (.idx 1 (.v 0) (.v 33)),
  .op (.ld1 (.v 0)),
  .nop 17,
  .op (.idx 1 (.v 0) (.v 17)),
  .op (.ld1 (.v 0)),
  .op (.bin .neq 3 (.v 6) (.v 0))] [0, 1, 0, 7, 15, 0, 63, 127, 0, 256, 0, 1792, 3840, 0, 16128, 32512, 65535])
 (.cond (.v 0) (.seq (.reg [.op (.mov (.c (.bool false)))])
 (.ret [.v 0]))
 .skip)) [19] 13))
 (.reg [.nop 8,
  .op (.bin .add 3 (.v 8) (.c (.int .i64 1))),
  .nop 0]))) [1, 0] 10)
def ac13L0 : AC := .loop [[4], [6], [], [40], [39], [38], [37], [35], [34], [33], [32], [31], [29], [28], [25], [24], [23], [22], [], [5, 21, 30, 36], [], [20], [], [3], [2], [0], [1]] ac13L0b
def ac13L1b : AC :=
 (.post (.seq (.seq (.reg [.nop 1,
  .op (.fld 1 (.v 6)),
  .op (.ld1 (.v 0)),
  .op (.len false (.v 0)),
  .op (.bin .lss 3 (.v 4) (.v 0))])
 (.cond (.v 0) .skip
 (.pre [4] 6 (.exit 0))))
 (.seq (.block 1 [[4], [25], [24], [23], [22], [], [5, 21], [], [20], [], [3], [2], [0], [1]] (.post (.seq (.seq (.regD [.op (.fld 1 (.v 10)),
  .op (.ld1 (.v 0)),
  .nop 7,
  .op (.idx 1 (.v 0) (.v 7)),
  .op (.ld1 (.v 0)),
  .op (.len false (.v 0)),
  .op (.fld 1 (.v 14)),
  .op (.ld1 (.v 0)),
  .nop 12,
  .op (.idx 1 (.v 0) (.v 12)),
  .op (.ld1 (.v 0)),
  .op (.len false (.v 0)),
  .op (.bin .neq 3 (.v 5) (.v 0))] [0, 1, 0, 7, 15, 31, 0, 64, 0, 448, 960, 1984, 4095])
 (.cond (.v 0) (.seq (.reg [.op (.mov (.c (.bool false)))])
 (.ret [.v 0]))
 .skip))
 (.seq (.reg [.op (.mov (.c (.int .i64 0)))])
 (.block 2 [[4], [6], [], [40], [39], [38], [37], [35], [34], [33], [32], [31], [29], [28], [25], [24], [23], [22], [], [5, 21, 30, 36], [], [20], [], [3], [2], [0], [1]] (.pre [16, 0] 0 ac13L0)))) [0] 14))
 (.reg [.nop 6,
  .op (.bin .add 3 (.v 6) (.c (.int .i64 1))),
  .nop 0]))) [1, 0] 8)
def ac13L1 : AC := .loop [[4], [5], [], [20], [], [3], [2], [0], [1]] ac13L1b
def ac13 : AFn := ⟨2, [],
 (.seq (.reg [.op (.box (.v 0)),
  .op (.box (.v 2)),
  .op (.mov (.c (.bool false)))])
 (.seq (.seq (.post (.reg [.op (.fld 0 (.v 2)),
  .op (.ld1 (.v 0)),
  .op (.fld 0 (.v 3)),
  .op (.ld1 (.v 0)),
  .op (.bin .neq 3 (.v 2) (.v 0)),
  .nop 0,
  .opg (.fld 1 (.v 7)) 0 false,
  .opg (.ld1 (.v 0)) 1 false,
  .opg (.len false (.v 0)) 2 false,
  .opg (.fld 1 (.v 9)) 3 false,
  .opg (.ld1 (.v 0)) 4 false,
  .opg (.len false (.v 0)) 5 false,
  .opg (.bin .neq 3 (.v 3) (.v 0)) 6 false,
  .op (.pick (.v 7) (.c (.bool true)) (.v 0))]) [0] 13)
 (.cond (.v 0) (.seq (.reg [.op (.mov (.c (.bool false)))])
 (.ret [.v 0]))
 .skip))
 (.seq (.seq (.reg [.op (.mov (.c (.int .i64 0)))])
 (.block 0 [[4], [], [20], [], [3], [2], [0], [1]] (.pre [2, 0] 0 ac13L1)))
 (.seq (.reg [.op (.mov (.c (.bool true)))])
 (.ret [.v 0])))))⟩


def ac14L0b : AC :=
 (.post (.seq (.seq (.reg [.nop 0,
  .nop 6,
  .op (.bin .lss 3 (.v 0) (.v 6))])
 (.cond (.v 0) .skip
 (.pre [] 2 (.exit 0))))
 (.seq (.block 1 [[16], [7, 14], [], [13, 6], [5], [4], [0, 10], [1, 12, 15]] (.post (.reg [.nop 3,
  .nop 1,
  .nop 1,
  .op (.idx 1 (.v 3) (.v 1)),
  .eff (.st 1 (.v 0) (.v 2))]) [] 1))
 (.reg [.nop 1,
  .op (.bin .add 3 (.v 1) (.c (.int .i64 1))),
  .nop 0]))) [0] 3)
def ac14L0 : AC := .loop [[7], [], [13, 6], [5], [4], [0, 10], [1, 12]] ac14L0b
def ac14L1b : AC :=
 (.post (.seq (.seq (.reg [.nop 0,
  .op (.bin .geq 3 (.v 0) (.c (.int .i64 0))),
  .nop 0,
  .opg (.mov (.v 11)) 0 true,
  .opg (.mov (.v 2)) 1 true,
  .opg (.idx 1 (.v 1) (.v 0)) 2 true,
  .opg (.ld1 (.v 0)) 3 true,
  .opg (.mov (.v 18)) 4 true,
  .opg (.mov (.v 20)) 5 true,
  .opg (.bin .sub 3 (.v 1) (.v 0)) 6 true,
  .opg (.mov (.v 8)) 7 true,
  .opg (.bin .add 3 (.v 1) (.v 0)) 8 true,
  .opg (.bin .eql 3 (.v 5) (.v 0)) 9 true,
  .op (.pick (.v 10) (.v 0) (.c (.bool false)))])
 (.cond (.v 0) .skip
 (.pre [12] 13 (.exit 4))))
 (.block 5 [[8], [46], [45], [44], [43], [42], [41], [40], [39], [38], [37], [36], [34, 35], [33], [32], [30], [29], [28], [27], [25], [24], [23], [], [13, 6, 26], [5], [4], [0, 10], [1, 12, 31]] (.reg [.nop 12,
  .op (.bin .sub 3 (.v 12) (.c (.int .i64 1))),
  .nop 0]))) [0] 14)
def ac14L1 : AC := .loop [[8], [32], [30], [29], [28], [27], [25], [24], [23], [], [13, 6, 26], [5], [4], [0, 10], [1, 12, 31]] ac14L1b
def ac14L2b : AC :=
 (.post (.seq (.seq (.reg [.nop 0,
  .nop 21,
  .op (.bin .lss 3 (.v 0) (.v 21))])
 (.cond (.v 0) .skip
 (.pre [1] 2 (.exit 6))))
 (.seq (.block 7 [[62], [9, 60], [59], [57], [56], [55], [54], [50], [8, 49, 53, 58], [32], [30], [29], [28], [27], [25], [24], [23], [], [13, 6, 26, 52], [5], [4], [0, 10], [1, 12, 31, 61]] (.post (.reg [.nop 18,
  .nop 1,
  .nop 18,
  .nop 1,
  .op (.bin .sub 3 (.v 1) (.c (.int .i64 1))),
  .op (.idx 1 (.v 19) (.v 0)),
  .op (.ld1 (.v 0)),
  .op (.bin .add 3 (.v 0) (.c (.int .i64 1))),
  .op (.idx 1 (.v 22) (.v 5)),
  .eff (.st 1 (.v 0) (.v 1))]) [] 5))
 (.reg [.nop 1,
  .op (.bin .add 3 (.v 1) (.c (.int .i64 1))),
  .nop 0]))) [0] 3)
def ac14L2 : AC := .loop [[9], [59], [57], [56], [55], [54], [50], [8, 49, 53, 58], [32], [30], [29], [28], [27], [25], [24], [23], [], [13, 6, 26, 52], [5], [4], [0, 10], [1, 12, 31]] ac14L2b
def ac14L3b : AC :=
 (.block 3 [[], [13, 6], [5], [4], [0, 10], [1, 12]] (.post (.seq (.regD [.op (.fld 1 (.v 2)),
  .op (.ld1 (.v 0)),
  .op (.mkl 1 0 [(.int .i64 0)] []),
  .nop 4,
  .op (.app 1 8 (.v 0) (.v 4)),
  .op (.mkl 1 1 [(.slice none 0 0)] [(0, (.v 0))]),
  .op (.app 1 24 (.v 3) (.v 0)),
  .op (.fld 1 (.v 8)),
  .eff (.st 1 (.v 0) (.v 1))] [0, 1, 0, 0, 12, 28, 63, 127, 255])
 (.seq (.reg [.nop 12,
  .op (.bin .sub 3 (.v 12) (.c (.int .i64 1))),
  .nop 0])
 (.seq (.block 4 [[8], [32], [30], [29], [28], [27], [25], [24], [23], [], [13, 6, 26], [5], [4], [0, 10], [1, 12, 31]] (.pre [0] 0 ac14L1))
 (.seq (.seq (.reg [.nop 0,
  .op (.bin .lss 3 (.v 0) (.c (.int .i64 0)))])
 (.cond (.v 0) (.seq (.reg [.op (.ldn 2 (.v 12)),
  .eff (.st 2 (.v 14) (.v 0))])
 (.ret [.cells 14 2]))
 .skip))
 (.seq (.reg [.nop 11,
  .nop 1,
  .op (.idx 1 (.v 11) (.v 1)),
  .op (.ld1 (.v 0)),
  .op (.bin .add 3 (.v 0) (.c (.int .i64 1))),
  .op (.idx 1 (.v 14) (.v 4)),
  .eff (.st 1 (.v 0) (.v 1))])
 (.seq (.reg [.nop 5,
  .op (.bin .add 3 (.v 5) (.c (.int .i64 1))),
  .nop 0])
 (.block 6 [[9], [59], [57], [56], [55], [54], [50], [8, 49, 53, 58], [32], [30], [29], [28], [27], [25], [24], [23], [], [13, 6, 26, 52], [5], [4], [0, 10], [1, 12, 31]] (.pre [0] 0 ac14L2)))))))) [] 16))
def ac14L3 : AC := .loop [[], [13, 6], [5], [4], [0, 10], [1, 12]] ac14L3b
def ac14 : AFn := ⟨2, [.cells 3 2],
 (.seq (.reg [.op (.new [(.int .i64 0), (.slice none 0 0)])])
 (.seq (.post (.reg [.nop 1,
  .op (.build [(.int .i64 0), (.slice none 0 0)] [(0, 1, (.v 1))]),
  .op (.new [(.int .i64 0), (.slice none 0 0)]),
  .eff (.st 2 (.v 0) (.v 1))]) [0] 2)
 (.seq (.reg [.nop 3,
  .op (.make 1 8 [(.int .i64 0)] (.v 3) (.v 3)),
  .nop 0])
 (.seq (.seq (.reg [.op (.mov (.c (.int .i64 0)))])
 (.block 0 [[], [13, 6], [5], [4], [0, 10], [1, 12]] (.pre [0] 0 ac14L0)))
 (.block 2 [[], [13, 6], [5], [4], [0, 10], [1, 12]] (.pre [] 0 ac14L3))))))⟩


def ac15L0b : AC :=
 (.post (.seq (.seq (.reg [.nop 1,
  .op (.fld 1 (.v 5)),
  .op (.ld1 (.v 0)),
  .op (.len false (.v 0)),
  .op (.bin .lss 3 (.v 4) (.v 0))])
 (.cond (.v 0) .skip
 (.pre [4] 6 (.exit 0))))
 (.seq (.block 1 [[2], [12], [11], [10], [9], [], [3, 8], [], [7], [], [1], [0]] (.post (.seq (.reg [.op (.fld 1 (.v 9)),
  .op (.ld1 (.v 0)),
  .nop 7,
  .op (.idx 1 (.v 0) (.v 7)),
  .op (.ld1 (.v 0)),
  .op (.len false (.v 0)),
  .op (.bin .gtr 3 (.v 0) (.c (.int .i64 70)))])
 (.cond (.v 0) (.seq (.reg [.op (.mov (.c (.bool false)))])
 (.ret [.v 0]))
 .skip)) [10] 6))
 (.reg [.nop 6,
  .op (.bin .add 3 (.v 6) (.c (.int .i64 1))),
  .nop 0]))) [1, 0] 8)
def ac15L0 : AC := .loop [[2], [3], [], [7], [], [1], [0]] ac15L0b
def ac15 : AFn := ⟨1, [],
 (.seq (.reg [.op (.box (.v 0)),
  .op (.mov (.c (.bool false)))])
 (.seq (.seq (.post (.reg [.op (.fld 1 (.v 1)),
  .op (.ld1 (.v 0)),
  .op (.len false (.v 0)),
  .op (.bin .gtr 3 (.v 0) (.c (.int .i64 200)))]) [0] 4)
 (.cond (.v 0) (.seq (.reg [.op (.mov (.c (.bool false)))])
 (.ret [.v 0]))
 .skip))
 (.seq (.seq (.reg [.op (.mov (.c (.int .i64 0)))])
 (.block 0 [[2], [], [7], [], [1], [0]] (.pre [2, 0] 0 ac15L0)))
 (.seq (.reg [.op (.mov (.c (.bool true)))])
 (.ret [.v 0])))))⟩


def ac16L0b : AC :=
 (.post (.seq (.reg [.op (.bin .lss 3 (.v 0) (.v 2))])
 (.seq (.cond (.v 0) .skip
 (.pre [1] 2 (.exit 4)))
 (.seq (.block 5 [[36], [35], [], [34], [32, 9], [31], [30], [29], [], [28], [26, 7, 27, 33], [25], [24], [23], [], [22], [21], [5], [19], [4], [3], [2], [1], [0]] (.post (.seq (.reg [.op (.idx 1 (.v 10) (.v 1)),
  .op (.ld1 (.v 0)),
  .nop 0])
 (.regD [.nop 6,
  .nop 0,
  .op (.ida 60 60 (.v 19) (.v 6)),
  .op (.ida 60 1 (.v 0) (.v 1)),
  .op (.ld1 (.v 0)),
  .op (.bin .add 3 (.v 0) (.c (.int .i64 1))),
  .op (.ida 60 60 (.v 23) (.v 10)),
  .op (.ida 60 1 (.v 0) (.v 5)),
  .eff (.st 1 (.v 0) (.v 2))] [0, 0, 1, 7, 15, 31, 1, 127, 255])) [] 8))
 (.reg [.op (.bin .add 3 (.v 1) (.c (.int .i64 1))),
  .nop 0])))) [0] 3)
def ac16L0 : AC := .loop [[35], [], [34], [32, 9], [31], [30], [29], [], [28], [26, 7, 27, 33], [25], [24], [23], [], [22], [21], [5], [19], [4], [3], [2], [1], [0]] ac16L0b
def ac16L1b : AC :=
 (.post (.seq (.reg [.op (.bin .lss 3 (.v 0) (.v 2))])
 (.seq (.cond (.v 0) .skip
 (.pre [1] 2 (.exit 2)))
 (.seq (.block 3 [[30], [29], [], [28], [26, 7, 27], [25], [24], [23], [], [22], [21], [5], [19], [4], [3], [2], [1], [0]] (.post (.seq (.reg [.op (.idx 1 (.v 4) (.v 1)),
  .op (.ld1 (.v 0)),
  .nop 0])
 (.seq (.reg [.nop 6,
  .op (.len false (.v 6)),
  .op (.mov (.c (.int .i64 0)))])
 (.block 4 [[35], [], [34], [32, 9], [31], [30], [29], [], [28], [26, 7, 27, 33], [25], [24], [23], [], [22], [21], [5], [19], [4], [3], [2], [1], [0]] (.pre [0] 0 ac16L0)))) [] 5))
 (.reg [.op (.bin .add 3 (.v 1) (.c (.int .i64 1))),
  .nop 0])))) [0] 3)
def ac16L1 : AC := .loop [[29], [], [28], [26, 7, 27], [25], [24], [23], [], [22], [21], [5], [19], [4], [3], [2], [1], [0]] ac16L1b
def ac16L2b : AC :=
 (.post (.seq (.reg [.op (.bin .lss 3 (.v 0) (.v 2))])
 (.seq (.cond (.v 0) .skip
 (.pre [] 2 (.exit 0)))
 (.seq (.block 1 [[24], [23], [], [22], [21], [5], [19], [4], [3], [2], [1], [0]] (.post (.seq (.reg [.op (.idx 1 (.v 4) (.v 1)),
  .op (.ld1 (.v 0)),
  .nop 0])
 (.seq (.reg [.nop 0,
  .op (.len false (.v 0)),
  .op (.mov (.c (.int .i64 0)))])
 (.block 2 [[29], [], [28], [26, 7, 27], [25], [24], [23], [], [22], [21], [5], [19], [4], [3], [2], [1], [0]] (.pre [0] 0 ac16L1)))) [] 5))
 (.reg [.op (.bin .add 3 (.v 1) (.c (.int .i64 1))),
  .nop 0])))) [0] 3)
def ac16L2 : AC := .loop [[23], [], [22], [21], [5], [19], [4], [3], [2], [1], [0]] ac16L2b
def ac16L3b : AC :=
 (.post (.seq (.reg [.op (.bin .lss 3 (.v 3) (.v 5))])
 (.seq (.cond (.v 0) .skip
 (.pre [1, 2, 3, 4] 5 (.exit 8)))
 (.seq (.block 9 [[2], [3], [4], [64], [], [], [], [63], [], [62], [61], [59], [], [], [], [58, 60, 14], [], [57], [55, 13], [52, 12], [], [22], [21], [5], [19], [], [], [], [1], [0]] (.post (.seq (.reg [.nop 4,
  .nop 4])
 (.seq (.reg [.nop 15,
  .nop 15])
 (.seq (.seq (.reg [.nop 12,
  .nop 4,
  .op (.bin .eql 3 (.v 12) (.v 4))])
 (.cond (.v 0) (.post (.reg [.nop 17,
  .nop 17]) [17] 0)
 (.post .skip [16] 0)))
 (.seq (.reg [.nop 14,
  .nop 6,
  .op (.ida 60 60 (.v 22) (.v 14)),
  .op (.ida 60 1 (.v 0) (.v 7)),
  .op (.ld1 (.v 0)),
  .nop 3,
  .op (.bin .neq 3 (.v 0) (.v 3))])
 (.cond (.v 0) (.seq (.reg [.op (.mov (.c (.int .i64 0))),
  .op (.mov (.c (.int .i64 0))),
  .op (.mov (.c (.int .i64 5)))])
 (.ret [.v 2, .v 1, .v 0]))
 .skip))))) [7, 8, 9] 6))
 (.reg [.op (.bin .add 3 (.v 7) (.c (.int .i64 1))),
  .nop 0])))) [1, 2, 3, 0] 9)
def ac16L3 : AC := .loop [[2], [3], [4], [63], [], [62], [61], [59], [], [], [], [58, 60, 14], [], [57], [55, 13], [52, 12], [], [22], [21], [5], [19], [], [], [], [1], [0]] ac16L3b
def ac16L4b : AC :=
 (.post (.seq (.reg [.op (.bin .lss 3 (.v 3) (.v 5))])
 (.seq (.cond (.v 0) .skip
 (.pre [1, 2, 3] 5 (.exit 6)))
 (.seq (.block 7 [[2], [3], [4], [59], [], [], [], [58], [], [57], [55, 13], [52, 12], [], [22], [21], [5], [19], [], [], [], [1], [0]] (.post (.seq (.reg [.nop 4,
  .nop 4])
 (.seq (.reg [.op (.fld 0 (.v 17)),
  .op (.ld1 (.v 0)),
  .op (.mov (.c (.int .i64 0)))])
 (.block 8 [[2], [3], [4], [63], [], [62], [61], [59], [], [], [], [58, 60, 14], [], [57], [55, 13], [52, 12], [], [22], [21], [5], [19], [], [], [], [1], [0]] (.pre [4, 5, 6, 0] 0 ac16L3)))) [0, 1, 2] 7))
 (.reg [.op (.bin .add 3 (.v 7) (.c (.int .i64 1))),
  .nop 0])))) [1, 2, 3, 0] 9)
def ac16L4 : AC := .loop [[2], [3], [4], [58], [], [57], [55, 13], [52, 12], [], [22], [21], [5], [19], [], [], [], [1], [0]] ac16L4b
def ac16 : AFn := ⟨1, [],
 (.seq (.reg [.op (.box (.v 0)),
  .op (.mov (.c (.int .i64 0))),
  .op (.mov (.c (.int .i64 0))),
  .op (.mov (.c (.int .i64 0)))])
 (.seq (.seq (.post (.reg [.op (.ldn 2 (.v 3)),
  .op (.call 26 [(.v 0)]),
  .op (.una .not (.v 0))]) [0] 3)
 (.cond (.v 0) (.seq (.reg [.op (.mov (.c (.int .i64 0))),
  .op (.mov (.c (.int .i64 0))),
  .op (.mov (.c (.int .i64 5)))])
 (.ret [.v 2, .v 1, .v 0]))
 .skip))
 (.seq (.reg [.op (.new (List.replicate 3600 (.int .i64 0)))])
 (.seq (.seq (.post (.reg [.op (.fld 1 (.v 5)),
  .op (.ld1 (.v 0)),
  .op (.len false (.v 0)),
  .op (.mov (.c (.int .i64 0)))]) [0, 1, 2] 4)
 (.block 0 [[], [22], [21], [5], [19], [4], [3], [2], [1], [0]] (.pre [0] 0 ac16L2)))
 (.seq (.post (.regD [.op (.ida 60 60 (.v 3) (.c (.int .i64 0))),
  .op (.ida 60 1 (.v 0) (.c (.int .i64 0))),
  .op (.ld1 (.v 0)),
  .op (.ida 60 60 (.v 6) (.c (.int .i64 0))),
  .op (.ida 60 1 (.v 0) (.c (.int .i64 1))),
  .op (.ld1 (.v 0)),
  .nop 3,
  .nop 0] [0, 1, 3, 0, 8, 24, 7, 127]) [0, 3] 6)
 (.seq (.seq (.post (.reg [.op (.fld 0 (.v 10)),
  .op (.ld1 (.v 0)),
  .op (.mov (.c (.int .i64 0)))]) [0, 1] 3)
 (.block 6 [[2], [3], [4], [], [57], [55, 13], [52, 12], [], [22], [21], [5], [19], [], [], [], [1], [0]] (.pre [11, 10, 9, 0] 0 ac16L4)))
 (.seq (.seq (.reg [.nop 5,
  .op (.bin .lss 3 (.v 5) (.c (.int .i64 1)))])
 (.cond (.v 0) (.seq (.reg [.op (.mov (.c (.int .i64 0))),
  .op (.mov (.c (.int .i64 0))),
  .op (.mov (.c (.int .i64 5)))])
 (.ret [.v 2, .v 1, .v 0]))
 .skip))
 (.seq (.reg [.nop 7,
  .nop 6,
  .nop 7,
  .nop 6,
  .op (.mov (.c (.int .i64 0)))])
 (.ret [.v 8, .v 7, .v 0])))))))))⟩


def ac17L0b : AC :=
 (.post (.seq (.seq (.reg [.nop 3,
  .nop 16,
  .op (.len false (.v 16)),
  .op (.bin .lss 3 (.v 4) (.v 0))])
 (.cond (.v 0) .skip
 (.pre [2, 3, 4, 5] 6 (.exit 2))))
 (.seq (.block 3 [[2], [3], [4], [61], [60], [], [], [], [8, 58], [], [57], [56], [55], [54], [53], [52], [51], [50], [49], [47, 48], [46], [44, 7, 45, 59], [43], [41], [40], [37], [36], [35], [34], [], [], [], [6, 33, 42], [], [5], [32], [], [], [], [1], [0]] (.post (.seq (.regD [.nop 18,
  .nop 5,
  .op (.idx 1 (.v 18) (.v 5)),
  .op (.ld1 (.v 0)),
  .op (.bin .lss 3 (.v 0) (.c (.int .i64 0))),
  .nop 0,
  .opg (.mov (.v 21)) 0 false,
  .opg (.mov (.v 9)) 1 false,
  .opg (.idx 1 (.v 1) (.v 0)) 2 false,
  .opg (.ld1 (.v 0)) 3 false,
  .opg (.fld 0 (.v 43)) 4 false,
  .opg (.ld1 (.v 0)) 5 false,
  .opg (.bin .geq 3 (.v 2) (.v 0)) 6 false,
  .op (.pick (.v 7) (.c (.bool true)) (.v 0)),
  .nop 0,
  .opg (.mov (.v 16)) 0 false,
  .opg (.bin .gtr 3 (.v 0) (.c (.int .i64 0))) 1 false,
  .opg (.mov (.v 0)) 2 false,
  .opg (.mov (.v 32)) 0 true,
  .opg (.mov (.v 20)) 1 true,
  .opg (.idx 1 (.v 1) (.v 0)) 2 true,
  .opg (.ld1 (.v 0)) 3 true,
  .opg (.mov (.v 36)) 4 true,
  .opg (.mov (.v 24)) 5 true,
  .opg (.bin .sub 3 (.v 0) (.c (.int .i64 1))) 6 true,
  .opg (.idx 1 (.v 2) (.v 0)) 7 true,
  .opg (.ld1 (.v 0)) 8 true,
  .opg (.bin .leq 3 (.v 5) (.v 0)) 9 true,
  .opg (.pick (.v 10) (.v 0) (.c (.bool false))) 13 false,
  .op (.pick (.v 14) (.c (.bool true)) (.v 0))] [0, 0, 3, 7, 15, 31, 63, 63, 255, 511, 63, 1087, 4095, 8191, 16383, 32767, 65535, 131071, 262143, 262143, 1048575, 2097151, 262143, 262143, 8650751, 29622271, 63176703, 134217727, 268435455, 536870911])
 (.cond (.v 0) (.seq (.reg [.op (.mov (.c (.int .i64 0))),
  .op (.mov (.c (.int .i64 0))),
  .op (.mov (.c (.bool false)))])
 (.ret [.v 2, .v 1, .v 0]))
 .skip)) [28, 29, 30] 26))
 (.reg [.nop 8,
  .op (.bin .add 3 (.v 8) (.c (.int .i64 1))),
  .nop 0]))) [1, 2, 3, 0] 10)
def ac17L0 : AC := .loop [[2], [3], [4], [8], [], [57], [56], [55], [54], [53], [52], [51], [50], [49], [47, 48], [46], [44, 7, 45], [43], [41], [40], [37], [36], [35], [34], [], [], [], [6, 33, 42], [], [5], [32], [], [], [], [1], [0]] ac17L0b
def ac17L1b : AC :=
 (.post (.seq (.seq (.reg [.nop 0,
  .nop 22,
  .op (.len false (.v 22)),
  .op (.bin .lss 3 (.v 1) (.v 0))])
 (.cond (.v 0) .skip
 (.pre [2] 3 (.exit 6))))
 (.seq (.block 7 [[103], [102], [10, 100], [], [97], [96], [9, 94], [], [2], [3], [4], [8], [], [57], [56], [55], [54], [53], [52], [51], [50], [49], [47, 48], [46], [44, 7, 45, 95, 101], [43], [41], [40], [37], [36], [35], [34], [], [], [], [6, 33, 42], [], [5], [32], [], [], [], [1], [0]] (.post (.regD [.nop 24,
  .nop 6,
  .op (.idx 1 (.v 24) (.v 6)),
  .op (.ld1 (.v 0)),
  .nop 26,
  .nop 4,
  .op (.idx 1 (.v 26) (.v 4)),
  .op (.ld1 (.v 0)),
  .op (.ida 60 60 (.v 41) (.v 2)),
  .op (.ida 60 1 (.v 0) (.v 1)),
  .op (.ld1 (.v 0)),
  .op (.bin .add 3 (.v 0) (.c (.int .i64 1))),
  .op (.ida 60 60 (.v 45) (.v 6)),
  .op (.ida 60 1 (.v 0) (.v 5)),
  .eff (.st 1 (.v 0) (.v 2))] [0, 0, 3, 7, 0, 0, 48, 112, 15, 511, 1023, 2047, 15, 8191, 16383]) [] 10))
 (.reg [.nop 2,
  .op (.bin .add 3 (.v 2) (.c (.int .i64 1))),
  .nop 0]))) [0] 4)
def ac17L1 : AC := .loop [[10], [], [97], [96], [9, 94], [], [2], [3], [4], [8], [], [57], [56], [55], [54], [53], [52], [51], [50], [49], [47, 48], [46], [44, 7, 45, 95], [43], [41], [40], [37], [36], [35], [34], [], [], [], [6, 33, 42], [], [5], [32], [], [], [], [1], [0]] ac17L1b
def ac17L2b : AC :=
 (.post (.seq (.seq (.reg [.nop 0,
  .nop 18,
  .op (.len false (.v 18)),
  .op (.bin .lss 3 (.v 1) (.v 0))])
 (.cond (.v 0) .skip
 (.pre [2] 3 (.exit 4))))
 (.seq (.block 5 [[97], [96], [9, 94], [], [2], [3], [4], [8], [], [57], [56], [55], [54], [53], [52], [51], [50], [49], [47, 48], [46], [44, 7, 45, 95], [43], [41], [40], [37], [36], [35], [34], [], [], [], [6, 33, 42], [], [5], [32], [], [], [], [1], [0]] (.post (.seq (.reg [.op (.mov (.c (.int .i64 0)))])
 (.block 6 [[10], [], [97], [96], [9, 94], [], [2], [3], [4], [8], [], [57], [56], [55], [54], [53], [52], [51], [50], [49], [47, 48], [46], [44, 7, 45, 95], [43], [41], [40], [37], [36], [35], [34], [], [], [], [6, 33, 42], [], [5], [32], [], [], [], [1], [0]] (.pre [0] 0 ac17L1))) [] 2))
 (.reg [.nop 2,
  .op (.bin .add 3 (.v 2) (.c (.int .i64 1))),
  .nop 0]))) [0] 4)
def ac17L2 : AC := .loop [[9], [], [2], [3], [4], [8], [], [57], [56], [55], [54], [53], [52], [51], [50], [49], [47, 48], [46], [44, 7, 45], [43], [41], [40], [37], [36], [35], [34], [], [], [], [6, 33, 42], [], [5], [32], [], [], [], [1], [0]] ac17L2b
def ac17L3b : AC :=
 (.post (.seq (.seq (.reg [.nop 3,
  .op (.fld 1 (.v 10)),
  .op (.ld1 (.v 0)),
  .op (.len false (.v 0)),
  .op (.bin .lss 3 (.v 6) (.v 0))])
 (.cond (.v 0) .skip
 (.pre [4, 5, 6] 8 (.exit 0))))
 (.seq (.block 1 [[2], [3], [4], [37], [36], [35], [34], [], [], [], [6, 33], [], [5], [32], [], [], [], [1], [0]] (.post (.seq (.reg [.op (.fld 1 (.v 14)),
  .op (.ld1 (.v 0)),
  .nop 9,
  .op (.idx 1 (.v 0) (.v 9)),
  .op (.ld1 (.v 0)),
  .nop 0])
 (.seq (.seq (.reg [.nop 0,
  .op (.len false (.v 0)),
  .op (.bin .lss 3 (.v 0) (.c (.int .i64 2))),
  .nop 0,
  .opg (.mov (.v 2)) 0 false,
  .opg (.len false (.v 0)) 1 false,
  .opg (.fld 1 (.v 22)) 2 false,
  .opg (.ld1 (.v 0)) 3 false,
  .opg (.idx 1 (.v 0) (.c (.int .i64 0))) 4 false,
  .opg (.ld1 (.v 0)) 5 false,
  .opg (.len false (.v 0)) 6 false,
  .opg (.bin .neq 3 (.v 5) (.v 0)) 7 false,
  .op (.pick (.v 8) (.c (.bool true)) (.v 0))])
 (.cond (.v 0) (.seq (.reg [.op (.mov (.c (.int .i64 0))),
  .op (.mov (.c (.int .i64 0))),
  .op (.mov (.c (.bool false)))])
 (.ret [.v 2, .v 1, .v 0]))
 .skip))
 (.seq (.seq (.reg [.op (.mov (.c (.int .i64 0)))])
 (.block 2 [[2], [3], [4], [8], [], [57], [56], [55], [54], [53], [52], [51], [50], [49], [47, 48], [46], [44, 7, 45], [43], [41], [40], [37], [36], [35], [34], [], [], [], [6, 33, 42], [], [5], [32], [], [], [], [1], [0]] (.pre [20, 21, 22, 0] 0 ac17L0)))
 (.seq (.reg [.op (.mov (.c (.int .i64 0)))])
 (.block 4 [[9], [], [2], [3], [4], [8], [], [57], [56], [55], [54], [53], [52], [51], [50], [49], [47, 48], [46], [44, 7, 45], [43], [41], [40], [37], [36], [35], [34], [], [], [], [6, 33, 42], [], [5], [32], [], [], [], [1], [0]] (.pre [0] 0 ac17L2)))))) [2, 3, 4] 22))
 (.reg [.nop 10,
  .op (.bin .add 3 (.v 10) (.c (.int .i64 1))),
  .nop 0]))) [1, 2, 3, 0] 12)
def ac17L3 : AC := .loop [[2], [3], [4], [6], [], [5], [32], [], [], [], [1], [0]] ac17L3b
def ac17L4b : AC :=
 (.post (.seq (.seq (.reg [.nop 3,
  .op (.fld 0 (.v 22)),
  .op (.ld1 (.v 0)),
  .op (.bin .lss 3 (.v 5) (.v 0))])
 (.cond (.v 0) .skip
 (.pre [3, 4, 5, 6] 7 (.exit 10))))
 (.seq (.block 11 [[2], [3], [4], [129], [128], [127], [], [], [], [12, 126], [], [123], [122], [121], [], [], [], [11, 120], [], [], [], [], [], [5], [32], [], [], [], [1], [0]] (.post (.seq (.regD [.nop 14,
  .nop 6,
  .op (.bin .eql 3 (.v 14) (.v 6)),
  .nop 0,
  .opg (.mov (.v 15)) 0 true,
  .opg (.mov (.v 16)) 1 true,
  .opg (.ida 60 60 (.v 23) (.v 1)) 2 true,
  .opg (.ida 60 1 (.v 0) (.v 1)) 3 true,
  .opg (.ld1 (.v 0)) 4 true,
  .opg (.ida 60 60 (.v 26) (.c (.int .i64 0))) 5 true,
  .opg (.ida 60 1 (.v 0) (.c (.int .i64 0))) 6 true,
  .opg (.ld1 (.v 0)) 7 true,
  .opg (.bin .neq 3 (.v 3) (.v 0)) 8 true,
  .op (.pick (.v 9) (.v 0) (.c (.bool false))),
  .nop 0,
  .opg (.mov (.v 25)) 0 false,
  .opg (.mov (.v 18)) 1 false,
  .opg (.bin .neq 3 (.v 1) (.v 0)) 2 false,
  .opg (.mov (.v 0)) 3 false,
  .opg (.mov (.v 29)) 0 true,
  .opg (.mov (.v 22)) 1 true,
  .opg (.ida 60 60 (.v 37) (.v 1)) 2 true,
  .opg (.ida 60 1 (.v 0) (.v 1)) 3 true,
  .opg (.ld1 (.v 0)) 4 true,
  .opg (.ida 60 60 (.v 40) (.c (.int .i64 0))) 5 true,
  .opg (.ida 60 1 (.v 0) (.c (.int .i64 1))) 6 true,
  .opg (.ld1 (.v 0)) 7 true,
  .opg (.bin .neq 3 (.v 3) (.v 0)) 8 true,
  .opg (.pick (.v 9) (.v 0) (.c (.bool false))) 13 false,
  .op (.pick (.v 14) (.c (.bool true)) (.v 0))] [0, 0, 3, 7, 15, 15, 31, 127, 255, 15, 527, 1551, 4095, 8191, 16383, 32767, 32767, 131071, 262143, 524287, 524287, 1048575, 4194303, 8388607, 524287, 17301503, 50855935, 134217727, 268435455, 536870911])
 (.cond (.v 0) (.seq (.reg [.op (.mov (.c (.int .i64 0))),
  .op (.mov (.c (.int .i64 0))),
  .op (.mov (.c (.bool false)))])
 (.ret [.v 2, .v 1, .v 0]))
 .skip)) [29, 30, 31] 26))
 (.reg [.nop 9,
  .op (.bin .add 3 (.v 9) (.c (.int .i64 1))),
  .nop 0]))) [1, 2, 3, 0] 11)
def ac17L4 : AC := .loop [[2], [3], [4], [12], [], [123], [122], [121], [], [], [], [11, 120], [], [], [], [], [], [5], [32], [], [], [], [1], [0]] ac17L4b
def ac17L5b : AC :=
 (.post (.seq (.seq (.reg [.nop 3,
  .op (.fld 0 (.v 14)),
  .op (.ld1 (.v 0)),
  .op (.bin .lss 3 (.v 5) (.v 0))])
 (.cond (.v 0) .skip
 (.pre [3, 4, 5] 7 (.exit 8))))
 (.seq (.block 9 [[2], [3], [4], [123], [122], [121], [], [], [], [11, 120], [], [], [], [], [], [5], [32], [], [], [], [1], [0]] (.post (.seq (.reg [.op (.mov (.c (.int .i64 0)))])
 (.block 10 [[2], [3], [4], [12], [], [123], [122], [121], [], [], [], [11, 120], [], [], [], [], [], [5], [32], [], [], [], [1], [0]] (.pre [4, 5, 6, 0] 0 ac17L4))) [0, 1, 2] 5))
 (.reg [.nop 9,
  .op (.bin .add 3 (.v 9) (.c (.int .i64 1))),
  .nop 0]))) [1, 2, 3, 0] 11)
def ac17L5 : AC := .loop [[2], [3], [4], [11], [], [], [], [], [], [5], [32], [], [], [], [1], [0]] ac17L5b
def ac17 : AFn := ⟨1, [],
 (.seq (.reg [.op (.box (.v 0)),
  .op (.mov (.c (.int .i64 0))),
  .op (.mov (.c (.int .i64 0))),
  .op (.mov (.c (.bool false)))])
 (.seq (.seq (.post (.reg [.op (.fld 0 (.v 3)),
  .op (.ld1 (.v 0)),
  .op (.bin .lss 3 (.v 0) (.c (.int .i64 2))),
  .nop 0,
  .opg (.fld 0 (.v 6)) 0 false,
  .opg (.ld1 (.v 0)) 1 false,
  .opg (.bin .gtr 3 (.v 0) (.c (.int .i64 60))) 2 false,
  .op (.pick (.v 3) (.c (.bool true)) (.v 0)),
  .nop 0,
  .opg (.fld 1 (.v 10)) 0 false,
  .opg (.ld1 (.v 0)) 1 false,
  .opg (.len false (.v 0)) 2 false,
  .opg (.bin .lss 3 (.v 0) (.c (.int .i64 1))) 3 false,
  .op (.pick (.v 4) (.c (.bool true)) (.v 0)),
  .nop 0,
  .opg (.fld 1 (.v 15)) 0 false,
  .opg (.ld1 (.v 0)) 1 false,
  .opg (.len false (.v 0)) 2 false,
  .opg (.bin .gtr 3 (.v 0) (.c (.int .i64 4096))) 3 false,
  .op (.pick (.v 4) (.c (.bool true)) (.v 0))]) [0] 17)
 (.cond (.v 0) (.seq (.reg [.op (.mov (.c (.int .i64 0))),
  .op (.mov (.c (.int .i64 0))),
  .op (.mov (.c (.bool false)))])
 (.ret [.v 2, .v 1, .v 0]))
 .skip))
 (.seq (.reg [.op (.new (List.replicate 3600 (.int .i64 0)))])
 (.seq (.seq (.reg [.op (.mov (.c (.int .i64 0)))])
 (.block 0 [[2], [3], [4], [], [5], [32], [], [], [], [1], [0]] (.pre [5, 4, 3, 0] 0 ac17L3)))
 (.seq (.seq (.reg [.op (.mov (.c (.int .i64 0)))])
 (.block 8 [[2], [3], [4], [], [], [], [], [], [5], [32], [], [], [], [1], [0]] (.pre [1, 2, 3, 0] 0 ac17L5)))
 (.seq (.post (.regD [.op (.ida 60 60 (.v 8) (.c (.int .i64 0))),
  .op (.ida 60 1 (.v 0) (.c (.int .i64 0))),
  .op (.ld1 (.v 0)),
  .op (.ida 60 60 (.v 11) (.c (.int .i64 0))),
  .op (.ida 60 1 (.v 0) (.c (.int .i64 1))),
  .op (.ld1 (.v 0)),
  .op (.ida 60 60 (.v 14) (.c (.int .i64 0))),
  .op (.ida 60 1 (.v 0) (.c (.int .i64 1))),
  .op (.ld1 (.v 0)),
  .op (.bin .gtr 3 (.v 0) (.c (.int .i64 0))),
  .nop 7,
  .nop 4,
  .nop 0] [0, 1, 3, 0, 8, 24, 0, 64, 192, 448, 7, 1087, 4095]) [0, 4, 7] 10)
 (.ret [.v 2, .v 1, .v 0])))))))⟩


def ac18L0b : AC :=
 (.post (.seq (.reg [.op (.bin .lss 3 (.v 1) (.v 3))])
 (.seq (.cond (.v 0) .skip
 (.pre [1] 3 (.exit 0)))
 (.seq (.block 1 [[5], [45], [], [44], [], [43], [41, 6, 42], [25], [], [4], [0], [1, 11, 27, 28, 30, 33, 36, 37, 39]] (.post (.seq (.reg [.op (.idx 3 (.v 5) (.v 2)),
  .op (.ldn 3 (.v 0)),
  .op (.new [(.int .i64 0), (.int .i64 0), .nilFunc]),
  .eff (.st 3 (.v 0) (.v 1))])
 (.seq (.seq (.reg [.op (.fld 0 (.v 0)),
  .op (.ld1 (.v 0)),
  .nop 14,
  .op (.bin .neq 3 (.v 0) (.v 14))])
 (.cond (.v 0) (.pre [7] 6 (.exit 1))
 .skip))
 (.seq (.reg [.op (.fld 2 (.v 3)),
  .op (.ld1 (.v 0)),
  .op (.fld 1 (.v 5)),
  .op (.ld1 (.v 0)),
  .op (.callv (.v 2) [(.v 0)]),
  .nop 0,
  .op (.extr 0 (.v 0)),
  .op (.extr 1 (.v 1)),
  .op (.new [(.int .i64 0), (.slice none 0 0)]),
  .eff (.st 2 (.v 0) (.v 2)),
  .nop 1])
 (.seq (.reg [.nop 1,
  .op (.bin .eql 26 (.v 1) (.c (.int .i64 0)))])
 (.cond (.v 0) (.seq (.reg [.op (.ldn 2 (.v 1)),
  .eff (.st 2 (.v 24) (.v 0)),
  .op (.mov (.c (.int .i64 0)))])
 (.ret [.cells 25 2, .v 0]))
 .skip))))) [16] 15))
 (.reg [.op (.bin .add 3 (.v 3) (.c (.int .i64 1))),
  .nop 0])))) [1, 0] 5)
def ac18L0 : AC := .loop [[5], [44], [], [43], [41, 6, 42], [25], [], [4], [0], [1, 11, 27, 28, 30, 33, 36, 37, 39]] ac18L0b
def ac18 : AFn := ⟨2, [],
 (.seq (.reg [.op (.new [(.int .i64 0), (.slice none 0 0)]),
  .op (.mov (.c (.int .i64 0)))])
 (.seq (.seq (.post (.reg [.nop 3,
  .op (.bin .lss 3 (.v 3) (.c (.int .i64 4))),
  .nop 0,
  .opg (.mov (.v 4)) 0 false,
  .opg (.bin .gtr 3 (.v 0) (.c (.int .i64 16))) 1 false,
  .op (.pick (.v 2) (.c (.bool true)) (.v 0)),
  .nop 0,
  .opg (.mov (.v 6)) 0 false,
  .opg (.mov (.v 8)) 1 false,
  .opg (.bin .lss 3 (.v 1) (.v 0)) 2 false,
  .op (.pick (.v 3) (.c (.bool true)) (.v 0)),
  .nop 0,
  .opg (.mov (.v 10)) 0 false,
  .opg (.bin .gtr 3 (.v 0) (.c (.int .i64 60))) 1 false,
  .op (.pick (.v 2) (.c (.bool true)) (.v 0))]) [0] 11)
 (.cond (.v 0) (.seq (.post (.reg [.op (.build [(.int .i64 0), (.slice none 0 0)] []),
  .eff (.st 2 (.v 3) (.v 0)),
  .op (.mov (.c (.int .i64 1)))]) [0] 2)
 (.ret [.cells 3 2, .v 0]))
 .skip))
 (.seq (.post (.reg [.nop 4,
  .nop 4,
  .op (.bin .mul 3 (.v 4) (.v 4)),
  .nop 5,
  .op (.bin .sub 3 (.v 0) (.v 5)),
  .op (.bin .add 3 (.v 0) (.c (.int .i64 1))),
  .nop 7,
  .op (.bin .sub 3 (.v 7) (.c (.int .i64 1))),
  .op (.build [(.int .i64 0), (.int .i64 0), .nilFunc] [(0, 1, (.v 1)), (1, 1, (.v 0)), (2, 1, (.c (.func (.func 27) #[] #[])))]),
  .nop 9,
  .nop 9,
  .op (.bin .mul 3 (.v 9) (.v 9)),
  .nop 10,
  .op (.build [(.int .i64 0), (.int .i64 0), .nilFunc] [(0, 1, (.v 0)), (1, 1, (.v 10)), (2, 1, (.c (.func (.func 28) #[] #[])))]),
  .op (.mkl 3 2 [(.int .i64 0), (.int .i64 0), .nilFunc] [(0, (.v 2)), (1, (.v 0))]),
  .nop 0]) [0] 8)
 (.seq (.seq (.reg [.nop 0,
  .op (.len false (.v 0)),
  .op (.mov (.c (.int .i64 0)))])
 (.block 0 [[5], [], [43], [41, 6, 42], [25], [], [4], [0], [1, 11, 27, 28, 30, 33, 36, 37, 39]] (.pre [4, 0] 0 ac18L0)))
 (.seq (.post (.reg [.nop 7,
  .nop 8,
  .op (.call 11 [(.v 7), (.v 8)]),
  .op (.extr 0 (.v 0)),
  .op (.extr 1 (.v 1)),
  .eff (.st 2 (.v 9) (.v 1)),
  .nop 0]) [0] 3)
 (.ret [.cells 7 2, .v 0]))))))⟩


def ac19L0b : AC :=
 (.post (.seq (.seq (.reg [.nop 1,
  .nop 3,
  .op (.len false (.v 3)),
  .op (.bin .lss 3 (.v 2) (.v 0))])
 (.cond (.v 0) .skip
 (.pre [2] 4 (.exit 0))))
 (.seq (.block 1 [[5], [31], [30], [], [7, 28], [], [27, 6, 29], [25], [], [4], [0], [1, 11]] (.post (.seq (.reg [.nop 5,
  .nop 3,
  .op (.idx 1 (.v 5) (.v 3)),
  .op (.ld1 (.v 0)),
  .nop 0])
 (.seq (.reg [.nop 11,
  .nop 0,
  .nop 0,
  .op (.bin .mul 3 (.v 0) (.v 0)),
  .nop 1,
  .op (.bin .add 3 (.v 0) (.v 1)),
  .op (.bin .add 3 (.v 0) (.c (.int .i64 1))),
  .op (.bin .eql 3 (.v 14) (.v 0)),
  .nop 0,
  .opg (.mov (.v 16)) 0 true,
  .opg (.mov (.v 5)) 1 true,
  .opg (.bin .add 3 (.v 0) (.c (.int .i64 1))) 2 true,
  .opg (.bin .eql 3 (.v 2) (.v 0)) 3 true,
  .op (.pick (.v 4) (.v 0) (.c (.bool false)))])
 (.cond (.v 0) (.seq (.reg [.nop 9,
  .op (.call 29 [(.v 9)]),
  .eff (.st 2 (.v 20) (.v 0)),
  .op (.mov (.c (.int .i64 0)))])
 (.ret [.cells 21 2, .v 0]))
 .skip))) [13] 11))
 (.reg [.nop 4,
  .op (.bin .add 3 (.v 4) (.c (.int .i64 1))),
  .nop 0]))) [1, 0] 6)
def ac19L0 : AC := .loop [[5], [7], [], [27, 6], [25], [], [4], [0], [1, 11]] ac19L0b
def ac19L1b : AC :=
 (.post (.seq (.seq (.reg [.nop 1,
  .nop 5,
  .op (.len false (.v 5)),
  .op (.bin .lss 3 (.v 2) (.v 0))])
 (.cond (.v 0) .skip
 (.pre [2] 4 (.exit 2))))
 (.seq (.block 3 [[5], [57], [56], [], [9, 54], [], [], [], [27, 6, 55], [25], [], [4], [0], [1, 11]] (.post (.seq (.reg [.nop 7,
  .nop 3,
  .op (.idx 1 (.v 7) (.v 3)),
  .op (.ld1 (.v 0)),
  .nop 0])
 (.seq (.reg [.nop 13,
  .nop 0,
  .nop 0,
  .op (.bin .mul 3 (.v 0) (.v 0)),
  .op (.bin .eql 3 (.v 14) (.v 0)),
  .nop 0,
  .opg (.mov (.v 16)) 0 true,
  .opg (.mov (.v 3)) 1 true,
  .opg (.bin .eql 3 (.v 1) (.v 0)) 2 true,
  .op (.pick (.v 3) (.v 0) (.c (.bool false)))])
 (.cond (.v 0) (.seq (.reg [.nop 6,
  .op (.call 30 [(.v 6)]),
  .eff (.st 2 (.v 19) (.v 0)),
  .op (.mov (.c (.int .i64 0)))])
 (.ret [.cells 20 2, .v 0]))
 .skip))) [10] 8))
 (.reg [.nop 4,
  .op (.bin .add 3 (.v 4) (.c (.int .i64 1))),
  .nop 0]))) [1, 0] 6)
def ac19L1 : AC := .loop [[5], [9], [], [], [], [27, 6], [25], [], [4], [0], [1, 11]] ac19L1b
def ac19 : AFn := ⟨2, [],
 (.seq (.reg [.op (.new [(.int .i64 0), (.slice none 0 0)]),
  .op (.mov (.c (.int .i64 0)))])
 (.seq (.seq (.post (.reg [.nop 3,
  .op (.bin .lss 3 (.v 3) (.c (.int .i64 4))),
  .nop 0,
  .opg (.mov (.v 4)) 0 false,
  .opg (.bin .gtr 3 (.v 0) (.c (.int .i64 16))) 1 false,
  .op (.pick (.v 2) (.c (.bool true)) (.v 0)),
  .nop 0,
  .opg (.mov (.v 6)) 0 false,
  .opg (.mov (.v 8)) 1 false,
  .opg (.bin .lss 3 (.v 1) (.v 0)) 2 false,
  .op (.pick (.v 3) (.c (.bool true)) (.v 0)),
  .nop 0,
  .opg (.mov (.v 10)) 0 false,
  .opg (.bin .gtr 3 (.v 0) (.c (.int .i64 60))) 1 false,
  .op (.pick (.v 2) (.c (.bool true)) (.v 0))]) [0] 11)
 (.cond (.v 0) (.seq (.post (.reg [.op (.build [(.int .i64 0), (.slice none 0 0)] []),
  .eff (.st 2 (.v 3) (.v 0)),
  .op (.mov (.c (.int .i64 1)))]) [0] 2)
 (.ret [.cells 3 2, .v 0]))
 .skip))
 (.seq (.reg [.op (.mkl 1 5 [(.int .i64 0)] [(0, (.c (.int .i64 2))), (1, (.c (.int .i64 3))), (2, (.c (.int .i64 4))), (3, (.c (.int .i64 5))), (4, (.c (.int .i64 7)))]),
  .nop 0])
 (.seq (.seq (.reg [.op (.mov (.c (.int .i64 0)))])
 (.block 0 [[5], [], [27, 6], [25], [], [4], [0], [1, 11]] (.pre [3, 0] 0 ac19L0)))
 (.seq (.seq (.reg [.op (.mov (.c (.int .i64 0)))])
 (.block 2 [[5], [], [], [], [27, 6], [25], [], [4], [0], [1, 11]] (.pre [1, 0] 0 ac19L1)))
 (.seq (.seq (.post (.reg [.nop 8,
  .nop 9,
  .op (.call 12 [(.v 8), (.v 9)]),
  .op (.bin .gtr 3 (.v 0) (.c (.int .i64 4096)))]) [0] 2)
 (.cond (.v 0) (.seq (.post (.reg [.op (.build [(.int .i64 0), (.slice none 0 0)] []),
  .eff (.st 2 (.v 9) (.v 0)),
  .op (.mov (.c (.int .i64 7)))]) [0] 2)
 (.ret [.cells 9 2, .v 0]))
 .skip))
 (.seq (.post (.reg [.nop 9,
  .nop 10,
  .op (.call 14 [(.v 9), (.v 10)]),
  .eff (.st 2 (.v 9) (.v 0)),
  .op (.mov (.c (.int .i64 0)))]) [0] 2)
 (.ret [.cells 9 2, .v 0]))))))))⟩


def ac20L0b : AC :=
 (.post (.seq (.seq (.reg [.nop 1,
  .nop 4,
  .op (.len false (.v 4)),
  .op (.bin .lss 3 (.v 2) (.v 0))])
 (.cond (.v 0) .skip
 (.pre [2] 4 (.exit 0))))
 (.seq (.block 1 [[4], [9], [8], [], [5, 6], [], [], [0, 7], [1]] (.post (.seq (.reg [.nop 6,
  .nop 3,
  .op (.idx 1 (.v 6) (.v 3)),
  .op (.ld1 (.v 0)),
  .nop 9,
  .op (.bin .eql 3 (.v 0) (.v 9))])
 (.cond (.v 0) (.seq (.reg [.op (.mov (.c (.bool true)))])
 (.ret [.v 0]))
 .skip)) [5] 3))
 (.reg [.nop 4,
  .op (.bin .add 3 (.v 4) (.c (.int .i64 1))),
  .nop 0]))) [1, 0] 6)
def ac20L0 : AC := .loop [[4], [5], [], [], [0], [1]] ac20L0b
def ac20 : AFn := ⟨2, [],
 (.seq (.reg [.op (.mov (.c (.bool false)))])
 (.seq (.seq (.reg [.op (.mov (.c (.int .i64 0)))])
 (.block 0 [[4], [], [], [0], [1]] (.pre [1, 0] 0 ac20L0)))
 (.seq (.reg [.op (.mov (.c (.bool false)))])
 (.ret [.v 0]))))⟩


def ac21L0b : AC :=
 (.post (.seq (.reg [.op (.bin .lss 3 (.v 1) (.v 3))])
 (.seq (.cond (.v 0) .skip
 (.pre [1] 3 (.exit 0)))
 (.seq (.block 1 [[7], [26], [], [25], [], [24], [23], [21], [], [6], [3], [0], [1, 10], [2, 11]] (.post (.seq (.reg [.op (.idx 1 (.v 5) (.v 2)),
  .op (.ld1 (.v 0)),
  .nop 0])
 (.seq (.reg [.nop 0,
  .nop 13,
  .op (.call 31 [(.v 0), (.v 13)]),
  .nop 0,
  .opg (.mov (.v 1)) 0 true,
  .opg (.mov (.v 16)) 1 true,
  .opg (.call 31 [(.v 1), (.v 0)]) 2 true,
  .op (.pick (.v 3) (.v 0) (.c (.bool false)))])
 (.cond (.v 0) (.reg [.nop 8,
  .op (.bin .add 3 (.v 8) (.c (.int .i64 1))),
  .nop 0])
 (.post .skip [8] 0)))) [0] 8))
 (.reg [.op (.bin .add 3 (.v 3) (.c (.int .i64 1))),
  .nop 0])))) [1, 0] 5)
def ac21L0 : AC := .loop [[7], [25], [], [24], [23], [21], [], [6], [3], [0], [1, 10], [2, 11]] ac21L0b
def ac21 : AFn := ⟨3, [],
 (.seq (.reg [.op (.box (.v 0)),
  .op (.mov (.c (.int .i64 0)))])
 (.seq (.reg [.op (.mov (.c (.int .i64 0)))])
 (.seq (.seq (.post (.reg [.nop 4,
  .nop 5,
  .op (.pur .min [(.v 4), (.v 5)]),
  .op (.bin .lss 3 (.v 0) (.c (.int .i64 0))),
  .nop 0,
  .opg (.mov (.v 6)) 0 false,
  .opg (.mov (.v 8)) 1 false,
  .opg (.mx (.v 1) (.v 0)) 2 false,
  .opg (.fld 0 (.v 7)) 3 false,
  .opg (.ld1 (.v 0)) 4 false,
  .opg (.bin .geq 3 (.v 2) (.v 0)) 5 false,
  .op (.pick (.v 6) (.c (.bool true)) (.v 0))]) [0] 9)
 (.cond (.v 0) (.seq (.reg [.op (.mov (.c (.int .i64 0)))])
 (.ret [.v 0]))
 .skip))
 (.seq (.seq (.post (.reg [.op (.fld 1 (.v 3)),
  .op (.ld1 (.v 0)),
  .op (.len false (.v 0)),
  .op (.mov (.c (.int .i64 0)))]) [0, 1, 2] 4)
 (.block 0 [[7], [], [24], [23], [21], [], [6], [3], [0], [1, 10], [2, 11]] (.pre [4, 0] 0 ac21L0)))
 (.seq (.reg [.nop 0,
  .nop 0])
 (.ret [.v 0]))))))⟩


def ac22 : AFn := ⟨1, [],
 (.seq (.reg [.op (.mov (.c (.int .i64 0))),
  .op (.mov (.c (.int .i64 0)))])
 (.seq (.post (.reg [.nop 2,
  .op (.pur (.bit .shr 45) [(.v 2), (.c (.int .u64 8))]),
  .op (.conv .i64 (.v 0)),
  .op (.bin .rem 3 (.v 0) (.c (.int .i64 7))),
  .op (.bin .add 3 (.c (.int .i64 2)) (.v 0)),
  .nop 0]) [0] 4)
 (.seq (.post (.regD [.nop 0,
  .nop 3,
  .op (.pur (.bit .and 45) [(.v 3), (.c (.int .u16 255))]),
  .op (.conv .i64 (.v 0)),
  .nop 2,
  .op (.bin .sub 3 (.v 2) (.c (.int .i64 1))),
  .op (.bin .rem 3 (.v 1) (.v 0)),
  .op (.bin .add 3 (.c (.int .i64 2)) (.v 0)),
  .nop 5,
  .nop 0] [0, 0, 2, 6, 0, 16, 62, 126, 1, 511]) [0] 5)
 (.ret [.v 1, .v 0]))))⟩


def ac23L0b : AC :=
 (.post (.seq (.reg [.op (.bin .lss 3 (.v 2) (.v 7))])
 (.seq (.cond (.v 0) .skip
 (.pre [1, 2] 4 (.exit 0)))
 (.seq (.block 1 [[4], [5], [9], [], [], [8], [], [], [], [0], [1, 7]] (.post (.seq (.reg [.nop 3,
  .nop 3])
 (.seq (.reg [.nop 2,
  .nop 7,
  .nop 3,
  .op (.bin .sub 3 (.v 7) (.v 3)),
  .op (.bin .mul 3 (.v 3) (.v 0)),
  .nop 5,
  .op (.bin .add 3 (.v 5) (.c (.int .i64 1))),
  .op (.bin .quo 3 (.v 1) (.v 0)),
  .nop 0])
 (.seq (.reg [.nop 0,
  .op (.bin .gtr 3 (.v 0) (.c (.int .i64 1099511627776)))])
 (.cond (.v 0) (.seq (.reg [.nop 1,
  .nop 1])
 (.ret [.v 1]))
 .skip)))) [6, 1] 5))
 (.reg [.op (.bin .add 3 (.v 5) (.c (.int .i64 1))),
  .nop 0])))) [1, 2, 0] 7)
def ac23L0 : AC := .loop [[4], [5], [8], [], [], [], [0], [1, 7]] ac23L0b
def ac23 : AFn := ⟨2, [],
 (.seq (.reg [.op (.mov (.c (.int .i64 0)))])
 (.seq (.reg [.op (.mov (.c (.int .i64 1)))])
 (.seq (.seq (.reg [.nop 3,
  .op (.mov (.c (.int .i64 0)))])
 (.block 0 [[4], [5], [], [], [], [0], [1, 7]] (.pre [2, 1, 0] 0 ac23L0)))
 (.seq (.reg [.nop 1,
  .nop 1])
 (.ret [.v 1])))))⟩


def ac24 : AFn := ⟨3, [],
 (.seq (.reg [.op (.box (.v 0)),
  .op (.box (.v 2)),
  .op (.box (.v 4)),
  .op (.mov (.c .nilFunc))])
 (.seq (.reg [.op (.func 32 [] [(.v 3), (.v 1), (.v 2)]),
  .nop 0])
 (.ret [.v 0])))⟩


def ac25L0b : AC :=
 (.post (.seq (.seq (.reg [.nop 2,
  .nop 7,
  .op (.bin .lss 3 (.v 2) (.v 7))])
 (.cond (.v 0) .skip
 (.pre [1, 2] 4 (.exit 0))))
 (.seq (.block 1 [[4], [5], [9], [], [], [6, 7], [], [], [], [0], [1, 8]] (.post (.seq (.reg [.nop 2,
  .nop 7,
  .nop 3,
  .op (.bin .sub 3 (.v 7) (.v 3)),
  .op (.bin .mul 3 (.v 3) (.v 0)),
  .nop 5,
  .op (.bin .add 3 (.v 5) (.c (.int .i64 1))),
  .op (.bin .quo 3 (.v 1) (.v 0)),
  .nop 0])
 (.seq (.reg [.nop 0,
  .op (.bin .gtr 3 (.v 0) (.c (.int .i64 1099511627776)))])
 (.cond (.v 0) (.seq (.reg [.nop 1,
  .nop 1])
 (.ret [.v 1]))
 .skip))) [6, 1] 5))
 (.reg [.nop 5,
  .op (.bin .add 3 (.v 5) (.c (.int .i64 1))),
  .nop 0]))) [1, 2, 0] 7)
def ac25L0 : AC := .loop [[4], [5], [6], [], [], [], [0], [1]] ac25L0b
def ac25 : AFn := ⟨2, [],
 (.seq (.reg [.op (.mov (.c (.int .i64 0)))])
 (.seq (.reg [.op (.mov (.c (.int .i64 1)))])
 (.seq (.seq (.reg [.op (.mov (.c (.int .i64 0)))])
 (.block 0 [[4], [5], [], [], [], [0], [1]] (.pre [2, 1, 0] 0 ac25L0)))
 (.seq (.reg [.nop 1,
  .nop 1])
 (.ret [.v 1])))))⟩


def ac26L0b : AC :=
 (.post (.seq (.reg [.op (.bin .lss 3 (.v 1) (.v 3))])
 (.seq (.cond (.v 0) .skip
 (.pre [1, 2] 3 (.exit 2)))
 (.seq (.block 3 [[2], [53], [], [52], [], [51], [49], [48], [47], [46], [45], [44], [43], [41, 4, 42, 50], [40], [39], [], [38], [], [37], [36], [34], [], [1], [0]] (.post (.seq (.reg [.nop 2,
  .op (.idx 1 (.v 12) (.v 2)),
  .op (.ld1 (.v 0)),
  .nop 4,
  .nop 0])
 (.seq (.reg [.nop 0,
  .op (.bin .lss 3 (.v 0) (.c (.int .i64 0))),
  .nop 0,
  .opg (.mov (.v 1)) 0 false,
  .opg (.fld 0 (.v 26)) 1 false,
  .opg (.ld1 (.v 0)) 2 false,
  .opg (.bin .geq 3 (.v 2) (.v 0)) 3 false,
  .op (.pick (.v 4) (.c (.bool true)) (.v 0)),
  .nop 0,
  .opg (.mov (.v 10)) 0 false,
  .opg (.bin .gtr 3 (.v 0) (.c (.int .i64 0))) 1 false,
  .opg (.mov (.v 0)) 2 false,
  .opg (.mov (.v 23)) 0 true,
  .opg (.mov (.v 14)) 1 true,
  .opg (.bin .sub 3 (.v 0) (.c (.int .i64 1))) 2 true,
  .opg (.idx 1 (.v 2) (.v 0)) 3 true,
  .opg (.ld1 (.v 0)) 4 true,
  .opg (.mov (.v 14)) 5 true,
  .opg (.bin .geq 3 (.v 1) (.v 0)) 6 true,
  .opg (.pick (.v 7) (.v 0) (.c (.bool false))) 10 false,
  .op (.pick (.v 11) (.c (.bool true)) (.v 0))])
 (.cond (.v 0) (.seq (.reg [.op (.mov (.c (.bool false)))])
 (.ret [.v 0]))
 .skip))) [21] 20))
 (.reg [.op (.bin .add 3 (.v 3) (.c (.int .i64 1))),
  .nop 0])))) [1, 0] 5)
def ac26L0 : AC := .loop [[2], [52], [], [51], [49], [48], [47], [46], [45], [44], [43], [41, 4, 42, 50], [40], [39], [], [38], [], [37], [36], [34], [], [1], [0]] ac26L0b
def ac26L1b : AC :=
 (.post (.seq (.reg [.op (.bin .lss 3 (.v 1) (.v 3))])
 (.seq (.cond (.v 0) .skip
 (.pre [1] 3 (.exit 0)))
 (.seq (.block 1 [[2], [39], [], [38], [], [37], [36], [34], [], [1], [0]] (.post (.seq (.reg [.op (.idx 1 (.v 5) (.v 2)),
  .op (.ld1 (.v 0)),
  .nop 0])
 (.seq (.seq (.reg [.nop 0,
  .op (.len false (.v 0)),
  .op (.fld 1 (.v 11)),
  .op (.ld1 (.v 0)),
  .op (.idx 1 (.v 0) (.c (.int .i64 0))),
  .op (.ld1 (.v 0)),
  .op (.len false (.v 0)),
  .op (.bin .neq 3 (.v 5) (.v 0))])
 (.cond (.v 0) (.seq (.reg [.op (.mov (.c (.bool false)))])
 (.ret [.v 0]))
 .skip))
 (.seq (.reg [.nop 7,
  .op (.len false (.v 7)),
  .op (.mov (.c (.int .i64 0)))])
 (.block 2 [[2], [52], [], [51], [49], [48], [47], [46], [45], [44], [43], [41, 4, 42, 50], [40], [39], [], [38], [], [37], [36], [34], [], [1], [0]] (.pre [12, 0] 0 ac26L0))))) [0] 13))
 (.reg [.op (.bin .add 3 (.v 3) (.c (.int .i64 1))),
  .nop 0])))) [1, 0] 5)
def ac26L1 : AC := .loop [[2], [38], [], [37], [36], [34], [], [1], [0]] ac26L1b
def ac26 : AFn := ⟨1, [],
 (.seq (.reg [.op (.box (.v 0)),
  .op (.mov (.c (.bool false)))])
 (.seq (.seq (.post (.reg [.op (.fld 0 (.v 1)),
  .op (.ld1 (.v 0)),
  .op (.bin .lss 3 (.v 0) (.c (.int .i64 2))),
  .nop 0,
  .opg (.fld 0 (.v 4)) 0 false,
  .opg (.ld1 (.v 0)) 1 false,
  .opg (.bin .gtr 3 (.v 0) (.c (.int .i64 60))) 2 false,
  .op (.pick (.v 3) (.c (.bool true)) (.v 0)),
  .nop 0,
  .opg (.fld 1 (.v 8)) 0 false,
  .opg (.ld1 (.v 0)) 1 false,
  .opg (.len false (.v 0)) 2 false,
  .opg (.bin .lss 3 (.v 0) (.c (.int .i64 1))) 3 false,
  .op (.pick (.v 4) (.c (.bool true)) (.v 0)),
  .nop 0,
  .opg (.fld 1 (.v 13)) 0 false,
  .opg (.ld1 (.v 0)) 1 false,
  .opg (.len false (.v 0)) 2 false,
  .opg (.bin .gtr 3 (.v 0) (.c (.int .i64 4096))) 3 false,
  .op (.pick (.v 4) (.c (.bool true)) (.v 0)),
  .nop 0,
  .opg (.fld 1 (.v 18)) 0 false,
  .opg (.ld1 (.v 0)) 1 false,
  .opg (.idx 1 (.v 0) (.c (.int .i64 0))) 2 false,
  .opg (.ld1 (.v 0)) 3 false,
  .opg (.len false (.v 0)) 4 false,
  .opg (.bin .lss 3 (.v 0) (.c (.int .i64 2))) 5 false,
  .op (.pick (.v 6) (.c (.bool true)) (.v 0))]) [0] 24)
 (.cond (.v 0) (.seq (.reg [.op (.mov (.c (.bool false)))])
 (.ret [.v 0]))
 .skip))
 (.seq (.seq (.post (.reg [.op (.fld 1 (.v 2)),
  .op (.ld1 (.v 0)),
  .op (.len false (.v 0)),
  .op (.mov (.c (.int .i64 0)))]) [0, 1, 2] 4)
 (.block 0 [[2], [], [37], [36], [34], [], [1], [0]] (.pre [4, 0] 0 ac26L1)))
 (.seq (.reg [.op (.mov (.c (.bool true)))])
 (.ret [.v 0])))))⟩


def ac27L0b : AC :=
 (.post (.seq (.reg [.op (.bin .lss 3 (.v 1) (.v 3))])
 (.seq (.cond (.v 0) .skip
 (.pre [1, 2] 3 (.exit 2)))
 (.seq (.block 3 [[9], [42], [], [41], [], [40], [39], [38], [37], [], [8], [35], [34], [33], [32], [], [31], [30], [6], [18], [16, 5, 17], [15, 4, 21, 27, 36], [3], [2], [0, 13]] (.post (.seq (.reg [.nop 2,
  .op (.idx 3 (.v 5) (.v 2)),
  .op (.ldn 3 (.v 0)),
  .op (.new [(.int .i64 0), (.int .i64 0), (.int .i64 0)]),
  .nop 5,
  .eff (.st 3 (.v 0) (.v 1))])
 (.seq (.reg [.nop 23,
  .op (.ldn 3 (.v 12)),
  .op (.ldn 3 (.v 1)),
  .op (.call 35 [(.v 25), (.v 1), (.v 0)]),
  .op (.bin .eql 3 (.v 0) (.c (.int .i64 0)))])
 (.cond (.v 0) (.post (.reg [.nop 8,
  .nop 9,
  .op (.mkl 1 1 [(.int .i64 0)] [(0, (.v 9))]),
  .op (.app 1 8 (.v 9) (.v 0)),
  .nop 0]) [0] 2)
 (.post .skip [8] 0)))) [0] 8))
 (.reg [.op (.bin .add 3 (.v 3) (.c (.int .i64 1))),
  .nop 0])))) [1, 0] 5)
def ac27L0 : AC := .loop [[9], [41], [], [40], [39], [38], [37], [], [8], [35], [34], [33], [32], [], [31], [30], [6], [18], [16, 5, 17], [15, 4, 21, 27, 36], [3], [2], [0, 13]] ac27L0b
def ac27L1b : AC :=
 (.post (.seq (.reg [.op (.bin .lss 3 (.v 0) (.v 2))])
 (.seq (.cond (.v 0) .skip
 (.pre [] 2 (.exit 0)))
 (.seq (.block 1 [[33], [32], [], [31], [30], [6], [18], [16, 5, 17], [15, 4, 21, 27], [3], [2], [0, 13]] (.post (.seq (.reg [.op (.idx 3 (.v 4) (.v 1)),
  .op (.ldn 3 (.v 0)),
  .op (.new [(.int .i64 0), (.int .i64 0), (.int .i64 0)]),
  .eff (.st 3 (.v 0) (.v 1))])
 (.seq (.reg [.op (.mov (.c (.slice none 0 0)))])
 (.seq (.seq (.reg [.nop 12,
  .op (.nilck (.v 12)),
  .op (.fld 1 (.v 0)),
  .op (.ld1 (.v 0)),
  .op (.len false (.v 0)),
  .op (.mov (.c (.int .i64 0)))])
 (.block 2 [[9], [41], [], [40], [39], [38], [37], [], [8], [35], [34], [33], [32], [], [31], [30], [6], [18], [16, 5, 17], [15, 4, 21, 27, 36], [3], [2], [0, 13]] (.pre [5, 0] 0 ac27L0)))
 (.reg [.op (.fld 1 (.v 16)),
  .op (.ld1 (.v 0)),
  .nop 2,
  .op (.mkl 1 1 [(.slice none 0 0)] [(0, (.v 2))]),
  .op (.app 1 24 (.v 1) (.v 0)),
  .op (.fld 1 (.v 20)),
  .eff (.st 1 (.v 0) (.v 1))])))) [] 16))
 (.reg [.op (.bin .add 3 (.v 1) (.c (.int .i64 1))),
  .nop 0])))) [0] 3)
def ac27L1 : AC := .loop [[32], [], [31], [30], [6], [18], [16, 5, 17], [15, 4, 21, 27], [3], [2], [0, 13]] ac27L1b
def ac27 : AFn := ⟨1, [],
 (.seq (.reg [.op (.new [(.int .i64 0), (.slice none 0 0)]),
  .op (.mov (.c (.int .i64 0)))])
 (.seq (.post (.reg [.nop 2,
  .op (.call 34 [(.v 2)]),
  .nop 0,
  .op (.extr 0 (.v 0)),
  .op (.extr 1 (.v 1)),
  .nop 1,
  .nop 0]) [0, 1] 3)
 (.seq (.seq (.reg [.nop 0,
  .op (.bin .neq 26 (.v 0) (.c (.int .i64 0)))])
 (.cond (.v 0) (.seq (.post (.reg [.op (.build [(.int .i64 0), (.slice none 0 0)] []),
  .nop 2,
  .eff (.st 2 (.v 5) (.v 0)),
  .nop 2]) [] 1)
 (.ret [.cells 4 2, .v 1]))
 .skip))
 (.seq (.post (.reg [.nop 2,
  .op (.nilck (.v 2)),
  .op (.fld 1 (.v 0)),
  .op (.ld1 (.v 0)),
  .op (.len false (.v 0)),
  .op (.build [(.int .i64 0), (.slice none 0 0)] [(0, 1, (.v 0))]),
  .op (.new [(.int .i64 0), (.slice none 0 0)]),
  .eff (.st 2 (.v 0) (.v 1))]) [0] 6)
 (.seq (.seq (.post (.reg [.nop 3,
  .op (.nilck (.v 3)),
  .op (.fld 1 (.v 0)),
  .op (.ld1 (.v 0)),
  .op (.len false (.v 0)),
  .op (.mov (.c (.int .i64 0)))]) [0, 1, 2] 5)
 (.block 0 [[], [31], [30], [6], [18], [16, 5, 17], [15, 4, 21, 27], [3], [2], [0, 13]] (.pre [0] 0 ac27L1)))
 (.seq (.post (.reg [.op (.ldn 2 (.v 3)),
  .eff (.st 2 (.v 9) (.v 0)),
  .op (.mov (.c (.int .i64 0)))]) [0] 2)
 (.ret [.cells 9 2, .v 0])))))))⟩


def ac28L0b : AC :=
 (.post (.seq (.reg [.op (.bin .lss 3 (.v 1) (.v 17))])
 (.seq (.cond (.v 0) .skip
 (.pre [1, 2] 3 (.exit 4)))
 (.seq (.block 5 [[9], [41], [], [40], [], [], [37], [36, 38, 8], [], [33], [32, 34, 7], [], [6], [25], [20], [18, 5, 19], [17, 4], [3], [2], [0, 15, 22, 23, 27, 28, 31, 35, 39]] (.post (.seq (.reg [.nop 2,
  .nop 2])
 (.reg [.nop 1,
  .nop 18,
  .nop 2,
  .op (.bin .mul 3 (.v 18) (.v 2)),
  .nop 16,
  .nop 16,
  .nop 10,
  .nop 3,
  .op (.call 38 [(.v 16), (.v 10), (.v 3)]),
  .nop 8,
  .op (.call 37 [(.v 17), (.v 0), (.v 8)]),
  .op (.bin .add 3 (.v 2) (.v 0)),
  .op (.mkl 1 1 [(.int .i64 0)] [(0, (.v 0))]),
  .op (.app 1 8 (.v 6) (.v 0)),
  .nop 0])) [0] 6))
 (.reg [.op (.bin .add 3 (.v 3) (.c (.int .i64 1))),
  .nop 0])))) [1, 0] 5)
def ac28L0 : AC := .loop [[9], [40], [], [], [37], [36, 38, 8], [], [33], [32, 34, 7], [], [6], [25], [20], [18, 5, 19], [17, 4], [3], [2], [0, 15, 22, 23, 27, 28, 31, 35, 39]] ac28L0b
def ac28L1b : AC :=
 (.post (.seq (.reg [.op (.bin .lss 3 (.v 0) (.v 12))])
 (.seq (.cond (.v 0) .skip
 (.pre [1] 2 (.exit 2)))
 (.seq (.block 3 [[37], [36], [], [33], [32, 34, 7], [], [6], [25], [20], [18, 5, 19], [17, 4], [3], [2], [0, 15, 22, 23, 27, 28, 31, 35]] (.post (.seq (.reg [.nop 1,
  .nop 1])
 (.seq (.reg [.op (.mov (.c (.slice none 0 0)))])
 (.seq (.seq (.reg [.nop 14,
  .op (.mov (.c (.int .i64 0)))])
 (.block 4 [[9], [40], [], [], [37], [36, 38, 8], [], [33], [32, 34, 7], [], [6], [25], [20], [18, 5, 19], [17, 4], [3], [2], [0, 15, 22, 23, 27, 28, 31, 35, 39]] (.pre [1, 0] 0 ac28L0)))
 (.reg [.op (.fld 1 (.v 10)),
  .op (.ld1 (.v 0)),
  .nop 2,
  .op (.mkl 1 1 [(.slice none 0 0)] [(0, (.v 2))]),
  .op (.app 1 24 (.v 1) (.v 0)),
  .op (.fld 1 (.v 14)),
  .eff (.st 1 (.v 0) (.v 1))])))) [] 9))
 (.reg [.op (.bin .add 3 (.v 1) (.c (.int .i64 1))),
  .nop 0])))) [0] 3)
def ac28L1 : AC := .loop [[36], [], [33], [32, 34, 7], [], [6], [25], [20], [18, 5, 19], [17, 4], [3], [2], [0, 15, 22, 23, 27, 28, 31, 35]] ac28L1b
def ac28L2b : AC :=
 (.post (.seq (.reg [.op (.bin .lss 3 (.v 0) (.v 9))])
 (.seq (.cond (.v 0) .skip
 (.pre [] 2 (.exit 0)))
 (.seq (.block 1 [[33], [32], [], [6], [25], [20], [18, 5, 19], [17, 4], [3], [2], [0, 15, 22, 23, 27, 28, 31]] (.post (.seq (.reg [.nop 1,
  .nop 1])
 (.seq (.reg [.nop 10,
  .op (.mov (.c (.int .i64 0)))])
 (.block 2 [[36], [], [33], [32, 34, 7], [], [6], [25], [20], [18, 5, 19], [17, 4], [3], [2], [0, 15, 22, 23, 27, 28, 31, 35]] (.pre [0] 0 ac28L1)))) [] 2))
 (.reg [.op (.bin .add 3 (.v 1) (.c (.int .i64 1))),
  .nop 0])))) [0] 3)
def ac28L2 : AC := .loop [[32], [], [6], [25], [20], [18, 5, 19], [17, 4], [3], [2], [0, 15, 22, 23, 27, 28, 31]] ac28L2b
def ac28L3b : AC :=
 (.post (.seq (.reg [.op (.bin .lss 3 (.v 1) (.v 15))])
 (.seq (.cond (.v 0) .skip
 (.pre [1, 2] 3 (.exit 8)))
 (.seq (.block 9 [[12], [72], [], [71], [], [], [68], [67, 69, 11], [], [], [6], [25], [20], [18, 5, 19], [17, 4], [3], [2], [0, 15, 22, 23, 27, 28, 31, 66, 70]] (.post (.seq (.reg [.nop 2,
  .nop 2])
 (.reg [.nop 1,
  .nop 16,
  .nop 6,
  .op (.bin .mul 3 (.v 16) (.v 6)),
  .nop 3,
  .op (.bin .add 3 (.v 0) (.v 3)),
  .op (.mkl 1 1 [(.int .i64 0)] [(0, (.v 0))]),
  .op (.app 1 8 (.v 4) (.v 0)),
  .nop 0])) [0] 4))
 (.reg [.op (.bin .add 3 (.v 3) (.c (.int .i64 1))),
  .nop 0])))) [1, 0] 5)
def ac28L3 : AC := .loop [[12], [71], [], [], [68], [67, 69, 11], [], [], [6], [25], [20], [18, 5, 19], [17, 4], [3], [2], [0, 15, 22, 23, 27, 28, 31, 66, 70]] ac28L3b
def ac28L4b : AC :=
 (.post (.seq (.reg [.op (.bin .lss 3 (.v 0) (.v 10))])
 (.seq (.cond (.v 0) .skip
 (.pre [] 2 (.exit 6)))
 (.seq (.block 7 [[68], [67], [], [], [6], [25], [20], [18, 5, 19], [17, 4], [3], [2], [0, 15, 22, 23, 27, 28, 31, 66]] (.post (.seq (.reg [.nop 1,
  .nop 1])
 (.seq (.reg [.op (.mov (.c (.slice none 0 0)))])
 (.seq (.seq (.reg [.nop 12,
  .op (.mov (.c (.int .i64 0)))])
 (.block 8 [[12], [71], [], [], [68], [67, 69, 11], [], [], [6], [25], [20], [18, 5, 19], [17, 4], [3], [2], [0, 15, 22, 23, 27, 28, 31, 66, 70]] (.pre [1, 0] 0 ac28L3)))
 (.reg [.op (.fld 1 (.v 8)),
  .op (.ld1 (.v 0)),
  .nop 2,
  .op (.mkl 1 1 [(.slice none 0 0)] [(0, (.v 2))]),
  .op (.app 1 24 (.v 1) (.v 0)),
  .op (.fld 1 (.v 12)),
  .eff (.st 1 (.v 0) (.v 1))])))) [] 9))
 (.reg [.op (.bin .add 3 (.v 1) (.c (.int .i64 1))),
  .nop 0])))) [0] 3)
def ac28L4 : AC := .loop [[67], [], [], [6], [25], [20], [18, 5, 19], [17, 4], [3], [2], [0, 15, 22, 23, 27, 28, 31, 66]] ac28L4b
def ac28 : AFn := ⟨1, [],
 (.seq (.reg [.op (.new [(.int .i64 0), (.slice none 0 0)]),
  .op (.mov (.c (.int .i64 0)))])
 (.seq (.post (.reg [.nop 2,
  .op (.call 36 [(.v 2)]),
  .nop 0,
  .op (.extr 0 (.v 0)),
  .op (.extr 1 (.v 1)),
  .nop 1,
  .nop 0]) [0, 1] 3)
 (.seq (.seq (.reg [.nop 0,
  .op (.bin .neq 26 (.v 0) (.c (.int .i64 0)))])
 (.cond (.v 0) (.seq (.post (.reg [.op (.build [(.int .i64 0), (.slice none 0 0)] []),
  .eff (.st 2 (.v 5) (.v 0)),
  .op (.mov (.c (.int .i64 1)))]) [0] 2)
 (.ret [.cells 5 2, .v 0]))
 .skip))
 (.seq (.seq (.post (.reg [.nop 5,
  .nop 5,
  .op (.bin .mul 3 (.v 5) (.v 5)),
  .op (.bin .gtr 3 (.v 0) (.c (.int .i64 60)))]) [0] 2)
 (.cond (.v 0) (.seq (.post (.reg [.op (.build [(.int .i64 0), (.slice none 0 0)] []),
  .eff (.st 2 (.v 6) (.v 0)),
  .op (.mov (.c (.int .i64 7)))]) [0] 2)
 (.ret [.cells 6 2, .v 0]))
 .skip))
 (.seq (.post (.reg [.nop 6,
  .nop 6,
  .op (.bin .mul 3 (.v 6) (.v 6)),
  .op (.build [(.int .i64 0), (.slice none 0 0)] [(0, 1, (.v 0))]),
  .op (.new [(.int .i64 0), (.slice none 0 0)]),
  .eff (.st 2 (.v 0) (.v 1))]) [0] 3)
 (.seq (.seq (.reg [.nop 7,
  .op (.mov (.c (.int .i64 0)))])
 (.block 0 [[], [6], [25], [20], [18, 5, 19], [17, 4], [3], [2], [0, 15, 22, 23, 27, 28, 31]] (.pre [0] 0 ac28L2)))
 (.seq (.seq (.reg [.nop 8,
  .op (.mov (.c (.int .i64 0)))])
 (.block 6 [[], [], [6], [25], [20], [18, 5, 19], [17, 4], [3], [2], [0, 15, 22, 23, 27, 28, 31, 66]] (.pre [0] 0 ac28L4)))
 (.seq (.post (.reg [.op (.ldn 2 (.v 2)),
  .eff (.st 2 (.v 9) (.v 0)),
  .op (.mov (.c (.int .i64 0)))]) [0] 2)
 (.ret [.cells 9 2, .v 0])))))))))⟩


def ac29L0b : AC :=
 (.post (.seq (.seq (.reg [.nop 1,
  .op (.bin .lss 3 (.v 1) (.c (.int .i64 3)))])
 (.cond (.v 0) .skip
 (.pre [1, 2] 3 (.exit 4))))
 (.seq (.block 5 [[8], [28], [], [9, 27], [], [], [24], [23], [6], [7, 21], [], [], [18], [17], [5, 15], [], [4], [11, 3, 12, 16, 22], [2], [0, 10]] (.post (.regD [.nop 18,
  .nop 1,
  .nop 18,
  .nop 16,
  .nop 13,
  .nop 2,
  .op (.idx 3 (.v 16) (.v 13)),
  .op (.ida 3 1 (.v 0) (.v 3)),
  .op (.ld1 (.v 0)),
  .nop 19,
  .nop 11,
  .nop 5,
  .op (.idx 3 (.v 19) (.v 11)),
  .op (.ida 3 1 (.v 0) (.v 6)),
  .op (.ld1 (.v 0)),
  .op (.call 41 [(.v 24), (.v 3), (.v 0)]),
  .op (.call 40 [(.v 25), (.v 8), (.v 0)]),
  .nop 0] [0, 0, 0, 0, 0, 0, 24, 120, 248, 0, 0, 0, 1536, 7680, 15872, 32764, 65535, 131071]) [0] 8))
 (.reg [.nop 3,
  .op (.bin .add 3 (.v 3) (.c (.int .i64 1))),
  .nop 0]))) [1, 0] 5)
def ac29L0 : AC := .loop [[8], [9], [], [], [24], [23], [6], [7, 21], [], [], [18], [17], [5, 15], [], [4], [11, 3, 12, 16, 22], [2], [0, 10]] ac29L0b
def ac29L1b : AC :=
 (.post (.seq (.seq (.reg [.nop 1,
  .nop 9,
  .op (.len false (.v 9)),
  .op (.bin .lss 3 (.v 2) (.v 0))])
 (.cond (.v 0) .skip
 (.pre [2, 3] 4 (.exit 2))))
 (.seq (.block 3 [[6], [24], [23], [], [7, 21], [], [], [18], [17], [5, 15], [], [4], [11, 3, 12, 16, 22], [2], [0, 10]] (.post (.seq (.reg [.op (.mov (.c (.int .i64 0)))])
 (.seq (.seq (.reg [.op (.mov (.c (.int .i64 0)))])
 (.block 4 [[8], [9], [], [], [24], [23], [6], [7, 21], [], [], [18], [17], [5, 15], [], [4], [11, 3, 12, 16, 22], [2], [0, 10]] (.pre [1, 0] 0 ac29L0)))
 (.seq (.reg [.nop 0,
  .op (.bin .eql 3 (.v 0) (.c (.int .i64 0)))])
 (.cond (.v 0) (.post (.reg [.nop 7,
  .nop 8,
  .op (.mkl 1 1 [(.int .i64 0)] [(0, (.v 8))]),
  .op (.app 1 8 (.v 8) (.v 0)),
  .nop 0]) [0] 2)
 (.post .skip [7] 0))))) [0] 6))
 (.reg [.nop 4,
  .op (.bin .add 3 (.v 4) (.c (.int .i64 1))),
  .nop 0]))) [1, 0] 6)
def ac29L1 : AC := .loop [[6], [7], [], [], [18], [17], [5, 15], [], [4], [11, 3, 12, 16], [2], [0, 10]] ac29L1b
def ac29L2b : AC :=
 (.post (.seq (.seq (.reg [.nop 0,
  .nop 3,
  .op (.len false (.v 3)),
  .op (.bin .lss 3 (.v 1) (.v 0))])
 (.cond (.v 0) .skip
 (.pre [] 3 (.exit 0))))
 (.seq (.block 1 [[18], [17], [5, 15], [], [4], [11, 3, 12, 16], [2], [0, 10]] (.post (.seq (.reg [.op (.mov (.c (.slice none 0 0)))])
 (.seq (.seq (.reg [.op (.mov (.c (.int .i64 0)))])
 (.block 2 [[6], [7], [], [], [18], [17], [5, 15], [], [4], [11, 3, 12, 16], [2], [0, 10]] (.pre [1, 0] 0 ac29L1)))
 (.reg [.op (.fld 1 (.v 8)),
  .op (.ld1 (.v 0)),
  .nop 2,
  .op (.mkl 1 1 [(.slice none 0 0)] [(0, (.v 2))]),
  .op (.app 1 24 (.v 1) (.v 0)),
  .op (.fld 1 (.v 12)),
  .eff (.st 1 (.v 0) (.v 1))]))) [] 9))
 (.reg [.nop 2,
  .op (.bin .add 3 (.v 2) (.c (.int .i64 1))),
  .nop 0]))) [0] 4)
def ac29L2 : AC := .loop [[5], [], [4], [11, 3, 12], [2], [0, 10]] ac29L2b
def ac29 : AFn := ⟨1, [],
 (.seq (.reg [.op (.new [(.int .i64 0), (.slice none 0 0)])])
 (.seq (.reg [.nop 1,
  .op (.call 39 [(.v 1)]),
  .nop 0])
 (.seq (.post (.reg [.nop 0,
  .op (.len false (.v 0)),
  .op (.build [(.int .i64 0), (.slice none 0 0)] [(0, 1, (.v 0))]),
  .op (.new [(.int .i64 0), (.slice none 0 0)]),
  .eff (.st 2 (.v 0) (.v 1))]) [0] 3)
 (.seq (.seq (.reg [.op (.mov (.c (.int .i64 0)))])
 (.block 0 [[], [4], [11, 3, 12], [2], [0, 10]] (.pre [0] 0 ac29L2)))
 (.seq (.post (.reg [.op (.ldn 2 (.v 1)),
  .eff (.st 2 (.v 4) (.v 0))]) [] 1)
 (.ret [.cells 3 2]))))))⟩


def ac30L0b : AC :=
 (.post (.seq (.seq (.reg [.nop 1,
  .nop 11,
  .nop 11,
  .op (.bin .mul 3 (.v 11) (.v 11)),
  .op (.bin .lss 3 (.v 2) (.v 0))])
 (.cond (.v 0) .skip
 (.pre [2, 3] 4 (.exit 2))))
 (.seq (.block 3 [[5], [26], [25], [], [6, 22], [], [], [19], [18], [16], [4, 13], [], [3], [2], [0, 9, 10, 14, 15, 17, 23, 24]] (.post (.seq (.regD [.nop 3,
  .nop 13,
  .op (.bin .quo 3 (.v 3) (.v 13)),
  .nop 4,
  .nop 14,
  .op (.bin .rem 3 (.v 4) (.v 14)),
  .nop 1,
  .nop 0] [0, 0, 3, 0, 0, 24, 7, 127])
 (.seq (.regD [.nop 11,
  .nop 15,
  .nop 15,
  .op (.bin .mul 3 (.v 15) (.v 15)),
  .op (.bin .lss 3 (.v 12) (.v 0)),
  .nop 0,
  .opg (.mov (.v 2)) 0 true,
  .opg (.mov (.v 18)) 1 true,
  .opg (.mov (.v 19)) 2 true,
  .opg (.mov (.v 16)) 3 true,
  .opg (.mov (.v 21)) 4 true,
  .opg (.bin .quo 3 (.v 1) (.v 0)) 5 true,
  .opg (.mov (.v 9)) 6 true,
  .opg (.call 41 [(.v 4), (.v 1), (.v 0)]) 7 true,
  .opg (.mov (.v 21)) 8 true,
  .opg (.mov (.v 26)) 9 true,
  .opg (.bin .rem 3 (.v 1) (.v 0)) 10 true,
  .opg (.call 40 [(.v 9), (.v 3), (.v 0)]) 11 true,
  .opg (.bin .eql 3 (.v 11) (.v 0)) 12 true,
  .op (.pick (.v 13) (.v 0) (.c (.bool false))),
  .nop 0,
  .opg (.mov (.v 27)) 0 false,
  .opg (.mov (.v 32)) 1 false,
  .opg (.mov (.v 33)) 2 false,
  .opg (.bin .mul 3 (.v 1) (.v 0)) 3 false,
  .opg (.bin .geq 3 (.v 3) (.v 0)) 4 false,
  .opg (.mov (.v 0)) 5 false,
  .opg (.mov (.v 23)) 0 true,
  .opg (.mov (.v 34)) 1 true,
  .opg (.mov (.v 39)) 2 true,
  .opg (.mov (.v 40)) 3 true,
  .opg (.bin .mul 3 (.v 1) (.v 0)) 4 true,
  .opg (.bin .sub 3 (.v 3) (.v 0)) 5 true,
  .opg (.bin .eql 3 (.v 5) (.v 0)) 6 true,
  .opg (.pick (.v 7) (.v 0) (.c (.bool false))) 13 false,
  .op (.pick (.v 14) (.c (.bool true)) (.v 0))] [0, 0, 0, 6, 15, 31, 63, 63, 63, 63, 63, 1599, 63, 7999, 63, 63, 49215, 131007, 262143, 524287, 1048575, 2097151, 2097151, 2097151, 14680063, 33554431, 67108863, 134217727, 134217727, 134217727, 134217727, 1744830463, 4160749567, 8589934591, 17179869183, 34359738367])
 (.cond (.v 0) (.post (.reg [.nop 35,
  .nop 36,
  .op (.mkl 1 1 [(.int .i64 0)] [(0, (.v 36))]),
  .op (.app 1 8 (.v 36) (.v 0)),
  .nop 0]) [0] 2)
 (.post .skip [35] 0)))) [0] 34))
 (.reg [.nop 4,
  .op (.bin .add 3 (.v 4) (.c (.int .i64 1))),
  .nop 0]))) [1, 0] 6)
def ac30L0 : AC := .loop [[5], [6], [], [], [19], [18], [16], [4, 13], [], [3], [2], [0, 9, 10, 14, 15, 17]] ac30L0b
def ac30L1b : AC :=
 (.post (.seq (.seq (.reg [.nop 0,
  .nop 4,
  .nop 4,
  .op (.bin .mul 3 (.v 4) (.v 4)),
  .nop 5,
  .op (.bin .add 3 (.v 0) (.v 5)),
  .op (.bin .lss 3 (.v 2) (.v 0))])
 (.cond (.v 0) .skip
 (.pre [] 4 (.exit 0))))
 (.seq (.block 1 [[19], [18], [16], [4, 13], [], [3], [2], [0, 9, 10, 14, 15, 17]] (.post (.seq (.reg [.op (.mov (.c (.slice none 0 0)))])
 (.seq (.seq (.reg [.op (.mov (.c (.int .i64 0)))])
 (.block 2 [[5], [6], [], [], [19], [18], [16], [4, 13], [], [3], [2], [0, 9, 10, 14, 15, 17]] (.pre [1, 0] 0 ac30L0)))
 (.reg [.op (.fld 1 (.v 9)),
  .op (.ld1 (.v 0)),
  .nop 2,
  .op (.mkl 1 1 [(.slice none 0 0)] [(0, (.v 2))]),
  .op (.app 1 24 (.v 1) (.v 0)),
  .op (.fld 1 (.v 13)),
  .eff (.st 1 (.v 0) (.v 1))]))) [] 9))
 (.reg [.nop 3,
  .op (.bin .add 3 (.v 3) (.c (.int .i64 1))),
  .nop 0]))) [0] 5)
def ac30L1 : AC := .loop [[4], [], [3], [2], [0, 9, 10]] ac30L1b
def ac30 : AFn := ⟨1, [],
 (.seq (.reg [.op (.new [(.int .i64 0), (.slice none 0 0)])])
 (.seq (.post (.reg [.nop 1,
  .nop 1,
  .op (.bin .mul 3 (.v 1) (.v 1)),
  .op (.build [(.int .i64 0), (.slice none 0 0)] [(0, 1, (.v 0))]),
  .op (.new [(.int .i64 0), (.slice none 0 0)]),
  .eff (.st 2 (.v 0) (.v 1))]) [0] 3)
 (.seq (.seq (.reg [.op (.mov (.c (.int .i64 0)))])
 (.block 0 [[], [3], [2], [0, 9, 10]] (.pre [0] 0 ac30L1)))
 (.seq (.post (.reg [.op (.ldn 2 (.v 1)),
  .eff (.st 2 (.v 3) (.v 0))]) [] 1)
 (.ret [.cells 2 2])))))⟩


def ac31 : AFn := ⟨2, [],
 (.seq (.reg [.op (.mov (.c (.bool false)))])
 (.seq (.post (.reg [.nop 1,
  .nop 2,
  .op (.call 42 [(.v 1), (.v 2)]),
  .op (.bin .geq 3 (.v 0) (.c (.int .i64 0))),
  .nop 0]) [0] 2)
 (.ret [.v 0])))⟩


def ac33 : AFn := ⟨1, [],
 (.seq (.reg [.op (.mov (.c (.slice none 0 0)))])
 (.seq (.seq (.reg [.nop 1,
  .op (.bin .eql 40 (.v 1) (.c (.slice none 0 0)))])
 (.cond (.v 0) (.seq (.reg [.op (.mov (.c (.slice none 0 0)))])
 (.ret [.v 0]))
 .skip))
 (.seq (.post (.reg [.op (.mkl 1 0 [(.int .i64 0)] []),
  .nop 3,
  .op (.app 1 8 (.v 0) (.v 3)),
  .nop 0]) [0] 2)
 (.ret [.v 0]))))⟩


def ac34L0b : AC :=
 (.post (.seq (.reg [.op (.bin .lss 3 (.v 0) (.v 15))])
 (.seq (.cond (.v 0) .skip
 (.pre [1] 2 (.exit 4)))
 (.seq (.block 5 [[38], [37], [], [34], [33, 35, 8], [], [30], [29, 31, 7], [], [28, 6], [24], [17], [15, 5, 16], [14, 4, 25], [3], [2], [0, 12, 18, 19, 21, 32, 36]] (.post (.seq (.reg [.nop 1,
  .nop 1])
 (.seq (.reg [.nop 7,
  .nop 4,
  .nop 1,
  .op (.build [(.int .i64 0), (.int .i64 0), (.int .i64 0)] [(0, 1, (.v 7)), (1, 1, (.v 4)), (2, 1, (.v 1))]),
  .op (.new [(.int .i64 0), (.int .i64 0), (.int .i64 0)]),
  .eff (.st 3 (.v 0) (.v 1))])
 (.seq (.regD [.nop 11,
  .op (.ldn 3 (.v 0)),
  .op (.call 43 [(.v 12), (.v 0)]),
  .op (.ldn 3 (.v 2)),
  .op (.bin .eql 71 (.v 1) (.v 0)),
  .nop 0,
  .opg (.ldn 3 (.v 4)) 0 true,
  .opg (.build [(.int .i64 0), (.int .i64 0), (.int .i64 0)] []) 1 true,
  .opg (.bin .neq 71 (.v 1) (.v 0)) 2 true,
  .op (.pick (.v 3) (.v 0) (.c (.bool false)))] [0, 0, 3, 0, 15, 31, 63, 63, 255, 511])
 (.cond (.v 0) (.post (.seq (.regD [.nop 19,
  .op (.nilck (.v 19)),
  .op (.fld 2 (.v 0)),
  .op (.ld1 (.v 0)),
  .op (.ldn 3 (.v 11)),
  .nop 23,
  .op (.nilck (.v 23)),
  .op (.fld 1 (.v 0)),
  .op (.ld1 (.v 0)),
  .op (.len false (.v 0)),
  .eff (.mp (.upd 71) [(.v 5), (.v 4), (.v 0)])] [0, 1, 3, 7, 0, 0, 32, 96, 224, 480, 1023])
 (.regD [.nop 27,
  .nop 27,
  .op (.nilck (.v 27)),
  .op (.fld 1 (.v 0)),
  .op (.ld1 (.v 0)),
  .op (.ldn 3 (.v 19)),
  .op (.mkl 3 1 [(.int .i64 0), (.int .i64 0), (.int .i64 0)] [(0, (.v 0))]),
  .op (.app 3 24 (.v 2) (.v 0)),
  .op (.nilck (.v 33)),
  .op (.fld 1 (.v 0)),
  .eff (.st 1 (.v 0) (.v 2))] [0, 0, 2, 6, 14, 0, 32, 126, 255, 511, 1023])) [] 16)
 .skip)))) [] 10))
 (.reg [.op (.bin .add 3 (.v 1) (.c (.int .i64 1))),
  .nop 0])))) [0] 3)
def ac34L0 : AC := .loop [[37], [], [34], [33, 35, 8], [], [30], [29, 31, 7], [], [28, 6], [24], [17], [15, 5, 16], [14, 4, 25], [3], [2], [0, 12, 18, 19, 21, 32, 36]] ac34L0b
def ac34L1b : AC :=
 (.post (.seq (.reg [.op (.bin .lss 3 (.v 0) (.v 12))])
 (.seq (.cond (.v 0) .skip
 (.pre [1] 2 (.exit 2)))
 (.seq (.block 3 [[34], [33], [], [30], [29, 31, 7], [], [28, 6], [24], [17], [15, 5, 16], [14, 4, 25], [3], [2], [0, 12, 18, 19, 21, 32]] (.post (.seq (.reg [.nop 1,
  .nop 1])
 (.seq (.reg [.nop 13,
  .op (.mov (.c (.int .i64 0)))])
 (.block 4 [[37], [], [34], [33, 35, 8], [], [30], [29, 31, 7], [], [28, 6], [24], [17], [15, 5, 16], [14, 4, 25], [3], [2], [0, 12, 18, 19, 21, 32, 36]] (.pre [0] 0 ac34L0)))) [] 2))
 (.reg [.op (.bin .add 3 (.v 1) (.c (.int .i64 1))),
  .nop 0])))) [0] 3)
def ac34L1 : AC := .loop [[33], [], [30], [29, 31, 7], [], [28, 6], [24], [17], [15, 5, 16], [14, 4, 25], [3], [2], [0, 12, 18, 19, 21, 32]] ac34L1b
def ac34L2b : AC :=
 (.post (.seq (.reg [.op (.bin .lss 3 (.v 0) (.c (.int .i64 2)))])
 (.seq (.cond (.v 0) .skip
 (.pre [] 2 (.exit 0)))
 (.seq (.block 1 [[30], [29], [], [28, 6], [24], [17], [15, 5, 16], [14, 4, 25], [3], [2], [0, 12, 18, 19, 21]] (.post (.seq (.reg [.nop 1,
  .nop 1])
 (.seq (.reg [.nop 10,
  .op (.mov (.c (.int .i64 0)))])
 (.block 2 [[33], [], [30], [29, 31, 7], [], [28, 6], [24], [17], [15, 5, 16], [14, 4, 25], [3], [2], [0, 12, 18, 19, 21, 32]] (.pre [0] 0 ac34L1)))) [] 2))
 (.reg [.op (.bin .add 3 (.v 1) (.c (.int .i64 1))),
  .nop 0])))) [0] 3)
def ac34L2 : AC := .loop [[29], [], [28, 6], [24], [17], [15, 5, 16], [14, 4, 25], [3], [2], [0, 12, 18, 19, 21]] ac34L2b
def ac34 : AFn := ⟨1, [],
 (.seq (.reg [.op (.mov (.c (.pointer none))),
  .op (.mov (.c (.int .i64 0)))])
 (.seq (.post (.reg [.nop 2,
  .op (.call 36 [(.v 2)]),
  .nop 0,
  .op (.extr 0 (.v 0)),
  .op (.extr 1 (.v 1)),
  .nop 1,
  .nop 0]) [0, 1] 3)
 (.seq (.seq (.reg [.nop 0,
  .op (.bin .neq 26 (.v 0) (.c (.int .i64 0)))])
 (.cond (.v 0) (.seq (.reg [.op (.mov (.c (.pointer none))),
  .op (.mov (.c (.int .i64 1)))])
 (.ret [.v 1, .v 0]))
 .skip))
 (.seq (.seq (.post (.reg [.nop 5,
  .nop 5,
  .op (.bin .mul 3 (.v 5) (.v 5)),
  .nop 6,
  .op (.bin .add 3 (.v 0) (.v 6)),
  .op (.bin .add 3 (.v 0) (.c (.int .i64 1))),
  .op (.bin .gtr 3 (.v 0) (.c (.int .i64 60)))]) [0] 4)
 (.cond (.v 0) (.seq (.reg [.op (.mov (.c (.pointer none))),
  .op (.mov (.c (.int .i64 7)))])
 (.ret [.v 1, .v 0]))
 .skip))
 (.seq (.post (.reg [.nop 3,
  .op (.mp .mk []),
  .op (.build [(.pointer none), (.slice none 0 0), (.map none)] [(0, 1, (.v 4)), (2, 1, (.v 0))]),
  .op (.box (.v 0)),
  .nop 0]) [0] 3)
 (.seq (.seq (.reg [.op (.mov (.c (.int .i64 0)))])
 (.block 0 [[], [28, 6], [24], [17], [15, 5, 16], [14, 4, 25], [3], [2], [0, 12, 18, 19, 21]] (.pre [0] 0 ac34L2)))
 (.seq (.reg [.nop 1,
  .nop 1,
  .op (.mov (.c (.int .i64 0)))])
 (.ret [.v 2, .v 0]))))))))⟩


def ac35L0b : AC :=
 (.post (.seq (.reg [.op (.bin .lss 3 (.v 1) (.c (.int .i64 3)))])
 (.seq (.cond (.v 0) .skip
 (.pre [1] 3 (.exit 0)))
 (.seq (.block 1 [[7], [10], [], [9], [], [], [6], [5], [4], [0], [1], [2]] (.post (.seq (.reg [.nop 2,
  .nop 2])
 (.regD [.nop 8,
  .op (.nilck (.v 8)),
  .op (.fld 0 (.v 0)),
  .op (.ld1 (.v 0)),
  .nop 4,
  .nop 11,
  .op (.nilck (.v 11)),
  .op (.fld 0 (.v 0)),
  .op (.ld1 (.v 0)),
  .nop 8,
  .op (.ida 3 1 (.v 13) (.v 8)),
  .op (.ld1 (.v 0)),
  .nop 10,
  .op (.ida 3 1 (.v 14) (.v 10)),
  .op (.ld1 (.v 0)),
  .op (.call 38 [(.v 4), (.v 2), (.v 0)]),
  .op (.call 37 [(.v 8), (.v 12), (.v 0)]),
  .nop 0] [0, 1, 3, 7, 0, 0, 32, 96, 224, 0, 512, 1536, 0, 4096, 12288, 32736, 65535, 131071])) [0] 12))
 (.reg [.op (.bin .add 3 (.v 3) (.c (.int .i64 1))),
  .nop 0])))) [1, 0] 5)
def ac35L0 : AC := .loop [[7], [9], [], [], [6], [5], [4], [0], [1], [2]] ac35L0b
def ac35 : AFn := ⟨3, [],
 (.seq (.reg [.op (.box (.v 1)),
  .op (.box (.v 3)),
  .op (.mov (.c (.int .i64 0)))])
 (.seq (.reg [.op (.mov (.c (.int .i64 0)))])
 (.seq (.seq (.reg [.op (.mov (.c (.int .i64 0)))])
 (.block 0 [[7], [], [], [6], [5], [4], [0], [1], [2]] (.pre [1, 0] 0 ac35L0)))
 (.seq (.reg [.nop 0,
  .nop 0])
 (.ret [.v 0])))))⟩


def ac36L0b : AC :=
 (.post (.seq (.reg [.op (.bin .lss 3 (.v 2) (.v 4))])
 (.seq (.cond (.v 0) .skip
 (.pre [1, 2, 3] 4 (.exit 2)))
 (.seq (.block 3 [[9], [10], [38], [], [], [37], [], [36], [], [], [34], [33, 35, 8], [], [32], [31, 7], [6], [25], [22], [5], [16], [14, 4, 15, 18], [3], [2], [1], [0]] (.post (.seq (.reg [.nop 3,
  .nop 3])
 (.reg [.nop 1,
  .op (.ldn 3 (.v 16)),
  .nop 10,
  .nop 4,
  .op (.call 49 [(.v 0), (.v 10), (.v 4)]),
  .op (.mkl 1 1 [(.int .i64 0)] [(0, (.v 0))]),
  .op (.app 1 8 (.v 4) (.v 0)),
  .nop 6,
  .nop 17,
  .nop 13,
  .nop 7,
  .op (.callv (.v 17) [(.v 13), (.v 7)]),
  .op (.mkl 1 1 [(.int .i64 0)] [(0, (.v 0))]),
  .op (.app 1 8 (.v 8) (.v 0)),
  .nop 3,
  .nop 0])) [3, 0] 7))
 (.reg [.op (.bin .add 3 (.v 5) (.c (.int .i64 1))),
  .nop 0])))) [1, 2, 0] 7)
def ac36L0 : AC := .loop [[9], [10], [37], [], [36], [], [], [34], [33, 35, 8], [], [32], [31, 7], [6], [25], [22], [5], [16], [14, 4, 15, 18], [3], [2], [1], [0]] ac36L0b
def ac36L1b : AC :=
 (.post (.seq (.reg [.op (.bin .lss 3 (.v 0) (.v 2))])
 (.seq (.cond (.v 0) .skip
 (.pre [] 2 (.exit 0)))
 (.seq (.block 1 [[34], [33], [], [32], [31, 7], [6], [25], [22], [5], [16], [14, 4, 15, 18], [3], [2], [1], [0]] (.post (.seq (.reg [.nop 1,
  .nop 1])
 (.seq (.reg [.op (.mov (.c (.slice none 0 0))),
  .op (.mov (.c (.slice none 0 0)))])
 (.seq (.seq (.reg [.op (.ld1 (.v 15)),
  .op (.mov (.c (.int .i64 0)))])
 (.block 2 [[9], [10], [37], [], [36], [], [], [34], [33, 35, 8], [], [32], [31, 7], [6], [25], [22], [5], [16], [14, 4, 15, 18], [3], [2], [1], [0]] (.pre [3, 2, 0] 0 ac36L0)))
 (.regD [.nop 11,
  .nop 11,
  .nop 11,
  .op (.nilck (.v 11)),
  .op (.fld 2 (.v 0)),
  .op (.ld1 (.v 0)),
  .nop 3,
  .op (.mkl 1 1 [(.slice none 0 0)] [(0, (.v 3))]),
  .op (.app 1 24 (.v 1) (.v 0)),
  .nop 16,
  .op (.nilck (.v 16)),
  .op (.fld 3 (.v 0)),
  .op (.ld1 (.v 0)),
  .nop 9,
  .op (.mkl 1 1 [(.slice none 0 0)] [(0, (.v 9))]),
  .op (.app 1 24 (.v 1) (.v 0)),
  .op (.nilck (.v 21)),
  .op (.fld 2 (.v 0)),
  .eff (.st 1 (.v 0) (.v 7)),
  .op (.nilck (.v 23)),
  .op (.fld 3 (.v 0)),
  .eff (.st 1 (.v 0) (.v 4))] [0, 0, 0, 4, 12, 28, 0, 64, 252, 0, 512, 1536, 3584, 0, 8192, 32764, 65533, 131069, 262141, 524287, 1048575, 2097151])))) [] 21))
 (.reg [.op (.bin .add 3 (.v 1) (.c (.int .i64 1))),
  .nop 0])))) [0] 3)
def ac36L1 : AC := .loop [[33], [], [32], [31, 7], [6], [25], [22], [5], [16], [14, 4, 15, 18], [3], [2], [1], [0]] ac36L1b
def ac36 : AFn := ⟨1, [],
 (.seq (.reg [.op (.box (.v 0)),
  .op (.mov (.c (.pointer none))),
  .op (.mov (.c (.int .i64 0)))])
 (.seq (.post (.reg [.op (.call 45 []),
  .op (.func 46 [] [(.v 3)]),
  .op (.call 44 [(.v 1), (.v 0)]),
  .nop 0]) [0] 3)
 (.seq (.seq (.reg [.nop 0,
  .op (.bin .lss 3 (.v 0) (.c (.int .i64 0)))])
 (.cond (.v 0) (.seq (.reg [.op (.mov (.c (.pointer none))),
  .op (.mov (.c (.int .i64 1)))])
 (.ret [.v 1, .v 0]))
 .skip))
 (.seq (.post (.reg [.op (.call 45 []),
  .nop 2,
  .op (.idx 3 (.v 0) (.v 2)),
  .op (.ldn 3 (.v 0)),
  .op (.new [(.int .i64 0), (.int .i64 0), (.slice none 0 0)]),
  .eff (.st 3 (.v 0) (.v 1))]) [0] 4)
 (.seq (.post (.reg [.op (.ldn 3 (.v 0)),
  .op (.func 47 [(.v 0)] []),
  .nop 0]) [0] 2)
 (.seq (.seq (.post (.reg [.op (.fld 2 (.v 1)),
  .op (.ld1 (.v 0)),
  .op (.bin .eql 40 (.v 0) (.c (.slice none 0 0)))]) [0] 3)
 (.cond (.v 0) (.reg [.op (.func 48 [] [(.v 2)]),
  .nop 0])
 (.post .skip [1] 0)))
 (.seq (.post (.reg [.op (.ld1 (.v 8)),
  .op (.fld 1 (.v 4)),
  .op (.ld1 (.v 0)),
  .op (.build [(.int .i64 0), (.int .i64 0), (.slice none 0 0), (.slice none 0 0)] [(0, 1, (.v 2)), (1, 1, (.v 0))]),
  .op (.box (.v 0)),
  .nop 0]) [0] 5)
 (.seq (.seq (.reg [.op (.ld1 (.v 9)),
  .op (.mov (.c (.int .i64 0)))])
 (.block 0 [[], [32], [31, 7], [6], [25], [22], [5], [16], [14, 4, 15, 18], [3], [2], [1], [0]] (.pre [0] 0 ac36L1)))
 (.seq (.reg [.nop 2,
  .nop 2,
  .op (.mov (.c (.int .i64 0)))])
 (.ret [.v 3, .v 0]))))))))))⟩


def ac37 : AFn := ⟨3, [],
 (.seq (.reg [.op (.mov (.c (.int .i64 0)))])
 (.seq (.seq (.post (.reg [.nop 1,
  .nop 2,
  .op (.call 50 [(.v 1), (.v 2)]),
  .op (.una .not (.v 0)),
  .nop 0,
  .opg (.mov (.v 3)) 0 false,
  .opg (.mov (.v 6)) 1 false,
  .opg (.call 50 [(.v 1), (.v 0)]) 2 false,
  .opg (.una .not (.v 0)) 3 false,
  .op (.pick (.v 4) (.c (.bool true)) (.v 0))]) [0] 7)
 (.cond (.v 0) (.seq (.reg [.op (.mov (.c (.int .i64 (-1))))])
 (.ret [.v 0]))
 .skip))
 (.seq (.post (.reg [.nop 2,
  .op (.nilck (.v 2)),
  .op (.fld 2 (.v 0)),
  .op (.ld1 (.v 0)),
  .nop 6,
  .op (.idx 1 (.v 0) (.v 6)),
  .op (.ld1 (.v 0)),
  .nop 9,
  .op (.idx 1 (.v 0) (.v 9)),
  .op (.ld1 (.v 0)),
  .nop 0]) [0] 7)
 (.ret [.v 0]))))⟩


def ac38 : AFn := ⟨3, [],
 (.seq (.reg [.op (.mov (.c (.int .i64 0)))])
 (.seq (.seq (.post (.reg [.nop 1,
  .nop 2,
  .op (.call 50 [(.v 1), (.v 2)]),
  .op (.una .not (.v 0)),
  .nop 0,
  .opg (.mov (.v 3)) 0 false,
  .opg (.mov (.v 6)) 1 false,
  .opg (.call 50 [(.v 1), (.v 0)]) 2 false,
  .opg (.una .not (.v 0)) 3 false,
  .op (.pick (.v 4) (.c (.bool true)) (.v 0))]) [0] 7)
 (.cond (.v 0) (.seq (.reg [.op (.mov (.c (.int .i64 (-1))))])
 (.ret [.v 0]))
 .skip))
 (.seq (.post (.reg [.nop 2,
  .op (.nilck (.v 2)),
  .op (.fld 3 (.v 0)),
  .op (.ld1 (.v 0)),
  .nop 6,
  .op (.idx 1 (.v 0) (.v 6)),
  .op (.ld1 (.v 0)),
  .nop 9,
  .op (.idx 1 (.v 0) (.v 9)),
  .op (.ld1 (.v 0)),
  .nop 0]) [0] 7)
 (.ret [.v 0]))))⟩


def ac39L0b : AC :=
 (.post (.seq (.seq (.reg [.nop 1,
  .nop 13,
  .op (.bin .lss 3 (.v 1) (.v 13))])
 (.cond (.v 0) .skip
 (.pre [1, 2] 3 (.exit 4))))
 (.seq (.block 5 [[3], [19], [], [6, 17], [], [14], [], [5, 12], [], [9], [], [4, 7], [], [], [2], [0, 8, 13, 18]] (.post (.seq (.reg [.nop 10,
  .op (.bin .eql 3 (.v 10) (.c (.int .i64 1))),
  .nop 0,
  .opg (.mov (.v 11)) 0 false,
  .opg (.bin .eql 3 (.v 0) (.c (.int .i64 0))) 1 false,
  .opg (.mov (.v 0)) 2 false,
  .opg (.mov (.v 10)) 0 true,
  .opg (.bin .eql 3 (.v 0) (.c (.int .i64 1))) 1 true,
  .opg (.pick (.v 2) (.v 0) (.c (.bool false))) 5 false,
  .op (.pick (.v 6) (.c (.bool true)) (.v 0)),
  .nop 0,
  .opg (.mov (.v 18)) 0 false,
  .opg (.bin .eql 3 (.v 0) (.c (.int .i64 0))) 1 false,
  .opg (.mov (.v 0)) 2 false,
  .opg (.mov (.v 17)) 0 true,
  .opg (.bin .eql 3 (.v 0) (.c (.int .i64 0))) 1 true,
  .opg (.pick (.v 2) (.v 0) (.c (.bool false))) 5 false,
  .opg (.mov (.v 0)) 6 false,
  .opg (.mov (.v 17)) 0 true,
  .opg (.bin .eql 3 (.v 0) (.c (.int .i64 1))) 1 true,
  .opg (.pick (.v 2) (.v 0) (.c (.bool false))) 9 false,
  .op (.pick (.v 10) (.c (.bool true)) (.v 0))])
 (.cond (.v 0) (.post (.reg [.nop 20,
  .nop 29,
  .nop 25,
  .nop 21,
  .op (.build [(.int .i64 0), (.int .i64 0), (.int .i64 0)] [(0, 1, (.v 29)), (1, 1, (.v 25)), (2, 1, (.v 21))]),
  .op (.mkl 3 1 [(.int .i64 0), (.int .i64 0), (.int .i64 0)] [(0, (.v 0))]),
  .op (.app 3 24 (.v 22) (.v 0)),
  .nop 0]) [0] 3)
 (.post .skip [20] 0))) [0] 20))
 (.reg [.nop 3,
  .op (.bin .add 3 (.v 3) (.c (.int .i64 1))),
  .nop 0]))) [1, 0] 5)
def ac39L0 : AC := .loop [[3], [6], [], [14], [], [5, 12], [], [9], [], [4, 7], [], [], [2], [0, 8, 13]] ac39L0b
def ac39L1b : AC :=
 (.post (.seq (.seq (.reg [.nop 1,
  .nop 9,
  .op (.bin .lss 3 (.v 1) (.v 9))])
 (.cond (.v 0) .skip
 (.pre [1, 2] 3 (.exit 2))))
 (.seq (.block 3 [[3], [14], [], [5, 12], [], [9], [], [4, 7], [], [], [2], [0, 8, 13]] (.post (.seq (.reg [.op (.mov (.c (.int .i64 0)))])
 (.block 4 [[3], [6], [], [14], [], [5, 12], [], [9], [], [4, 7], [], [], [2], [0, 8, 13]] (.pre [2, 0] 0 ac39L0))) [0] 3))
 (.reg [.nop 3,
  .op (.bin .add 3 (.v 3) (.c (.int .i64 1))),
  .nop 0]))) [1, 0] 5)
def ac39L1 : AC := .loop [[3], [5], [], [9], [], [4, 7], [], [], [2], [0, 8]] ac39L1b
def ac39L2b : AC :=
 (.post (.seq (.seq (.reg [.nop 1,
  .nop 5,
  .op (.bin .lss 3 (.v 1) (.v 5))])
 (.cond (.v 0) .skip
 (.pre [1] 3 (.exit 0))))
 (.seq (.block 1 [[3], [9], [], [4, 7], [], [], [2], [0, 8]] (.post (.seq (.reg [.op (.mov (.c (.int .i64 0)))])
 (.block 2 [[3], [5], [], [9], [], [4, 7], [], [], [2], [0, 8]] (.pre [2, 0] 0 ac39L1))) [0] 3))
 (.reg [.nop 3,
  .op (.bin .add 3 (.v 3) (.c (.int .i64 1))),
  .nop 0]))) [1, 0] 5)
def ac39L2 : AC := .loop [[3], [4], [], [], [2], [0]] ac39L2b
def ac39 : AFn := ⟨1, [],
 (.seq (.reg [.op (.mov (.c (.slice none 0 0)))])
 (.seq (.reg [.op (.mov (.c (.slice none 0 0)))])
 (.seq (.seq (.reg [.op (.mov (.c (.int .i64 0)))])
 (.block 0 [[3], [], [], [2], [0]] (.pre [1, 0] 0 ac39L2)))
 (.seq (.reg [.nop 0,
  .nop 0])
 (.ret [.v 0])))))⟩


def ac40L0b : AC :=
 (.post (.seq (.seq (.reg [.nop 0,
  .nop 4,
  .op (.bin .lss 3 (.v 0) (.v 4))])
 (.cond (.v 0) .skip
 (.pre [] 2 (.exit 0))))
 (.seq (.block 1 [[27], [11, 25], [], [24, 10], [20, 9], [16, 8, 19, 23, 26], [15, 7, 18, 22], [6], [0, 13], [1, 17], [2, 21]] (.post (.regD [.nop 4,
  .nop 1,
  .nop 4,
  .nop 1,
  .op (.idx 1 (.v 4) (.v 1)),
  .op (.ld1 (.v 0)),
  .nop 5,
  .nop 3,
  .op (.idx 1 (.v 5) (.v 3)),
  .op (.ld1 (.v 0)),
  .op (.bin .add 3 (.v 2) (.v 0)),
  .nop 11,
  .op (.bin .rem 3 (.v 0) (.v 11)),
  .op (.idx 1 (.v 10) (.v 7)),
  .eff (.st 1 (.v 0) (.v 1))] [0, 0, 0, 0, 12, 28, 0, 0, 192, 448, 1020, 0, 4092, 8191, 16383]) [] 7))
 (.reg [.nop 1,
  .op (.bin .add 3 (.v 1) (.c (.int .i64 1))),
  .nop 0]))) [0] 3)
def ac40L0 : AC := .loop [[11], [], [24, 10], [20, 9], [16, 8, 19, 23], [15, 7, 18, 22], [6], [0, 13], [1, 17], [2, 21]] ac40L0b
def ac40 : AFn := ⟨3, [],
 (.seq (.reg [.op (.mov (.c (.int .i64 0)))])
 (.seq (.post (.reg [.nop 1,
  .op (.call 51 [(.v 1)]),
  .nop 0,
  .op (.extr 0 (.v 0)),
  .op (.extr 1 (.v 1)),
  .nop 1,
  .nop 0]) [0, 1] 3)
 (.seq (.reg [.nop 4,
  .nop 1,
  .nop 0,
  .op (.call 52 [(.v 4), (.v 1), (.v 0)]),
  .nop 6,
  .nop 2,
  .nop 1,
  .op (.call 52 [(.v 6), (.v 2), (.v 1)]),
  .nop 1,
  .nop 0])
 (.seq (.seq (.reg [.op (.mov (.c (.int .i64 0)))])
 (.block 0 [[], [24, 10], [20, 9], [16, 8, 19, 23], [15, 7, 18, 22], [6], [0, 13], [1, 17], [2, 21]] (.pre [0] 0 ac40L0)))
 (.seq (.reg [.nop 2,
  .nop 4,
  .op (.call 53 [(.v 2), (.v 4)]),
  .nop 0])
 (.ret [.v 0]))))))⟩


def ac41L0b : AC :=
 (.post (.seq (.seq (.reg [.nop 0,
  .nop 9,
  .op (.bin .lss 3 (.v 0) (.v 9))])
 (.cond (.v 0) .skip
 (.pre [1] 2 (.exit 2))))
 (.seq (.block 3 [[48], [13, 46], [], [43], [12, 41], [], [40, 11], [36, 10], [32, 9], [23], [21, 8, 22, 31, 35, 37, 42, 47], [20, 7, 30, 34], [6], [0, 18], [1, 29], [2, 33]] (.post (.regD [.nop 6,
  .nop 4,
  .nop 1,
  .op (.bin .add 3 (.v 4) (.v 1)),
  .nop 7,
  .nop 5,
  .nop 2,
  .op (.bin .add 3 (.v 5) (.v 2)),
  .op (.idx 1 (.v 8) (.v 0)),
  .op (.ld1 (.v 0)),
  .nop 12,
  .nop 8,
  .op (.idx 1 (.v 12) (.v 8)),
  .op (.ld1 (.v 0)),
  .nop 13,
  .nop 7,
  .op (.idx 1 (.v 13) (.v 7)),
  .op (.ld1 (.v 0)),
  .op (.bin .mul 3 (.v 2) (.v 0)),
  .op (.bin .add 3 (.v 5) (.v 0)),
  .nop 21,
  .op (.bin .rem 3 (.v 0) (.v 21)),
  .op (.idx 1 (.v 17) (.v 10)),
  .eff (.st 1 (.v 0) (.v 1))] [0, 0, 0, 6, 0, 0, 0, 96, 240, 496, 0, 0, 3072, 7168, 0, 0, 49152, 114688, 261120, 524272, 0, 2097136, 4194303, 8388607]) [] 12))
 (.reg [.nop 1,
  .op (.bin .add 3 (.v 1) (.c (.int .i64 1))),
  .nop 0]))) [0] 3)
def ac41L0 : AC := .loop [[13], [], [43], [12, 41], [], [40, 11], [36, 10], [32, 9], [23], [21, 8, 22, 31, 35, 37, 42], [20, 7, 30, 34], [6], [0, 18], [1, 29], [2, 33]] ac41L0b
def ac41L1b : AC :=
 (.post (.seq (.seq (.reg [.nop 0,
  .nop 6,
  .op (.bin .lss 3 (.v 0) (.v 6))])
 (.cond (.v 0) .skip
 (.pre [] 2 (.exit 0))))
 (.seq (.block 1 [[43], [12, 41], [], [40, 11], [36, 10], [32, 9], [23], [21, 8, 22, 31, 35, 37, 42], [20, 7, 30, 34], [6], [0, 18], [1, 29], [2, 33]] (.post (.seq (.reg [.op (.mov (.c (.int .i64 0)))])
 (.block 2 [[13], [], [43], [12, 41], [], [40, 11], [36, 10], [32, 9], [23], [21, 8, 22, 31, 35, 37, 42], [20, 7, 30, 34], [6], [0, 18], [1, 29], [2, 33]] (.pre [0] 0 ac41L0))) [] 2))
 (.reg [.nop 1,
  .op (.bin .add 3 (.v 1) (.c (.int .i64 1))),
  .nop 0]))) [0] 3)
def ac41L1 : AC := .loop [[12], [], [40, 11], [36, 10], [32, 9], [23], [21, 8, 22, 31, 35, 37], [20, 7, 30, 34], [6], [0, 18], [1, 29], [2, 33]] ac41L1b
def ac41L2b : AC :=
 (.post (.seq (.seq (.reg [.nop 0,
  .nop 15,
  .op (.bin .lss 3 (.v 0) (.v 15))])
 (.cond (.v 0) .skip
 (.pre [1] 2 (.exit 6))))
 (.seq (.block 7 [[91], [16, 89], [], [86], [15, 84], [83], [14], [79], [], [76], [74], [], [40, 11], [36, 10], [32, 9], [23], [21, 8, 22, 31, 35, 37, 81, 85, 90], [20, 7, 30, 34], [6], [0, 18, 75, 78], [1, 29], [2, 33]] (.post (.regD [.nop 12,
  .nop 4,
  .nop 16,
  .op (.bin .sub 3 (.v 4) (.v 16)),
  .nop 2,
  .op (.bin .add 3 (.v 0) (.v 2)),
  .nop 14,
  .nop 6,
  .nop 18,
  .op (.bin .sub 3 (.v 6) (.v 18)),
  .nop 4,
  .op (.bin .add 3 (.v 0) (.v 4)),
  .op (.idx 1 (.v 16) (.v 0)),
  .op (.ld1 (.v 0)),
  .nop 18,
  .nop 10,
  .op (.idx 1 (.v 18) (.v 10)),
  .op (.ld1 (.v 0)),
  .nop 25,
  .nop 14,
  .nop 9,
  .op (.idx 1 (.v 14) (.v 9)),
  .op (.ld1 (.v 0)),
  .op (.bin .sub 3 (.v 27) (.v 0)),
  .op (.bin .mul 3 (.v 3) (.v 0)),
  .op (.bin .add 3 (.v 6) (.v 0)),
  .nop 30,
  .op (.bin .rem 3 (.v 0) (.v 30)),
  .op (.idx 1 (.v 26) (.v 12)),
  .eff (.st 1 (.v 0) (.v 1))] [0, 0, 0, 6, 0, 30, 0, 0, 0, 384, 0, 1920, 4032, 8128, 0, 0, 49152, 114688, 0, 0, 0, 1572864, 3670016, 8126464, 16760832, 33554368, 0, 134217664, 268435455, 536870911]) [] 15))
 (.reg [.nop 1,
  .op (.bin .add 3 (.v 1) (.c (.int .i64 1))),
  .nop 0]))) [0] 3)
def ac41L2 : AC := .loop [[16], [], [86], [15, 84], [83], [14], [79], [], [76], [74], [], [40, 11], [36, 10], [32, 9], [23], [21, 8, 22, 31, 35, 37, 81, 85], [20, 7, 30, 34], [6], [0, 18, 75, 78], [1, 29], [2, 33]] ac41L2b
def ac41L3b : AC :=
 (.post (.seq (.seq (.reg [.nop 0,
  .nop 12,
  .op (.bin .geq 3 (.v 0) (.v 12))])
 (.cond (.v 0) .skip
 (.pre [] 2 (.exit 4))))
 (.seq (.block 5 [[86], [15, 84], [83], [14], [79], [], [76], [74], [], [40, 11], [36, 10], [32, 9], [23], [21, 8, 22, 31, 35, 37, 81, 85], [20, 7, 30, 34], [6], [0, 18, 75, 78], [1, 29], [2, 33]] (.post (.seq (.seq (.reg [.op (.mov (.c (.int .i64 0)))])
 (.block 6 [[16], [], [86], [15, 84], [83], [14], [79], [], [76], [74], [], [40, 11], [36, 10], [32, 9], [23], [21, 8, 22, 31, 35, 37, 81, 85], [20, 7, 30, 34], [6], [0, 18, 75, 78], [1, 29], [2, 33]] (.pre [0] 0 ac41L2)))
 (.reg [.nop 11,
  .nop 3,
  .op (.idx 1 (.v 11) (.v 3)),
  .eff (.st 1 (.v 0) (.c (.int .i64 0)))])) [] 3))
 (.reg [.nop 1,
  .op (.bin .sub 3 (.v 1) (.c (.int .i64 1))),
  .nop 0]))) [0] 3)
def ac41L3 : AC := .loop [[15], [83], [14], [79], [], [76], [74], [], [40, 11], [36, 10], [32, 9], [23], [21, 8, 22, 31, 35, 37, 81], [20, 7, 30, 34], [6], [0, 18, 75, 78], [1, 29], [2, 33]] ac41L3b
def ac41 : AFn := ⟨3, [],
 (.seq (.reg [.op (.mov (.c (.int .i64 0)))])
 (.seq (.post (.reg [.nop 1,
  .op (.call 51 [(.v 1)]),
  .nop 0,
  .op (.extr 0 (.v 0)),
  .op (.extr 1 (.v 1)),
  .nop 1,
  .nop 0]) [0, 1] 3)
 (.seq (.seq (.reg [.nop 0,
  .op (.bin .eql 3 (.v 0) (.c (.int .i64 1)))])
 (.cond (.v 0) (.seq (.post (.reg [.nop 5,
  .nop 6,
  .op (.bin .mul 3 (.v 5) (.v 6)),
  .nop 3,
  .op (.bin .rem 3 (.v 0) (.v 3)),
  .nop 0]) [0] 2)
 (.ret [.v 0]))
 .skip))
 (.seq (.reg [.nop 5,
  .nop 2,
  .nop 1,
  .op (.call 52 [(.v 5), (.v 2), (.v 1)]),
  .nop 7,
  .nop 3,
  .nop 2,
  .op (.call 52 [(.v 7), (.v 3), (.v 2)]),
  .nop 1,
  .nop 0])
 (.seq (.post (.reg [.nop 3,
  .op (.bin .mul 3 (.c (.int .i64 2)) (.v 3)),
  .op (.bin .sub 3 (.v 0) (.c (.int .i64 1))),
  .op (.make 1 8 [(.int .i64 0)] (.v 0) (.v 0)),
  .nop 0]) [0] 3)
 (.seq (.seq (.reg [.op (.mov (.c (.int .i64 0)))])
 (.block 0 [[], [40, 11], [36, 10], [32, 9], [23], [21, 8, 22, 31, 35, 37], [20, 7, 30, 34], [6], [0, 18], [1, 29], [2, 33]] (.pre [0] 0 ac41L1)))
 (.seq (.reg [.op (.mkl 1 2 [(.int .i64 0)] [(0, (.c (.int .i64 1))), (1, (.c (.int .i64 1)))]),
  .nop 0])
 (.seq (.seq (.reg [.nop 9,
  .op (.bin .eql 3 (.v 9) (.c (.int .i64 8)))])
 (.cond (.v 0) (.reg [.op (.mkl 1 3 [(.int .i64 0)] [(0, (.c (.int .i64 1))), (1, (.c (.int .i64 1))), (2, (.c (.int .i64 0)))]),
  .nop 0])
 (.post .skip [1] 0)))
 (.seq (.seq (.reg [.nop 11,
  .op (.bin .eql 3 (.v 11) (.c (.int .i64 9)))])
 (.cond (.v 0) (.reg [.op (.mkl 1 2 [(.int .i64 0)] [(0, (.c (.int .i64 1))), (1, (.c (.int .i64 0)))]),
  .nop 0])
 (.post .skip [1] 0)))
 (.seq (.seq (.post (.reg [.nop 10,
  .op (.bin .mul 3 (.c (.int .i64 2)) (.v 10)),
  .op (.bin .sub 3 (.v 0) (.c (.int .i64 2))),
  .nop 0]) [0] 2)
 (.block 4 [[83], [14], [79], [], [76], [74], [], [40, 11], [36, 10], [32, 9], [23], [21, 8, 22, 31, 35, 37, 81], [20, 7, 30, 34], [6], [0, 18, 75, 78], [1, 29], [2, 33]] (.pre [0] 0 ac41L3)))
 (.seq (.post (.reg [.nop 7,
  .nop 11,
  .op (.slc 1 (.v 7) none (some (.v 11))),
  .nop 13,
  .op (.call 53 [(.v 0), (.v 13)]),
  .nop 0]) [0] 2)
 (.ret [.v 0]))))))))))))⟩


def ac42L0b : AC :=
 (.post (.seq (.reg [.op (.bin .lss 3 (.v 1) (.v 3))])
 (.seq (.cond (.v 0) .skip
 (.pre [1] 3 (.exit 0)))
 (.seq (.block 1 [[4], [9], [], [8], [], [7], [], [0, 6], [1]] (.post (.seq (.reg [.nop 2,
  .nop 2])
 (.seq (.reg [.nop 7,
  .nop 6,
  .nop 2,
  .op (.idx 1 (.v 6) (.v 2)),
  .op (.ld1 (.v 0)),
  .op (.bin .eql 3 (.v 9) (.v 0))])
 (.cond (.v 0) (.seq (.reg [.nop 5,
  .nop 5])
 (.ret [.v 5]))
 .skip))) [4] 3))
 (.reg [.op (.bin .add 3 (.v 3) (.c (.int .i64 1))),
  .nop 0])))) [1, 0] 5)
def ac42L0 : AC := .loop [[4], [8], [], [7], [], [0, 6], [1]] ac42L0b
def ac42 : AFn := ⟨2, [],
 (.seq (.reg [.op (.mov (.c (.int .i64 0)))])
 (.seq (.seq (.reg [.nop 1,
  .op (.len false (.v 1)),
  .op (.mov (.c (.int .i64 0)))])
 (.block 0 [[4], [], [7], [], [0, 6], [1]] (.pre [2, 0] 0 ac42L0)))
 (.seq (.reg [.op (.mov (.c (.int .i64 (-1))))])
 (.ret [.v 0]))))⟩


def ac43L0b : AC :=
 (.post (.seq (.reg [.op (.bin .lss 3 (.v 0) (.c (.int .i64 3)))])
 (.seq (.cond (.v 0) .skip
 (.pre [] 2 (.exit 0)))
 (.seq (.block 1 [[22], [21], [], [20, 6], [11], [9, 5, 10, 17], [4], [3], [0, 13], [1]] (.post (.seq (.reg [.nop 1,
  .nop 1])
 (.regD [.nop 1,
  .nop 8,
  .op (.nilck (.v 8)),
  .op (.fld 0 (.v 0)),
  .op (.ld1 (.v 0)),
  .nop 4,
  .op (.ida 3 1 (.v 10) (.v 4)),
  .op (.ld1 (.v 0)),
  .nop 8,
  .op (.call 38 [(.v 2), (.v 0), (.v 8)]),
  .op (.ida 3 1 (.v 13) (.v 7)),
  .eff (.st 1 (.v 0) (.v 1))] [0, 0, 2, 6, 14, 0, 32, 96, 0, 510, 1023, 2047])) [] 7))
 (.reg [.op (.bin .add 3 (.v 1) (.c (.int .i64 1))),
  .nop 0])))) [0] 3)
def ac43L0 : AC := .loop [[21], [], [20, 6], [11], [9, 5, 10, 17], [4], [3], [0, 13], [1]] ac43L0b
def ac43 : AFn := ⟨2, [],
 (.seq (.reg [.op (.box (.v 1)),
  .op (.new [(.int .i64 0), (.int .i64 0), (.int .i64 0)])])
 (.seq (.post (.reg [.op (.pur (.arrs 3) [(.v 1)]),
  .op (.call 54 [(.v 0), (.c (.func (.func 55) #[] #[]))]),
  .nop 0]) [0] 2)
 (.seq (.seq (.reg [.nop 0,
  .op (.bin .lss 3 (.v 0) (.c (.int .i64 0)))])
 (.cond (.v 0) (.seq (.post (.reg [.op (.ldn 3 (.v 3)),
  .eff (.st 3 (.v 3) (.v 0))]) [] 1)
 (.ret [.cells 2 3]))
 .skip))
 (.seq (.post (.regD [.nop 4,
  .op (.nilck (.v 4)),
  .op (.fld 0 (.v 0)),
  .op (.ld1 (.v 0)),
  .nop 4,
  .op (.ida 3 1 (.v 6) (.v 4)),
  .op (.ld1 (.v 0)),
  .op (.call 56 [(.v 2), (.v 0)]),
  .nop 0] [0, 1, 3, 7, 0, 16, 48, 127, 255]) [0] 6)
 (.seq (.seq (.reg [.op (.mov (.c (.int .i64 0)))])
 (.block 0 [[], [20, 6], [11], [9, 5, 10, 17], [4], [3], [0, 13], [1]] (.pre [0] 0 ac43L0)))
 (.seq (.post (.reg [.op (.ldn 3 (.v 5)),
  .eff (.st 3 (.v 5) (.v 0))]) [] 1)
 (.ret [.cells 4 3])))))))⟩


def ac44L0b : AC :=
 (.post (.seq (.reg [.op (.bin .lss 3 (.v 1) (.v 3))])
 (.seq (.cond (.v 0) .skip
 (.pre [1] 3 (.exit 0)))
 (.seq (.block 1 [[4], [9], [], [8], [], [7], [], [0, 6], [1]] (.post (.seq (.reg [.nop 2,
  .nop 2])
 (.seq (.reg [.nop 7,
  .nop 6,
  .nop 2,
  .op (.idx 3 (.v 6) (.v 2)),
  .op (.ldn 3 (.v 0)),
  .op (.callv (.v 9) [(.v 0)])])
 (.cond (.v 0) (.seq (.reg [.nop 5,
  .nop 5])
 (.ret [.v 5]))
 .skip))) [4] 3))
 (.reg [.op (.bin .add 3 (.v 3) (.c (.int .i64 1))),
  .nop 0])))) [1, 0] 5)
def ac44L0 : AC := .loop [[4], [8], [], [7], [], [0, 6], [1]] ac44L0b
def ac44 : AFn := ⟨2, [],
 (.seq (.reg [.op (.mov (.c (.int .i64 0)))])
 (.seq (.seq (.reg [.nop 1,
  .op (.len false (.v 1)),
  .op (.mov (.c (.int .i64 0)))])
 (.block 0 [[4], [], [7], [], [0, 6], [1]] (.pre [2, 0] 0 ac44L0)))
 (.seq (.reg [.op (.mov (.c (.int .i64 (-1))))])
 (.ret [.v 0]))))⟩


def ac45 : AFn := ⟨0, [],
 (.seq (.reg [.op (.mov (.c (.slice none 0 0)))])
 (.seq (.post (.reg [.op (.build [(.int .i64 0), (.int .i64 0), (.slice none 0 0)] [(0, 1, (.c (.int .i64 2))), (1, 1, (.c (.int .i64 2))), (2, 1, (.c (.slice none 0 0)))]),
  .op (.build [(.int .i64 0), (.int .i64 0), (.slice none 0 0)] [(0, 1, (.c (.int .i64 3))), (1, 1, (.c (.int .i64 3))), (2, 1, (.c (.slice none 0 0)))]),
  .op (.mkl 1 2 [(.int .i64 0)] [(0, (.c (.int .i64 1))), (1, (.c (.int .i64 1)))]),
  .op (.build [(.int .i64 0), (.int .i64 0), (.slice none 0 0)] [(0, 1, (.c (.int .i64 4))), (1, 1, (.c (.int .i64 2))), (2, 1, (.v 0))]),
  .op (.build [(.int .i64 0), (.int .i64 0), (.slice none 0 0)] [(0, 1, (.c (.int .i64 5))), (1, 1, (.c (.int .i64 5))), (2, 1, (.c (.slice none 0 0)))]),
  .op (.build [(.int .i64 0), (.int .i64 0), (.slice none 0 0)] [(0, 1, (.c (.int .i64 7))), (1, 1, (.c (.int .i64 7))), (2, 1, (.c (.slice none 0 0)))]),
  .op (.mkl 1 3 [(.int .i64 0)] [(0, (.c (.int .i64 1))), (1, (.c (.int .i64 1))), (2, (.c (.int .i64 0)))]),
  .op (.build [(.int .i64 0), (.int .i64 0), (.slice none 0 0)] [(0, 1, (.c (.int .i64 8))), (1, 1, (.c (.int .i64 2))), (2, 1, (.v 0))]),
  .op (.mkl 1 2 [(.int .i64 0)] [(0, (.c (.int .i64 1))), (1, (.c (.int .i64 0)))]),
  .op (.build [(.int .i64 0), (.int .i64 0), (.slice none 0 0)] [(0, 1, (.c (.int .i64 9))), (1, 1, (.c (.int .i64 3))), (2, 1, (.v 0))]),
  .op (.mkl 3 7 [(.int .i64 0), (.int .i64 0), (.slice none 0 0)] [(0, (.v 9)), (1, (.v 8)), (2, (.v 6)), (3, (.v 5)), (4, (.v 4)), (5, (.v 2)), (6, (.v 0))]),
  .nop 0]) [0] 11)
 (.ret [.v 0])))⟩


def ac46 : AFn := ⟨2, [],
 (.seq (.reg [.op (.box (.v 0)),
  .op (.mov (.c (.bool false)))])
 (.seq (.post (.reg [.op (.fld 0 (.v 1)),
  .op (.ld1 (.v 0)),
  .op (.ld1 (.v 5)),
  .op (.bin .eql 3 (.v 1) (.v 0)),
  .nop 0]) [0] 4)
 (.ret [.v 0])))⟩


def ac47L0b : AC :=
 (.post (.seq (.reg [.op (.bin .lss 3 (.v 0) (.v 2))])
 (.seq (.cond (.v 0) .skip
 (.pre [1] 2 (.exit 2)))
 (.seq (.block 3 [[38], [37], [], [36], [33], [32, 34, 11], [], [31], [29, 10], [25, 9, 26], [22, 8, 35], [19, 7, 30], [6], [3], [0], [1, 18], [2, 21]] (.post (.seq (.reg [.nop 1,
  .nop 1])
 (.regD [.nop 8,
  .nop 5,
  .nop 1,
  .op (.bin .add 3 (.v 5) (.v 1)),
  .op (.idx 1 (.v 9) (.v 0)),
  .op (.ld1 (.v 0)),
  .nop 14,
  .nop 8,
  .op (.idx 1 (.v 14) (.v 8)),
  .op (.ld1 (.v 0)),
  .nop 15,
  .nop 6,
  .op (.idx 1 (.v 15) (.v 6)),
  .op (.ld1 (.v 0)),
  .op (.bin .mul 3 (.v 2) (.v 0)),
  .op (.bin .add 3 (.v 5) (.v 0)),
  .op (.idx 1 (.v 17) (.v 8)),
  .eff (.st 1 (.v 0) (.v 1))] [0, 0, 0, 6, 15, 31, 0, 0, 192, 448, 0, 0, 3072, 7168, 16320, 32767, 65535, 131071])) [] 10))
 (.reg [.op (.bin .add 3 (.v 1) (.c (.int .i64 1))),
  .nop 0])))) [0] 3)
def ac47L0 : AC := .loop [[37], [], [36], [33], [32, 34, 11], [], [31], [29, 10], [25, 9, 26], [22, 8, 35], [19, 7, 30], [6], [3], [0], [1, 18], [2, 21]] ac47L0b
def ac47L1b : AC :=
 (.post (.seq (.reg [.op (.bin .lss 3 (.v 0) (.v 2))])
 (.seq (.cond (.v 0) .skip
 (.pre [] 2 (.exit 0)))
 (.seq (.block 1 [[33], [32], [], [31], [29, 10], [25, 9, 26], [22, 8], [19, 7, 30], [6], [3], [0], [1, 18], [2, 21]] (.post (.seq (.reg [.nop 1,
  .nop 1])
 (.seq (.reg [.nop 6,
  .op (.len false (.v 6)),
  .op (.mov (.c (.int .i64 0)))])
 (.block 2 [[37], [], [36], [33], [32, 34, 11], [], [31], [29, 10], [25, 9, 26], [22, 8, 35], [19, 7, 30], [6], [3], [0], [1, 18], [2, 21]] (.pre [0] 0 ac47L0)))) [] 3))
 (.reg [.op (.bin .add 3 (.v 1) (.c (.int .i64 1))),
  .nop 0])))) [0] 3)
def ac47L1 : AC := .loop [[32], [], [31], [29, 10], [25, 9, 26], [22, 8], [19, 7, 30], [6], [3], [0], [1, 18], [2, 21]] ac47L1b
def ac47L2b : AC :=
 (.post (.seq (.reg [.op (.bin .lss 3 (.v 0) (.v 2))])
 (.seq (.cond (.v 0) .skip
 (.pre [1] 2 (.exit 6)))
 (.seq (.block 7 [[71], [70], [], [69], [68], [67], [64], [13, 62], [61], [], [31], [29, 10], [25, 9, 26, 59, 63], [22, 8], [19, 7, 30], [6], [3], [0], [1, 18], [2, 21]] (.post (.seq (.reg [.nop 1,
  .op (.idx 1 (.v 4) (.v 1)),
  .op (.ld1 (.v 0)),
  .nop 3,
  .nop 0])
 (.regD [.nop 13,
  .nop 9,
  .nop 14,
  .op (.bin .sub 3 (.v 9) (.v 14)),
  .nop 4,
  .op (.bin .add 3 (.v 0) (.v 4)),
  .op (.idx 1 (.v 15) (.v 0)),
  .op (.ld1 (.v 0)),
  .op (.fld 1 (.v 22)),
  .op (.ld1 (.v 0)),
  .nop 6,
  .op (.bin .sub 3 (.v 0) (.v 6)),
  .op (.fld 1 (.v 25)),
  .op (.ld1 (.v 0)),
  .op (.bin .rem 3 (.v 2) (.v 0)),
  .nop 23,
  .nop 19,
  .op (.idx 1 (.v 23) (.v 19)),
  .op (.ld1 (.v 0)),
  .op (.bin .mul 3 (.v 2) (.v 0)),
  .op (.bin .add 3 (.v 9) (.v 0)),
  .op (.idx 1 (.v 27) (.v 12)),
  .eff (.st 1 (.v 0) (.v 1))] [0, 0, 0, 6, 0, 30, 63, 127, 0, 256, 0, 1792, 0, 4096, 16128, 0, 0, 98304, 229376, 524032, 1048575, 2097151, 4194303])) [] 17))
 (.reg [.op (.bin .add 3 (.v 1) (.c (.int .i64 1))),
  .nop 0])))) [0] 3)
def ac47L2 : AC := .loop [[70], [], [69], [68], [67], [64], [13, 62], [61], [], [31], [29, 10], [25, 9, 26, 59, 63], [22, 8], [19, 7, 30], [6], [3], [0], [1, 18], [2, 21]] ac47L2b
def ac47L3b : AC :=
 (.post (.seq (.seq (.reg [.nop 0,
  .nop 5,
  .op (.bin .geq 3 (.v 0) (.v 5))])
 (.cond (.v 0) .skip
 (.pre [] 2 (.exit 4))))
 (.seq (.block 5 [[64], [13, 62], [61], [], [31], [29, 10], [25, 9, 26, 59, 63], [22, 8], [19, 7, 30], [6], [3], [0], [1, 18], [2, 21]] (.post (.seq (.reg [.op (.fld 2 (.v 10)),
  .op (.ld1 (.v 0)),
  .op (.len false (.v 0)),
  .op (.mov (.c (.int .i64 0)))])
 (.block 6 [[70], [], [69], [68], [67], [64], [13, 62], [61], [], [31], [29, 10], [25, 9, 26, 59, 63], [22, 8], [19, 7, 30], [6], [3], [0], [1, 18], [2, 21]] (.pre [0] 0 ac47L2))) [] 5))
 (.reg [.nop 1,
  .op (.bin .sub 3 (.v 1) (.c (.int .i64 1))),
  .nop 0]))) [0] 3)
def ac47L3 : AC := .loop [[13], [61], [], [31], [29, 10], [25, 9, 26, 59], [22, 8], [19, 7, 30], [6], [3], [0], [1, 18], [2, 21]] ac47L3b
def ac47L4b : AC :=
 (.post (.seq (.reg [.op (.bin .lss 3 (.v 0) (.v 2))])
 (.seq (.cond (.v 0) .skip
 (.pre [] 2 (.exit 8)))
 (.seq (.block 9 [[101], [100], [], [99], [61], [], [31], [29, 10, 98], [25, 9, 26, 59], [22, 8], [19, 7, 30], [6], [3], [0], [1, 18], [2, 21]] (.post (.seq (.reg [.nop 1,
  .nop 1])
 (.regD [.nop 7,
  .nop 1,
  .op (.idx 1 (.v 7) (.v 1)),
  .op (.ld1 (.v 0)),
  .op (.fld 1 (.v 14)),
  .op (.ld1 (.v 0)),
  .op (.bin .rem 3 (.v 2) (.v 0)),
  .op (.idx 1 (.v 12) (.v 6)),
  .eff (.st 1 (.v 0) (.v 1))] [0, 0, 3, 7, 0, 16, 63, 127, 255])) [] 6))
 (.reg [.op (.bin .add 3 (.v 1) (.c (.int .i64 1))),
  .nop 0])))) [0] 3)
def ac47L4 : AC := .loop [[100], [], [99], [61], [], [31], [29, 10, 98], [25, 9, 26, 59], [22, 8], [19, 7, 30], [6], [3], [0], [1, 18], [2, 21]] ac47L4b
def ac47 : AFn := ⟨3, [],
 (.seq (.reg [.op (.box (.v 0)),
  .op (.mov (.c (.int .i64 0)))])
 (.seq (.post (.regD [.op (.ldn 3 (.v 1)),
  .nop 4,
  .op (.call 57 [(.v 0), (.v 4)]),
  .op (.ldn 3 (.v 3)),
  .nop 7,
  .op (.call 57 [(.v 0), (.v 7)]),
  .nop 2,
  .nop 0] [0, 0, 3, 0, 0, 31, 63, 127]) [0, 2] 4)
 (.seq (.post (.reg [.op (.fld 2 (.v 3)),
  .op (.ld1 (.v 0)),
  .op (.len false (.v 0)),
  .nop 0]) [0] 3)
 (.seq (.post (.reg [.nop 0,
  .op (.bin .mul 3 (.c (.int .i64 2)) (.v 0)),
  .op (.bin .sub 3 (.v 0) (.c (.int .i64 1))),
  .op (.make 1 8 [(.int .i64 0)] (.v 0) (.v 0)),
  .nop 0]) [0] 3)
 (.seq (.seq (.reg [.nop 3,
  .op (.len false (.v 3)),
  .op (.mov (.c (.int .i64 0)))])
 (.block 0 [[], [31], [29, 10], [25, 9, 26], [22, 8], [19, 7, 30], [6], [3], [0], [1, 18], [2, 21]] (.pre [0] 0 ac47L1)))
 (.seq (.seq (.post (.reg [.nop 3,
  .op (.bin .mul 3 (.c (.int .i64 2)) (.v 3)),
  .op (.bin .sub 3 (.v 0) (.c (.int .i64 2))),
  .nop 0]) [0] 2)
 (.block 4 [[61], [], [31], [29, 10], [25, 9, 26, 59], [22, 8], [19, 7, 30], [6], [3], [0], [1, 18], [2, 21]] (.pre [0] 0 ac47L3)))
 (.seq (.seq (.reg [.nop 3,
  .op (.len false (.v 3)),
  .op (.mov (.c (.int .i64 0)))])
 (.block 8 [[], [99], [61], [], [31], [29, 10, 98], [25, 9, 26, 59], [22, 8], [19, 7, 30], [6], [3], [0], [1, 18], [2, 21]] (.pre [0] 0 ac47L4)))
 (.seq (.post (.regD [.op (.ldn 3 (.v 10)),
  .nop 6,
  .nop 7,
  .op (.slc 1 (.v 6) none (some (.v 7))),
  .op (.call 58 [(.v 1), (.v 0)]),
  .nop 0] [0, 0, 0, 6, 15, 31]) [0] 3)
 (.ret [.v 0])))))))))⟩


def ac48 : AFn := ⟨3, [],
 (.seq (.reg [.op (.mov (.c (.int .i64 0)))])
 (.seq (.post (.reg [.nop 1,
  .nop 2,
  .op (.bin .mul 3 (.v 1) (.v 2)),
  .op (.fld 1 (.v 4)),
  .op (.ld1 (.v 0)),
  .op (.bin .rem 3 (.v 2) (.v 0)),
  .nop 0]) [0] 4)
 (.ret [.v 0])))⟩


def ac49L0b : AC :=
 (.post (.seq (.reg [.op (.bin .lss 3 (.v 0) (.v 2))])
 (.seq (.cond (.v 0) .skip
 (.pre [] 2 (.exit 0)))
 (.seq (.block 1 [[19], [18], [], [17], [15, 8], [12, 7, 16], [6], [3], [0], [1, 11], [2, 14]] (.post (.seq (.reg [.nop 1,
  .nop 1])
 (.regD [.nop 5,
  .nop 1,
  .nop 5,
  .nop 1,
  .op (.idx 1 (.v 5) (.v 1)),
  .op (.ld1 (.v 0)),
  .nop 6,
  .nop 3,
  .op (.idx 1 (.v 6) (.v 3)),
  .op (.ld1 (.v 0)),
  .op (.bin .add 3 (.v 2) (.v 0)),
  .op (.fld 1 (.v 12)),
  .op (.ld1 (.v 0)),
  .op (.bin .rem 3 (.v 2) (.v 0)),
  .op (.idx 1 (.v 13) (.v 9)),
  .eff (.st 1 (.v 0) (.v 1))] [0, 0, 0, 0, 12, 28, 0, 0, 192, 448, 1020, 0, 2048, 8188, 16383, 32767])) [] 9))
 (.reg [.op (.bin .add 3 (.v 1) (.c (.int .i64 1))),
  .nop 0])))) [0] 3)
def ac49L0 : AC := .loop [[18], [], [17], [15, 8], [12, 7, 16], [6], [3], [0], [1, 11], [2, 14]] ac49L0b
def ac49 : AFn := ⟨3, [],
 (.seq (.reg [.op (.box (.v 0)),
  .op (.mov (.c (.int .i64 0)))])
 (.seq (.post (.regD [.op (.ldn 3 (.v 1)),
  .nop 4,
  .op (.call 57 [(.v 0), (.v 4)]),
  .op (.ldn 3 (.v 3)),
  .nop 7,
  .op (.call 57 [(.v 0), (.v 7)]),
  .nop 2,
  .nop 0] [0, 0, 3, 0, 0, 31, 63, 127]) [0, 2] 4)
 (.seq (.seq (.reg [.nop 1,
  .op (.len false (.v 1)),
  .op (.mov (.c (.int .i64 0)))])
 (.block 0 [[], [17], [15, 8], [12, 7, 16], [6], [3], [0], [1, 11], [2, 14]] (.pre [0] 0 ac49L0)))
 (.seq (.post (.reg [.op (.ldn 3 (.v 5)),
  .nop 4,
  .op (.call 58 [(.v 0), (.v 4)]),
  .nop 0]) [0] 2)
 (.ret [.v 0])))))⟩


def ac50 : AFn := ⟨2, [],
 (.seq (.reg [.op (.mov (.c (.bool false)))])
 (.seq (.post (.reg [.nop 1,
  .op (.bin .neq 65 (.v 1) (.c (.pointer none))),
  .nop 0,
  .opg (.mov (.v 3)) 0 true,
  .opg (.bin .geq 3 (.v 0) (.c (.int .i64 0))) 1 true,
  .op (.pick (.v 2) (.v 0) (.c (.bool false))),
  .nop 0,
  .opg (.mov (.v 6)) 0 true,
  .opg (.mov (.v 6)) 1 true,
  .opg (.nilck (.v 0)) 2 true,
  .opg (.fld 0 (.v 0)) 3 true,
  .opg (.ld1 (.v 0)) 4 true,
  .opg (.bin .lss 3 (.v 4) (.v 0)) 5 true,
  .op (.pick (.v 6) (.v 0) (.c (.bool false))),
  .nop 0]) [0] 11)
 (.ret [.v 0])))⟩


def ac51 : AFn := ⟨1, [],
 (.seq (.reg [.op (.mov (.c (.int .i64 0))),
  .op (.mov (.c (.int .i64 0)))])
 (.seq (.seq (.reg [.nop 2])
 (.block 0 [[2], [3], [], [], [0, 4]] (.post (.seq (.seq (.reg [.op (.bin .eql 3 (.v 2) (.c (.int .i64 2))),
  .nop 0])
 (.cond (.v 0) (.post .skip [0] 0)
 (.post (.seq (.reg [.op (.bin .eql 3 (.v 3) (.c (.int .i64 3))),
  .nop 0])
 (.cond (.v 0) (.post .skip [0] 0)
 (.post (.seq (.reg [.op (.bin .eql 3 (.v 4) (.c (.int .i64 5))),
  .nop 0])
 (.cond (.v 0) (.post .skip [0] 0)
 (.reg [.op (.bin .eql 3 (.v 5) (.c (.int .i64 7))),
  .nop 0]))) [0] 2))) [0] 2)))
 (.cond (.v 0) (.seq (.reg [.nop 4,
  .nop 4,
  .op (.mov (.c (.int .i64 1)))])
 (.ret [.v 5, .v 0]))
 (.seq (.reg [.op (.bin .eql 3 (.v 4) (.c (.int .i64 4))),
  .nop 0])
 (.cond (.v 0) (.seq (.reg [.op (.mov (.c (.int .i64 2))),
  .op (.mov (.c (.int .i64 2)))])
 (.ret [.v 1, .v 0]))
 (.seq (.reg [.op (.bin .eql 3 (.v 5) (.c (.int .i64 8))),
  .nop 0])
 (.cond (.v 0) (.seq (.reg [.op (.mov (.c (.int .i64 2))),
  .op (.mov (.c (.int .i64 3)))])
 (.ret [.v 1, .v 0]))
 (.seq (.reg [.op (.bin .eql 3 (.v 6) (.c (.int .i64 9))),
  .nop 0])
 (.cond (.v 0) (.seq (.reg [.op (.mov (.c (.int .i64 3))),
  .op (.mov (.c (.int .i64 2)))])
 (.ret [.v 1, .v 0]))
 .skip)))))))) [6, 5] 5)))
 (.seq (.reg [.op (.mov (.c (.int .i64 0))),
  .op (.mov (.c (.int .i64 0)))])
 (.ret [.v 1, .v 0]))))⟩


def ac52L0b : AC :=
 (.post (.seq (.seq (.reg [.nop 2,
  .nop 8,
  .op (.bin .lss 3 (.v 2) (.v 8))])
 (.cond (.v 0) .skip
 (.pre [2] 4 (.exit 0))))
 (.seq (.block 1 [[0], [7], [11], [], [], [8, 9], [], [], [6], [], [1], [2, 10]] (.post (.seq (.reg [.nop 2,
  .nop 1,
  .nop 8,
  .op (.bin .rem 3 (.v 1) (.v 8)),
  .op (.mkl 1 1 [(.int .i64 0)] [(0, (.v 0))]),
  .op (.app 1 8 (.v 4) (.v 0)),
  .nop 0])
 (.reg [.nop 4,
  .nop 11,
  .op (.bin .quo 3 (.v 4) (.v 11)),
  .nop 0])) [0, 1] 4))
 (.reg [.nop 5,
  .op (.bin .add 3 (.v 5) (.c (.int .i64 1))),
  .nop 0]))) [1, 2, 0] 7)
def ac52L0 : AC := .loop [[0], [7], [8], [], [], [6], [], [1], [2]] ac52L0b
def ac52 : AFn := ⟨3, [],
 (.seq (.reg [.op (.mov (.c (.slice none 0 0)))])
 (.seq (.reg [.op (.mov (.c (.slice none 0 0)))])
 (.seq (.seq (.reg [.op (.mov (.c (.int .i64 0)))])
 (.block 0 [[7], [], [], [6], [], [1], [2]] (.pre [3, 1, 0] 0 ac52L0)))
 (.seq (.reg [.nop 0,
  .nop 0])
 (.ret [.v 0])))))⟩


def ac53L0b : AC :=
 (.post (.seq (.seq (.reg [.nop 1,
  .op (.bin .geq 3 (.v 1) (.c (.int .i64 0)))])
 (.cond (.v 0) .skip
 (.pre [1] 3 (.exit 0))))
 (.seq (.block 1 [[5], [11], [], [6, 10], [9], [], [4], [0, 7], [1]] (.post (.reg [.nop 1,
  .nop 7,
  .op (.bin .mul 3 (.v 1) (.v 7)),
  .nop 7,
  .nop 3,
  .op (.idx 1 (.v 7) (.v 3)),
  .op (.ld1 (.v 0)),
  .op (.bin .add 3 (.v 2) (.v 0)),
  .nop 0]) [0] 4))
 (.reg [.nop 3,
  .op (.bin .sub 3 (.v 3) (.c (.int .i64 1))),
  .nop 0]))) [1, 0] 5)
def ac53L0 : AC := .loop [[5], [6], [9], [], [4], [0, 7], [1]] ac53L0b
def ac53 : AFn := ⟨2, [],
 (.seq (.reg [.op (.mov (.c (.int .i64 0)))])
 (.seq (.reg [.op (.mov (.c (.int .i64 0)))])
 (.seq (.seq (.post (.reg [.nop 2,
  .op (.len false (.v 2)),
  .op (.bin .sub 3 (.v 0) (.c (.int .i64 1))),
  .nop 0]) [0] 2)
 (.block 0 [[5], [9], [], [4], [0, 7], [1]] (.pre [1, 0] 0 ac53L0)))
 (.seq (.reg [.nop 0,
  .nop 0])
 (.ret [.v 0])))))⟩


def ac54L0b : AC :=
 (.post (.seq (.reg [.op (.bin .lss 3 (.v 1) (.v 3))])
 (.seq (.cond (.v 0) .skip
 (.pre [1] 3 (.exit 0)))
 (.seq (.block 1 [[4], [9], [], [8], [], [7], [], [0, 6], [1]] (.post (.seq (.reg [.nop 2,
  .nop 2])
 (.seq (.reg [.nop 7,
  .nop 6,
  .nop 2,
  .op (.idx 1 (.v 6) (.v 2)),
  .op (.ld1 (.v 0)),
  .op (.callv (.v 9) [(.v 0)])])
 (.cond (.v 0) (.seq (.reg [.nop 5,
  .nop 5])
 (.ret [.v 5]))
 .skip))) [4] 3))
 (.reg [.op (.bin .add 3 (.v 3) (.c (.int .i64 1))),
  .nop 0])))) [1, 0] 5)
def ac54L0 : AC := .loop [[4], [8], [], [7], [], [0, 6], [1]] ac54L0b
def ac54 : AFn := ⟨2, [],
 (.seq (.reg [.op (.mov (.c (.int .i64 0)))])
 (.seq (.seq (.reg [.nop 1,
  .op (.len false (.v 1)),
  .op (.mov (.c (.int .i64 0)))])
 (.block 0 [[4], [], [7], [], [0, 6], [1]] (.pre [2, 0] 0 ac54L0)))
 (.seq (.reg [.op (.mov (.c (.int .i64 (-1))))])
 (.ret [.v 0]))))⟩


def ac55 : AFn := ⟨1, [],
 (.seq (.reg [.op (.mov (.c (.bool false)))])
 (.seq (.reg [.nop 1,
  .op (.bin .neq 3 (.v 1) (.c (.int .i64 0))),
  .nop 0])
 (.ret [.v 0])))⟩


def ac56 : AFn := ⟨2, [],
 (.seq (.reg [.op (.mov (.c (.int .i64 0)))])
 (.seq (.seq (.post (.reg [.nop 1,
  .nop 2,
  .op (.call 50 [(.v 1), (.v 2)]),
  .op (.una .not (.v 0))]) [0] 2)
 (.cond (.v 0) (.seq (.reg [.op (.mov (.c (.int .i64 (-1))))])
 (.ret [.v 0]))
 .skip))
 (.seq (.post (.reg [.nop 2,
  .op (.nilck (.v 2)),
  .op (.fld 3 (.v 0)),
  .op (.ld1 (.v 0)),
  .nop 6,
  .op (.idx 1 (.v 0) (.v 6)),
  .op (.ld1 (.v 0)),
  .op (.call 42 [(.v 0), (.c (.int .i64 1))]),
  .nop 0]) [0] 6)
 (.ret [.v 0]))))⟩


def ac57L0b : AC :=
 (.post (.seq (.reg [.op (.bin .lss 3 (.v 1) (.v 3))])
 (.seq (.cond (.v 0) .skip
 (.pre [] 3 (.exit 0)))
 (.seq (.block 1 [[1], [15], [], [14], [], [13], [11, 5, 12], [4], [2], [0], []] (.post (.seq (.reg [.nop 2,
  .nop 2])
 (.seq (.reg [.nop 5,
  .nop 2,
  .nop 1,
  .op (.fld 1 (.v 7)),
  .op (.ld1 (.v 0)),
  .op (.bin .rem 3 (.v 3) (.v 0)),
  .op (.idx 1 (.v 8) (.v 5)),
  .eff (.st 1 (.v 0) (.v 1))])
 (.reg [.nop 5,
  .op (.fld 1 (.v 11)),
  .op (.ld1 (.v 0)),
  .op (.bin .quo 3 (.v 7) (.v 0)),
  .nop 0]))) [0] 7))
 (.reg [.op (.bin .add 3 (.v 3) (.c (.int .i64 1))),
  .nop 0])))) [1, 0] 5)
def ac57L0 : AC := .loop [[1], [14], [], [13], [11, 5, 12], [4], [2], [0], []] ac57L0b
def ac57 : AFn := ⟨2, [],
 (.seq (.reg [.op (.box (.v 0)),
  .op (.mov (.c (.slice none 0 0)))])
 (.seq (.post (.reg [.op (.fld 2 (.v 1)),
  .op (.ld1 (.v 0)),
  .op (.len false (.v 0)),
  .op (.mx (.c (.int .i64 1)) (.v 0)),
  .op (.make 1 8 [(.int .i64 0)] (.v 0) (.v 0)),
  .nop 0]) [0] 5)
 (.seq (.seq (.reg [.nop 0,
  .op (.len false (.v 0)),
  .op (.mov (.c (.int .i64 0)))])
 (.block 0 [[], [13], [11, 5, 12], [4], [2], [0], []] (.pre [6, 0] 0 ac57L0)))
 (.seq (.reg [.nop 2,
  .nop 2])
 (.ret [.v 2])))))⟩


def ac59 : AFn := ⟨1, [],
 (.seq (.reg [.op (.box (.v 0)),
  .op (.mov (.c .nilFunc))])
 (.seq (.reg [.op (.func 60 [] [(.v 1)]),
  .nop 0])
 (.ret [.v 0])))⟩


def ac60L0b : AC :=
 (.post (.seq (.seq (.reg [.nop 0,
  .op (.bin .geq 3 (.v 0) (.c (.int .i64 0)))])
 (.cond (.v 0) .skip
 (.pre [] 2 (.exit 0))))
 (.seq (.block 1 [[8], [3, 7], [6], [0], [1]] (.post (.seq (.reg [.nop 3,
  .nop 1,
  .op (.ld1 (.v 4)),
  .nop 2,
  .op (.idx 1 (.v 0) (.v 2)),
  .op (.ld1 (.v 0)),
  .op (.callv (.v 6) [(.v 4), (.v 0)]),
  .op (.una .not (.v 0))])
 (.cond (.v 0) (.ret [])
 .skip)) [] 5))
 (.reg [.nop 1,
  .op (.bin .sub 3 (.v 1) (.c (.int .i64 1))),
  .nop 0]))) [0] 3)
def ac60L0 : AC := .loop [[3], [6], [0], [1]] ac60L0b
def ac60 : AFn := ⟨2, [],
 (.seq (.post (.reg [.op (.ld1 (.v 1)),
  .op (.len false (.v 0)),
  .op (.bin .sub 3 (.v 0) (.c (.int .i64 1))),
  .nop 0]) [0] 3)
 (.block 0 [[6], [0], [1]] (.pre [0] 0 ac60L0)))⟩


theorem chk3 : chkFn Proofs.Try.prog Proofs.Try.f3 ac3 = true := by kernel_rfl
theorem chk4 : chkFn Proofs.Try.prog Proofs.Try.f4 ac4 = true := by kernel_rfl
theorem chk5 : chkFn Proofs.Try.prog Proofs.Try.f5 ac5 = true := by kernel_rfl
theorem chk6 : chkFn Proofs.Try.prog Proofs.Try.f6 ac6 = true := by kernel_rfl
theorem chk7 : chkFn Proofs.Try.prog Proofs.Try.f7 ac7 = true := by kernel_rfl
theorem chk8 : chkFn Proofs.Try.prog Proofs.Try.f8 ac8 = true := by kernel_rfl
theorem chk9 : chkFn Proofs.Try.prog Proofs.Try.f9 ac9 = true := by kernel_rfl
theorem chk10 : chkFn Proofs.Try.prog Proofs.Try.f10 ac10 = true := by kernel_rfl
theorem chk12 : chkFn Proofs.Try.prog Proofs.Try.f12 ac12 = true := by kernel_rfl
theorem chk13 : chkFn Proofs.Try.prog Proofs.Try.f13 ac13 = true := by kernel_rfl
theorem chk14 : chkFn Proofs.Try.prog Proofs.Try.f14 ac14 = true := by kernel_rfl
theorem chk15 : chkFn Proofs.Try.prog Proofs.Try.f15 ac15 = true := by kernel_rfl
theorem chk16 : chkFn Proofs.Try.prog Proofs.Try.f16 ac16 = true := by kernel_rfl
theorem chk17 : chkFn Proofs.Try.prog Proofs.Try.f17 ac17 = true := by kernel_rfl
theorem chk18 : chkFn Proofs.Try.prog Proofs.Try.f18 ac18 = true := by kernel_rfl
theorem chk19 : chkFn Proofs.Try.prog Proofs.Try.f19 ac19 = true := by kernel_rfl
theorem chk20 : chkFn Proofs.Try.prog Proofs.Try.f20 ac20 = true := by kernel_rfl
theorem chk21 : chkFn Proofs.Try.prog Proofs.Try.f21 ac21 = true := by kernel_rfl
theorem chk22 : chkFn Proofs.Try.prog Proofs.Try.f22 ac22 = true := by kernel_rfl
theorem chk23 : chkFn Proofs.Try.prog Proofs.Try.f23 ac23 = true := by kernel_rfl
theorem chk24 : chkFn Proofs.Try.prog Proofs.Try.f24 ac24 = true := by kernel_rfl
theorem chk25 : chkFn Proofs.Try.prog Proofs.Try.f25 ac25 = true := by kernel_rfl
theorem chk26 : chkFn Proofs.Try.prog Proofs.Try.f26 ac26 = true := by kernel_rfl
theorem chk27 : chkFn Proofs.Try.prog Proofs.Try.f27 ac27 = true := by kernel_rfl
theorem chk28 : chkFn Proofs.Try.prog Proofs.Try.f28 ac28 = true := by kernel_rfl
theorem chk29 : chkFn Proofs.Try.prog Proofs.Try.f29 ac29 = true := by kernel_rfl
theorem chk30 : chkFn Proofs.Try.prog Proofs.Try.f30 ac30 = true := by kernel_rfl
theorem chk31 : chkFn Proofs.Try.prog Proofs.Try.f31 ac31 = true := by kernel_rfl
theorem chk33 : chkFn Proofs.Try.prog Proofs.Try.f33 ac33 = true := by kernel_rfl
theorem chk34 : chkFn Proofs.Try.prog Proofs.Try.f34 ac34 = true := by kernel_rfl
theorem chk35 : chkFn Proofs.Try.prog Proofs.Try.f35 ac35 = true := by kernel_rfl
theorem chk36 : chkFn Proofs.Try.prog Proofs.Try.f36 ac36 = true := by kernel_rfl
theorem chk37 : chkFn Proofs.Try.prog Proofs.Try.f37 ac37 = true := by kernel_rfl
theorem chk38 : chkFn Proofs.Try.prog Proofs.Try.f38 ac38 = true := by kernel_rfl
theorem chk39 : chkFn Proofs.Try.prog Proofs.Try.f39 ac39 = true := by kernel_rfl
theorem chk40 : chkFn Proofs.Try.prog Proofs.Try.f40 ac40 = true := by kernel_rfl
theorem chk41 : chkFn Proofs.Try.prog Proofs.Try.f41 ac41 = true := by kernel_rfl
theorem chk42 : chkFn Proofs.Try.prog Proofs.Try.f42 ac42 = true := by kernel_rfl
theorem chk43 : chkFn Proofs.Try.prog Proofs.Try.f43 ac43 = true := by kernel_rfl
theorem chk44 : chkFn Proofs.Try.prog Proofs.Try.f44 ac44 = true := by kernel_rfl
theorem chk45 : chkFn Proofs.Try.prog Proofs.Try.f45 ac45 = true := by kernel_rfl
theorem chk46 : chkFn Proofs.Try.prog Proofs.Try.f46 ac46 = true := by kernel_rfl
theorem chk47 : chkFn Proofs.Try.prog Proofs.Try.f47 ac47 = true := by kernel_rfl
theorem chk48 : chkFn Proofs.Try.prog Proofs.Try.f48 ac48 = true := by kernel_rfl
theorem chk49 : chkFn Proofs.Try.prog Proofs.Try.f49 ac49 = true := by kernel_rfl
theorem chk50 : chkFn Proofs.Try.prog Proofs.Try.f50 ac50 = true := by kernel_rfl
theorem chk51 : chkFn Proofs.Try.prog Proofs.Try.f51 ac51 = true := by kernel_rfl
theorem chk52 : chkFn Proofs.Try.prog Proofs.Try.f52 ac52 = true := by kernel_rfl
theorem chk53 : chkFn Proofs.Try.prog Proofs.Try.f53 ac53 = true := by kernel_rfl
theorem chk54 : chkFn Proofs.Try.prog Proofs.Try.f54 ac54 = true := by kernel_rfl
theorem chk55 : chkFn Proofs.Try.prog Proofs.Try.f55 ac55 = true := by kernel_rfl
theorem chk56 : chkFn Proofs.Try.prog Proofs.Try.f56 ac56 = true := by kernel_rfl
theorem chk57 : chkFn Proofs.Try.prog Proofs.Try.f57 ac57 = true := by kernel_rfl
theorem chk59 : chkFn Proofs.Try.prog Proofs.Try.f59 ac59 = true := by kernel_rfl
theorem chk60 : chkFn Proofs.Try.prog Proofs.Try.f60 ac60 = true := by kernel_rfl
noncomputable def tab : List (Nat × AFn) := [(3, ac3), (4, ac4), (5, ac5), (6, ac6), (7, ac7), (8, ac8), (9, ac9), (10, ac10), (12, ac12), (13, ac13), (14, ac14), (15, ac15), (16, ac16), (17, ac17), (18, ac18), (19, ac19), (20, ac20), (21, ac21), (22, ac22), (23, ac23), (24, ac24), (25, ac25), (26, ac26), (27, ac27), (28, ac28), (29, ac29), (30, ac30), (31, ac31), (33, ac33), (34, ac34), (35, ac35), (36, ac36), (37, ac37), (38, ac38), (39, ac39), (40, ac40), (41, ac41), (42, ac42), (43, ac43), (44, ac44), (45, ac45), (46, ac46), (47, ac47), (48, ac48), (49, ac49), (50, ac50), (51, ac51), (52, ac52), (53, ac53), (54, ac54), (55, ac55), (56, ac56), (57, ac57), (59, ac59), (60, ac60)]
theorem good : Good Proofs.Try.prog tab := (.cons Proofs.Try.func3 chk3 (.cons Proofs.Try.func4 chk4 (.cons Proofs.Try.func5 chk5 (.cons Proofs.Try.func6 chk6 (.cons Proofs.Try.func7 chk7 (.cons Proofs.Try.func8 chk8 (.cons Proofs.Try.func9 chk9 (.cons Proofs.Try.func10 chk10 (.cons Proofs.Try.func12 chk12 (.cons Proofs.Try.func13 chk13 (.cons Proofs.Try.func14 chk14 (.cons Proofs.Try.func15 chk15 (.cons Proofs.Try.func16 chk16 (.cons Proofs.Try.func17 chk17 (.cons Proofs.Try.func18 chk18 (.cons Proofs.Try.func19 chk19 (.cons Proofs.Try.func20 chk20 (.cons Proofs.Try.func21 chk21 (.cons Proofs.Try.func22 chk22 (.cons Proofs.Try.func23 chk23 (.cons Proofs.Try.func24 chk24 (.cons Proofs.Try.func25 chk25 (.cons Proofs.Try.func26 chk26 (.cons Proofs.Try.func27 chk27 (.cons Proofs.Try.func28 chk28 (.cons Proofs.Try.func29 chk29 (.cons Proofs.Try.func30 chk30 (.cons Proofs.Try.func31 chk31 (.cons Proofs.Try.func33 chk33 (.cons Proofs.Try.func34 chk34 (.cons Proofs.Try.func35 chk35 (.cons Proofs.Try.func36 chk36 (.cons Proofs.Try.func37 chk37 (.cons Proofs.Try.func38 chk38 (.cons Proofs.Try.func39 chk39 (.cons Proofs.Try.func40 chk40 (.cons Proofs.Try.func41 chk41 (.cons Proofs.Try.func42 chk42 (.cons Proofs.Try.func43 chk43 (.cons Proofs.Try.func44 chk44 (.cons Proofs.Try.func45 chk45 (.cons Proofs.Try.func46 chk46 (.cons Proofs.Try.func47 chk47 (.cons Proofs.Try.func48 chk48 (.cons Proofs.Try.func49 chk49 (.cons Proofs.Try.func50 chk50 (.cons Proofs.Try.func51 chk51 (.cons Proofs.Try.func52 chk52 (.cons Proofs.Try.func53 chk53 (.cons Proofs.Try.func54 chk54 (.cons Proofs.Try.func55 chk55 (.cons Proofs.Try.func56 chk56 (.cons Proofs.Try.func57 chk57 (.cons Proofs.Try.func59 chk59 (.cons Proofs.Try.func60 chk60 .nil)))))))))))))))))))))))))))))))))))))))))))))))))))))))
end Go.Am.C07
