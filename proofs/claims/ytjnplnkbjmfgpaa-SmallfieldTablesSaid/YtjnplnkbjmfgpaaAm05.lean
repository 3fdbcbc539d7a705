/- The codes of the functions of chapter 05 for the abstract machine; each is checked against the program. -/
import Derived.Test.YtjnplnkbjmfgpaaAmTree
import Derived.Test.YtjnplnkbjmfgpaaProg
set_option linter.unusedVariables false
set_option linter.unusedSimpArgs false
set_option linter.unusedSectionVars false
namespace Go.Am.C05
open Go Go.Am
/-- tegula/tegulalaw05.SmallfieldAxioms -/
def ac3 : AFn := ⟨2, [],
 (.seq (.reg [.op (.box (.v 1)),
  .op (.mov (.c (.bool false)))])
 (.seq (.seq (.post (.reg [.op (.call 10 []),
  .op (.una .not (.v 0))]) [0] 2)
 (.cond (.v 0) (.seq (.reg [.op (.mov (.c (.bool false)))])
 (.ret [.v 0]))
 .skip))
 (.seq (.post (.reg [.nop 3,
  .op (.call 11 [(.v 3)]),
  .nop 0,
  .op (.extr 0 (.v 0)),
  .op (.extr 1 (.v 1)),
  .op (.extr 2 (.v 2)),
  .nop 2,
  .nop 1,
  .nop 0]) [0, 1, 2] 4)
 (.seq (.seq (.reg [.nop 0,
  .op (.una .not (.v 0))])
 (.cond (.v 0) (.seq (.reg [.op (.mov (.c (.bool false)))])
 (.ret [.v 0]))
 .skip))
 (.seq (.post (.regD [.op (.ida 3 1 (.v 6) (.c (.int .i64 0))),
  .op (.ld1 (.v 0)),
  .op (.conv .i64 (.v 0)),
  .nop 5,
  .op (.bin .rem 3 (.v 0) (.v 5)),
  .op (.ida 3 1 (.v 10) (.c (.int .i64 1))),
  .op (.ld1 (.v 0)),
  .op (.conv .i64 (.v 0)),
  .nop 9,
  .op (.bin .rem 3 (.v 0) (.v 9)),
  .op (.ida 3 1 (.v 14) (.c (.int .i64 2))),
  .op (.ld1 (.v 0)),
  .op (.conv .i64 (.v 0)),
  .nop 13,
  .op (.bin .rem 3 (.v 0) (.v 13)),
  .nop 8,
  .nop 4,
  .nop 0] [0, 1, 3, 0, 15, 0, 32, 96, 0, 480, 0, 1024, 3072, 0, 15360, 31, 33791, 131071]) [0, 4, 8] 12)
 (.seq (.seq (.post (.reg [.nop 6,
  .nop 2,
  .nop 1,
  .op (.call 12 [(.v 6), (.v 2), (.v 1)]),
  .nop 7,
  .nop 2,
  .nop 3,
  .op (.call 12 [(.v 7), (.v 2), (.v 3)]),
  .op (.bin .neq 3 (.v 1) (.v 0)),
  .nop 0,
  .opg (.mov (.v 9)) 0 false,
  .opg (.mov (.v 6)) 1 false,
  .opg (.mov (.v 6)) 2 false,
  .opg (.call 13 [(.v 2), (.v 1), (.v 0)]) 3 false,
  .opg (.mov (.v 13)) 4 false,
  .opg (.mov (.v 9)) 5 false,
  .opg (.mov (.v 11)) 6 false,
  .opg (.call 13 [(.v 2), (.v 1), (.v 0)]) 7 false,
  .opg (.bin .neq 3 (.v 4) (.v 0)) 8 false,
  .op (.pick (.v 9) (.c (.bool true)) (.v 0)),
  .nop 0,
  .opg (.mov (.v 19)) 0 false,
  .opg (.mov (.v 20)) 1 false,
  .opg (.mov (.v 17)) 2 false,
  .opg (.mov (.v 17)) 3 false,
  .opg (.call 12 [(.v 2), (.v 1), (.v 0)]) 4 false,
  .opg (.mov (.v 18)) 5 false,
  .opg (.call 12 [(.v 5), (.v 1), (.v 0)]) 6 false,
  .opg (.mov (.v 26)) 7 false,
  .opg (.mov (.v 23)) 8 false,
  .opg (.mov (.v 28)) 9 false,
  .opg (.mov (.v 24)) 10 false,
  .opg (.mov (.v 24)) 11 false,
  .opg (.call 12 [(.v 2), (.v 1), (.v 0)]) 12 false,
  .opg (.call 12 [(.v 5), (.v 4), (.v 0)]) 13 false,
  .opg (.bin .neq 3 (.v 7) (.v 0)) 14 false,
  .op (.pick (.v 15) (.c (.bool true)) (.v 0)),
  .nop 0,
  .opg (.mov (.v 35)) 0 false,
  .opg (.mov (.v 36)) 1 false,
  .opg (.mov (.v 33)) 2 false,
  .opg (.mov (.v 33)) 3 false,
  .opg (.call 13 [(.v 2), (.v 1), (.v 0)]) 4 false,
  .opg (.mov (.v 34)) 5 false,
  .opg (.call 13 [(.v 5), (.v 1), (.v 0)]) 6 false,
  .opg (.mov (.v 42)) 7 false,
  .opg (.mov (.v 39)) 8 false,
  .opg (.mov (.v 44)) 9 false,
  .opg (.mov (.v 40)) 10 false,
  .opg (.mov (.v 40)) 11 false,
  .opg (.call 13 [(.v 2), (.v 1), (.v 0)]) 12 false,
  .opg (.call 13 [(.v 5), (.v 4), (.v 0)]) 13 false,
  .opg (.bin .neq 3 (.v 7) (.v 0)) 14 false,
  .op (.pick (.v 15) (.c (.bool true)) (.v 0))]) [0] 45)
 (.cond (.v 0) (.seq (.reg [.op (.mov (.c (.bool false)))])
 (.ret [.v 0]))
 .skip))
 (.seq (.reg [.nop 7,
  .nop 3,
  .nop 2,
  .op (.call 12 [(.v 7), (.v 3), (.v 2)]),
  .nop 0])
 (.seq (.post (.reg [.nop 8,
  .nop 4,
  .nop 8,
  .nop 3,
  .nop 2,
  .op (.call 12 [(.v 8), (.v 3), (.v 2)]),
  .op (.call 13 [(.v 9), (.v 5), (.v 0)]),
  .nop 10,
  .nop 10,
  .nop 6,
  .nop 5,
  .op (.call 13 [(.v 10), (.v 6), (.v 5)]),
  .nop 11,
  .nop 7,
  .nop 5,
  .op (.call 13 [(.v 11), (.v 7), (.v 5)]),
  .op (.call 12 [(.v 12), (.v 1), (.v 0)]),
  .op (.bin .eql 3 (.v 3) (.v 0)),
  .nop 0,
  .opg (.mov (.v 14)) 0 true,
  .opg (.mov (.v 11)) 1 true,
  .opg (.call 12 [(.v 1), (.v 0), (.c (.int .i64 0))]) 2 true,
  .opg (.mov (.v 13)) 3 true,
  .opg (.bin .eql 3 (.v 1) (.v 0)) 4 true,
  .op (.pick (.v 5) (.v 0) (.c (.bool false))),
  .nop 0,
  .opg (.mov (.v 20)) 0 true,
  .opg (.mov (.v 17)) 1 true,
  .opg (.call 13 [(.v 1), (.v 0), (.c (.int .i64 1))]) 2 true,
  .opg (.mov (.v 19)) 3 true,
  .opg (.bin .eql 3 (.v 1) (.v 0)) 4 true,
  .op (.pick (.v 5) (.v 0) (.c (.bool false))),
  .nop 0,
  .opg (.mov (.v 26)) 0 true,
  .opg (.mov (.v 23)) 1 true,
  .opg (.call 13 [(.v 1), (.v 0), (.c (.int .i64 0))]) 2 true,
  .opg (.bin .eql 3 (.v 0) (.c (.int .i64 0))) 3 true,
  .op (.pick (.v 4) (.v 0) (.c (.bool false))),
  .nop 0,
  .opg (.mov (.v 23)) 0 true,
  .opg (.bin .geq 3 (.v 0) (.c (.int .i64 0))) 1 true,
  .op (.pick (.v 2) (.v 0) (.c (.bool false))),
  .nop 0,
  .opg (.mov (.v 26)) 0 true,
  .opg (.mov (.v 34)) 1 true,
  .opg (.bin .lss 3 (.v 1) (.v 0)) 2 true,
  .op (.pick (.v 3) (.v 0) (.c (.bool false))),
  .nop 0]) [0] 30)
 (.ret [.v 0])))))))))⟩

/-- tegula/tegulalaw05.SmallfieldCyclic -/
def ac4 : AFn := ⟨1, [],
 (.seq (.reg [.op (.mov (.c (.bool false)))])
 (.seq (.seq (.post (.reg [.op (.call 10 []),
  .op (.una .not (.v 0))]) [0] 2)
 (.cond (.v 0) (.seq (.reg [.op (.mov (.c (.bool false)))])
 (.ret [.v 0]))
 .skip))
 (.seq (.post (.reg [.nop 2,
  .op (.call 11 [(.v 2)]),
  .nop 0,
  .op (.extr 0 (.v 0)),
  .op (.extr 1 (.v 1)),
  .op (.extr 2 (.v 2)),
  .nop 2,
  .nop 1,
  .nop 0]) [0, 1, 2] 4)
 (.seq (.seq (.reg [.nop 0,
  .op (.una .not (.v 0))])
 (.cond (.v 0) (.seq (.reg [.op (.mov (.c (.bool false)))])
 (.ret [.v 0]))
 .skip))
 (.seq (.seq (.reg [.op (.mov (.c (.int .i64 1)))])
 (.block 0 [[2], [], [18], [16, 5, 17], [15, 4], [14, 3], [10], [], [0, 12]] (.pre [6, 0] 0 (.loop [[2], [6], [], [18], [16, 5, 17], [15, 4], [14, 3], [10], [], [0, 12]] (.post (.seq (.seq (.reg [.nop 1,
  .nop 5,
  .op (.bin .lss 3 (.v 1) (.v 5))])
 (.cond (.v 0) .skip
 (.pre [1] 3 (.exit 0))))
 (.seq (.block 1 [[2], [21], [], [6, 19], [], [18], [16, 5, 17], [15, 4, 20], [14, 3], [10], [], [0, 12]] (.post (.seq (.reg [.op (.mov (.c (.int .i64 1)))])
 (.seq (.seq (.reg [.nop 3,
  .nop 3])
 (.block 2 [[7], [8], [], [21], [2], [6, 19, 24], [], [18], [16, 5, 17], [15, 4, 20], [14, 3], [10], [], [0, 12]] (.pre [0, 3] 0 (.loop [[7], [8], [], [21], [2], [6, 19, 24], [], [18], [16, 5, 17], [15, 4, 20], [14, 3], [10], [], [0, 12]] (.post (.seq (.seq (.reg [.nop 1,
  .op (.bin .neq 3 (.v 1) (.c (.int .i64 1))),
  .nop 0,
  .opg (.mov (.v 1)) 0 true,
  .opg (.mov (.v 11)) 1 true,
  .opg (.bin .lss 3 (.v 1) (.v 0)) 2 true,
  .op (.pick (.v 3) (.v 0) (.c (.bool false)))])
 (.cond (.v 0) .skip
 (.pre [5, 6] 7 (.exit 2))))
 (.seq (.block 3 [[7], [31], [30], [29], [28], [26, 27], [], [8, 25], [], [21], [2], [6, 19, 24], [], [18], [16, 5, 17], [15, 4, 20], [14, 3], [10], [], [0, 12]] (.reg [.nop 5,
  .op (.bin .add 3 (.v 5) (.c (.int .i64 1))),
  .nop 0]))
 (.reg [.nop 16,
  .nop 7,
  .nop 11,
  .op (.call 13 [(.v 16), (.v 7), (.v 11)]),
  .nop 0]))) [1, 0] 9)))))
 (.seq (.reg [.nop 0,
  .nop 9,
  .op (.bin .sub 3 (.v 9) (.c (.int .i64 1))),
  .op (.bin .eql 3 (.v 1) (.v 0))])
 (.cond (.v 0) (.seq (.reg [.op (.mov (.c (.bool true)))])
 (.ret [.v 0]))
 .skip)))) [6] 5))
 (.reg [.nop 3,
  .op (.bin .add 3 (.v 3) (.c (.int .i64 1))),
  .nop 0]))) [1, 0] 5)))))
 (.seq (.reg [.op (.mov (.c (.bool false)))])
 (.ret [.v 0])))))))⟩

/-- tegula/tegulalaw05.SmallfieldTables -/
def ac5 : AFn := ⟨3, [],
 (.seq (.reg [.op (.mov (.c (.bool false)))])
 (.seq (.seq (.post (.reg [.op (.call 10 []),
  .op (.una .not (.v 0))]) [0] 2)
 (.cond (.v 0) (.seq (.reg [.op (.mov (.c (.bool false)))])
 (.ret [.v 0]))
 .skip))
 (.seq (.post (.reg [.nop 2,
  .op (.call 11 [(.v 2)]),
  .nop 0,
  .op (.extr 0 (.v 0)),
  .op (.extr 1 (.v 1)),
  .op (.extr 2 (.v 2)),
  .nop 2,
  .nop 1,
  .nop 0]) [0, 1, 2] 4)
 (.seq (.seq (.reg [.nop 0,
  .op (.una .not (.v 0))])
 (.cond (.v 0) (.seq (.reg [.op (.mov (.c (.bool false)))])
 (.ret [.v 0]))
 .skip))
 (.seq (.post (.reg [.nop 7,
  .op (.bin .geq 3 (.v 7) (.c (.int .i64 0))),
  .nop 0,
  .opg (.mov (.v 8)) 0 true,
  .opg (.mov (.v 4)) 1 true,
  .opg (.bin .lss 3 (.v 1) (.v 0)) 2 true,
  .op (.pick (.v 3) (.v 0) (.c (.bool false))),
  .nop 12,
  .op (.bin .geq 3 (.v 12) (.c (.int .i64 0))),
  .nop 0,
  .opg (.mov (.v 13)) 0 true,
  .opg (.mov (.v 9)) 1 true,
  .opg (.bin .lss 3 (.v 1) (.v 0)) 2 true,
  .op (.pick (.v 3) (.v 0) (.c (.bool false))),
  .nop 0,
  .opg (.mov (.v 18)) 0 true,
  .opg (.bin .geq 3 (.v 0) (.c (.int .i64 0))) 1 true,
  .op (.pick (.v 2) (.v 0) (.c (.bool false))),
  .nop 0,
  .opg (.mov (.v 21)) 0 true,
  .opg (.mov (.v 16)) 1 true,
  .opg (.bin .lss 3 (.v 1) (.v 0)) 2 true,
  .op (.pick (.v 3) (.v 0) (.c (.bool false))),
  .nop 12,
  .nop 0]) [0, 12] 17)
 (.seq (.reg [.op (.mov (.c (.int .i64 (-1)))),
  .op (.mov (.c (.int .i64 (-1)))),
  .op (.mov (.c (.int .i64 (-1)))),
  .op (.mov (.c (.int .i64 (-1))))])
 (.seq (.seq (.reg [.nop 4])
 (.cond (.v 4) (.post (.reg [.nop 8,
  .nop 13,
  .nop 14,
  .op (.call 14 [(.v 8), (.v 13), (.v 14)]),
  .nop 9,
  .nop 14,
  .nop 15,
  .op (.call 15 [(.v 9), (.v 14), (.v 15)]),
  .nop 1,
  .nop 0]) [1, 0] 2)
 (.post .skip [3, 2] 0)))
 (.seq (.seq (.reg [.nop 7])
 (.cond (.v 7) (.post (.reg [.nop 10,
  .nop 15,
  .op (.call 16 [(.v 10), (.v 15)]),
  .nop 11,
  .nop 16,
  .op (.call 17 [(.v 11), (.v 16)]),
  .nop 1,
  .nop 0]) [1, 0] 2)
 (.post .skip [3, 2] 0)))
 (.seq (.post (.reg [.nop 13,
  .nop 17,
  .nop 18,
  .op (.call 12 [(.v 13), (.v 17), (.v 18)]),
  .nop 3,
  .op (.bin .eql 3 (.v 0) (.v 3)),
  .nop 0,
  .opg (.mov (.v 15)) 0 true,
  .opg (.mov (.v 20)) 1 true,
  .opg (.mov (.v 22)) 2 true,
  .opg (.call 13 [(.v 2), (.v 1), (.v 0)]) 3 true,
  .opg (.mov (.v 9)) 4 true,
  .opg (.bin .eql 3 (.v 1) (.v 0)) 5 true,
  .op (.pick (.v 6) (.v 0) (.c (.bool false))),
  .nop 0,
  .opg (.mov (.v 22)) 0 true,
  .opg (.mov (.v 27)) 1 true,
  .opg (.call 18 [(.v 1), (.v 0)]) 2 true,
  .opg (.mov (.v 12)) 3 true,
  .opg (.bin .eql 3 (.v 1) (.v 0)) 4 true,
  .op (.pick (.v 5) (.v 0) (.c (.bool false))),
  .nop 0,
  .opg (.mov (.v 28)) 0 true,
  .opg (.mov (.v 33)) 1 true,
  .opg (.call 19 [(.v 1), (.v 0)]) 2 true,
  .opg (.mov (.v 19)) 3 true,
  .opg (.bin .eql 3 (.v 1) (.v 0)) 4 true,
  .op (.pick (.v 5) (.v 0) (.c (.bool false))),
  .nop 0]) [0] 21)
 (.ret [.v 0]))))))))))⟩

/-- tegula/tegulalaw05.SmallfieldInverses -/
def ac6 : AFn := ⟨2, [],
 (.seq (.reg [.op (.box (.v 1)),
  .op (.mov (.c (.bool false)))])
 (.seq (.seq (.post (.reg [.op (.call 10 []),
  .op (.una .not (.v 0))]) [0] 2)
 (.cond (.v 0) (.seq (.reg [.op (.mov (.c (.bool false)))])
 (.ret [.v 0]))
 .skip))
 (.seq (.post (.reg [.nop 3,
  .op (.call 11 [(.v 3)]),
  .nop 0,
  .op (.extr 0 (.v 0)),
  .op (.extr 1 (.v 1)),
  .op (.extr 2 (.v 2)),
  .nop 2,
  .nop 1,
  .nop 0]) [0, 1, 2] 4)
 (.seq (.seq (.reg [.nop 0,
  .op (.una .not (.v 0))])
 (.cond (.v 0) (.seq (.reg [.op (.mov (.c (.bool false)))])
 (.ret [.v 0]))
 .skip))
 (.seq (.post (.regD [.op (.ida 2 1 (.v 6) (.c (.int .i64 0))),
  .op (.ld1 (.v 0)),
  .op (.conv .i64 (.v 0)),
  .nop 5,
  .op (.bin .rem 3 (.v 0) (.v 5)),
  .op (.ida 2 1 (.v 10) (.c (.int .i64 1))),
  .op (.ld1 (.v 0)),
  .op (.conv .i64 (.v 0)),
  .nop 9,
  .op (.bin .rem 3 (.v 0) (.v 9)),
  .nop 4,
  .nop 0] [0, 1, 3, 0, 15, 0, 32, 96, 0, 480, 31, 2047]) [0, 4] 8)
 (.seq (.seq (.post (.reg [.nop 5,
  .nop 1,
  .nop 5,
  .nop 1,
  .op (.call 18 [(.v 5), (.v 1)]),
  .op (.call 12 [(.v 6), (.v 2), (.v 0)]),
  .op (.bin .neq 3 (.v 0) (.c (.int .i64 0))),
  .nop 0,
  .opg (.mov (.v 8)) 0 false,
  .opg (.mov (.v 9)) 1 false,
  .opg (.mov (.v 6)) 2 false,
  .opg (.call 18 [(.v 1), (.v 0)]) 3 false,
  .opg (.call 18 [(.v 3), (.v 0)]) 4 false,
  .opg (.mov (.v 9)) 5 false,
  .opg (.bin .neq 3 (.v 1) (.v 0)) 6 false,
  .op (.pick (.v 7) (.c (.bool true)) (.v 0))]) [0] 11)
 (.cond (.v 0) (.seq (.reg [.op (.mov (.c (.bool false)))])
 (.ret [.v 0]))
 .skip))
 (.seq (.seq (.reg [.nop 2,
  .op (.bin .eql 3 (.v 2) (.c (.int .i64 0)))])
 (.cond (.v 0) (.seq (.post (.reg [.nop 7,
  .nop 3,
  .op (.call 19 [(.v 7), (.v 3)]),
  .op (.bin .eql 3 (.v 0) (.c (.int .i64 (-1)))),
  .nop 0]) [0] 2)
 (.ret [.v 0]))
 .skip))
 (.seq (.seq (.post (.reg [.nop 7,
  .nop 3,
  .nop 7,
  .nop 3,
  .op (.call 19 [(.v 7), (.v 3)]),
  .op (.call 13 [(.v 8), (.v 4), (.v 0)]),
  .op (.bin .neq 3 (.v 0) (.c (.int .i64 1))),
  .nop 0,
  .opg (.mov (.v 10)) 0 false,
  .opg (.mov (.v 11)) 1 false,
  .opg (.mov (.v 8)) 2 false,
  .opg (.call 19 [(.v 1), (.v 0)]) 3 false,
  .opg (.call 19 [(.v 3), (.v 0)]) 4 false,
  .opg (.mov (.v 11)) 5 false,
  .opg (.bin .neq 3 (.v 1) (.v 0)) 6 false,
  .op (.pick (.v 7) (.c (.bool true)) (.v 0))]) [0] 11)
 (.cond (.v 0) (.seq (.reg [.op (.mov (.c (.bool false)))])
 (.ret [.v 0]))
 .skip))
 (.seq (.reg [.op (.mov (.c (.int .i64 0)))])
 (.seq (.seq (.reg [.op (.mov (.c (.int .i64 0)))])
 (.block 0 [[10], [], [], [69], [49], [47], [31, 9], [26, 8, 33, 35, 48, 55, 57], [21], [19, 7, 20], [18, 6, 25, 30], [17, 5, 32, 34, 54, 56], [13], [4], [3], [0, 15], [1]] (.pre [1, 0] 0 (.loop [[10], [11], [], [], [69], [49], [47], [31, 9], [26, 8, 33, 35, 48, 55, 57], [21], [19, 7, 20], [18, 6, 25, 30], [17, 5, 32, 34, 54, 56], [13], [4], [3], [0, 15], [1]] (.post (.seq (.seq (.reg [.nop 1,
  .nop 11,
  .op (.bin .lss 3 (.v 1) (.v 11))])
 (.cond (.v 0) .skip
 (.pre [1] 3 (.exit 0))))
 (.seq (.block 1 [[10], [72], [], [11, 70], [], [], [69], [49], [47], [31, 9], [26, 8, 33, 35, 48, 55, 57], [21], [19, 7, 20], [18, 6, 25, 30, 71], [17, 5, 32, 34, 54, 56], [13], [4], [3], [0, 15], [1]] (.post (.seq (.reg [.nop 13,
  .nop 9,
  .nop 2,
  .op (.call 13 [(.v 13), (.v 9), (.v 2)]),
  .nop 9,
  .op (.bin .eql 3 (.v 0) (.v 9))])
 (.cond (.v 0) (.reg [.nop 3,
  .op (.bin .add 3 (.v 3) (.c (.int .i64 1))),
  .nop 0])
 (.post .skip [3] 0))) [0] 3))
 (.reg [.nop 3,
  .op (.bin .add 3 (.v 3) (.c (.int .i64 1))),
  .nop 0]))) [1, 0] 5)))))
 (.seq (.post (.reg [.nop 0,
  .op (.bin .eql 3 (.v 0) (.c (.int .i64 1))),
  .nop 0,
  .opg (.mov (.v 12)) 0 true,
  .opg (.mov (.v 9)) 1 true,
  .opg (.mov (.v 14)) 2 true,
  .opg (.mov (.v 10)) 3 true,
  .opg (.mov (.v 16)) 4 true,
  .opg (.mov (.v 13)) 5 true,
  .opg (.call 19 [(.v 1), (.v 0)]) 6 true,
  .opg (.call 13 [(.v 4), (.v 3), (.v 0)]) 7 true,
  .opg (.call 13 [(.v 7), (.v 6), (.v 0)]) 8 true,
  .opg (.mov (.v 16)) 9 true,
  .opg (.bin .eql 3 (.v 1) (.v 0)) 10 true,
  .op (.pick (.v 11) (.v 0) (.c (.bool false))),
  .nop 0]) [0] 13)
 (.ret [.v 0]))))))))))))⟩

/-- tegula/tegulalaw05.SmallfieldPrime -/
def ac7 : AFn := ⟨2, [],
 (.seq (.reg [.op (.box (.v 1)),
  .op (.mov (.c (.bool false)))])
 (.seq (.seq (.post (.reg [.op (.call 10 []),
  .op (.una .not (.v 0))]) [0] 2)
 (.cond (.v 0) (.seq (.reg [.op (.mov (.c (.bool false)))])
 (.ret [.v 0]))
 .skip))
 (.seq (.post (.reg [.nop 3,
  .op (.call 11 [(.v 3)]),
  .nop 0,
  .op (.extr 0 (.v 0)),
  .op (.extr 1 (.v 1)),
  .op (.extr 2 (.v 2)),
  .nop 2,
  .nop 1,
  .nop 0]) [0, 1, 2] 4)
 (.seq (.seq (.reg [.nop 0,
  .op (.una .not (.v 0))])
 (.cond (.v 0) (.seq (.reg [.op (.mov (.c (.bool false)))])
 (.ret [.v 0]))
 .skip))
 (.seq (.post (.regD [.op (.ida 2 1 (.v 6) (.c (.int .i64 0))),
  .op (.ld1 (.v 0)),
  .op (.conv .i64 (.v 0)),
  .nop 5,
  .op (.bin .rem 3 (.v 0) (.v 5)),
  .op (.ida 2 1 (.v 10) (.c (.int .i64 1))),
  .op (.ld1 (.v 0)),
  .op (.conv .i64 (.v 0)),
  .nop 9,
  .op (.bin .rem 3 (.v 0) (.v 9)),
  .nop 11,
  .op (.call 20 [(.v 11)]),
  .nop 5,
  .nop 1,
  .nop 0] [0, 1, 3, 0, 15, 0, 32, 96, 0, 480, 0, 1024, 3103, 8191, 16383]) [0, 1, 5] 9)
 (.seq (.reg [.op (.mov (.c (.int .i64 0)))])
 (.seq (.seq (.reg [.op (.mov (.c (.int .i64 0)))])
 (.block 0 [[11], [], [], [34, 10], [32, 9], [27, 8], [22], [20, 7, 21], [19, 6, 26, 31], [18, 5, 33], [14], [4], [3], [0, 16], [1]] (.pre [1, 0] 0 (.loop [[11], [12], [], [], [34, 10], [32, 9], [27, 8], [22], [20, 7, 21], [19, 6, 26, 31], [18, 5, 33], [14], [4], [3], [0, 16], [1]] (.post (.seq (.seq (.reg [.nop 1,
  .nop 4,
  .op (.bin .lss 3 (.v 1) (.v 4)),
  .nop 0,
  .opg (.mov (.v 2)) 0 true,
  .opg (.bin .lss 3 (.v 0) (.c (.int .i64 9))) 1 true,
  .op (.pick (.v 2) (.v 0) (.c (.bool false)))])
 (.cond (.v 0) .skip
 (.pre [4] 6 (.exit 0))))
 (.seq (.block 1 [[11], [41], [40], [39], [37, 38], [], [12, 35], [], [], [34, 10, 36], [32, 9], [27, 8], [22], [20, 7, 21], [19, 6, 26, 31], [18, 5, 33], [14], [4], [3], [0, 16], [1]] (.reg [.nop 14,
  .nop 4,
  .nop 10,
  .op (.call 12 [(.v 14), (.v 4), (.v 10)]),
  .nop 0]))
 (.reg [.nop 6,
  .op (.bin .add 3 (.v 6) (.c (.int .i64 1))),
  .nop 0]))) [1, 0] 8)))))
 (.seq (.post (.reg [.nop 0,
  .op (.bin .eql 3 (.v 0) (.c (.int .i64 0))),
  .nop 0,
  .opg (.mov (.v 10)) 0 true,
  .opg (.mov (.v 11)) 1 true,
  .opg (.mov (.v 8)) 2 true,
  .opg (.mov (.v 8)) 3 true,
  .opg (.call 12 [(.v 2), (.v 1), (.v 0)]) 4 true,
  .opg (.mov (.v 9)) 5 true,
  .opg (.call 21 [(.v 5), (.v 1), (.v 0)]) 6 true,
  .opg (.mov (.v 17)) 7 true,
  .opg (.mov (.v 18)) 8 true,
  .opg (.mov (.v 15)) 9 true,
  .opg (.mov (.v 14)) 10 true,
  .opg (.call 21 [(.v 2), (.v 1), (.v 0)]) 11 true,
  .opg (.mov (.v 22)) 12 true,
  .opg (.mov (.v 18)) 13 true,
  .opg (.mov (.v 18)) 14 true,
  .opg (.call 21 [(.v 2), (.v 1), (.v 0)]) 15 true,
  .opg (.call 12 [(.v 8), (.v 4), (.v 0)]) 16 true,
  .opg (.bin .eql 3 (.v 10) (.v 0)) 17 true,
  .op (.pick (.v 18) (.v 0) (.c (.bool false))),
  .nop 0,
  .opg (.mov (.v 29)) 0 true,
  .opg (.mov (.v 26)) 1 true,
  .opg (.mov (.v 30)) 2 true,
  .opg (.call 21 [(.v 2), (.v 1), (.v 0)]) 3 true,
  .opg (.mov (.v 29)) 4 true,
  .opg (.bin .eql 3 (.v 1) (.v 0)) 5 true,
  .op (.pick (.v 6) (.v 0) (.c (.bool false))),
  .nop 0]) [0] 27)
 (.ret [.v 0])))))))))⟩

/-- tegula/tegulalaw05.SmallfieldNil -/
def ac8 : AFn := ⟨2, [],
 (.seq (.reg [.op (.mov (.c (.bool false)))])
 (.seq (.reg [.op (.mov (.c (.pointer none)))])
 (.seq (.post (.reg [.op (.call 10 []),
  .nop 0,
  .opg (.mov (.v 1)) 0 true,
  .opg (.call 22 [(.v 0)]) 1 true,
  .opg (.bin .eql 3 (.v 0) (.c (.int .i64 0))) 2 true,
  .op (.pick (.v 3) (.v 0) (.c (.bool false))),
  .nop 0,
  .opg (.mov (.v 5)) 0 true,
  .opg (.call 20 [(.v 0)]) 1 true,
  .opg (.bin .eql 3 (.v 0) (.c (.int .i64 0))) 2 true,
  .op (.pick (.v 3) (.v 0) (.c (.bool false))),
  .nop 0,
  .opg (.mov (.v 9)) 0 true,
  .opg (.mov (.v 12)) 1 true,
  .opg (.mov (.v 14)) 2 true,
  .opg (.call 12 [(.v 2), (.v 1), (.v 0)]) 3 true,
  .opg (.bin .eql 3 (.v 0) (.c (.int .i64 (-1)))) 4 true,
  .op (.pick (.v 5) (.v 0) (.c (.bool false))),
  .nop 0,
  .opg (.mov (.v 15)) 0 true,
  .opg (.mov (.v 18)) 1 true,
  .opg (.mov (.v 20)) 2 true,
  .opg (.call 13 [(.v 2), (.v 1), (.v 0)]) 3 true,
  .opg (.bin .eql 3 (.v 0) (.c (.int .i64 (-1)))) 4 true,
  .op (.pick (.v 5) (.v 0) (.c (.bool false))),
  .nop 0,
  .opg (.mov (.v 21)) 0 true,
  .opg (.mov (.v 24)) 1 true,
  .opg (.call 18 [(.v 1), (.v 0)]) 2 true,
  .opg (.bin .eql 3 (.v 0) (.c (.int .i64 (-1)))) 3 true,
  .op (.pick (.v 4) (.v 0) (.c (.bool false))),
  .nop 0,
  .opg (.mov (.v 26)) 0 true,
  .opg (.mov (.v 29)) 1 true,
  .opg (.call 19 [(.v 1), (.v 0)]) 2 true,
  .opg (.bin .eql 3 (.v 0) (.c (.int .i64 (-1)))) 3 true,
  .op (.pick (.v 4) (.v 0) (.c (.bool false))),
  .nop 0]) [0] 31)
 (.ret [.v 0]))))⟩

/-- tegula/tegulalaw05.SmallfieldSizes -/
def ac9 : AFn := ⟨1, [],
 (.seq (.reg [.op (.mov (.c (.bool false)))])
 (.seq (.seq (.post (.reg [.op (.call 10 []),
  .op (.una .not (.v 0))]) [0] 2)
 (.cond (.v 0) (.seq (.reg [.op (.mov (.c (.bool false)))])
 (.ret [.v 0]))
 .skip))
 (.seq (.reg [.op (.call 23 []),
  .op (.mkl 1 7 [(.int .i64 0)] [(0, (.c (.int .i64 2))), (1, (.c (.int .i64 3))), (2, (.c (.int .i64 4))), (3, (.c (.int .i64 5))), (4, (.c (.int .i64 7))), (5, (.c (.int .i64 8))), (6, (.c (.int .i64 9)))]),
  .nop 1,
  .nop 0])
 (.seq (.seq (.post (.reg [.nop 1,
  .op (.len false (.v 1)),
  .nop 1,
  .op (.len false (.v 1)),
  .op (.bin .neq 3 (.v 1) (.v 0))]) [0] 3)
 (.cond (.v 0) (.seq (.reg [.op (.mov (.c (.bool false)))])
 (.ret [.v 0]))
 .skip))
 (.seq (.reg [.op (.mov (.c (.bool false)))])
 (.seq (.seq (.reg [.op (.mov (.c (.int .i64 0)))])
 (.block 0 [[2], [5], [], [], [19], [14, 4, 17], [13, 3, 15], [12], [], [0]] (.pre [6, 1, 0] 0 (.loop [[2], [5], [6], [], [], [19], [14, 4, 17], [13, 3, 15], [12], [], [0]] (.post (.seq (.seq (.reg [.nop 2,
  .nop 7,
  .op (.len false (.v 7)),
  .op (.bin .lss 3 (.v 3) (.v 0))])
 (.cond (.v 0) .skip
 (.pre [2, 3] 5 (.exit 0))))
 (.seq (.block 1 [[2], [5], [23], [22], [], [], [6, 20], [], [], [19], [14, 4, 17], [13, 3, 15, 21], [12], [], [0]] (.post (.seq (.seq (.regD [.nop 9,
  .nop 4,
  .op (.idx 1 (.v 9) (.v 4)),
  .op (.ld1 (.v 0)),
  .nop 10,
  .nop 6,
  .op (.idx 1 (.v 10) (.v 6)),
  .op (.ld1 (.v 0)),
  .op (.bin .neq 3 (.v 2) (.v 0))] [0, 0, 3, 7, 0, 0, 48, 112, 255])
 (.cond (.v 0) (.seq (.reg [.op (.mov (.c (.bool false)))])
 (.ret [.v 0]))
 .skip))
 (.reg [.nop 8,
  .nop 8,
  .opg (.mov (.v 14)) 8 false,
  .opg (.mov (.v 10)) 9 false,
  .opg (.idx 1 (.v 1) (.v 0)) 10 false,
  .opg (.ld1 (.v 0)) 11 false,
  .opg (.mov (.v 21)) 12 false,
  .opg (.bin .eql 3 (.v 1) (.v 0)) 13 false,
  .op (.pick (.v 14) (.c (.bool true)) (.v 0)),
  .nop 0])) [14, 0] 12))
 (.reg [.nop 6,
  .op (.bin .add 3 (.v 6) (.c (.int .i64 1))),
  .nop 0]))) [1, 2, 0] 8)))))
 (.seq (.post (.reg [.nop 9,
  .op (.call 24 [(.v 9)]),
  .nop 0,
  .op (.extr 0 (.v 0)),
  .op (.extr 1 (.v 1)),
  .nop 1,
  .nop 0]) [0, 1] 3)
 (.seq (.seq (.reg [.nop 3,
  .op (.una .not (.v 3))])
 (.cond (.v 0) (.seq (.post (.reg [.nop 1,
  .op (.bin .eql 40 (.v 1) (.c (.int .i64 1))),
  .nop 0,
  .opg (.mov (.v 3)) 0 true,
  .opg (.bin .eql 24 (.v 0) (.c (.pointer none))) 1 true,
  .op (.pick (.v 2) (.v 0) (.c (.bool false))),
  .nop 0]) [0] 4)
 (.ret [.v 0]))
 .skip))
 (.seq (.post (.reg [.nop 12,
  .op (.call 25 [(.v 12)]),
  .nop 0,
  .op (.extr 0 (.v 0)),
  .op (.extr 1 (.v 1)),
  .nop 1,
  .nop 0]) [1] 3)
 (.seq (.post (.reg [.nop 2,
  .op (.bin .eql 40 (.v 2) (.c (.int .i64 0))),
  .nop 0,
  .opg (.mov (.v 4)) 0 true,
  .opg (.call 22 [(.v 0)]) 1 true,
  .opg (.mov (.v 16)) 2 true,
  .opg (.bin .eql 3 (.v 1) (.v 0)) 3 true,
  .op (.pick (.v 4) (.v 0) (.c (.bool false))),
  .nop 0,
  .opg (.mov (.v 9)) 0 true,
  .opg (.call 20 [(.v 0)]) 1 true,
  .opg (.mov (.v 8)) 2 true,
  .opg (.bin .eql 3 (.v 1) (.v 0)) 3 true,
  .op (.pick (.v 4) (.v 0) (.c (.bool false))),
  .nop 0]) [0] 11)
 (.ret [.v 0])))))))))))⟩

/-- tegula/tegulalaw05.awake -/
def ac10 : AFn := ⟨0, [],
 (.seq (.reg [.op (.mov (.c (.bool false)))])
 (.seq (.post (.reg [.op (.call 24 [(.c (.int .i64 4))]),
  .nop 0,
  .op (.extr 0 (.v 0)),
  .op (.extr 1 (.v 1)),
  .nop 1,
  .nop 0]) [0, 1] 3)
 (.seq (.post (.reg [.op (.call 24 [(.c (.int .i64 8))]),
  .nop 0,
  .op (.extr 0 (.v 0)),
  .op (.extr 1 (.v 1)),
  .nop 1,
  .nop 0]) [0, 1] 3)
 (.seq (.post (.reg [.op (.call 24 [(.c (.int .i64 9))]),
  .nop 0,
  .op (.extr 0 (.v 0)),
  .op (.extr 1 (.v 1)),
  .nop 1,
  .nop 0]) [0, 1] 3)
 (.seq (.post (.reg [.op (.call 24 [(.c (.int .i64 7))]),
  .nop 0,
  .op (.extr 0 (.v 0)),
  .op (.extr 1 (.v 1)),
  .nop 1,
  .nop 0]) [0, 1] 3)
 (.seq (.post (.reg [.nop 6,
  .op (.bin .eql 40 (.v 6) (.c (.int .i64 0))),
  .nop 0,
  .opg (.mov (.v 5)) 0 true,
  .opg (.bin .eql 40 (.v 0) (.c (.int .i64 0))) 1 true,
  .op (.pick (.v 2) (.v 0) (.c (.bool false))),
  .nop 0,
  .opg (.mov (.v 6)) 0 true,
  .opg (.bin .eql 40 (.v 0) (.c (.int .i64 0))) 1 true,
  .op (.pick (.v 2) (.v 0) (.c (.bool false))),
  .nop 0,
  .opg (.mov (.v 7)) 0 true,
  .opg (.bin .eql 40 (.v 0) (.c (.int .i64 0))) 1 true,
  .op (.pick (.v 2) (.v 0) (.c (.bool false))),
  .nop 0,
  .opg (.mov (.v 17)) 0 true,
  .opg (.call 13 [(.v 0), (.c (.int .i64 2)), (.c (.int .i64 2))]) 1 true,
  .opg (.bin .eql 3 (.v 0) (.c (.int .i64 3))) 2 true,
  .op (.pick (.v 3) (.v 0) (.c (.bool false))),
  .nop 0,
  .opg (.mov (.v 21)) 0 true,
  .opg (.call 13 [(.v 0), (.c (.int .i64 2)), (.c (.int .i64 3))]) 1 true,
  .opg (.bin .eql 3 (.v 0) (.c (.int .i64 1))) 2 true,
  .op (.pick (.v 3) (.v 0) (.c (.bool false))),
  .nop 0,
  .opg (.mov (.v 23)) 0 true,
  .opg (.call 13 [(.v 0), (.c (.int .i64 2)), (.c (.int .i64 4))]) 1 true,
  .opg (.bin .eql 3 (.v 0) (.c (.int .i64 3))) 2 true,
  .op (.pick (.v 3) (.v 0) (.c (.bool false))),
  .nop 0,
  .opg (.mov (.v 25)) 0 true,
  .opg (.call 13 [(.v 0), (.c (.int .i64 3)), (.c (.int .i64 3))]) 1 true,
  .opg (.bin .eql 3 (.v 0) (.c (.int .i64 2))) 2 true,
  .op (.pick (.v 3) (.v 0) (.c (.bool false))),
  .nop 0,
  .opg (.mov (.v 29)) 0 true,
  .opg (.call 12 [(.v 0), (.c (.int .i64 5)), (.c (.int .i64 5))]) 1 true,
  .opg (.bin .eql 3 (.v 0) (.c (.int .i64 7))) 2 true,
  .op (.pick (.v 3) (.v 0) (.c (.bool false))),
  .nop 0,
  .opg (.mov (.v 33)) 0 true,
  .opg (.call 19 [(.v 0), (.c (.int .i64 3))]) 1 true,
  .opg (.bin .eql 3 (.v 0) (.c (.int .i64 6))) 2 true,
  .op (.pick (.v 3) (.v 0) (.c (.bool false))),
  .nop 0,
  .opg (.mov (.v 35)) 0 true,
  .opg (.call 19 [(.v 0), (.c (.int .i64 3))]) 1 true,
  .opg (.bin .eql 3 (.v 0) (.c (.int .i64 5))) 2 true,
  .op (.pick (.v 3) (.v 0) (.c (.bool false))),
  .nop 0]) [0] 38)
 (.ret [.v 0])))))))⟩

/-- tegula/tegulalaw05.field -/
def ac11 : AFn := ⟨1, [],
 (.seq (.reg [.op (.mov (.c (.pointer none))),
  .op (.mov (.c (.int .i64 0))),
  .op (.mov (.c (.bool false)))])
 (.seq (.reg [.op (.mkl 1 7 [(.int .i64 0)] [(0, (.c (.int .i64 2))), (1, (.c (.int .i64 3))), (2, (.c (.int .i64 4))), (3, (.c (.int .i64 5))), (4, (.c (.int .i64 7))), (5, (.c (.int .i64 8))), (6, (.c (.int .i64 9)))]),
  .nop 0])
 (.seq (.post (.reg [.nop 0,
  .nop 4,
  .op (.conv .i64 (.v 4)),
  .nop 1,
  .op (.len false (.v 1)),
  .op (.bin .rem 3 (.v 1) (.v 0)),
  .op (.idx 1 (.v 3) (.v 0)),
  .op (.ld1 (.v 0)),
  .nop 0]) [0] 5)
 (.seq (.post (.reg [.nop 0,
  .op (.call 24 [(.v 0)]),
  .nop 0,
  .op (.extr 0 (.v 0)),
  .op (.extr 1 (.v 1)),
  .nop 1,
  .nop 0]) [0, 1] 3)
 (.seq (.post (.reg [.nop 1,
  .nop 2,
  .nop 0,
  .op (.bin .eql 40 (.v 0) (.c (.int .i64 0))),
  .nop 0,
  .opg (.mov (.v 2)) 0 true,
  .opg (.call 22 [(.v 0)]) 1 true,
  .opg (.mov (.v 5)) 2 true,
  .opg (.bin .eql 3 (.v 1) (.v 0)) 3 true,
  .op (.pick (.v 4) (.v 0) (.c (.bool false))),
  .nop 7,
  .nop 8,
  .nop 0]) [0] 6)
 (.ret [.v 2, .v 3, .v 0]))))))⟩

/-- (*tegula/smallfield.Field).Add -/
def ac12 : AFn := ⟨3, [],
 (.seq (.reg [.op (.mov (.c (.int .i64 0)))])
 (.seq (.seq (.post (.reg [.nop 1,
  .nop 2,
  .op (.call 26 [(.v 1), (.v 2)]),
  .op (.una .not (.v 0)),
  .nop 0,
  .opg (.mov (.v 3)) 0 false,
  .opg (.mov (.v 6)) 1 false,
  .opg (.call 26 [(.v 1), (.v 0)]) 2 false,
  .opg (.una .not (.v 0)) 3 false,
  .op (.pick (.v 4) (.c (.bool true)) (.v 0))]) [0] 7)
 (.cond (.v 0) (.seq (.reg [.op (.mov (.c (.int .i64 (-1))))])
 (.ret [.v 0]))
 .skip))
 (.seq (.post (.reg [.nop 2,
  .op (.nilck (.v 2)),
  .op (.fld 2 (.v 0)),
  .op (.ld1 (.v 0)),
  .nop 6,
  .op (.idx 1 (.v 0) (.v 6)),
  .op (.ld1 (.v 0)),
  .nop 9,
  .op (.idx 1 (.v 0) (.v 9)),
  .op (.ld1 (.v 0)),
  .nop 0]) [0] 7)
 (.ret [.v 0]))))⟩

/-- (*tegula/smallfield.Field).Mul -/
def ac13 : AFn := ⟨3, [],
 (.seq (.reg [.op (.mov (.c (.int .i64 0)))])
 (.seq (.seq (.post (.reg [.nop 1,
  .nop 2,
  .op (.call 26 [(.v 1), (.v 2)]),
  .op (.una .not (.v 0)),
  .nop 0,
  .opg (.mov (.v 3)) 0 false,
  .opg (.mov (.v 6)) 1 false,
  .opg (.call 26 [(.v 1), (.v 0)]) 2 false,
  .opg (.una .not (.v 0)) 3 false,
  .op (.pick (.v 4) (.c (.bool true)) (.v 0))]) [0] 7)
 (.cond (.v 0) (.seq (.reg [.op (.mov (.c (.int .i64 (-1))))])
 (.ret [.v 0]))
 .skip))
 (.seq (.post (.reg [.nop 2,
  .op (.nilck (.v 2)),
  .op (.fld 3 (.v 0)),
  .op (.ld1 (.v 0)),
  .nop 6,
  .op (.idx 1 (.v 0) (.v 6)),
  .op (.ld1 (.v 0)),
  .nop 9,
  .op (.idx 1 (.v 0) (.v 9)),
  .op (.ld1 (.v 0)),
  .nop 0]) [0] 7)
 (.ret [.v 0]))))⟩

/-- tegula/tegularef05.Add -/
def ac14 : AFn := ⟨3, [],
 (.seq (.reg [.op (.mov (.c (.int .i64 0)))])
 (.seq (.post (.reg [.nop 1,
  .op (.call 25 [(.v 1)]),
  .nop 0,
  .op (.extr 0 (.v 0)),
  .op (.extr 1 (.v 1)),
  .nop 1,
  .nop 0]) [0, 1] 3)
 (.seq (.reg [.nop 4,
  .nop 1,
  .nop 0,
  .op (.call 27 [(.v 4), (.v 1), (.v 0)]),
  .nop 6,
  .nop 2,
  .nop 1,
  .op (.call 27 [(.v 6), (.v 2), (.v 1)]),
  .nop 1,
  .nop 0])
 (.seq (.seq (.reg [.op (.mov (.c (.int .i64 0)))])
 (.block 0 [[], [24, 10], [20, 9], [16, 8, 19, 23], [15, 7, 18, 22], [6], [0, 13], [1, 17], [2, 21]] (.pre [0] 0 (.loop [[11], [], [24, 10], [20, 9], [16, 8, 19, 23], [15, 7, 18, 22], [6], [0, 13], [1, 17], [2, 21]] (.post (.seq (.seq (.reg [.nop 0,
  .nop 4,
  .op (.bin .lss 3 (.v 0) (.v 4))])
 (.cond (.v 0) .skip
 (.pre [] 2 (.exit 0))))
 (.seq (.block 1 [[27], [11, 25], [], [24, 10], [20, 9], [16, 8, 19, 23, 26], [15, 7, 18, 22], [6], [0, 13], [1, 17], [2, 21]] (.post (.regD [.nop 4,
  .nop 1,
  .nop 4,
  .nop 1,
  .op (.idx 1 (.v 4) (.v 1)),
  .op (.ld1 (.v 0)),
  .nop 5,
  .nop 3,
  .op (.idx 1 (.v 5) (.v 3)),
  .op (.ld1 (.v 0)),
  .op (.bin .add 3 (.v 2) (.v 0)),
  .nop 11,
  .op (.bin .rem 3 (.v 0) (.v 11)),
  .op (.idx 1 (.v 10) (.v 7)),
  .eff (.st 1 (.v 0) (.v 1))] [0, 0, 0, 0, 12, 28, 0, 0, 192, 448, 1020, 0, 4092, 8191, 16383]) [] 7))
 (.reg [.nop 1,
  .op (.bin .add 3 (.v 1) (.c (.int .i64 1))),
  .nop 0]))) [0] 3)))))
 (.seq (.reg [.nop 2,
  .nop 4,
  .op (.call 28 [(.v 2), (.v 4)]),
  .nop 0])
 (.ret [.v 0]))))))⟩

/-- tegula/tegularef05.Mul -/
def ac15 : AFn := ⟨3, [],
 (.seq (.reg [.op (.mov (.c (.int .i64 0)))])
 (.seq (.post (.reg [.nop 1,
  .op (.call 25 [(.v 1)]),
  .nop 0,
  .op (.extr 0 (.v 0)),
  .op (.extr 1 (.v 1)),
  .nop 1,
  .nop 0]) [0, 1] 3)
 (.seq (.seq (.reg [.nop 0,
  .op (.bin .eql 3 (.v 0) (.c (.int .i64 1)))])
 (.cond (.v 0) (.seq (.post (.reg [.nop 5,
  .nop 6,
  .op (.bin .mul 3 (.v 5) (.v 6)),
  .nop 3,
  .op (.bin .rem 3 (.v 0) (.v 3)),
  .nop 0]) [0] 2)
 (.ret [.v 0]))
 .skip))
 (.seq (.reg [.nop 5,
  .nop 2,
  .nop 1,
  .op (.call 27 [(.v 5), (.v 2), (.v 1)]),
  .nop 7,
  .nop 3,
  .nop 2,
  .op (.call 27 [(.v 7), (.v 3), (.v 2)]),
  .nop 1,
  .nop 0])
 (.seq (.post (.reg [.nop 3,
  .op (.bin .mul 3 (.c (.int .i64 2)) (.v 3)),
  .op (.bin .sub 3 (.v 0) (.c (.int .i64 1))),
  .op (.make 1 8 [(.int .i64 0)] (.v 0) (.v 0)),
  .nop 0]) [0] 3)
 (.seq (.seq (.reg [.op (.mov (.c (.int .i64 0)))])
 (.block 0 [[], [40, 11], [36, 10], [32, 9], [23], [21, 8, 22, 31, 35, 37], [20, 7, 30, 34], [6], [0, 18], [1, 29], [2, 33]] (.pre [0] 0 (.loop [[12], [], [40, 11], [36, 10], [32, 9], [23], [21, 8, 22, 31, 35, 37], [20, 7, 30, 34], [6], [0, 18], [1, 29], [2, 33]] (.post (.seq (.seq (.reg [.nop 0,
  .nop 6,
  .op (.bin .lss 3 (.v 0) (.v 6))])
 (.cond (.v 0) .skip
 (.pre [] 2 (.exit 0))))
 (.seq (.block 1 [[43], [12, 41], [], [40, 11], [36, 10], [32, 9], [23], [21, 8, 22, 31, 35, 37, 42], [20, 7, 30, 34], [6], [0, 18], [1, 29], [2, 33]] (.post (.seq (.reg [.op (.mov (.c (.int .i64 0)))])
 (.block 2 [[13], [], [43], [12, 41], [], [40, 11], [36, 10], [32, 9], [23], [21, 8, 22, 31, 35, 37, 42], [20, 7, 30, 34], [6], [0, 18], [1, 29], [2, 33]] (.pre [0] 0 (.loop [[13], [], [43], [12, 41], [], [40, 11], [36, 10], [32, 9], [23], [21, 8, 22, 31, 35, 37, 42], [20, 7, 30, 34], [6], [0, 18], [1, 29], [2, 33]] (.post (.seq (.seq (.reg [.nop 0,
  .nop 9,
  .op (.bin .lss 3 (.v 0) (.v 9))])
 (.cond (.v 0) .skip
 (.pre [1] 2 (.exit 2))))
 (.seq (.block 3 [[48], [13, 46], [], [43], [12, 41], [], [40, 11], [36, 10], [32, 9], [23], [21, 8, 22, 31, 35, 37, 42, 47], [20, 7, 30, 34], [6], [0, 18], [1, 29], [2, 33]] (.post (.regD [.nop 6,
  .nop 4,
  .nop 1,
  .op (.bin .add 3 (.v 4) (.v 1)),
  .nop 7,
  .nop 5,
  .nop 2,
  .op (.bin .add 3 (.v 5) (.v 2)),
  .op (.idx 1 (.v 8) (.v 0)),
  .op (.ld1 (.v 0)),
  .nop 12,
  .nop 8,
  .op (.idx 1 (.v 12) (.v 8)),
  .op (.ld1 (.v 0)),
  .nop 13,
  .nop 7,
  .op (.idx 1 (.v 13) (.v 7)),
  .op (.ld1 (.v 0)),
  .op (.bin .mul 3 (.v 2) (.v 0)),
  .op (.bin .add 3 (.v 5) (.v 0)),
  .nop 21,
  .op (.bin .rem 3 (.v 0) (.v 21)),
  .op (.idx 1 (.v 17) (.v 10)),
  .eff (.st 1 (.v 0) (.v 1))] [0, 0, 0, 6, 0, 0, 0, 96, 240, 496, 0, 0, 3072, 7168, 0, 0, 49152, 114688, 261120, 524272, 0, 2097136, 4194303, 8388607]) [] 12))
 (.reg [.nop 1,
  .op (.bin .add 3 (.v 1) (.c (.int .i64 1))),
  .nop 0]))) [0] 3))))) [] 2))
 (.reg [.nop 1,
  .op (.bin .add 3 (.v 1) (.c (.int .i64 1))),
  .nop 0]))) [0] 3)))))
 (.seq (.reg [.op (.mkl 1 2 [(.int .i64 0)] [(0, (.c (.int .i64 1))), (1, (.c (.int .i64 1)))]),
  .nop 0])
 (.seq (.seq (.reg [.nop 9,
  .op (.bin .eql 3 (.v 9) (.c (.int .i64 8)))])
 (.cond (.v 0) (.reg [.op (.mkl 1 3 [(.int .i64 0)] [(0, (.c (.int .i64 1))), (1, (.c (.int .i64 1))), (2, (.c (.int .i64 0)))]),
  .nop 0])
 (.post .skip [1] 0)))
 (.seq (.seq (.reg [.nop 11,
  .op (.bin .eql 3 (.v 11) (.c (.int .i64 9)))])
 (.cond (.v 0) (.reg [.op (.mkl 1 2 [(.int .i64 0)] [(0, (.c (.int .i64 1))), (1, (.c (.int .i64 0)))]),
  .nop 0])
 (.post .skip [1] 0)))
 (.seq (.seq (.post (.reg [.nop 10,
  .op (.bin .mul 3 (.c (.int .i64 2)) (.v 10)),
  .op (.bin .sub 3 (.v 0) (.c (.int .i64 2))),
  .nop 0]) [0] 2)
 (.block 4 [[83], [14], [79], [], [76], [74], [], [40, 11], [36, 10], [32, 9], [23], [21, 8, 22, 31, 35, 37, 81], [20, 7, 30, 34], [6], [0, 18, 75, 78], [1, 29], [2, 33]] (.pre [0] 0 (.loop [[15], [83], [14], [79], [], [76], [74], [], [40, 11], [36, 10], [32, 9], [23], [21, 8, 22, 31, 35, 37, 81], [20, 7, 30, 34], [6], [0, 18, 75, 78], [1, 29], [2, 33]] (.post (.seq (.seq (.reg [.nop 0,
  .nop 12,
  .op (.bin .geq 3 (.v 0) (.v 12))])
 (.cond (.v 0) .skip
 (.pre [] 2 (.exit 4))))
 (.seq (.block 5 [[86], [15, 84], [83], [14], [79], [], [76], [74], [], [40, 11], [36, 10], [32, 9], [23], [21, 8, 22, 31, 35, 37, 81, 85], [20, 7, 30, 34], [6], [0, 18, 75, 78], [1, 29], [2, 33]] (.post (.seq (.seq (.reg [.op (.mov (.c (.int .i64 0)))])
 (.block 6 [[16], [], [86], [15, 84], [83], [14], [79], [], [76], [74], [], [40, 11], [36, 10], [32, 9], [23], [21, 8, 22, 31, 35, 37, 81, 85], [20, 7, 30, 34], [6], [0, 18, 75, 78], [1, 29], [2, 33]] (.pre [0] 0 (.loop [[16], [], [86], [15, 84], [83], [14], [79], [], [76], [74], [], [40, 11], [36, 10], [32, 9], [23], [21, 8, 22, 31, 35, 37, 81, 85], [20, 7, 30, 34], [6], [0, 18, 75, 78], [1, 29], [2, 33]] (.post (.seq (.seq (.reg [.nop 0,
  .nop 15,
  .op (.bin .lss 3 (.v 0) (.v 15))])
 (.cond (.v 0) .skip
 (.pre [1] 2 (.exit 6))))
 (.seq (.block 7 [[91], [16, 89], [], [86], [15, 84], [83], [14], [79], [], [76], [74], [], [40, 11], [36, 10], [32, 9], [23], [21, 8, 22, 31, 35, 37, 81, 85, 90], [20, 7, 30, 34], [6], [0, 18, 75, 78], [1, 29], [2, 33]] (.post (.regD [.nop 12,
  .nop 4,
  .nop 16,
  .op (.bin .sub 3 (.v 4) (.v 16)),
  .nop 2,
  .op (.bin .add 3 (.v 0) (.v 2)),
  .nop 14,
  .nop 6,
  .nop 18,
  .op (.bin .sub 3 (.v 6) (.v 18)),
  .nop 4,
  .op (.bin .add 3 (.v 0) (.v 4)),
  .op (.idx 1 (.v 16) (.v 0)),
  .op (.ld1 (.v 0)),
  .nop 18,
  .nop 10,
  .op (.idx 1 (.v 18) (.v 10)),
  .op (.ld1 (.v 0)),
  .nop 25,
  .nop 14,
  .nop 9,
  .op (.idx 1 (.v 14) (.v 9)),
  .op (.ld1 (.v 0)),
  .op (.bin .sub 3 (.v 27) (.v 0)),
  .op (.bin .mul 3 (.v 3) (.v 0)),
  .op (.bin .add 3 (.v 6) (.v 0)),
  .nop 30,
  .op (.bin .rem 3 (.v 0) (.v 30)),
  .op (.idx 1 (.v 26) (.v 12)),
  .eff (.st 1 (.v 0) (.v 1))] [0, 0, 0, 6, 0, 30, 0, 0, 0, 384, 0, 1920, 4032, 8128, 0, 0, 49152, 114688, 0, 0, 0, 1572864, 3670016, 8126464, 16760832, 33554368, 0, 134217664, 268435455, 536870911]) [] 15))
 (.reg [.nop 1,
  .op (.bin .add 3 (.v 1) (.c (.int .i64 1))),
  .nop 0]))) [0] 3)))))
 (.reg [.nop 11,
  .nop 3,
  .op (.idx 1 (.v 11) (.v 3)),
  .eff (.st 1 (.v 0) (.c (.int .i64 0)))])) [] 3))
 (.reg [.nop 1,
  .op (.bin .sub 3 (.v 1) (.c (.int .i64 1))),
  .nop 0]))) [0] 3)))))
 (.seq (.post (.reg [.nop 7,
  .nop 11,
  .op (.slc 1 (.v 7) none (some (.v 11))),
  .nop 13,
  .op (.call 28 [(.v 0), (.v 13)]),
  .nop 0]) [0] 2)
 (.ret [.v 0]))))))))))))⟩

/-- tegula/tegularef05.Neg -/
def ac16 : AFn := ⟨2, [],
 (.seq (.reg [.op (.mov (.c (.int .i64 0)))])
 (.seq (.seq (.reg [.op (.mov (.c (.int .i64 0)))])
 (.block 0 [[4], [], [], [0], [1]] (.pre [1, 0] 0 (.loop [[4], [5], [], [], [0], [1]] (.post (.seq (.seq (.reg [.nop 1,
  .nop 4,
  .op (.bin .lss 3 (.v 1) (.v 4))])
 (.cond (.v 0) .skip
 (.pre [1] 3 (.exit 0))))
 (.seq (.block 1 [[4], [8], [], [5, 6], [], [], [0, 7], [1]] (.post (.seq (.reg [.nop 5,
  .nop 6,
  .nop 2,
  .op (.call 14 [(.v 5), (.v 6), (.v 2)]),
  .op (.bin .eql 3 (.v 0) (.c (.int .i64 0)))])
 (.cond (.v 0) (.seq (.reg [.nop 4,
  .nop 4])
 (.ret [.v 4]))
 .skip)) [3] 2))
 (.reg [.nop 3,
  .op (.bin .add 3 (.v 3) (.c (.int .i64 1))),
  .nop 0]))) [1, 0] 5)))))
 (.seq (.reg [.op (.mov (.c (.int .i64 (-1))))])
 (.ret [.v 0]))))⟩

/-- tegula/tegularef05.Inv -/
def ac17 : AFn := ⟨2, [],
 (.seq (.reg [.op (.mov (.c (.int .i64 0)))])
 (.seq (.seq (.reg [.op (.mov (.c (.int .i64 0)))])
 (.block 0 [[4], [], [], [0], [1]] (.pre [1, 0] 0 (.loop [[4], [5], [], [], [0], [1]] (.post (.seq (.seq (.reg [.nop 1,
  .nop 4,
  .op (.bin .lss 3 (.v 1) (.v 4))])
 (.cond (.v 0) .skip
 (.pre [1] 3 (.exit 0))))
 (.seq (.block 1 [[4], [8], [], [5, 6], [], [], [0, 7], [1]] (.post (.seq (.reg [.nop 5,
  .nop 6,
  .nop 2,
  .op (.call 15 [(.v 5), (.v 6), (.v 2)]),
  .op (.bin .eql 3 (.v 0) (.c (.int .i64 1)))])
 (.cond (.v 0) (.seq (.reg [.nop 4,
  .nop 4])
 (.ret [.v 4]))
 .skip)) [3] 2))
 (.reg [.nop 3,
  .op (.bin .add 3 (.v 3) (.c (.int .i64 1))),
  .nop 0]))) [1, 0] 5)))))
 (.seq (.reg [.op (.mov (.c (.int .i64 (-1))))])
 (.ret [.v 0]))))⟩

/-- (*tegula/smallfield.Field).Neg -/
def ac18 : AFn := ⟨2, [],
 (.seq (.reg [.op (.mov (.c (.int .i64 0)))])
 (.seq (.seq (.post (.reg [.nop 1,
  .nop 2,
  .op (.call 26 [(.v 1), (.v 2)]),
  .op (.una .not (.v 0))]) [0] 2)
 (.cond (.v 0) (.seq (.reg [.op (.mov (.c (.int .i64 (-1))))])
 (.ret [.v 0]))
 .skip))
 (.seq (.post (.reg [.nop 2,
  .op (.nilck (.v 2)),
  .op (.fld 2 (.v 0)),
  .op (.ld1 (.v 0)),
  .nop 6,
  .op (.idx 1 (.v 0) (.v 6)),
  .op (.ld1 (.v 0)),
  .op (.call 29 [(.v 0), (.c (.int .i64 0))]),
  .nop 0]) [0] 6)
 (.ret [.v 0]))))⟩

/-- (*tegula/smallfield.Field).Inv -/
def ac19 : AFn := ⟨2, [],
 (.seq (.reg [.op (.mov (.c (.int .i64 0)))])
 (.seq (.seq (.post (.reg [.nop 1,
  .nop 2,
  .op (.call 26 [(.v 1), (.v 2)]),
  .op (.una .not (.v 0))]) [0] 2)
 (.cond (.v 0) (.seq (.reg [.op (.mov (.c (.int .i64 (-1))))])
 (.ret [.v 0]))
 .skip))
 (.seq (.post (.reg [.nop 2,
  .op (.nilck (.v 2)),
  .op (.fld 3 (.v 0)),
  .op (.ld1 (.v 0)),
  .nop 6,
  .op (.idx 1 (.v 0) (.v 6)),
  .op (.ld1 (.v 0)),
  .op (.call 29 [(.v 0), (.c (.int .i64 1))]),
  .nop 0]) [0] 6)
 (.ret [.v 0]))))⟩

/-- (*tegula/smallfield.Field).Prime -/
def ac20 : AFn := ⟨1, [],
 (.seq (.reg [.op (.mov (.c (.int .i64 0)))])
 (.seq (.seq (.reg [.nop 1,
  .op (.bin .eql 24 (.v 1) (.c (.pointer none)))])
 (.cond (.v 0) (.seq (.reg [.op (.mov (.c (.int .i64 0)))])
 (.ret [.v 0]))
 .skip))
 (.seq (.post (.reg [.nop 2,
  .op (.nilck (.v 2)),
  .op (.fld 1 (.v 0)),
  .op (.ld1 (.v 0)),
  .nop 0]) [0] 3)
 (.ret [.v 0]))))⟩

/-- tegula/tegulalaw05.power -/
def ac21 : AFn := ⟨3, [],
 (.seq (.reg [.op (.mov (.c (.int .i64 0)))])
 (.seq (.reg [.op (.mov (.c (.int .i64 1)))])
 (.seq (.seq (.reg [.op (.mov (.c (.int .i64 0)))])
 (.block 0 [[7], [], [], [6], [0], [1], [2]] (.pre [1, 0] 0 (.loop [[7], [8], [], [], [6], [0], [1], [2]] (.post (.seq (.seq (.reg [.nop 1,
  .nop 7,
  .op (.bin .lss 3 (.v 1) (.v 7)),
  .nop 0,
  .opg (.mov (.v 2)) 0 true,
  .opg (.bin .lss 3 (.v 0) (.c (.int .i64 9))) 1 true,
  .op (.pick (.v 2) (.v 0) (.c (.bool false)))])
 (.cond (.v 0) .skip
 (.pre [4] 6 (.exit 0))))
 (.seq (.block 1 [[7], [15], [14], [13], [11, 12], [], [8, 9], [], [], [6], [0], [1], [2, 10]] (.reg [.nop 9,
  .nop 4,
  .nop 10,
  .op (.call 13 [(.v 9), (.v 4), (.v 10)]),
  .nop 0]))
 (.reg [.nop 6,
  .op (.bin .add 3 (.v 6) (.c (.int .i64 1))),
  .nop 0]))) [1, 0] 8)))))
 (.seq (.reg [.nop 0,
  .nop 0])
 (.ret [.v 0])))))⟩

/-- (*tegula/smallfield.Field).Size -/
def ac22 : AFn := ⟨1, [],
 (.seq (.reg [.op (.mov (.c (.int .i64 0)))])
 (.seq (.seq (.reg [.nop 1,
  .op (.bin .eql 24 (.v 1) (.c (.pointer none)))])
 (.cond (.v 0) (.seq (.reg [.op (.mov (.c (.int .i64 0)))])
 (.ret [.v 0]))
 .skip))
 (.seq (.post (.reg [.nop 2,
  .op (.nilck (.v 2)),
  .op (.fld 0 (.v 0)),
  .op (.ld1 (.v 0)),
  .nop 0]) [0] 3)
 (.ret [.v 0]))))⟩

/-- tegula/smallfield.Sizes -/
def ac23 : AFn := ⟨0, [],
 (.seq (.reg [.op (.mov (.c (.slice none 0 0)))])
 (.seq (.reg [.op (.mov (.c (.slice none 0 0)))])
 (.seq (.seq (.reg [.op (.call 30 []),
  .op (.len false (.v 0)),
  .op (.mov (.c (.int .i64 0)))])
 (.block 0 [[1], [], [5], [4], [], [0]] (.pre [3, 0] 0 (.loop [[1], [6], [], [5], [4], [], [0]] (.post (.seq (.reg [.op (.bin .lss 3 (.v 1) (.v 3))])
 (.seq (.cond (.v 0) .skip
 (.pre [1] 3 (.exit 0)))
 (.seq (.block 1 [[1], [7], [], [6], [], [5], [4], [], [0]] (.post (.seq (.reg [.op (.idx 3 (.v 5) (.v 2)),
  .op (.ldn 3 (.v 0)),
  .op (.new [(.int .i64 0), (.int .i64 0), (.slice none 0 0)]),
  .eff (.st 3 (.v 0) (.v 1))])
 (.reg [.nop 4,
  .op (.fld 0 (.v 0)),
  .op (.ld1 (.v 0)),
  .op (.mkl 1 1 [(.int .i64 0)] [(0, (.v 0))]),
  .op (.app 1 8 (.v 7) (.v 0)),
  .nop 0])) [0] 7))
 (.reg [.op (.bin .add 3 (.v 3) (.c (.int .i64 1))),
  .nop 0])))) [1, 0] 5)))))
 (.seq (.reg [.nop 0,
  .nop 0])
 (.ret [.v 0])))))⟩

/-- tegula/smallfield.New -/
def ac24 : AFn := ⟨1, [],
 (.seq (.reg [.op (.box (.v 0)),
  .op (.mov (.c (.pointer none))),
  .op (.mov (.c (.int .i64 0)))])
 (.seq (.post (.reg [.op (.call 30 []),
  .op (.func 32 [] [(.v 3)]),
  .op (.call 31 [(.v 1), (.v 0)]),
  .nop 0]) [0] 3)
 (.seq (.seq (.reg [.nop 0,
  .op (.bin .lss 3 (.v 0) (.c (.int .i64 0)))])
 (.cond (.v 0) (.seq (.reg [.op (.mov (.c (.pointer none))),
  .op (.mov (.c (.int .i64 1)))])
 (.ret [.v 1, .v 0]))
 .skip))
 (.seq (.post (.reg [.op (.call 30 []),
  .nop 2,
  .op (.idx 3 (.v 0) (.v 2)),
  .op (.ldn 3 (.v 0)),
  .op (.new [(.int .i64 0), (.int .i64 0), (.slice none 0 0)]),
  .eff (.st 3 (.v 0) (.v 1))]) [0] 4)
 (.seq (.post (.reg [.op (.ldn 3 (.v 0)),
  .op (.func 33 [(.v 0)] []),
  .nop 0]) [0] 2)
 (.seq (.seq (.post (.reg [.op (.fld 2 (.v 1)),
  .op (.ld1 (.v 0)),
  .op (.bin .eql 38 (.v 0) (.c (.slice none 0 0)))]) [0] 3)
 (.cond (.v 0) (.reg [.op (.func 34 [] [(.v 2)]),
  .nop 0])
 (.post .skip [1] 0)))
 (.seq (.post (.reg [.op (.ld1 (.v 8)),
  .op (.fld 1 (.v 4)),
  .op (.ld1 (.v 0)),
  .op (.build [(.int .i64 0), (.int .i64 0), (.slice none 0 0), (.slice none 0 0)] [(0, 1, (.v 2)), (1, 1, (.v 0))]),
  .op (.box (.v 0)),
  .nop 0]) [0] 5)
 (.seq (.seq (.reg [.op (.ld1 (.v 9)),
  .op (.mov (.c (.int .i64 0)))])
 (.block 0 [[], [32], [31, 7], [6], [25], [22], [5], [16], [14, 4, 15, 18], [3], [2], [1], [0]] (.pre [0] 0 (.loop [[33], [], [32], [31, 7], [6], [25], [22], [5], [16], [14, 4, 15, 18], [3], [2], [1], [0]] (.post (.seq (.reg [.op (.bin .lss 3 (.v 0) (.v 2))])
 (.seq (.cond (.v 0) .skip
 (.pre [] 2 (.exit 0)))
 (.seq (.block 1 [[34], [33], [], [32], [31, 7], [6], [25], [22], [5], [16], [14, 4, 15, 18], [3], [2], [1], [0]] (.post (.seq (.reg [.nop 1,
  .nop 1])
 (.seq (.reg [.op (.mov (.c (.slice none 0 0))),
  .op (.mov (.c (.slice none 0 0)))])
 (.seq (.seq (.reg [.op (.ld1 (.v 15)),
  .op (.mov (.c (.int .i64 0)))])
 (.block 2 [[9], [10], [37], [], [36], [], [], [34], [33, 35, 8], [], [32], [31, 7], [6], [25], [22], [5], [16], [14, 4, 15, 18], [3], [2], [1], [0]] (.pre [3, 2, 0] 0 (.loop [[9], [10], [37], [], [36], [], [], [34], [33, 35, 8], [], [32], [31, 7], [6], [25], [22], [5], [16], [14, 4, 15, 18], [3], [2], [1], [0]] (.post (.seq (.reg [.op (.bin .lss 3 (.v 2) (.v 4))])
 (.seq (.cond (.v 0) .skip
 (.pre [1, 2, 3] 4 (.exit 2)))
 (.seq (.block 3 [[9], [10], [38], [], [], [37], [], [36], [], [], [34], [33, 35, 8], [], [32], [31, 7], [6], [25], [22], [5], [16], [14, 4, 15, 18], [3], [2], [1], [0]] (.post (.seq (.reg [.nop 3,
  .nop 3])
 (.reg [.nop 1,
  .op (.ldn 3 (.v 16)),
  .nop 10,
  .nop 4,
  .op (.call 35 [(.v 0), (.v 10), (.v 4)]),
  .op (.mkl 1 1 [(.int .i64 0)] [(0, (.v 0))]),
  .op (.app 1 8 (.v 4) (.v 0)),
  .nop 6,
  .nop 17,
  .nop 13,
  .nop 7,
  .op (.callv (.v 17) [(.v 13), (.v 7)]),
  .op (.mkl 1 1 [(.int .i64 0)] [(0, (.v 0))]),
  .op (.app 1 8 (.v 8) (.v 0)),
  .nop 3,
  .nop 0])) [3, 0] 7))
 (.reg [.op (.bin .add 3 (.v 5) (.c (.int .i64 1))),
  .nop 0])))) [1, 2, 0] 7)))))
 (.regD [.nop 11,
  .nop 11,
  .nop 11,
  .op (.nilck (.v 11)),
  .op (.fld 2 (.v 0)),
  .op (.ld1 (.v 0)),
  .nop 3,
  .op (.mkl 1 1 [(.slice none 0 0)] [(0, (.v 3))]),
  .op (.app 1 24 (.v 1) (.v 0)),
  .nop 16,
  .op (.nilck (.v 16)),
  .op (.fld 3 (.v 0)),
  .op (.ld1 (.v 0)),
  .nop 9,
  .op (.mkl 1 1 [(.slice none 0 0)] [(0, (.v 9))]),
  .op (.app 1 24 (.v 1) (.v 0)),
  .op (.nilck (.v 21)),
  .op (.fld 2 (.v 0)),
  .eff (.st 1 (.v 0) (.v 7)),
  .op (.nilck (.v 23)),
  .op (.fld 3 (.v 0)),
  .eff (.st 1 (.v 0) (.v 4))] [0, 0, 0, 4, 12, 28, 0, 64, 252, 0, 512, 1536, 3584, 0, 8192, 32764, 65533, 131069, 262141, 524287, 1048575, 2097151])))) [] 21))
 (.reg [.op (.bin .add 3 (.v 1) (.c (.int .i64 1))),
  .nop 0])))) [0] 3)))))
 (.seq (.reg [.nop 2,
  .nop 2,
  .op (.mov (.c (.int .i64 0)))])
 (.ret [.v 3, .v 0]))))))))))⟩

/-- tegula/tegularef05.Prime -/
def ac25 : AFn := ⟨1, [],
 (.seq (.reg [.op (.mov (.c (.int .i64 0))),
  .op (.mov (.c (.int .i64 0)))])
 (.seq (.seq (.reg [.nop 2])
 (.block 0 [[2], [3], [], [], [0, 4]] (.post (.seq (.seq (.reg [.op (.bin .eql 3 (.v 2) (.c (.int .i64 2))),
  .nop 0])
 (.cond (.v 0) (.post .skip [0] 0)
 (.post (.seq (.reg [.op (.bin .eql 3 (.v 3) (.c (.int .i64 3))),
  .nop 0])
 (.cond (.v 0) (.post .skip [0] 0)
 (.post (.seq (.reg [.op (.bin .eql 3 (.v 4) (.c (.int .i64 5))),
  .nop 0])
 (.cond (.v 0) (.post .skip [0] 0)
 (.reg [.op (.bin .eql 3 (.v 5) (.c (.int .i64 7))),
  .nop 0]))) [0] 2))) [0] 2)))
 (.cond (.v 0) (.seq (.reg [.nop 4,
  .nop 4,
  .op (.mov (.c (.int .i64 1)))])
 (.ret [.v 5, .v 0]))
 (.seq (.reg [.op (.bin .eql 3 (.v 4) (.c (.int .i64 4))),
  .nop 0])
 (.cond (.v 0) (.seq (.reg [.op (.mov (.c (.int .i64 2))),
  .op (.mov (.c (.int .i64 2)))])
 (.ret [.v 1, .v 0]))
 (.seq (.reg [.op (.bin .eql 3 (.v 5) (.c (.int .i64 8))),
  .nop 0])
 (.cond (.v 0) (.seq (.reg [.op (.mov (.c (.int .i64 2))),
  .op (.mov (.c (.int .i64 3)))])
 (.ret [.v 1, .v 0]))
 (.seq (.reg [.op (.bin .eql 3 (.v 6) (.c (.int .i64 9))),
  .nop 0])
 (.cond (.v 0) (.seq (.reg [.op (.mov (.c (.int .i64 3))),
  .op (.mov (.c (.int .i64 2)))])
 (.ret [.v 1, .v 0]))
 .skip)))))))) [6, 5] 5)))
 (.seq (.reg [.op (.mov (.c (.int .i64 0))),
  .op (.mov (.c (.int .i64 0)))])
 (.ret [.v 1, .v 0]))))⟩

/-- (*tegula/smallfield.Field).has -/
def ac26 : AFn := ⟨2, [],
 (.seq (.reg [.op (.mov (.c (.bool false)))])
 (.seq (.post (.reg [.nop 1,
  .op (.bin .neq 24 (.v 1) (.c (.pointer none))),
  .nop 0,
  .opg (.mov (.v 3)) 0 true,
  .opg (.bin .geq 3 (.v 0) (.c (.int .i64 0))) 1 true,
  .op (.pick (.v 2) (.v 0) (.c (.bool false))),
  .nop 0,
  .opg (.mov (.v 6)) 0 true,
  .opg (.mov (.v 6)) 1 true,
  .opg (.nilck (.v 0)) 2 true,
  .opg (.fld 0 (.v 0)) 3 true,
  .opg (.ld1 (.v 0)) 4 true,
  .opg (.bin .lss 3 (.v 4) (.v 0)) 5 true,
  .op (.pick (.v 6) (.v 0) (.c (.bool false))),
  .nop 0]) [0] 11)
 (.ret [.v 0])))⟩

/-- tegula/tegularef05.digits -/
def ac27 : AFn := ⟨3, [],
 (.seq (.reg [.op (.mov (.c (.slice none 0 0)))])
 (.seq (.reg [.op (.mov (.c (.slice none 0 0)))])
 (.seq (.seq (.reg [.op (.mov (.c (.int .i64 0)))])
 (.block 0 [[7], [], [], [6], [], [1], [2]] (.pre [3, 1, 0] 0 (.loop [[0], [7], [8], [], [], [6], [], [1], [2]] (.post (.seq (.seq (.reg [.nop 2,
  .nop 8,
  .op (.bin .lss 3 (.v 2) (.v 8))])
 (.cond (.v 0) .skip
 (.pre [2] 4 (.exit 0))))
 (.seq (.block 1 [[0], [7], [11], [], [], [8, 9], [], [], [6], [], [1], [2, 10]] (.post (.seq (.reg [.nop 2,
  .nop 1,
  .nop 8,
  .op (.bin .rem 3 (.v 1) (.v 8)),
  .op (.mkl 1 1 [(.int .i64 0)] [(0, (.v 0))]),
  .op (.app 1 8 (.v 4) (.v 0)),
  .nop 0])
 (.reg [.nop 4,
  .nop 11,
  .op (.bin .quo 3 (.v 4) (.v 11)),
  .nop 0])) [0, 1] 4))
 (.reg [.nop 5,
  .op (.bin .add 3 (.v 5) (.c (.int .i64 1))),
  .nop 0]))) [1, 2, 0] 7)))))
 (.seq (.reg [.nop 0,
  .nop 0])
 (.ret [.v 0])))))⟩

/-- tegula/tegularef05.number -/
def ac28 : AFn := ⟨2, [],
 (.seq (.reg [.op (.mov (.c (.int .i64 0)))])
 (.seq (.reg [.op (.mov (.c (.int .i64 0)))])
 (.seq (.seq (.post (.reg [.nop 2,
  .op (.len false (.v 2)),
  .op (.bin .sub 3 (.v 0) (.c (.int .i64 1))),
  .nop 0]) [0] 2)
 (.block 0 [[5], [9], [], [4], [0, 7], [1]] (.pre [1, 0] 0 (.loop [[5], [6], [9], [], [4], [0, 7], [1]] (.post (.seq (.seq (.reg [.nop 1,
  .op (.bin .geq 3 (.v 1) (.c (.int .i64 0)))])
 (.cond (.v 0) .skip
 (.pre [1] 3 (.exit 0))))
 (.seq (.block 1 [[5], [11], [], [6, 10], [9], [], [4], [0, 7], [1]] (.post (.reg [.nop 1,
  .nop 7,
  .op (.bin .mul 3 (.v 1) (.v 7)),
  .nop 7,
  .nop 3,
  .op (.idx 1 (.v 7) (.v 3)),
  .op (.ld1 (.v 0)),
  .op (.bin .add 3 (.v 2) (.v 0)),
  .nop 0]) [0] 4))
 (.reg [.nop 3,
  .op (.bin .sub 3 (.v 3) (.c (.int .i64 1))),
  .nop 0]))) [1, 0] 5)))))
 (.seq (.reg [.nop 0,
  .nop 0])
 (.ret [.v 0])))))⟩

/-- slices.Index[[]int,int] -/
def ac29 : AFn := ⟨2, [],
 (.seq (.reg [.op (.mov (.c (.int .i64 0)))])
 (.seq (.seq (.reg [.nop 1,
  .op (.len false (.v 1)),
  .op (.mov (.c (.int .i64 0)))])
 (.block 0 [[4], [], [7], [], [0, 6], [1]] (.pre [2, 0] 0 (.loop [[4], [8], [], [7], [], [0, 6], [1]] (.post (.seq (.reg [.op (.bin .lss 3 (.v 1) (.v 3))])
 (.seq (.cond (.v 0) .skip
 (.pre [1] 3 (.exit 0)))
 (.seq (.block 1 [[4], [9], [], [8], [], [7], [], [0, 6], [1]] (.post (.seq (.reg [.nop 2,
  .nop 2])
 (.seq (.reg [.nop 7,
  .nop 6,
  .nop 2,
  .op (.idx 1 (.v 6) (.v 2)),
  .op (.ld1 (.v 0)),
  .op (.bin .eql 3 (.v 9) (.v 0))])
 (.cond (.v 0) (.seq (.reg [.nop 5,
  .nop 5])
 (.ret [.v 5]))
 .skip))) [4] 3))
 (.reg [.op (.bin .add 3 (.v 3) (.c (.int .i64 1))),
  .nop 0])))) [1, 0] 5)))))
 (.seq (.reg [.op (.mov (.c (.int .i64 (-1))))])
 (.ret [.v 0]))))⟩

/-- tegula/smallfield.shapes -/
def ac30 : AFn := ⟨0, [],
 (.seq (.reg [.op (.mov (.c (.slice none 0 0)))])
 (.seq (.post (.reg [.op (.build [(.int .i64 0), (.int .i64 0), (.slice none 0 0)] [(0, 1, (.c (.int .i64 2))), (1, 1, (.c (.int .i64 2))), (2, 1, (.c (.slice none 0 0)))]),
  .op (.build [(.int .i64 0), (.int .i64 0), (.slice none 0 0)] [(0, 1, (.c (.int .i64 3))), (1, 1, (.c (.int .i64 3))), (2, 1, (.c (.slice none 0 0)))]),
  .op (.mkl 1 2 [(.int .i64 0)] [(0, (.c (.int .i64 1))), (1, (.c (.int .i64 1)))]),
  .op (.build [(.int .i64 0), (.int .i64 0), (.slice none 0 0)] [(0, 1, (.c (.int .i64 4))), (1, 1, (.c (.int .i64 2))), (2, 1, (.v 0))]),
  .op (.build [(.int .i64 0), (.int .i64 0), (.slice none 0 0)] [(0, 1, (.c (.int .i64 5))), (1, 1, (.c (.int .i64 5))), (2, 1, (.c (.slice none 0 0)))]),
  .op (.build [(.int .i64 0), (.int .i64 0), (.slice none 0 0)] [(0, 1, (.c (.int .i64 7))), (1, 1, (.c (.int .i64 7))), (2, 1, (.c (.slice none 0 0)))]),
  .op (.mkl 1 3 [(.int .i64 0)] [(0, (.c (.int .i64 1))), (1, (.c (.int .i64 1))), (2, (.c (.int .i64 0)))]),
  .op (.build [(.int .i64 0), (.int .i64 0), (.slice none 0 0)] [(0, 1, (.c (.int .i64 8))), (1, 1, (.c (.int .i64 2))), (2, 1, (.v 0))]),
  .op (.mkl 1 2 [(.int .i64 0)] [(0, (.c (.int .i64 1))), (1, (.c (.int .i64 0)))]),
  .op (.build [(.int .i64 0), (.int .i64 0), (.slice none 0 0)] [(0, 1, (.c (.int .i64 9))), (1, 1, (.c (.int .i64 3))), (2, 1, (.v 0))]),
  .op (.mkl 3 7 [(.int .i64 0), (.int .i64 0), (.slice none 0 0)] [(0, (.v 9)), (1, (.v 8)), (2, (.v 6)), (3, (.v 5)), (4, (.v 4)), (5, (.v 2)), (6, (.v 0))]),
  .nop 0]) [0] 11)
 (.ret [.v 0])))⟩

/-- slices.IndexFunc[[]tegula/smallfield.shape,tegula/smallfield.shape] -/
def ac31 : AFn := ⟨2, [],
 (.seq (.reg [.op (.mov (.c (.int .i64 0)))])
 (.seq (.seq (.reg [.nop 1,
  .op (.len false (.v 1)),
  .op (.mov (.c (.int .i64 0)))])
 (.block 0 [[4], [], [7], [], [0, 6], [1]] (.pre [2, 0] 0 (.loop [[4], [8], [], [7], [], [0, 6], [1]] (.post (.seq (.reg [.op (.bin .lss 3 (.v 1) (.v 3))])
 (.seq (.cond (.v 0) .skip
 (.pre [1] 3 (.exit 0)))
 (.seq (.block 1 [[4], [9], [], [8], [], [7], [], [0, 6], [1]] (.post (.seq (.reg [.nop 2,
  .nop 2])
 (.seq (.reg [.nop 7,
  .nop 6,
  .nop 2,
  .op (.idx 3 (.v 6) (.v 2)),
  .op (.ldn 3 (.v 0)),
  .op (.callv (.v 9) [(.v 0)])])
 (.cond (.v 0) (.seq (.reg [.nop 5,
  .nop 5])
 (.ret [.v 5]))
 .skip))) [4] 3))
 (.reg [.op (.bin .add 3 (.v 3) (.c (.int .i64 1))),
  .nop 0])))) [1, 0] 5)))))
 (.seq (.reg [.op (.mov (.c (.int .i64 (-1))))])
 (.ret [.v 0]))))⟩

/-- tegula/smallfield.New$1 -/
def ac32 : AFn := ⟨2, [],
 (.seq (.reg [.op (.box (.v 0)),
  .op (.mov (.c (.bool false)))])
 (.seq (.post (.reg [.op (.fld 0 (.v 1)),
  .op (.ld1 (.v 0)),
  .op (.ld1 (.v 5)),
  .op (.bin .eql 3 (.v 1) (.v 0)),
  .nop 0]) [0] 4)
 (.ret [.v 0])))⟩

/-- (tegula/smallfield.shape).mul -/
def ac33 : AFn := ⟨3, [],
 (.seq (.reg [.op (.box (.v 0)),
  .op (.mov (.c (.int .i64 0)))])
 (.seq (.post (.regD [.op (.ldn 3 (.v 1)),
  .nop 4,
  .op (.call 36 [(.v 0), (.v 4)]),
  .op (.ldn 3 (.v 3)),
  .nop 7,
  .op (.call 36 [(.v 0), (.v 7)]),
  .nop 2,
  .nop 0] [0, 0, 3, 0, 0, 31, 63, 127]) [0, 2] 4)
 (.seq (.post (.reg [.op (.fld 2 (.v 3)),
  .op (.ld1 (.v 0)),
  .op (.len false (.v 0)),
  .nop 0]) [0] 3)
 (.seq (.post (.reg [.nop 0,
  .op (.bin .mul 3 (.c (.int .i64 2)) (.v 0)),
  .op (.bin .sub 3 (.v 0) (.c (.int .i64 1))),
  .op (.make 1 8 [(.int .i64 0)] (.v 0) (.v 0)),
  .nop 0]) [0] 3)
 (.seq (.seq (.reg [.nop 3,
  .op (.len false (.v 3)),
  .op (.mov (.c (.int .i64 0)))])
 (.block 0 [[], [31], [29, 10], [25, 9, 26], [22, 8], [19, 7, 30], [6], [3], [0], [1, 18], [2, 21]] (.pre [0] 0 (.loop [[32], [], [31], [29, 10], [25, 9, 26], [22, 8], [19, 7, 30], [6], [3], [0], [1, 18], [2, 21]] (.post (.seq (.reg [.op (.bin .lss 3 (.v 0) (.v 2))])
 (.seq (.cond (.v 0) .skip
 (.pre [] 2 (.exit 0)))
 (.seq (.block 1 [[33], [32], [], [31], [29, 10], [25, 9, 26], [22, 8], [19, 7, 30], [6], [3], [0], [1, 18], [2, 21]] (.post (.seq (.reg [.nop 1,
  .nop 1])
 (.seq (.reg [.nop 6,
  .op (.len false (.v 6)),
  .op (.mov (.c (.int .i64 0)))])
 (.block 2 [[37], [], [36], [33], [32, 34, 11], [], [31], [29, 10], [25, 9, 26], [22, 8, 35], [19, 7, 30], [6], [3], [0], [1, 18], [2, 21]] (.pre [0] 0 (.loop [[37], [], [36], [33], [32, 34, 11], [], [31], [29, 10], [25, 9, 26], [22, 8, 35], [19, 7, 30], [6], [3], [0], [1, 18], [2, 21]] (.post (.seq (.reg [.op (.bin .lss 3 (.v 0) (.v 2))])
 (.seq (.cond (.v 0) .skip
 (.pre [1] 2 (.exit 2)))
 (.seq (.block 3 [[38], [37], [], [36], [33], [32, 34, 11], [], [31], [29, 10], [25, 9, 26], [22, 8, 35], [19, 7, 30], [6], [3], [0], [1, 18], [2, 21]] (.post (.seq (.reg [.nop 1,
  .nop 1])
 (.regD [.nop 8,
  .nop 5,
  .nop 1,
  .op (.bin .add 3 (.v 5) (.v 1)),
  .op (.idx 1 (.v 9) (.v 0)),
  .op (.ld1 (.v 0)),
  .nop 14,
  .nop 8,
  .op (.idx 1 (.v 14) (.v 8)),
  .op (.ld1 (.v 0)),
  .nop 15,
  .nop 6,
  .op (.idx 1 (.v 15) (.v 6)),
  .op (.ld1 (.v 0)),
  .op (.bin .mul 3 (.v 2) (.v 0)),
  .op (.bin .add 3 (.v 5) (.v 0)),
  .op (.idx 1 (.v 17) (.v 8)),
  .eff (.st 1 (.v 0) (.v 1))] [0, 0, 0, 6, 15, 31, 0, 0, 192, 448, 0, 0, 3072, 7168, 16320, 32767, 65535, 131071])) [] 10))
 (.reg [.op (.bin .add 3 (.v 1) (.c (.int .i64 1))),
  .nop 0])))) [0] 3)))))) [] 3))
 (.reg [.op (.bin .add 3 (.v 1) (.c (.int .i64 1))),
  .nop 0])))) [0] 3)))))
 (.seq (.seq (.post (.reg [.nop 3,
  .op (.bin .mul 3 (.c (.int .i64 2)) (.v 3)),
  .op (.bin .sub 3 (.v 0) (.c (.int .i64 2))),
  .nop 0]) [0] 2)
 (.block 4 [[61], [], [31], [29, 10], [25, 9, 26, 59], [22, 8], [19, 7, 30], [6], [3], [0], [1, 18], [2, 21]] (.pre [0] 0 (.loop [[13], [61], [], [31], [29, 10], [25, 9, 26, 59], [22, 8], [19, 7, 30], [6], [3], [0], [1, 18], [2, 21]] (.post (.seq (.seq (.reg [.nop 0,
  .nop 5,
  .op (.bin .geq 3 (.v 0) (.v 5))])
 (.cond (.v 0) .skip
 (.pre [] 2 (.exit 4))))
 (.seq (.block 5 [[64], [13, 62], [61], [], [31], [29, 10], [25, 9, 26, 59, 63], [22, 8], [19, 7, 30], [6], [3], [0], [1, 18], [2, 21]] (.post (.seq (.reg [.op (.fld 2 (.v 10)),
  .op (.ld1 (.v 0)),
  .op (.len false (.v 0)),
  .op (.mov (.c (.int .i64 0)))])
 (.block 6 [[70], [], [69], [68], [67], [64], [13, 62], [61], [], [31], [29, 10], [25, 9, 26, 59, 63], [22, 8], [19, 7, 30], [6], [3], [0], [1, 18], [2, 21]] (.pre [0] 0 (.loop [[70], [], [69], [68], [67], [64], [13, 62], [61], [], [31], [29, 10], [25, 9, 26, 59, 63], [22, 8], [19, 7, 30], [6], [3], [0], [1, 18], [2, 21]] (.post (.seq (.reg [.op (.bin .lss 3 (.v 0) (.v 2))])
 (.seq (.cond (.v 0) .skip
 (.pre [1] 2 (.exit 6)))
 (.seq (.block 7 [[71], [70], [], [69], [68], [67], [64], [13, 62], [61], [], [31], [29, 10], [25, 9, 26, 59, 63], [22, 8], [19, 7, 30], [6], [3], [0], [1, 18], [2, 21]] (.post (.seq (.reg [.nop 1,
  .op (.idx 1 (.v 4) (.v 1)),
  .op (.ld1 (.v 0)),
  .nop 3,
  .nop 0])
 (.regD [.nop 13,
  .nop 9,
  .nop 14,
  .op (.bin .sub 3 (.v 9) (.v 14)),
  .nop 4,
  .op (.bin .add 3 (.v 0) (.v 4)),
  .op (.idx 1 (.v 15) (.v 0)),
  .op (.ld1 (.v 0)),
  .op (.fld 1 (.v 22)),
  .op (.ld1 (.v 0)),
  .nop 6,
  .op (.bin .sub 3 (.v 0) (.v 6)),
  .op (.fld 1 (.v 25)),
  .op (.ld1 (.v 0)),
  .op (.bin .rem 3 (.v 2) (.v 0)),
  .nop 23,
  .nop 19,
  .op (.idx 1 (.v 23) (.v 19)),
  .op (.ld1 (.v 0)),
  .op (.bin .mul 3 (.v 2) (.v 0)),
  .op (.bin .add 3 (.v 9) (.v 0)),
  .op (.idx 1 (.v 27) (.v 12)),
  .eff (.st 1 (.v 0) (.v 1))] [0, 0, 0, 6, 0, 30, 63, 127, 0, 256, 0, 1792, 0, 4096, 16128, 0, 0, 98304, 229376, 524032, 1048575, 2097151, 4194303])) [] 17))
 (.reg [.op (.bin .add 3 (.v 1) (.c (.int .i64 1))),
  .nop 0])))) [0] 3))))) [] 5))
 (.reg [.nop 1,
  .op (.bin .sub 3 (.v 1) (.c (.int .i64 1))),
  .nop 0]))) [0] 3)))))
 (.seq (.seq (.reg [.nop 3,
  .op (.len false (.v 3)),
  .op (.mov (.c (.int .i64 0)))])
 (.block 8 [[], [99], [61], [], [31], [29, 10, 98], [25, 9, 26, 59], [22, 8], [19, 7, 30], [6], [3], [0], [1, 18], [2, 21]] (.pre [0] 0 (.loop [[100], [], [99], [61], [], [31], [29, 10, 98], [25, 9, 26, 59], [22, 8], [19, 7, 30], [6], [3], [0], [1, 18], [2, 21]] (.post (.seq (.reg [.op (.bin .lss 3 (.v 0) (.v 2))])
 (.seq (.cond (.v 0) .skip
 (.pre [] 2 (.exit 8)))
 (.seq (.block 9 [[101], [100], [], [99], [61], [], [31], [29, 10, 98], [25, 9, 26, 59], [22, 8], [19, 7, 30], [6], [3], [0], [1, 18], [2, 21]] (.post (.seq (.reg [.nop 1,
  .nop 1])
 (.regD [.nop 7,
  .nop 1,
  .op (.idx 1 (.v 7) (.v 1)),
  .op (.ld1 (.v 0)),
  .op (.fld 1 (.v 14)),
  .op (.ld1 (.v 0)),
  .op (.bin .rem 3 (.v 2) (.v 0)),
  .op (.idx 1 (.v 12) (.v 6)),
  .eff (.st 1 (.v 0) (.v 1))] [0, 0, 3, 7, 0, 16, 63, 127, 255])) [] 6))
 (.reg [.op (.bin .add 3 (.v 1) (.c (.int .i64 1))),
  .nop 0])))) [0] 3)))))
 (.seq (.post (.regD [.op (.ldn 3 (.v 10)),
  .nop 6,
  .nop 7,
  .op (.slc 1 (.v 6) none (some (.v 7))),
  .op (.call 37 [(.v 1), (.v 0)]),
  .nop 0] [0, 0, 0, 6, 15, 31]) [0] 3)
 (.ret [.v 0])))))))))⟩

/-- tegula/smallfield.New$2 -/
def ac34 : AFn := ⟨3, [],
 (.seq (.reg [.op (.mov (.c (.int .i64 0)))])
 (.seq (.post (.reg [.nop 1,
  .nop 2,
  .op (.bin .mul 3 (.v 1) (.v 2)),
  .op (.fld 1 (.v 4)),
  .op (.ld1 (.v 0)),
  .op (.bin .rem 3 (.v 2) (.v 0)),
  .nop 0]) [0] 4)
 (.ret [.v 0])))⟩

/-- (tegula/smallfield.shape).add -/
def ac35 : AFn := ⟨3, [],
 (.seq (.reg [.op (.box (.v 0)),
  .op (.mov (.c (.int .i64 0)))])
 (.seq (.post (.regD [.op (.ldn 3 (.v 1)),
  .nop 4,
  .op (.call 36 [(.v 0), (.v 4)]),
  .op (.ldn 3 (.v 3)),
  .nop 7,
  .op (.call 36 [(.v 0), (.v 7)]),
  .nop 2,
  .nop 0] [0, 0, 3, 0, 0, 31, 63, 127]) [0, 2] 4)
 (.seq (.seq (.reg [.nop 1,
  .op (.len false (.v 1)),
  .op (.mov (.c (.int .i64 0)))])
 (.block 0 [[], [17], [15, 8], [12, 7, 16], [6], [3], [0], [1, 11], [2, 14]] (.pre [0] 0 (.loop [[18], [], [17], [15, 8], [12, 7, 16], [6], [3], [0], [1, 11], [2, 14]] (.post (.seq (.reg [.op (.bin .lss 3 (.v 0) (.v 2))])
 (.seq (.cond (.v 0) .skip
 (.pre [] 2 (.exit 0)))
 (.seq (.block 1 [[19], [18], [], [17], [15, 8], [12, 7, 16], [6], [3], [0], [1, 11], [2, 14]] (.post (.seq (.reg [.nop 1,
  .nop 1])
 (.regD [.nop 5,
  .nop 1,
  .nop 5,
  .nop 1,
  .op (.idx 1 (.v 5) (.v 1)),
  .op (.ld1 (.v 0)),
  .nop 6,
  .nop 3,
  .op (.idx 1 (.v 6) (.v 3)),
  .op (.ld1 (.v 0)),
  .op (.bin .add 3 (.v 2) (.v 0)),
  .op (.fld 1 (.v 12)),
  .op (.ld1 (.v 0)),
  .op (.bin .rem 3 (.v 2) (.v 0)),
  .op (.idx 1 (.v 13) (.v 9)),
  .eff (.st 1 (.v 0) (.v 1))] [0, 0, 0, 0, 12, 28, 0, 0, 192, 448, 1020, 0, 2048, 8188, 16383, 32767])) [] 9))
 (.reg [.op (.bin .add 3 (.v 1) (.c (.int .i64 1))),
  .nop 0])))) [0] 3)))))
 (.seq (.post (.reg [.op (.ldn 3 (.v 5)),
  .nop 4,
  .op (.call 37 [(.v 0), (.v 4)]),
  .nop 0]) [0] 2)
 (.ret [.v 0])))))⟩

/-- (tegula/smallfield.shape).digits -/
def ac36 : AFn := ⟨2, [],
 (.seq (.reg [.op (.box (.v 0)),
  .op (.mov (.c (.slice none 0 0)))])
 (.seq (.post (.reg [.op (.fld 2 (.v 1)),
  .op (.ld1 (.v 0)),
  .op (.len false (.v 0)),
  .op (.mx (.c (.int .i64 1)) (.v 0)),
  .op (.make 1 8 [(.int .i64 0)] (.v 0) (.v 0)),
  .nop 0]) [0] 5)
 (.seq (.seq (.reg [.nop 0,
  .op (.len false (.v 0)),
  .op (.mov (.c (.int .i64 0)))])
 (.block 0 [[], [13], [11, 5, 12], [4], [2], [0], []] (.pre [6, 0] 0 (.loop [[1], [14], [], [13], [11, 5, 12], [4], [2], [0], []] (.post (.seq (.reg [.op (.bin .lss 3 (.v 1) (.v 3))])
 (.seq (.cond (.v 0) .skip
 (.pre [] 3 (.exit 0)))
 (.seq (.block 1 [[1], [15], [], [14], [], [13], [11, 5, 12], [4], [2], [0], []] (.post (.seq (.reg [.nop 2,
  .nop 2])
 (.seq (.reg [.nop 5,
  .nop 2,
  .nop 1,
  .op (.fld 1 (.v 7)),
  .op (.ld1 (.v 0)),
  .op (.bin .rem 3 (.v 3) (.v 0)),
  .op (.idx 1 (.v 8) (.v 5)),
  .eff (.st 1 (.v 0) (.v 1))])
 (.reg [.nop 5,
  .op (.fld 1 (.v 11)),
  .op (.ld1 (.v 0)),
  .op (.bin .quo 3 (.v 7) (.v 0)),
  .nop 0]))) [0] 7))
 (.reg [.op (.bin .add 3 (.v 3) (.c (.int .i64 1))),
  .nop 0])))) [1, 0] 5)))))
 (.seq (.reg [.nop 2,
  .nop 2])
 (.ret [.v 2])))))⟩

/-- slices.Backward[[]int,int] -/
def ac38 : AFn := ⟨1, [],
 (.seq (.reg [.op (.box (.v 0)),
  .op (.mov (.c .nilFunc))])
 (.seq (.reg [.op (.func 39 [] [(.v 1)]),
  .nop 0])
 (.ret [.v 0])))⟩

/-- slices.Backward[[]int,int]$1 -/
def ac39 : AFn := ⟨2, [],
 (.seq (.post (.reg [.op (.ld1 (.v 1)),
  .op (.len false (.v 0)),
  .op (.bin .sub 3 (.v 0) (.c (.int .i64 1))),
  .nop 0]) [0] 3)
 (.block 0 [[6], [0], [1]] (.pre [0] 0 (.loop [[3], [6], [0], [1]] (.post (.seq (.seq (.reg [.nop 0,
  .op (.bin .geq 3 (.v 0) (.c (.int .i64 0)))])
 (.cond (.v 0) .skip
 (.pre [] 2 (.exit 0))))
 (.seq (.block 1 [[8], [3, 7], [6], [0], [1]] (.post (.seq (.reg [.nop 3,
  .nop 1,
  .op (.ld1 (.v 4)),
  .nop 2,
  .op (.idx 1 (.v 0) (.v 2)),
  .op (.ld1 (.v 0)),
  .op (.callv (.v 6) [(.v 4), (.v 0)]),
  .op (.una .not (.v 0))])
 (.cond (.v 0) (.ret [])
 .skip)) [] 5))
 (.reg [.nop 1,
  .op (.bin .sub 3 (.v 1) (.c (.int .i64 1))),
  .nop 0]))) [0] 3)))))⟩

theorem chk3 : chkFn Proofs.Try.prog Proofs.Try.f3 ac3 = true := by kernel_rfl
theorem chk4 : chkFn Proofs.Try.prog Proofs.Try.f4 ac4 = true := by kernel_rfl
theorem chk5 : chkFn Proofs.Try.prog Proofs.Try.f5 ac5 = true := by kernel_rfl
theorem chk6 : chkFn Proofs.Try.prog Proofs.Try.f6 ac6 = true := by kernel_rfl
theorem chk7 : chkFn Proofs.Try.prog Proofs.Try.f7 ac7 = true := by kernel_rfl
theorem chk8 : chkFn Proofs.Try.prog Proofs.Try.f8 ac8 = true := by kernel_rfl
theorem chk9 : chkFn Proofs.Try.prog Proofs.Try.f9 ac9 = true := by kernel_rfl
theorem chk10 : chkFn Proofs.Try.prog Proofs.Try.f10 ac10 = true := by kernel_rfl
theorem chk11 : chkFn Proofs.Try.prog Proofs.Try.f11 ac11 = true := by kernel_rfl
theorem chk12 : chkFn Proofs.Try.prog Proofs.Try.f12 ac12 = true := by kernel_rfl
theorem chk13 : chkFn Proofs.Try.prog Proofs.Try.f13 ac13 = true := by kernel_rfl
theorem chk14 : chkFn Proofs.Try.prog Proofs.Try.f14 ac14 = true := by kernel_rfl
theorem chk15 : chkFn Proofs.Try.prog Proofs.Try.f15 ac15 = true := by kernel_rfl
theorem chk16 : chkFn Proofs.Try.prog Proofs.Try.f16 ac16 = true := by kernel_rfl
theorem chk17 : chkFn Proofs.Try.prog Proofs.Try.f17 ac17 = true := by kernel_rfl
theorem chk18 : chkFn Proofs.Try.prog Proofs.Try.f18 ac18 = true := by kernel_rfl
theorem chk19 : chkFn Proofs.Try.prog Proofs.Try.f19 ac19 = true := by kernel_rfl
theorem chk20 : chkFn Proofs.Try.prog Proofs.Try.f20 ac20 = true := by kernel_rfl
theorem chk21 : chkFn Proofs.Try.prog Proofs.Try.f21 ac21 = true := by kernel_rfl
theorem chk22 : chkFn Proofs.Try.prog Proofs.Try.f22 ac22 = true := by kernel_rfl
theorem chk23 : chkFn Proofs.Try.prog Proofs.Try.f23 ac23 = true := by kernel_rfl
theorem chk24 : chkFn Proofs.Try.prog Proofs.Try.f24 ac24 = true := by kernel_rfl
theorem chk25 : chkFn Proofs.Try.prog Proofs.Try.f25 ac25 = true := by kernel_rfl
theorem chk26 : chkFn Proofs.Try.prog Proofs.Try.f26 ac26 = true := by kernel_rfl
theorem chk27 : chkFn Proofs.Try.prog Proofs.Try.f27 ac27 = true := by kernel_rfl
theorem chk28 : chkFn Proofs.Try.prog Proofs.Try.f28 ac28 = true := by kernel_rfl
theorem chk29 : chkFn Proofs.Try.prog Proofs.Try.f29 ac29 = true := by kernel_rfl
theorem chk30 : chkFn Proofs.Try.prog Proofs.Try.f30 ac30 = true := by kernel_rfl
theorem chk31 : chkFn Proofs.Try.prog Proofs.Try.f31 ac31 = true := by kernel_rfl
theorem chk32 : chkFn Proofs.Try.prog Proofs.Try.f32 ac32 = true := by kernel_rfl
theorem chk33 : chkFn Proofs.Try.prog Proofs.Try.f33 ac33 = true := by kernel_rfl
theorem chk34 : chkFn Proofs.Try.prog Proofs.Try.f34 ac34 = true := by kernel_rfl
theorem chk35 : chkFn Proofs.Try.prog Proofs.Try.f35 ac35 = true := by kernel_rfl
theorem chk36 : chkFn Proofs.Try.prog Proofs.Try.f36 ac36 = true := by kernel_rfl
theorem chk38 : chkFn Proofs.Try.prog Proofs.Try.f38 ac38 = true := by kernel_rfl
theorem chk39 : chkFn Proofs.Try.prog Proofs.Try.f39 ac39 = true := by kernel_rfl
noncomputable def tab : List (Nat × AFn) := [(3, ac3), (4, ac4), (5, ac5), (6, ac6), (7, ac7), (8, ac8), (9, ac9), (10, ac10), (11, ac11), (12, ac12), (13, ac13), (14, ac14), (15, ac15), (16, ac16), (17, ac17), (18, ac18), (19, ac19), (20, ac20), (21, ac21), (22, ac22), (23, ac23), (24, ac24), (25, ac25), (26, ac26), (27, ac27), (28, ac28), (29, ac29), (30, ac30), (31, ac31), (32, ac32), (33, ac33), (34, ac34), (35, ac35), (36, ac36), (38, ac38), (39, ac39)]
theorem good : Good Proofs.Try.prog tab := (.cons Proofs.Try.func3 chk3 (.cons Proofs.Try.func4 chk4 (.cons Proofs.Try.func5 chk5 (.cons Proofs.Try.func6 chk6 (.cons Proofs.Try.func7 chk7 (.cons Proofs.Try.func8 chk8 (.cons Proofs.Try.func9 chk9 (.cons Proofs.Try.func10 chk10 (.cons Proofs.Try.func11 chk11 (.cons Proofs.Try.func12 chk12 (.cons Proofs.Try.func13 chk13 (.cons Proofs.Try.func14 chk14 (.cons Proofs.Try.func15 chk15 (.cons Proofs.Try.func16 chk16 (.cons Proofs.Try.func17 chk17 (.cons Proofs.Try.func18 chk18 (.cons Proofs.Try.func19 chk19 (.cons Proofs.Try.func20 chk20 (.cons Proofs.Try.func21 chk21 (.cons Proofs.Try.func22 chk22 (.cons Proofs.Try.func23 chk23 (.cons Proofs.Try.func24 chk24 (.cons Proofs.Try.func25 chk25 (.cons Proofs.Try.func26 chk26 (.cons Proofs.Try.func27 chk27 (.cons Proofs.Try.func28 chk28 (.cons Proofs.Try.func29 chk29 (.cons Proofs.Try.func30 chk30 (.cons Proofs.Try.func31 chk31 (.cons Proofs.Try.func32 chk32 (.cons Proofs.Try.func33 chk33 (.cons Proofs.Try.func34 chk34 (.cons Proofs.Try.func35 chk35 (.cons Proofs.Try.func36 chk36 (.cons Proofs.Try.func38 chk38 (.cons Proofs.Try.func39 chk39 .nil))))))))))))))))))))))))))))))))))))
end Go.Am.C05
