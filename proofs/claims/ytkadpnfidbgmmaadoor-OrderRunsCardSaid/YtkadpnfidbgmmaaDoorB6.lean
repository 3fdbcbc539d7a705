/- The machine and its runs, part 6: Am40. -/
import Derived.Test.YtkadpnfidbgmmaaDoorProg
import Derived.Test.YtkadpnfidbgmmaaDoorB5
set_option linter.unusedVariables false
set_option linter.unusedSimpArgs false
set_option linter.unusedSectionVars false
set_option maxRecDepth 1000000
namespace Go.Am.C40
open Go Go.Am
/-- tegula/tegulalaw40.OrderBefore -/
def ac3 : AFn := ⟨2, [],
 (.seq (.reg [.op (.box (.v 0)),
  .op (.box (.v 2)),
  .op (.mov (.c (.bool false)))])
 (.seq (.seq (.post (.reg [.op (.call 11 []),
  .op (.una .not (.v 0))]) [0] 2)
 (.cond (.v 0) (.seq (.reg [.op (.mov (.c (.bool false)))])
 (.ret [.v 0]))
 .skip))
 (.seq (.seq (.post (.reg [.op (.fld 8 (.v 3)),
  .op (.ld1 (.v 0)),
  .op (.len false (.v 0)),
  .op (.bin .gtr 3 (.v 0) (.c (.int .i64 40))),
  .nop 0,
  .opg (.fld 8 (.v 6)) 0 false,
  .opg (.ld1 (.v 0)) 1 false,
  .opg (.len false (.v 0)) 2 false,
  .opg (.bin .gtr 3 (.v 0) (.c (.int .i64 40))) 3 false,
  .op (.pick (.v 4) (.c (.bool true)) (.v 0)),
  .nop 0,
  .opg (.fld 4 (.v 12)) 0 false,
  .opg (.ld1 (.v 0)) 1 false,
  .opg (.len true (.v 0)) 2 false,
  .opg (.fld 5 (.v 15)) 3 false,
  .opg (.ld1 (.v 0)) 4 false,
  .opg (.len true (.v 0)) 5 false,
  .opg (.bin .add 3 (.v 3) (.v 0)) 6 false,
  .opg (.fld 4 (.v 18)) 7 false,
  .opg (.ld1 (.v 0)) 8 false,
  .opg (.len true (.v 0)) 9 false,
  .opg (.bin .add 3 (.v 3) (.v 0)) 10 false,
  .opg (.fld 5 (.v 22)) 11 false,
  .opg (.ld1 (.v 0)) 12 false,
  .opg (.len true (.v 0)) 13 false,
  .opg (.bin .add 3 (.v 3) (.v 0)) 14 false,
  .opg (.bin .gtr 3 (.v 0) (.c (.int .i64 200))) 15 false,
  .op (.pick (.v 16) (.c (.bool true)) (.v 0))]) [0] 26)
 (.cond (.v 0) (.seq (.reg [.op (.mov (.c (.bool true)))])
 (.ret [.v 0]))
 .skip))
 (.seq (.post (.regD [.op (.ldn 9 (.v 4)),
  .op (.ldn 9 (.v 4)),
  .op (.call 12 [(.v 1), (.v 0)]),
  .op (.ldn 9 (.v 7)),
  .op (.ldn 9 (.v 7)),
  .op (.call 13 [(.v 1), (.v 0)]),
  .op (.bin .eql 4 (.v 3) (.v 0)),
  .nop 0,
  .opg (.ldn 9 (.v 10)) 0 true,
  .opg (.ldn 9 (.v 12)) 1 true,
  .opg (.call 12 [(.v 1), (.v 0)]) 2 true,
  .opg (.ldn 9 (.v 13)) 3 true,
  .opg (.ldn 9 (.v 15)) 4 true,
  .opg (.call 13 [(.v 1), (.v 0)]) 5 true,
  .opg (.bin .eql 4 (.v 3) (.v 0)) 6 true,
  .op (.pick (.v 7) (.v 0) (.c (.bool false))),
  .nop 0] [0, 0, 3, 0, 0, 31, 63, 127, 255, 255, 1023, 255, 255, 8191, 16383, 32767, 65535]) [0] 15)
 (.ret [.v 0])))))⟩


/-- tegula/tegulalaw40.OrderEligible -/
def ac4 : AFn := ⟨2, [],
 (.seq (.reg [.op (.mov (.c (.bool false)))])
 (.seq (.seq (.post (.reg [.op (.call 11 []),
  .op (.una .not (.v 0))]) [0] 2)
 (.cond (.v 0) (.seq (.reg [.op (.mov (.c (.bool false)))])
 (.ret [.v 0]))
 .skip))
 (.seq (.seq (.post (.reg [.nop 2,
  .op (.call 14 [(.v 2)]),
  .op (.una .not (.v 0)),
  .nop 0,
  .opg (.mov (.v 5)) 0 false,
  .opg (.len false (.v 0)) 1 false,
  .opg (.bin .gtr 3 (.v 0) (.c (.int .i64 20))) 2 false,
  .op (.pick (.v 3) (.c (.bool true)) (.v 0))]) [0] 6)
 (.cond (.v 0) (.seq (.reg [.op (.mov (.c (.bool true)))])
 (.ret [.v 0]))
 .skip))
 (.seq (.post (.reg [.nop 3,
  .nop 4,
  .op (.call 16 [(.v 3), (.v 4)]),
  .nop 4,
  .nop 5,
  .op (.call 17 [(.v 4), (.v 5)]),
  .op (.call 15 [(.v 1), (.v 0)]),
  .nop 0]) [0] 3)
 (.ret [.v 0])))))⟩


/-- tegula/tegulalaw40.OrderRespects -/
def ac5 : AFn := ⟨2, [],
 (.seq (.reg [.op (.mov (.c (.bool false)))])
 (.seq (.seq (.post (.reg [.op (.call 11 []),
  .op (.una .not (.v 0))]) [0] 2)
 (.cond (.v 0) (.seq (.reg [.op (.mov (.c (.bool false)))])
 (.ret [.v 0]))
 .skip))
 (.seq (.seq (.post (.reg [.nop 2,
  .op (.call 14 [(.v 2)]),
  .op (.una .not (.v 0)),
  .nop 0,
  .opg (.mov (.v 5)) 0 false,
  .opg (.len false (.v 0)) 1 false,
  .opg (.bin .gtr 3 (.v 0) (.c (.int .i64 20))) 2 false,
  .op (.pick (.v 3) (.c (.bool true)) (.v 0))]) [0] 6)
 (.cond (.v 0) (.seq (.reg [.op (.mov (.c (.bool true)))])
 (.ret [.v 0]))
 .skip))
 (.seq (.post (.reg [.nop 3,
  .nop 4,
  .op (.call 18 [(.v 3), (.v 4)]),
  .nop 4,
  .nop 5,
  .op (.call 19 [(.v 4), (.v 5)]),
  .op (.bin .eql 4 (.v 1) (.v 0)),
  .nop 0]) [0] 3)
 (.ret [.v 0])))))⟩


/-- tegula/tegulalaw40.OrderLevels -/
def ac6 : AFn := ⟨1, [],
 (.seq (.reg [.op (.mov (.c (.bool false)))])
 (.seq (.seq (.post (.reg [.op (.call 11 []),
  .op (.una .not (.v 0))]) [0] 2)
 (.cond (.v 0) (.seq (.reg [.op (.mov (.c (.bool false)))])
 (.ret [.v 0]))
 .skip))
 (.seq (.seq (.post (.reg [.nop 2,
  .op (.call 14 [(.v 2)]),
  .op (.una .not (.v 0))]) [0] 2)
 (.cond (.v 0) (.seq (.reg [.op (.mov (.c (.bool true)))])
 (.ret [.v 0]))
 .skip))
 (.seq (.post (.reg [.nop 3,
  .op (.call 20 [(.v 3)]),
  .nop 4,
  .op (.call 21 [(.v 4)]),
  .op (.call 15 [(.v 1), (.v 0)]),
  .nop 0]) [0] 3)
 (.ret [.v 0])))))⟩


def ac7L0b : AC :=
 (.post (.seq (.seq (.reg [.nop 2,
  .nop 9,
  .op (.len false (.v 9)),
  .op (.bin .lss 3 (.v 3) (.v 0))])
 (.cond (.v 0) .skip
 (.pre [2, 3] 5 (.exit 0))))
 (.seq (.block 1 [[4], [6], [21], [20], [], [], [7, 18], [], [], [17, 5], [14], [11], [], [0, 12, 15, 19], [1]] (.post (.seq (.reg [.nop 11,
  .nop 7,
  .op (.call 16 [(.v 11), (.v 7)]),
  .nop 0])
 (.seq (.seq (.reg [.nop 0,
  .op (.len false (.v 0)),
  .op (.bin .eql 3 (.v 0) (.c (.int .i64 0)))])
 (.cond (.v 0) (.seq (.reg [.op (.mov (.c (.bool false)))])
 (.ret [.v 0]))
 .skip))
 (.seq (.reg [.nop 2,
  .op (.idx 1 (.v 2) (.c (.int .i64 0))),
  .op (.ld1 (.v 0)),
  .nop 0])
 (.seq (.seq (.reg [.nop 9,
  .nop 17,
  .op (.len false (.v 17)),
  .op (.bin .lss 3 (.v 10) (.v 0))])
 (.cond (.v 0) (.post (.reg [.nop 6,
  .nop 19,
  .nop 11,
  .op (.idx 1 (.v 19) (.v 11)),
  .op (.ld1 (.v 0)),
  .op (.conv .i64 (.v 0)),
  .nop 9,
  .op (.len false (.v 9)),
  .op (.bin .rem 3 (.v 1) (.v 0)),
  .op (.idx 1 (.v 11) (.v 0)),
  .op (.ld1 (.v 0)),
  .nop 0]) [0] 7)
 (.post .skip [2] 0)))
 (.seq (.seq (.reg [.nop 0,
  .op (.bin .lss 3 (.v 0) (.c (.int .i64 0))),
  .nop 0,
  .opg (.mov (.v 1)) 0 false,
  .opg (.mov (.v 21)) 1 false,
  .opg (.len false (.v 0)) 2 false,
  .opg (.bin .geq 3 (.v 2) (.v 0)) 3 false,
  .op (.pick (.v 4) (.c (.bool true)) (.v 0)),
  .nop 0,
  .opg (.mov (.v 21)) 0 false,
  .opg (.mov (.v 7)) 1 false,
  .opg (.idx 1 (.v 1) (.v 0)) 2 false,
  .opg (.ld1 (.v 0)) 3 false,
  .op (.pick (.v 4) (.c (.bool true)) (.v 0))])
 (.cond (.v 0) (.seq (.reg [.op (.mov (.c (.bool false)))])
 (.ret [.v 0]))
 .skip))
 (.seq (.reg [.nop 26,
  .nop 11,
  .op (.idx 1 (.v 26) (.v 11)),
  .eff (.st 1 (.v 0) (.c (.bool true)))])
 (.reg [.nop 23,
  .nop 12,
  .op (.mkl 1 1 [(.int .i64 0)] [(0, (.v 12))]),
  .op (.app 1 8 (.v 24) (.v 0)),
  .nop 0]))))))) [24, 0] 22))
 (.reg [.nop 6,
  .op (.bin .add 3 (.v 6) (.c (.int .i64 1))),
  .nop 0]))) [1, 2, 0] 8)
def ac7L0 : AC := .loop [[4], [6], [7], [], [], [17, 5], [14], [11], [], [0, 12, 15], [1]] ac7L0b
/-- tegula/tegulalaw40.OrderRuns -/
def ac7 : AFn := ⟨2, [],
 (.seq (.reg [.op (.mov (.c (.bool false)))])
 (.seq (.seq (.post (.reg [.op (.call 11 []),
  .op (.una .not (.v 0))]) [0] 2)
 (.cond (.v 0) (.seq (.reg [.op (.mov (.c (.bool false)))])
 (.ret [.v 0]))
 .skip))
 (.seq (.seq (.post (.reg [.nop 2,
  .op (.call 14 [(.v 2)]),
  .op (.una .not (.v 0))]) [0] 2)
 (.cond (.v 0) (.seq (.reg [.op (.mov (.c (.bool true)))])
 (.ret [.v 0]))
 .skip))
 (.seq (.post (.reg [.nop 3,
  .op (.len false (.v 3)),
  .op (.make 1 1 [(.bool false)] (.v 0) (.v 0)),
  .nop 0]) [0] 2)
 (.seq (.reg [.op (.mov (.c (.slice none 0 0)))])
 (.seq (.seq (.reg [.op (.mov (.c (.int .i64 0)))])
 (.block 0 [[4], [6], [], [], [17, 5], [14], [11], [], [0, 12, 15], [1]] (.pre [5, 1, 0] 0 ac7L0)))
 (.seq (.post (.reg [.nop 8,
  .nop 1,
  .op (.call 18 [(.v 8), (.v 1)]),
  .nop 0,
  .opg (.mov (.v 9)) 0 true,
  .opg (.mov (.v 3)) 1 true,
  .opg (.call 19 [(.v 1), (.v 0)]) 2 true,
  .op (.pick (.v 3) (.v 0) (.c (.bool false))),
  .nop 0,
  .opg (.mov (.v 13)) 0 true,
  .opg (.mov (.v 10)) 1 true,
  .opg (.call 16 [(.v 1), (.v 0)]) 2 true,
  .opg (.len false (.v 0)) 3 true,
  .opg (.bin .eql 3 (.v 0) (.c (.int .i64 0))) 4 true,
  .op (.pick (.v 5) (.v 0) (.c (.bool false))),
  .nop 0]) [0] 11)
 (.ret [.v 0]))))))))⟩


def ac8L0b : AC :=
 (.post (.seq (.seq (.reg [.nop 1,
  .nop 4,
  .op (.len false (.v 4)),
  .op (.bin .lss 3 (.v 2) (.v 0))])
 (.cond (.v 0) .skip
 (.pre [2, 3] 4 (.exit 2))))
 (.seq (.block 3 [[9], [65], [64], [], [10, 62], [], [], [61, 8, 63], [54], [53], [52], [51], [50], [49], [48], [47], [45, 46], [44], [43], [42], [41], [40], [39], [38], [36, 37], [35], [34], [29], [28], [4], [6], [7, 26, 33], [], [], [25, 5, 60], [22], [12], [], [0, 13, 23, 59], [1, 27, 32]] (.post (.regD [.nop 2,
  .nop 2,
  .opg (.mov (.v 6)) 2 false,
  .opg (.mov (.v 4)) 3 false,
  .opg (.idx 1 (.v 1) (.v 0)) 4 false,
  .opg (.ld1 (.v 0)) 5 false,
  .opg (.mov (.v 42)) 6 false,
  .opg (.mov (.v 35)) 7 false,
  .opg (.idx 1 (.v 1) (.v 0)) 8 false,
  .opg (.ld1 (.v 0)) 9 false,
  .opg (.bin .eql 3 (.v 4) (.v 0)) 10 false,
  .op (.pick (.v 11) (.c (.bool true)) (.v 0)),
  .nop 0] [0, 1, 3, 3, 15, 31, 3, 3, 195, 451, 1023, 2047, 4095]) [0] 10))
 (.reg [.nop 4,
  .op (.bin .add 3 (.v 4) (.c (.int .i64 1))),
  .nop 0]))) [1, 0] 6)
def ac8L0 : AC := .loop [[9], [10], [], [], [61, 8], [54], [53], [52], [51], [50], [49], [48], [47], [45, 46], [44], [43], [42], [41], [40], [39], [38], [36, 37], [35], [34], [29], [28], [4], [6], [7, 26, 33], [], [], [25, 5, 60], [22], [12], [], [0, 13, 23, 59], [1, 27, 32]] ac8L0b
def ac8L1b : AC :=
 (.post (.seq (.seq (.reg [.nop 2,
  .nop 10,
  .op (.len false (.v 10)),
  .op (.bin .lss 3 (.v 3) (.v 0))])
 (.cond (.v 0) .skip
 (.pre [2, 3] 5 (.exit 0))))
 (.seq (.block 1 [[4], [6], [29], [28], [], [], [7, 26], [], [], [25, 5], [22], [12], [], [0, 13, 23], [1, 27]] (.post (.seq (.seq (.reg [.nop 12,
  .nop 4,
  .op (.idx 1 (.v 12) (.v 4)),
  .op (.ld1 (.v 0)),
  .op (.bin .lss 3 (.v 0) (.c (.int .i64 0))),
  .nop 0,
  .opg (.mov (.v 15)) 0 false,
  .opg (.mov (.v 8)) 1 false,
  .opg (.idx 1 (.v 1) (.v 0)) 2 false,
  .opg (.ld1 (.v 0)) 3 false,
  .opg (.mov (.v 18)) 4 false,
  .opg (.len false (.v 0)) 5 false,
  .opg (.bin .geq 3 (.v 2) (.v 0)) 6 false,
  .op (.pick (.v 7) (.c (.bool true)) (.v 0)),
  .nop 0,
  .opg (.mov (.v 18)) 0 false,
  .opg (.mov (.v 24)) 1 false,
  .opg (.mov (.v 17)) 2 false,
  .opg (.idx 1 (.v 1) (.v 0)) 3 false,
  .opg (.ld1 (.v 0)) 4 false,
  .opg (.idx 1 (.v 4) (.v 0)) 5 false,
  .opg (.ld1 (.v 0)) 6 false,
  .op (.pick (.v 7) (.c (.bool true)) (.v 0))])
 (.cond (.v 0) (.seq (.reg [.nop 30,
  .nop 31,
  .op (.call 18 [(.v 30), (.v 31)]),
  .op (.una .not (.v 0)),
  .nop 0])
 (.ret [.v 0]))
 .skip))
 (.seq (.reg [.nop 30,
  .nop 26,
  .op (.call 16 [(.v 30), (.v 26)]),
  .nop 0])
 (.seq (.reg [.op (.mov (.c (.bool false)))])
 (.seq (.seq (.reg [.op (.mov (.c (.int .i64 0)))])
 (.block 2 [[9], [10], [], [], [61, 8], [54], [53], [52], [51], [50], [49], [48], [47], [45, 46], [44], [43], [42], [41], [40], [39], [38], [36, 37], [35], [34], [29], [28], [4], [6], [7, 26, 33], [], [], [25, 5, 60], [22], [12], [], [0, 13, 23, 59], [1, 27, 32]] (.pre [1, 0] 0 ac8L0)))
 (.seq (.reg [.nop 27,
  .nop 27,
  .opg (.mov (.v 0)) 27 true,
  .op (.pick (.v 28) (.v 0) (.c (.bool false))),
  .nop 0])
 (.reg [.nop 33,
  .nop 38,
  .nop 30,
  .op (.idx 1 (.v 38) (.v 30)),
  .op (.ld1 (.v 0)),
  .op (.idx 1 (.v 35) (.v 0)),
  .eff (.st 1 (.v 0) (.c (.bool true)))])))))) [31, 3] 29))
 (.reg [.nop 6,
  .op (.bin .add 3 (.v 6) (.c (.int .i64 1))),
  .nop 0]))) [1, 2, 0] 8)
def ac8L1 : AC := .loop [[4], [6], [7], [], [], [25, 5], [22], [12], [], [0, 13, 23], [1]] ac8L1b
/-- tegula/tegulalaw40.OrderArises -/
def ac8 : AFn := ⟨2, [],
 (.seq (.reg [.op (.mov (.c (.bool false)))])
 (.seq (.seq (.post (.reg [.op (.call 11 []),
  .op (.una .not (.v 0))]) [0] 2)
 (.cond (.v 0) (.seq (.reg [.op (.mov (.c (.bool false)))])
 (.ret [.v 0]))
 .skip))
 (.seq (.seq (.post (.reg [.nop 2,
  .op (.call 14 [(.v 2)]),
  .op (.una .not (.v 0)),
  .nop 0,
  .opg (.mov (.v 5)) 0 false,
  .opg (.len false (.v 0)) 1 false,
  .opg (.mov (.v 6)) 2 false,
  .opg (.len false (.v 0)) 3 false,
  .opg (.bin .neq 3 (.v 2) (.v 0)) 4 false,
  .op (.pick (.v 5) (.c (.bool true)) (.v 0))]) [0] 8)
 (.cond (.v 0) (.seq (.reg [.op (.mov (.c (.bool true)))])
 (.ret [.v 0]))
 .skip))
 (.seq (.post (.reg [.nop 3,
  .op (.len false (.v 3)),
  .op (.make 1 1 [(.bool false)] (.v 0) (.v 0)),
  .nop 0]) [0] 2)
 (.seq (.reg [.op (.mov (.c (.bool true)))])
 (.seq (.seq (.reg [.op (.mov (.c (.int .i64 0)))])
 (.block 0 [[4], [6], [], [], [25, 5], [22], [12], [], [0, 13, 23], [1]] (.pre [5, 1, 0] 0 ac8L1)))
 (.seq (.post (.reg [.nop 1,
  .nop 8,
  .nop 9,
  .op (.call 18 [(.v 8), (.v 9)]),
  .op (.bin .eql 4 (.v 2) (.v 0)),
  .nop 0]) [0] 2)
 (.ret [.v 0]))))))))⟩


def ac9L0b : AC :=
 (.post (.seq (.seq (.reg [.nop 1,
  .nop 7,
  .op (.len false (.v 7)),
  .op (.bin .lss 3 (.v 2) (.v 0))])
 (.cond (.v 0) .skip
 (.pre [2] 4 (.exit 0))))
 (.seq (.block 1 [[4], [20], [19], [], [6, 17], [], [16, 5], [13], [10], [], [0, 11, 14, 18], [1]] (.post (.seq (.reg [.nop 9,
  .nop 5,
  .op (.call 16 [(.v 9), (.v 5)]),
  .nop 0])
 (.seq (.seq (.reg [.nop 0,
  .op (.len false (.v 0)),
  .op (.bin .eql 3 (.v 0) (.c (.int .i64 0)))])
 (.cond (.v 0) (.seq (.reg [.op (.mov (.c (.bool false)))])
 (.ret [.v 0]))
 .skip))
 (.seq (.reg [.nop 2,
  .nop 2,
  .op (.len false (.v 2)),
  .op (.bin .sub 3 (.v 0) (.c (.int .i64 1))),
  .op (.idx 1 (.v 4) (.v 0)),
  .op (.ld1 (.v 0)),
  .nop 0])
 (.seq (.seq (.reg [.nop 10,
  .nop 17,
  .op (.len false (.v 17)),
  .op (.bin .lss 3 (.v 11) (.v 0))])
 (.cond (.v 0) (.post (.reg [.nop 8,
  .nop 19,
  .nop 12,
  .op (.idx 1 (.v 19) (.v 12)),
  .op (.ld1 (.v 0)),
  .op (.conv .i64 (.v 0)),
  .nop 11,
  .op (.len false (.v 11)),
  .op (.bin .rem 3 (.v 1) (.v 0)),
  .op (.idx 1 (.v 13) (.v 0)),
  .op (.ld1 (.v 0)),
  .nop 0]) [0] 7)
 (.post .skip [2] 0)))
 (.seq (.seq (.regD [.nop 0,
  .op (.bin .lss 3 (.v 0) (.c (.int .i64 0))),
  .nop 0,
  .opg (.mov (.v 1)) 0 false,
  .opg (.mov (.v 21)) 1 false,
  .opg (.len false (.v 0)) 2 false,
  .opg (.bin .geq 3 (.v 2) (.v 0)) 3 false,
  .op (.pick (.v 4) (.c (.bool true)) (.v 0)),
  .nop 0,
  .opg (.mov (.v 25)) 0 false,
  .opg (.mov (.v 7)) 1 false,
  .opg (.idx 9 (.v 1) (.v 0)) 2 false,
  .opg (.ldn 9 (.v 0)) 3 false,
  .opg (.call 22 [(.v 0)]) 4 false,
  .opg (.mov (.v 30)) 5 false,
  .opg (.mov (.v 25)) 6 false,
  .opg (.idx 9 (.v 1) (.v 0)) 7 false,
  .opg (.ldn 9 (.v 0)) 8 false,
  .opg (.call 22 [(.v 0)]) 9 false,
  .opg (.bin .neq 4 (.v 5) (.v 0)) 10 false,
  .op (.pick (.v 11) (.c (.bool true)) (.v 0)),
  .nop 0,
  .opg (.mov (.v 37)) 0 false,
  .opg (.mov (.v 32)) 1 false,
  .opg (.idx 9 (.v 1) (.v 0)) 2 false,
  .opg (.ldn 9 (.v 0)) 3 false,
  .opg (.call 22 [(.v 0)]) 4 false,
  .opg (.mov (.v 0)) 5 false,
  .opg (.mov (.v 24)) 0 true,
  .opg (.mov (.v 38)) 1 true,
  .opg (.bin .neq 3 (.v 1) (.v 0)) 2 true,
  .opg (.pick (.v 3) (.v 0) (.c (.bool false))) 9 false,
  .op (.pick (.v 10) (.c (.bool true)) (.v 0))] [0, 1, 3, 7, 7, 23, 63, 127, 255, 511, 511, 2047, 4095, 8191, 511, 511, 49663, 115199, 262143, 524287, 1048575, 2097151, 4194303, 4194303, 16777215, 33554431, 67108863, 134217727, 268435455, 268435455, 1073741823, 2147483647, 4294967295])
 (.cond (.v 0) (.seq (.reg [.op (.mov (.c (.bool false)))])
 (.ret [.v 0]))
 .skip))
 (.reg [.nop 44,
  .nop 29,
  .op (.idx 1 (.v 44) (.v 29)),
  .eff (.st 1 (.v 0) (.c (.bool true)))])))))) [42] 40))
 (.reg [.nop 4,
  .op (.bin .add 3 (.v 4) (.c (.int .i64 1))),
  .nop 0]))) [1, 0] 6)
def ac9L0 : AC := .loop [[4], [6], [], [16, 5], [13], [10], [], [0, 11, 14], [1]] ac9L0b
/-- tegula/tegulalaw40.OrderFences -/
def ac9 : AFn := ⟨2, [],
 (.seq (.reg [.op (.mov (.c (.bool false)))])
 (.seq (.seq (.post (.reg [.op (.call 11 []),
  .op (.una .not (.v 0))]) [0] 2)
 (.cond (.v 0) (.seq (.reg [.op (.mov (.c (.bool false)))])
 (.ret [.v 0]))
 .skip))
 (.seq (.seq (.post (.reg [.nop 2,
  .op (.call 14 [(.v 2)]),
  .op (.una .not (.v 0))]) [0] 2)
 (.cond (.v 0) (.seq (.reg [.op (.mov (.c (.bool true)))])
 (.ret [.v 0]))
 .skip))
 (.seq (.post (.reg [.nop 3,
  .op (.len false (.v 3)),
  .op (.make 1 1 [(.bool false)] (.v 0) (.v 0)),
  .nop 0]) [0] 2)
 (.seq (.seq (.reg [.op (.mov (.c (.int .i64 0)))])
 (.block 0 [[4], [], [16, 5], [13], [10], [], [0, 11, 14], [1]] (.pre [4, 0] 0 ac9L0)))
 (.seq (.reg [.op (.mov (.c (.bool true)))])
 (.ret [.v 0])))))))⟩


def ac10L0b : AC :=
 (.post (.seq (.seq (.reg [.nop 1,
  .op (.bin .geq 3 (.v 1) (.c (.int .i64 0)))])
 (.cond (.v 0) .skip
 (.pre [1, 2] 3 (.exit 2))))
 (.seq (.block 3 [[4], [29], [], [6, 28], [27], [26], [22], [21], [], [5, 19], [], [], [18], [13, 3, 14], [11], [8], [2], [0, 9, 12, 16, 20, 25]] (.post (.seq (.reg [.nop 12,
  .nop 2,
  .op (.idx 1 (.v 12) (.v 2)),
  .op (.ld1 (.v 0)),
  .nop 10,
  .op (.bin .eql 3 (.v 0) (.v 10))])
 (.cond (.v 0) (.post (.reg [.nop 4,
  .nop 5,
  .op (.mkl 1 1 [(.int .i64 0)] [(0, (.v 5))]),
  .op (.app 1 8 (.v 5) (.v 0)),
  .nop 0]) [0] 2)
 (.post .skip [4] 0))) [0] 4))
 (.reg [.nop 3,
  .op (.bin .sub 3 (.v 3) (.c (.int .i64 1))),
  .nop 0]))) [1, 0] 5)
def ac10L0 : AC := .loop [[4], [6], [27], [26], [22], [21], [], [5, 19], [], [], [18], [13, 3, 14], [11], [8], [2], [0, 9, 12, 16, 20, 25]] ac10L0b
def ac10L1b : AC :=
 (.post (.seq (.seq (.reg [.nop 1,
  .nop 9,
  .op (.len false (.v 9)),
  .op (.bin .lss 3 (.v 2) (.v 0))])
 (.cond (.v 0) .skip
 (.pre [2] 4 (.exit 0))))
 (.seq (.block 1 [[4], [22], [21], [], [5, 19], [], [], [18], [13, 3, 14], [11], [8], [2], [0, 9, 12, 16, 20]] (.post (.seq (.reg [.nop 11,
  .op (.len false (.v 11)),
  .op (.bin .sub 3 (.v 0) (.c (.int .i64 1))),
  .nop 0])
 (.block 2 [[4], [6], [27], [26], [22], [21], [], [5, 19], [], [], [18], [13, 3, 14], [11], [8], [2], [0, 9, 12, 16, 20, 25]] (.pre [4, 0] 0 ac10L0))) [0] 4))
 (.reg [.nop 4,
  .op (.bin .add 3 (.v 4) (.c (.int .i64 1))),
  .nop 0]))) [1, 0] 6)
def ac10L1 : AC := .loop [[4], [5], [], [], [18], [13, 3, 14], [11], [8], [2], [0, 9, 12, 16]] ac10L1b
/-- tegula/tegulalaw40.OrderByLevels -/
def ac10 : AFn := ⟨1, [],
 (.seq (.reg [.op (.mov (.c (.bool false)))])
 (.seq (.seq (.post (.reg [.op (.call 11 []),
  .op (.una .not (.v 0))]) [0] 2)
 (.cond (.v 0) (.seq (.reg [.op (.mov (.c (.bool false)))])
 (.ret [.v 0]))
 .skip))
 (.seq (.seq (.post (.reg [.nop 2,
  .op (.call 14 [(.v 2)]),
  .op (.una .not (.v 0))]) [0] 2)
 (.cond (.v 0) (.seq (.reg [.op (.mov (.c (.bool true)))])
 (.ret [.v 0]))
 .skip))
 (.seq (.reg [.nop 3,
  .op (.call 20 [(.v 3)]),
  .nop 0])
 (.seq (.seq (.post (.reg [.nop 0,
  .op (.len false (.v 0)),
  .nop 5,
  .op (.len false (.v 5)),
  .op (.bin .neq 3 (.v 1) (.v 0))]) [0] 3)
 (.cond (.v 0) (.seq (.reg [.op (.mov (.c (.bool false)))])
 (.ret [.v 0]))
 .skip))
 (.seq (.reg [.op (.mov (.c (.slice none 0 0)))])
 (.seq (.seq (.reg [.op (.mov (.c (.int .i64 0)))])
 (.block 0 [[4], [], [], [18], [13, 3, 14], [11], [8], [2], [0, 9, 12, 16]] (.pre [1, 0] 0 ac10L1)))
 (.seq (.reg [.nop 8,
  .nop 0,
  .op (.call 18 [(.v 8), (.v 0)]),
  .nop 0])
 (.ret [.v 0])))))))))⟩


/-- tegula/tegulalaw40.awake -/
def ac11 : AFn := ⟨0, [],
 (.seq (.reg [.op (.mov (.c (.bool false)))])
 (.seq (.reg [.op (.call 23 []),
  .nop 0])
 (.seq (.post (.regD [.nop 0,
  .op (.idx 9 (.v 0) (.c (.int .i64 0))),
  .op (.ldn 9 (.v 0)),
  .nop 2,
  .op (.idx 9 (.v 2) (.c (.int .i64 1))),
  .op (.ldn 9 (.v 0)),
  .op (.call 12 [(.v 2), (.v 0)]),
  .nop 0,
  .opg (.mov (.v 5)) 0 true,
  .opg (.idx 9 (.v 0) (.c (.int .i64 0))) 1 true,
  .opg (.ldn 9 (.v 0)) 2 true,
  .opg (.mov (.v 8)) 3 true,
  .opg (.idx 9 (.v 0) (.c (.int .i64 2))) 4 true,
  .opg (.ldn 9 (.v 0)) 5 true,
  .opg (.call 12 [(.v 3), (.v 0)]) 6 true,
  .opg (.una .not (.v 0)) 7 true,
  .op (.pick (.v 8) (.v 0) (.c (.bool false))),
  .nop 0,
  .opg (.mov (.v 14)) 0 true,
  .opg (.call 20 [(.v 0)]) 1 true,
  .opg (.mkl 1 4 [(.int .i64 0)] [(0, (.c (.int .i64 0))), (1, (.c (.int .i64 1))), (2, (.c (.int .i64 0))), (3, (.c (.int .i64 2)))]) 2 true,
  .opg (.call 15 [(.v 1), (.v 0)]) 3 true,
  .op (.pick (.v 4) (.v 0) (.c (.bool false))),
  .nop 0,
  .opg (.mov (.v 19)) 0 true,
  .opg (.call 16 [(.v 0), (.c (.slice none 0 0))]) 1 true,
  .opg (.mkl 1 2 [(.int .i64 0)] [(0, (.c (.int .i64 0))), (1, (.c (.int .i64 2)))]) 2 true,
  .opg (.call 15 [(.v 1), (.v 0)]) 3 true,
  .op (.pick (.v 4) (.v 0) (.c (.bool false))),
  .nop 0,
  .opg (.mov (.v 24)) 0 true,
  .opg (.mkl 1 4 [(.int .i64 0)] [(0, (.c (.int .i64 2))), (1, (.c (.int .i64 0))), (2, (.c (.int .i64 1))), (3, (.c (.int .i64 3)))]) 1 true,
  .opg (.call 18 [(.v 1), (.v 0)]) 2 true,
  .op (.pick (.v 3) (.v 0) (.c (.bool false))),
  .nop 0,
  .opg (.mov (.v 28)) 0 true,
  .opg (.mkl 1 4 [(.int .i64 0)] [(0, (.c (.int .i64 1))), (1, (.c (.int .i64 0))), (2, (.c (.int .i64 2))), (3, (.c (.int .i64 3)))]) 1 true,
  .opg (.call 18 [(.v 1), (.v 0)]) 2 true,
  .opg (.una .not (.v 0)) 3 true,
  .op (.pick (.v 4) (.v 0) (.c (.bool false))),
  .nop 0] [0, 1, 3, 0, 8, 24, 63, 127, 255, 511, 1023, 255, 2303, 6399, 16383, 32767, 65535, 131071, 262143, 524287, 262143, 2097151, 4194303, 8388607, 16777215, 33554431, 16777215, 134217727, 268435455, 536870911, 1073741823, 1073741823, 4294967295, 8589934591, 17179869183, 34359738367, 34359738367, 137438953471, 274877906943, 549755813887, 1099511627775]) [0] 33)
 (.ret [.v 0]))))⟩


/-- tegula/order.Before -/
def ac12 : AFn := ⟨2, [],
 (.seq (.reg [.op (.box (.v 0)),
  .op (.box (.v 2)),
  .op (.mov (.c (.bool false)))])
 (.seq (.post (.reg [.op (.ldn 9 (.v 2)),
  .op (.call 24 [(.v 0)]),
  .nop 0,
  .opg (.ldn 9 (.v 3)) 0 false,
  .opg (.call 24 [(.v 0)]) 1 false,
  .op (.pick (.v 2) (.c (.bool true)) (.v 0)),
  .nop 0,
  .opg (.ldn 9 (.v 7)) 0 false,
  .opg (.ldn 9 (.v 7)) 1 false,
  .opg (.call 25 [(.v 1), (.v 0)]) 2 false,
  .op (.pick (.v 3) (.c (.bool true)) (.v 0)),
  .nop 0]) [0] 9)
 (.ret [.v 0])))⟩


/-- tegula/tegularef40.Before -/
def ac13 : AFn := ⟨2, [],
 (.seq (.reg [.op (.box (.v 0)),
  .op (.box (.v 2)),
  .op (.mov (.c (.bool false)))])
 (.seq (.post (.reg [.op (.ldn 9 (.v 2)),
  .op (.call 22 [(.v 0)]),
  .nop 0,
  .opg (.ldn 9 (.v 3)) 0 false,
  .opg (.call 22 [(.v 0)]) 1 false,
  .op (.pick (.v 2) (.c (.bool true)) (.v 0)),
  .nop 0,
  .opg (.ldn 9 (.v 7)) 0 false,
  .opg (.ldn 9 (.v 7)) 1 false,
  .opg (.call 26 [(.v 1), (.v 0)]) 2 false,
  .op (.pick (.v 3) (.c (.bool true)) (.v 0)),
  .nop 0]) [0] 9)
 (.ret [.v 0])))⟩


def ac14L0b : AC :=
 (.post (.seq (.seq (.reg [.nop 1,
  .nop 4,
  .op (.len false (.v 4)),
  .op (.bin .lss 3 (.v 2) (.v 0))])
 (.cond (.v 0) .skip
 (.pre [2] 4 (.exit 0))))
 (.seq (.block 1 [[2], [7], [6], [], [3, 4], [], [], [0, 5]] (.post (.seq (.regD [.nop 6,
  .nop 3,
  .op (.idx 9 (.v 6) (.v 3)),
  .op (.fld 8 (.v 0)),
  .op (.ld1 (.v 0)),
  .op (.len false (.v 0)),
  .op (.bin .gtr 3 (.v 0) (.c (.int .i64 40))),
  .nop 0,
  .opg (.mov (.v 11)) 0 false,
  .opg (.mov (.v 9)) 1 false,
  .opg (.idx 9 (.v 1) (.v 0)) 2 false,
  .opg (.fld 4 (.v 0)) 3 false,
  .opg (.ld1 (.v 0)) 4 false,
  .opg (.len true (.v 0)) 5 false,
  .opg (.mov (.v 17)) 6 false,
  .opg (.mov (.v 15)) 7 false,
  .opg (.idx 9 (.v 1) (.v 0)) 8 false,
  .opg (.fld 5 (.v 0)) 9 false,
  .opg (.ld1 (.v 0)) 10 false,
  .opg (.len true (.v 0)) 11 false,
  .opg (.bin .add 3 (.v 6) (.v 0)) 12 false,
  .opg (.bin .gtr 3 (.v 0) (.c (.int .i64 100))) 13 false,
  .op (.pick (.v 14) (.c (.bool true)) (.v 0))] [0, 0, 3, 7, 15, 31, 63, 127, 255, 255, 1023, 2047, 4095, 8191, 255, 255, 49407, 114943, 246015, 508159, 1048575, 2097151, 4194303])
 (.cond (.v 0) (.seq (.reg [.op (.mov (.c (.bool false)))])
 (.ret [.v 0]))
 .skip)) [22] 20))
 (.reg [.nop 4,
  .op (.bin .add 3 (.v 4) (.c (.int .i64 1))),
  .nop 0]))) [1, 0] 6)
def ac14L0 : AC := .loop [[2], [3], [], [], [0]] ac14L0b
/-- tegula/tegulalaw40.few -/
def ac14 : AFn := ⟨1, [],
 (.seq (.reg [.op (.mov (.c (.bool false)))])
 (.seq (.seq (.reg [.op (.mov (.c (.int .i64 0)))])
 (.block 0 [[2], [], [], [0]] (.pre [1, 0] 0 ac14L0)))
 (.seq (.post (.reg [.nop 3,
  .op (.len false (.v 3)),
  .op (.bin .leq 3 (.v 0) (.c (.int .i64 14))),
  .nop 0]) [0] 2)
 (.ret [.v 0]))))⟩


def ac15L0b : AC :=
 (.post (.seq (.seq (.reg [.nop 1,
  .nop 5,
  .op (.len false (.v 5)),
  .op (.bin .lss 3 (.v 2) (.v 0))])
 (.cond (.v 0) .skip
 (.pre [2] 4 (.exit 0))))
 (.seq (.block 1 [[4], [14], [13], [], [5, 11], [], [10], [], [0, 6, 12], [1, 8]] (.post (.seq (.regD [.nop 7,
  .nop 3,
  .op (.idx 1 (.v 7) (.v 3)),
  .op (.ld1 (.v 0)),
  .nop 10,
  .nop 5,
  .op (.idx 1 (.v 10) (.v 5)),
  .op (.ld1 (.v 0)),
  .op (.bin .neq 3 (.v 2) (.v 0))] [0, 0, 3, 7, 0, 0, 48, 112, 255])
 (.cond (.v 0) (.seq (.reg [.op (.mov (.c (.bool false)))])
 (.ret [.v 0]))
 .skip)) [7] 5))
 (.reg [.nop 4,
  .op (.bin .add 3 (.v 4) (.c (.int .i64 1))),
  .nop 0]))) [1, 0] 6)
def ac15L0 : AC := .loop [[4], [5], [], [10], [], [0, 6], [1, 8]] ac15L0b
/-- tegula/tegularef40.Same -/
def ac15 : AFn := ⟨2, [],
 (.seq (.reg [.op (.mov (.c (.bool false)))])
 (.seq (.seq (.post (.reg [.nop 1,
  .op (.len false (.v 1)),
  .nop 3,
  .op (.len false (.v 3)),
  .op (.bin .neq 3 (.v 1) (.v 0))]) [0] 3)
 (.cond (.v 0) (.seq (.reg [.op (.mov (.c (.bool false)))])
 (.ret [.v 0]))
 .skip))
 (.seq (.seq (.reg [.op (.mov (.c (.int .i64 0)))])
 (.block 0 [[4], [], [10], [], [0, 6], [1, 8]] (.pre [2, 0] 0 ac15L0)))
 (.seq (.reg [.op (.mov (.c (.bool true)))])
 (.ret [.v 0])))))⟩


def ac16L0b : AC :=
 (.post (.seq (.reg [.op (.bin .lss 3 (.v 0) (.v 5))])
 (.seq (.cond (.v 0) .skip
 (.pre [1] 2 (.exit 2)))
 (.seq (.block 3 [[20], [19], [], [17], [13], [6], [12, 14, 7, 16, 18], [], [11], [], [9, 5, 15], [4], [3], [0, 10], [1]] (.post (.seq (.reg [.nop 1,
  .nop 1])
 (.seq (.regD [.nop 10,
  .nop 1,
  .op (.callv (.v 10) [(.v 1)]),
  .op (.una .not (.v 0)),
  .nop 0,
  .opg (.mov (.v 15)) 0 true,
  .opg (.mov (.v 4)) 1 true,
  .opg (.idx 9 (.v 1) (.v 0)) 2 true,
  .opg (.ldn 9 (.v 0)) 3 true,
  .opg (.mov (.v 19)) 4 true,
  .opg (.mov (.v 13)) 5 true,
  .opg (.idx 9 (.v 1) (.v 0)) 6 true,
  .opg (.ldn 9 (.v 0)) 7 true,
  .opg (.call 12 [(.v 4), (.v 0)]) 8 true,
  .op (.pick (.v 9) (.v 0) (.c (.bool false)))] [0, 0, 3, 7, 15, 31, 31, 127, 255, 31, 31, 1567, 3615, 8191, 16383])
 (.cond (.v 0) (.pre [17] 16 (.exit 1))
 .skip))) [] 12))
 (.reg [.op (.bin .add 3 (.v 1) (.c (.int .i64 1))),
  .nop 0])))) [0] 3)
def ac16L0 : AC := .loop [[19], [], [17], [13], [6], [12, 14, 7, 16, 18], [], [11], [], [9, 5, 15], [4], [3], [0, 10], [1]] ac16L0b
def ac16L1b : AC :=
 (.post (.seq (.reg [.op (.bin .lss 3 (.v 1) (.v 3))])
 (.seq (.cond (.v 0) .skip
 (.pre [1] 3 (.exit 0)))
 (.seq (.block 1 [[6], [13], [], [12], [], [11], [], [9, 5], [4], [3], [0, 10], [1]] (.post (.seq (.reg [.nop 2,
  .nop 2])
 (.seq (.seq (.reg [.nop 6,
  .nop 2,
  .op (.callv (.v 6) [(.v 2)])])
 (.cond (.v 0) (.pre [2] 1 (.exit 1))
 .skip))
 (.seq (.seq (.reg [.nop 3,
  .op (.mov (.c (.int .i64 0)))])
 (.block 2 [[19], [], [17], [13], [6], [12, 14, 7, 16, 18], [], [11], [], [9, 5, 15], [4], [3], [0, 10], [1]] (.pre [0] 0 ac16L0)))
 (.reg [.nop 4,
  .nop 5,
  .op (.mkl 1 1 [(.int .i64 0)] [(0, (.v 5))]),
  .op (.app 1 8 (.v 5) (.v 0)),
  .nop 0])))) [0] 5))
 (.reg [.op (.bin .add 3 (.v 3) (.c (.int .i64 1))),
  .nop 0])))) [1, 0] 5)
def ac16L1 : AC := .loop [[6], [12], [], [11], [], [9, 5], [4], [3], [0, 10], [1]] ac16L1b
/-- tegula/order.Eligible -/
def ac16 : AFn := ⟨2, [],
 (.seq (.reg [.op (.box (.v 1)),
  .op (.mov (.c (.slice none 0 0)))])
 (.seq .skip (.seq (.reg [.op (.func 27 [] [(.v 1)]),
  .nop 0])
 (.seq (.reg [.op (.mov (.c (.slice none 0 0)))])
 (.seq .skip
 (.seq (.seq (.reg [.nop 4,
  .op (.len false (.v 4)),
  .op (.mov (.c (.int .i64 0)))])
 (.block 0 [[6], [], [11], [], [9, 5], [4], [3], [0, 10], [1]] (.pre [2, 0] 0 ac16L1)))
 (.seq (.reg [.nop 0,
  .nop 0])
 (.ret [.v 0]))))))))⟩


def ac17L0b : AC :=
 (.post (.seq (.seq (.reg [.nop 1,
  .nop 8,
  .op (.bin .lss 3 (.v 1) (.v 8))])
 (.cond (.v 0) .skip
 (.pre [1, 2] 3 (.exit 2))))
 (.seq (.block 3 [[7], [21], [], [8, 19], [], [18], [17], [12], [11], [5], [6, 9, 16, 20], [], [], [4], [0, 10], [1, 15]] (.post (.regD [.nop 1,
  .nop 1,
  .opg (.mov (.v 14)) 1 true,
  .opg (.mov (.v 3)) 2 true,
  .opg (.call 28 [(.v 1), (.v 0)]) 3 true,
  .opg (.mov (.v 0)) 4 true,
  .opg (.mov (.v 17)) 0 false,
  .opg (.mov (.v 7)) 1 false,
  .opg (.idx 9 (.v 1) (.v 0)) 2 false,
  .opg (.ldn 9 (.v 0)) 3 false,
  .opg (.mov (.v 21)) 4 false,
  .opg (.mov (.v 18)) 5 false,
  .opg (.idx 9 (.v 1) (.v 0)) 6 false,
  .opg (.ldn 9 (.v 0)) 7 false,
  .opg (.call 13 [(.v 4), (.v 0)]) 8 false,
  .opg (.una .not (.v 0)) 9 false,
  .opg (.pick (.v 10) (.c (.bool true)) (.v 0)) 15 true,
  .op (.pick (.v 16) (.v 0) (.c (.bool false))),
  .nop 0] [0, 1, 3, 3, 15, 31, 63, 63, 255, 511, 63, 63, 3135, 7231, 16383, 32767, 65535, 131071, 262143]) [0] 16))
 (.reg [.nop 3,
  .op (.bin .add 3 (.v 3) (.c (.int .i64 1))),
  .nop 0]))) [1, 0] 5)
def ac17L0 : AC := .loop [[7], [8], [], [18], [17], [12], [11], [5], [6, 9, 16], [], [], [4], [0, 10], [1, 15]] ac17L0b
def ac17L1b : AC :=
 (.post (.seq (.seq (.reg [.nop 1,
  .nop 5,
  .op (.len false (.v 5)),
  .op (.bin .lss 3 (.v 2) (.v 0))])
 (.cond (.v 0) .skip
 (.pre [2] 4 (.exit 0))))
 (.seq (.block 1 [[5], [12], [11], [], [6, 9], [], [], [4], [0, 10], [1]] (.post (.seq (.reg [.nop 8,
  .nop 3,
  .op (.call 28 [(.v 8), (.v 3)]),
  .op (.una .not (.v 0)),
  .nop 0])
 (.seq (.seq (.reg [.op (.mov (.c (.int .i64 0)))])
 (.block 2 [[7], [8], [], [18], [17], [12], [11], [5], [6, 9, 16], [], [], [4], [0, 10], [1, 15]] (.pre [1, 0] 0 ac17L0)))
 (.seq (.reg [.nop 0])
 (.cond (.v 0) (.post (.reg [.nop 7,
  .nop 8,
  .op (.mkl 1 1 [(.int .i64 0)] [(0, (.v 8))]),
  .op (.app 1 8 (.v 8) (.v 0)),
  .nop 0]) [0] 2)
 (.post .skip [7] 0))))) [0] 6))
 (.reg [.nop 4,
  .op (.bin .add 3 (.v 4) (.c (.int .i64 1))),
  .nop 0]))) [1, 0] 6)
def ac17L1 : AC := .loop [[5], [6], [], [], [4], [0], [1]] ac17L1b
/-- tegula/tegularef40.Eligible -/
def ac17 : AFn := ⟨2, [],
 (.seq (.reg [.op (.mov (.c (.slice none 0 0)))])
 (.seq (.reg [.op (.mov (.c (.slice none 0 0)))])
 (.seq (.seq (.reg [.op (.mov (.c (.int .i64 0)))])
 (.block 0 [[5], [], [], [4], [0], [1]] (.pre [1, 0] 0 ac17L1)))
 (.seq (.reg [.nop 0,
  .nop 0])
 (.ret [.v 0])))))⟩


def ac18L0b : AC :=
 (.post (.seq (.reg [.op (.bin .lss 3 (.v 1) (.v 14))])
 (.seq (.cond (.v 0) .skip
 (.pre [1, 2] 3 (.exit 2)))
 (.seq (.block 3 [[4], [39], [], [38], [], [36], [35], [34], [33], [32], [30, 31], [29], [28], [27], [26], [24, 25], [22, 7, 23, 37], [21], [20], [], [19], [], [18], [16, 5], [13], [], [0, 11, 14], [1, 9, 17]] (.post (.seq (.reg [.nop 2,
  .nop 2])
 (.seq (.regD [.nop 22,
  .nop 2,
  .op (.idx 1 (.v 22) (.v 2)),
  .op (.ld1 (.v 0)),
  .op (.una .not (.v 0)),
  .nop 0,
  .opg (.mov (.v 28)) 0 true,
  .opg (.mov (.v 6)) 1 true,
  .opg (.idx 9 (.v 1) (.v 0)) 2 true,
  .opg (.ldn 9 (.v 0)) 3 true,
  .opg (.mov (.v 32)) 4 true,
  .opg (.mov (.v 23)) 5 true,
  .opg (.idx 9 (.v 1) (.v 0)) 6 true,
  .opg (.ldn 9 (.v 0)) 7 true,
  .opg (.call 12 [(.v 4), (.v 0)]) 8 true,
  .op (.pick (.v 9) (.v 0) (.c (.bool false)))] [0, 0, 3, 7, 15, 31, 63, 63, 255, 511, 63, 63, 3135, 7231, 16383, 32767])
 (.cond (.v 0) (.seq (.reg [.op (.mov (.c (.bool false)))])
 (.ret [.v 0]))
 .skip))) [14] 13))
 (.reg [.op (.bin .add 3 (.v 3) (.c (.int .i64 1))),
  .nop 0])))) [1, 0] 5)
def ac18L0 : AC := .loop [[4], [38], [], [36], [35], [34], [33], [32], [30, 31], [29], [28], [27], [26], [24, 25], [22, 7, 23, 37], [21], [20], [], [19], [], [18], [16, 5], [13], [], [0, 11, 14], [1, 9, 17]] ac18L0b
def ac18L1b : AC :=
 (.post (.seq (.reg [.op (.bin .lss 3 (.v 1) (.v 3))])
 (.seq (.cond (.v 0) .skip
 (.pre [1] 3 (.exit 0)))
 (.seq (.block 1 [[4], [20], [], [19], [], [18], [16, 5], [13], [], [0, 11, 14], [1, 9, 17]] (.post (.seq (.reg [.op (.idx 1 (.v 9) (.v 2)),
  .op (.ld1 (.v 0)),
  .nop 0])
 (.seq (.seq (.reg [.nop 0,
  .op (.bin .lss 3 (.v 0) (.c (.int .i64 0))),
  .nop 0,
  .opg (.mov (.v 1)) 0 false,
  .opg (.mov (.v 12)) 1 false,
  .opg (.len false (.v 0)) 2 false,
  .opg (.bin .geq 3 (.v 2) (.v 0)) 3 false,
  .op (.pick (.v 4) (.c (.bool true)) (.v 0)),
  .nop 0,
  .opg (.mov (.v 13)) 0 false,
  .opg (.mov (.v 7)) 1 false,
  .opg (.idx 1 (.v 1) (.v 0)) 2 false,
  .opg (.ld1 (.v 0)) 3 false,
  .op (.pick (.v 4) (.c (.bool true)) (.v 0))])
 (.cond (.v 0) (.seq (.reg [.op (.mov (.c (.bool false)))])
 (.ret [.v 0]))
 .skip))
 (.seq (.seq (.reg [.nop 11,
  .op (.mov (.c (.int .i64 0)))])
 (.block 2 [[4], [38], [], [36], [35], [34], [33], [32], [30, 31], [29], [28], [27], [26], [24, 25], [22, 7, 23, 37], [21], [20], [], [19], [], [18], [16, 5], [13], [], [0, 11, 14], [1, 9, 17]] (.pre [15, 0] 0 ac18L0)))
 (.reg [.nop 21,
  .nop 14,
  .op (.idx 1 (.v 21) (.v 14)),
  .eff (.st 1 (.v 0) (.c (.bool true)))])))) [1] 17))
 (.reg [.op (.bin .add 3 (.v 3) (.c (.int .i64 1))),
  .nop 0])))) [1, 0] 5)
def ac18L1 : AC := .loop [[4], [19], [], [18], [16, 5], [13], [], [0, 11, 14], [1, 9, 17]] ac18L1b
/-- tegula/order.Respects -/
def ac18 : AFn := ⟨2, [],
 (.seq (.reg [.op (.mov (.c (.bool false)))])
 (.seq (.seq (.post (.reg [.nop 2,
  .op (.len false (.v 2)),
  .nop 2,
  .op (.len false (.v 2)),
  .op (.bin .neq 3 (.v 1) (.v 0))]) [0] 3)
 (.cond (.v 0) (.seq (.reg [.op (.mov (.c (.bool false)))])
 (.ret [.v 0]))
 .skip))
 (.seq (.post (.reg [.nop 2,
  .op (.len false (.v 2)),
  .op (.make 1 1 [(.bool false)] (.v 0) (.v 0)),
  .nop 0]) [0] 2)
 (.seq (.seq (.reg [.nop 4,
  .op (.len false (.v 4)),
  .op (.mov (.c (.int .i64 0)))])
 (.block 0 [[4], [], [18], [16, 5], [13], [], [0, 11, 14], [1, 9, 17]] (.pre [4, 0] 0 ac18L1)))
 (.seq (.reg [.op (.mov (.c (.bool true)))])
 (.ret [.v 0]))))))⟩


def ac19L0b : AC :=
 (.post (.seq (.seq (.reg [.nop 1,
  .nop 7,
  .op (.len false (.v 7)),
  .op (.bin .lss 3 (.v 2) (.v 0))])
 (.cond (.v 0) .skip
 (.pre [2] 4 (.exit 0))))
 (.seq (.block 1 [[4], [21], [20], [], [6, 18], [], [17, 5], [14], [], [0, 12, 15], [1, 10, 19]] (.post (.seq (.reg [.nop 9,
  .nop 3,
  .op (.idx 1 (.v 9) (.v 3)),
  .op (.ld1 (.v 0)),
  .nop 0])
 (.seq (.seq (.reg [.nop 0,
  .op (.bin .lss 3 (.v 0) (.c (.int .i64 0))),
  .nop 0,
  .opg (.mov (.v 1)) 0 false,
  .opg (.mov (.v 12)) 1 false,
  .opg (.len false (.v 0)) 2 false,
  .opg (.bin .geq 3 (.v 2) (.v 0)) 3 false,
  .op (.pick (.v 4) (.c (.bool true)) (.v 0)),
  .nop 0,
  .opg (.mov (.v 13)) 0 false,
  .opg (.mov (.v 7)) 1 false,
  .opg (.idx 1 (.v 1) (.v 0)) 2 false,
  .opg (.ld1 (.v 0)) 3 false,
  .opg (.bin .neq 3 (.v 0) (.c (.int .i64 0))) 4 false,
  .op (.pick (.v 5) (.c (.bool true)) (.v 0))])
 (.cond (.v 0) (.seq (.reg [.op (.mov (.c (.bool false)))])
 (.ret [.v 0]))
 .skip))
 (.reg [.nop 19,
  .nop 12,
  .nop 17,
  .op (.bin .add 3 (.v 17) (.c (.int .i64 1))),
  .op (.idx 1 (.v 20) (.v 13)),
  .eff (.st 1 (.v 0) (.v 1))]))) [18] 16))
 (.reg [.nop 4,
  .op (.bin .add 3 (.v 4) (.c (.int .i64 1))),
  .nop 0]))) [1, 0] 6)
def ac19L0 : AC := .loop [[4], [6], [], [17, 5], [14], [], [0, 12, 15], [1, 10]] ac19L0b
def ac19L1b : AC :=
 (.post (.seq (.seq (.reg [.nop 1,
  .nop 6,
  .op (.bin .lss 3 (.v 1) (.v 6))])
 (.cond (.v 0) .skip
 (.pre [1, 2] 3 (.exit 4))))
 (.seq (.block 5 [[4], [56], [], [9, 54], [], [51], [50], [], [8, 48, 55], [], [], [], [17, 5], [14], [], [0, 12, 15, 49], [1, 10]] (.post (.seq (.regD [.nop 14,
  .nop 2,
  .op (.idx 9 (.v 14) (.v 2)),
  .op (.ldn 9 (.v 0)),
  .nop 16,
  .nop 9,
  .op (.idx 9 (.v 16) (.v 9)),
  .op (.ldn 9 (.v 0)),
  .op (.call 13 [(.v 2), (.v 0)]),
  .nop 0,
  .opg (.mov (.v 16)) 0 true,
  .opg (.mov (.v 8)) 1 true,
  .opg (.idx 1 (.v 1) (.v 0)) 2 true,
  .opg (.ld1 (.v 0)) 3 true,
  .opg (.mov (.v 20)) 4 true,
  .opg (.mov (.v 17)) 5 true,
  .opg (.idx 1 (.v 1) (.v 0)) 6 true,
  .opg (.ld1 (.v 0)) 7 true,
  .opg (.bin .gtr 3 (.v 4) (.v 0)) 8 true,
  .op (.pick (.v 9) (.v 0) (.c (.bool false)))] [0, 0, 3, 7, 0, 0, 48, 112, 255, 511, 1023, 1023, 4095, 8191, 1023, 1023, 50175, 115711, 262143, 524287])
 (.cond (.v 0) (.seq (.reg [.op (.mov (.c (.bool false)))])
 (.ret [.v 0]))
 .skip)) [16] 15))
 (.reg [.nop 3,
  .op (.bin .add 3 (.v 3) (.c (.int .i64 1))),
  .nop 0]))) [1, 0] 5)
def ac19L1 : AC := .loop [[4], [9], [], [51], [50], [], [8, 48], [], [], [], [17, 5], [14], [], [0, 12, 15, 49], [1, 10]] ac19L1b
def ac19L2b : AC :=
 (.post (.seq (.seq (.reg [.nop 1,
  .nop 8,
  .op (.len false (.v 8)),
  .op (.bin .lss 3 (.v 2) (.v 0))])
 (.cond (.v 0) .skip
 (.pre [2] 4 (.exit 2))))
 (.seq (.block 3 [[4], [51], [50], [], [8, 48], [], [], [], [17, 5], [14], [], [0, 12, 15, 49], [1, 10]] (.post (.seq (.reg [.op (.mov (.c (.int .i64 0)))])
 (.block 4 [[4], [9], [], [51], [50], [], [8, 48], [], [], [], [17, 5], [14], [], [0, 12, 15, 49], [1, 10]] (.pre [3, 0] 0 ac19L1))) [0] 3))
 (.reg [.nop 4,
  .op (.bin .add 3 (.v 4) (.c (.int .i64 1))),
  .nop 0]))) [1, 0] 6)
def ac19L2 : AC := .loop [[4], [8], [], [], [], [17, 5], [14], [], [0, 12, 15], [1, 10]] ac19L2b
/-- tegula/tegularef40.Respects -/
def ac19 : AFn := ⟨2, [],
 (.seq (.reg [.op (.mov (.c (.bool false)))])
 (.seq (.seq (.post (.reg [.nop 2,
  .op (.len false (.v 2)),
  .nop 2,
  .op (.len false (.v 2)),
  .op (.bin .neq 3 (.v 1) (.v 0))]) [0] 3)
 (.cond (.v 0) (.seq (.reg [.op (.mov (.c (.bool false)))])
 (.ret [.v 0]))
 .skip))
 (.seq (.post (.reg [.nop 2,
  .op (.len false (.v 2)),
  .op (.make 1 8 [(.int .i64 0)] (.v 0) (.v 0)),
  .nop 0]) [0] 2)
 (.seq (.seq (.reg [.op (.mov (.c (.int .i64 0)))])
 (.block 0 [[4], [], [17, 5], [14], [], [0, 12, 15], [1, 10]] (.pre [3, 0] 0 ac19L0)))
 (.seq (.seq (.reg [.op (.mov (.c (.int .i64 0)))])
 (.block 2 [[4], [], [], [], [17, 5], [14], [], [0, 12, 15], [1, 10]] (.pre [1, 0] 0 ac19L2)))
 (.seq (.reg [.op (.mov (.c (.bool true)))])
 (.ret [.v 0])))))))⟩


def ac20L0b : AC :=
 (.post (.seq (.reg [.op (.bin .lss 3 (.v 0) (.v 3))])
 (.seq (.cond (.v 0) .skip
 (.pre [1] 2 (.exit 2)))
 (.seq (.block 3 [[16], [15], [], [12], [11, 13, 4, 14], [], [10], [8, 3], [2], [0, 6, 9]] (.post (.seq (.reg [.nop 1,
  .nop 1])
 (.seq (.regD [.nop 9,
  .nop 1,
  .op (.idx 9 (.v 9) (.v 1)),
  .op (.ldn 9 (.v 0)),
  .nop 11,
  .nop 6,
  .op (.idx 9 (.v 11) (.v 6)),
  .op (.ldn 9 (.v 0)),
  .op (.call 12 [(.v 2), (.v 0)])] [0, 0, 3, 7, 0, 0, 48, 112, 255])
 (.cond (.v 0) (.post (.regD [.nop 12,
  .nop 9,
  .nop 12,
  .nop 9,
  .op (.idx 1 (.v 12) (.v 9)),
  .op (.ld1 (.v 0)),
  .nop 14,
  .nop 8,
  .op (.idx 1 (.v 14) (.v 8)),
  .op (.ld1 (.v 0)),
  .op (.bin .add 3 (.v 0) (.c (.int .i64 1))),
  .op (.mx (.v 3) (.v 0)),
  .op (.idx 1 (.v 18) (.v 15)),
  .eff (.st 1 (.v 0) (.v 1))] [0, 0, 0, 0, 12, 28, 0, 0, 192, 448, 960, 2044, 4095, 8191]) [] 7)
 .skip))) [] 5))
 (.reg [.op (.bin .add 3 (.v 1) (.c (.int .i64 1))),
  .nop 0])))) [0] 3)
def ac20L0 : AC := .loop [[15], [], [12], [11, 13, 4, 14], [], [10], [8, 3], [2], [0, 6, 9]] ac20L0b
def ac20L1b : AC :=
 (.post (.seq (.reg [.op (.bin .lss 3 (.v 0) (.v 2))])
 (.seq (.cond (.v 0) .skip
 (.pre [] 2 (.exit 0)))
 (.seq (.block 1 [[12], [11], [], [10], [8, 3], [2], [0, 6, 9]] (.post (.seq (.reg [.nop 1,
  .nop 1])
 (.seq (.reg [.nop 1,
  .op (.mov (.c (.int .i64 0)))])
 (.block 2 [[15], [], [12], [11, 13, 4, 14], [], [10], [8, 3], [2], [0, 6, 9]] (.pre [0] 0 ac20L0)))) [] 2))
 (.reg [.op (.bin .add 3 (.v 1) (.c (.int .i64 1))),
  .nop 0])))) [0] 3)
def ac20L1 : AC := .loop [[11], [], [10], [8, 3], [2], [0, 6, 9]] ac20L1b
/-- tegula/order.Levels -/
def ac20 : AFn := ⟨1, [],
 (.seq (.reg [.op (.mov (.c (.slice none 0 0)))])
 (.seq (.post (.reg [.nop 1,
  .op (.len false (.v 1)),
  .op (.make 1 8 [(.int .i64 0)] (.v 0) (.v 0)),
  .nop 0]) [0] 2)
 (.seq (.seq (.reg [.nop 2,
  .op (.len false (.v 2)),
  .op (.mov (.c (.int .i64 0)))])
 (.block 0 [[], [10], [8, 3], [2], [0, 6, 9]] (.pre [0] 0 ac20L1)))
 (.seq (.reg [.nop 2,
  .nop 2])
 (.ret [.v 2])))))⟩


def ac21L0b : AC :=
 (.post (.seq (.seq (.reg [.nop 0,
  .nop 4,
  .op (.bin .lss 3 (.v 0) (.v 4))])
 (.cond (.v 0) .skip
 (.pre [1] 2 (.exit 2))))
 (.seq (.block 3 [[17], [5, 15], [], [12], [11], [4, 9, 16], [], [8, 3], [2], [0, 6, 10]] (.post (.seq (.regD [.nop 9,
  .nop 1,
  .op (.idx 9 (.v 9) (.v 1)),
  .op (.ldn 9 (.v 0)),
  .nop 11,
  .nop 7,
  .op (.idx 9 (.v 11) (.v 7)),
  .op (.ldn 9 (.v 0)),
  .op (.call 13 [(.v 2), (.v 0)])] [0, 0, 3, 7, 0, 0, 48, 112, 255])
 (.cond (.v 0) (.post (.regD [.nop 12,
  .nop 10,
  .nop 12,
  .nop 10,
  .op (.idx 1 (.v 12) (.v 10)),
  .op (.ld1 (.v 0)),
  .nop 14,
  .nop 8,
  .op (.idx 1 (.v 14) (.v 8)),
  .op (.ld1 (.v 0)),
  .op (.bin .add 3 (.v 0) (.c (.int .i64 1))),
  .op (.mx (.v 3) (.v 0)),
  .op (.idx 1 (.v 18) (.v 16)),
  .eff (.st 1 (.v 0) (.v 1))] [0, 0, 0, 0, 12, 28, 0, 0, 192, 448, 960, 2044, 4095, 8191]) [] 7)
 .skip)) [] 5))
 (.reg [.nop 1,
  .op (.bin .add 3 (.v 1) (.c (.int .i64 1))),
  .nop 0]))) [0] 3)
def ac21L0 : AC := .loop [[5], [], [12], [11], [4, 9], [], [8, 3], [2], [0, 6, 10]] ac21L0b
def ac21L1b : AC :=
 (.post (.seq (.seq (.reg [.nop 0,
  .nop 4,
  .op (.len false (.v 4)),
  .op (.bin .lss 3 (.v 1) (.v 0))])
 (.cond (.v 0) .skip
 (.pre [] 3 (.exit 0))))
 (.seq (.block 1 [[12], [11], [4, 9], [], [8, 3], [2], [0, 6, 10]] (.post (.seq (.reg [.op (.mov (.c (.int .i64 0)))])
 (.block 2 [[5], [], [12], [11], [4, 9], [], [8, 3], [2], [0, 6, 10]] (.pre [0] 0 ac21L0))) [] 2))
 (.reg [.nop 2,
  .op (.bin .add 3 (.v 2) (.c (.int .i64 1))),
  .nop 0]))) [0] 4)
def ac21L1 : AC := .loop [[4], [], [8, 3], [2], [0, 6]] ac21L1b
/-- tegula/tegularef40.Levels -/
def ac21 : AFn := ⟨1, [],
 (.seq (.reg [.op (.mov (.c (.slice none 0 0)))])
 (.seq (.post (.reg [.nop 1,
  .op (.len false (.v 1)),
  .op (.make 1 8 [(.int .i64 0)] (.v 0) (.v 0)),
  .nop 0]) [0] 2)
 (.seq (.seq (.reg [.op (.mov (.c (.int .i64 0)))])
 (.block 0 [[], [8, 3], [2], [0, 6]] (.pre [0] 0 ac21L1)))
 (.seq (.reg [.nop 1,
  .nop 1])
 (.ret [.v 1])))))⟩


/-- tegula/tegularef40.Fence -/
def ac22 : AFn := ⟨1, [],
 (.seq (.reg [.op (.box (.v 0)),
  .op (.mov (.c (.bool false)))])
 (.seq (.post (.reg [.op (.fld 2 (.v 1)),
  .op (.ld1 (.v 0)),
  .op (.bin .eql 3 (.v 0) (.c (.int .i64 1))),
  .nop 0,
  .opg (.fld 1 (.v 4)) 0 false,
  .opg (.ld1 (.v 0)) 1 false,
  .opg (.bin .eql 3 (.v 0) (.c (.int .i64 4))) 2 false,
  .op (.pick (.v 3) (.c (.bool true)) (.v 0)),
  .nop 0]) [0] 7)
 (.ret [.v 0])))⟩


/-- tegula/tegulalaw40.example -/
def ac23 : AFn := ⟨0, [],
 (.seq (.reg [.op (.mov (.c (.slice none 0 0)))])
 (.seq (.post (.reg [.op (.make 8 8 [(.int .u8 0), (.int .u8 0), (.int .u8 0), (.int .u8 0), (.int .u8 0), (.int .u8 0), (.int .u8 0), (.int .u8 0)] (.c (.int .i64 4)) (.c (.int .i64 4))),
  .op (.build [(.int .i64 0), (.int .i64 0), (.int .i64 0), (.bool false), (.string ⟨#[]⟩), (.string ⟨#[]⟩), (.int .i64 0), (.int .i64 0), (.slice none 0 0)] [(0, 1, (.c (.int .i64 1))), (1, 1, (.c (.int .i64 2))), (4, 1, (.c (.string ⟨#[97]⟩))), (7, 1, (.c (.int .i64 4))), (8, 1, (.v 0))]),
  .op (.build [(.int .i64 0), (.int .i64 0), (.int .i64 0), (.bool false), (.string ⟨#[]⟩), (.string ⟨#[]⟩), (.int .i64 0), (.int .i64 0), (.slice none 0 0)] [(0, 1, (.c (.int .i64 2))), (1, 1, (.c (.int .i64 1))), (4, 1, (.c (.string ⟨#[97]⟩))), (6, 1, (.c (.int .i64 3))), (7, 1, (.c (.int .i64 2)))]),
  .op (.build [(.int .i64 0), (.int .i64 0), (.int .i64 0), (.bool false), (.string ⟨#[]⟩), (.string ⟨#[]⟩), (.int .i64 0), (.int .i64 0), (.slice none 0 0)] [(0, 1, (.c (.int .i64 3))), (1, 1, (.c (.int .i64 1))), (4, 1, (.c (.string ⟨#[97]⟩))), (6, 1, (.c (.int .i64 4))), (7, 1, (.c (.int .i64 2)))]),
  .op (.build [(.int .i64 0), (.int .i64 0), (.int .i64 0), (.bool false), (.string ⟨#[]⟩), (.string ⟨#[]⟩), (.int .i64 0), (.int .i64 0), (.slice none 0 0)] [(0, 1, (.c (.int .i64 4))), (1, 1, (.c (.int .i64 4)))]),
  .op (.mkl 9 4 [(.int .i64 0), (.int .i64 0), (.int .i64 0), (.bool false), (.string ⟨#[]⟩), (.string ⟨#[]⟩), (.int .i64 0), (.int .i64 0), (.slice none 0 0)] [(0, (.v 3)), (1, (.v 2)), (2, (.v 1)), (3, (.v 0))]),
  .nop 0]) [0] 6)
 (.ret [.v 0])))⟩


/-- tegula/order.fence -/
def ac24 : AFn := ⟨1, [],
 (.seq (.reg [.op (.box (.v 0)),
  .op (.mov (.c (.bool false)))])
 (.seq (.post (.reg [.op (.fld 2 (.v 1)),
  .op (.ld1 (.v 0)),
  .op (.bin .eql 3 (.v 0) (.c (.int .i64 1))),
  .nop 0,
  .opg (.fld 1 (.v 4)) 0 false,
  .opg (.ld1 (.v 0)) 1 false,
  .opg (.bin .eql 3 (.v 0) (.c (.int .i64 4))) 2 false,
  .op (.pick (.v 3) (.c (.bool true)) (.v 0)),
  .nop 0]) [0] 7)
 (.ret [.v 0])))⟩


/-- tegula/command.Overlap -/
def ac25 : AFn := ⟨2, [],
 (.seq (.reg [.op (.box (.v 0)),
  .op (.box (.v 2)),
  .op (.mov (.c (.bool false)))])
 (.seq (.seq (.post (.reg [.op (.ldn 9 (.v 2)),
  .op (.call 29 [(.v 0)]),
  .op (.una .not (.v 0)),
  .nop 0,
  .opg (.ldn 9 (.v 4)) 0 false,
  .opg (.call 29 [(.v 0)]) 1 false,
  .opg (.una .not (.v 0)) 2 false,
  .op (.pick (.v 3) (.c (.bool true)) (.v 0))]) [0] 7)
 (.cond (.v 0) (.seq (.reg [.op (.mov (.c (.bool false)))])
 (.ret [.v 0]))
 .skip))
 (.seq (.seq (.post (.reg [.op (.fld 1 (.v 3)),
  .op (.ld1 (.v 0)),
  .op (.bin .geq 3 (.v 0) (.c (.int .i64 5))),
  .nop 0,
  .opg (.fld 1 (.v 5)) 0 false,
  .opg (.ld1 (.v 0)) 1 false,
  .opg (.bin .geq 3 (.v 0) (.c (.int .i64 5))) 2 false,
  .op (.pick (.v 3) (.c (.bool true)) (.v 0))]) [0] 7)
 (.cond (.v 0) (.seq (.post (.reg [.op (.ldn 9 (.v 4)),
  .op (.ldn 9 (.v 4)),
  .op (.call 30 [(.v 1), (.v 0)]),
  .nop 0]) [0] 3)
 (.ret [.v 0]))
 .skip))
 (.seq (.post (.reg [.op (.ldn 9 (.v 4)),
  .op (.call 31 [(.v 0)]),
  .nop 0,
  .op (.extr 0 (.v 0)),
  .op (.extr 1 (.v 1)),
  .op (.extr 2 (.v 2)),
  .op (.extr 3 (.v 3)),
  .nop 3,
  .nop 2,
  .nop 1,
  .nop 0]) [0, 1, 2, 3] 6)
 (.seq (.post (.reg [.op (.ldn 9 (.v 7)),
  .op (.call 31 [(.v 0)]),
  .nop 0,
  .op (.extr 0 (.v 0)),
  .op (.extr 1 (.v 1)),
  .op (.extr 2 (.v 2)),
  .op (.extr 3 (.v 3)),
  .nop 3,
  .nop 2,
  .nop 1,
  .nop 0]) [0, 1, 2, 3] 6)
 (.seq (.post (.reg [.nop 4,
  .nop 4,
  .opg (.mov (.v 0)) 4 true,
  .op (.pick (.v 5) (.v 0) (.c (.bool false))),
  .nop 0,
  .opg (.mov (.v 9)) 0 true,
  .opg (.mov (.v 6)) 1 true,
  .opg (.bin .eql 9 (.v 1) (.v 0)) 2 true,
  .op (.pick (.v 3) (.v 0) (.c (.bool false))),
  .nop 0,
  .opg (.mov (.v 12)) 0 true,
  .opg (.mov (.v 9)) 1 true,
  .opg (.mov (.v 9)) 2 true,
  .opg (.bin .add 3 (.v 1) (.v 0)) 3 true,
  .opg (.bin .lss 3 (.v 3) (.v 0)) 4 true,
  .op (.pick (.v 5) (.v 0) (.c (.bool false))),
  .nop 0,
  .opg (.mov (.v 14)) 0 true,
  .opg (.mov (.v 19)) 1 true,
  .opg (.mov (.v 19)) 2 true,
  .opg (.bin .add 3 (.v 1) (.v 0)) 3 true,
  .opg (.bin .lss 3 (.v 3) (.v 0)) 4 true,
  .op (.pick (.v 5) (.v 0) (.c (.bool false))),
  .nop 0,
  .opg (.fld 1 (.v 30)) 0 true,
  .opg (.ld1 (.v 0)) 1 true,
  .opg (.bin .neq 3 (.v 0) (.c (.int .i64 1))) 2 true,
  .opg (.mov (.v 0)) 3 true,
  .opg (.fld 1 (.v 33)) 0 false,
  .opg (.ld1 (.v 0)) 1 false,
  .opg (.bin .neq 3 (.v 0) (.c (.int .i64 1))) 2 false,
  .opg (.pick (.v 3) (.c (.bool true)) (.v 0)) 7 true,
  .op (.pick (.v 8) (.v 0) (.c (.bool false))),
  .nop 0]) [0] 27)
 (.ret [.v 0])))))))⟩


/-- tegula/tegularef39.Overlap -/
def ac26 : AFn := ⟨2, [],
 (.seq (.reg [.op (.box (.v 0)),
  .op (.box (.v 2)),
  .op (.mov (.c (.bool false)))])
 (.seq (.seq (.post (.reg [.op (.ldn 9 (.v 2)),
  .op (.call 32 [(.v 0)]),
  .op (.una .not (.v 0)),
  .nop 0,
  .opg (.ldn 9 (.v 4)) 0 false,
  .opg (.call 32 [(.v 0)]) 1 false,
  .opg (.una .not (.v 0)) 2 false,
  .op (.pick (.v 3) (.c (.bool true)) (.v 0))]) [0] 7)
 (.cond (.v 0) (.seq (.reg [.op (.mov (.c (.bool false)))])
 (.ret [.v 0]))
 .skip))
 (.seq (.post (.reg [.op (.ldn 9 (.v 3)),
  .op (.call 33 [(.v 0)]),
  .nop 0,
  .op (.extr 0 (.v 0)),
  .op (.extr 1 (.v 1)),
  .op (.extr 2 (.v 2)),
  .op (.extr 3 (.v 3)),
  .nop 3,
  .nop 2,
  .nop 1,
  .nop 0]) [0, 1, 2, 3] 6)
 (.seq (.post (.reg [.op (.ldn 9 (.v 6)),
  .op (.call 33 [(.v 0)]),
  .nop 0,
  .op (.extr 0 (.v 0)),
  .op (.extr 1 (.v 1)),
  .op (.extr 2 (.v 2)),
  .op (.extr 3 (.v 3)),
  .nop 3,
  .nop 2,
  .nop 1,
  .nop 0]) [0, 1, 2, 3] 6)
 (.seq (.seq (.post (.reg [.nop 4,
  .nop 4,
  .opg (.mov (.v 0)) 4 true,
  .op (.pick (.v 5) (.v 0) (.c (.bool false)))]) [0] 2)
 (.cond (.v 0) (.seq (.post (.reg [.nop 8,
  .nop 4,
  .op (.bin .eql 9 (.v 8) (.v 4)),
  .nop 0,
  .opg (.mov (.v 8)) 0 true,
  .opg (.mov (.v 5)) 1 true,
  .opg (.mov (.v 5)) 2 true,
  .opg (.bin .add 3 (.v 1) (.v 0)) 3 true,
  .opg (.bin .lss 3 (.v 3) (.v 0)) 4 true,
  .op (.pick (.v 5) (.v 0) (.c (.bool false))),
  .nop 0,
  .opg (.mov (.v 10)) 0 true,
  .opg (.mov (.v 15)) 1 true,
  .opg (.mov (.v 15)) 2 true,
  .opg (.bin .add 3 (.v 1) (.v 0)) 3 true,
  .opg (.bin .lss 3 (.v 3) (.v 0)) 4 true,
  .op (.pick (.v 5) (.v 0) (.c (.bool false))),
  .nop 0,
  .opg (.fld 1 (.v 25)) 0 true,
  .opg (.ld1 (.v 0)) 1 true,
  .opg (.bin .neq 3 (.v 0) (.c (.int .i64 1))) 2 true,
  .opg (.mov (.v 0)) 3 true,
  .opg (.fld 1 (.v 28)) 0 false,
  .opg (.ld1 (.v 0)) 1 false,
  .opg (.bin .neq 3 (.v 0) (.c (.int .i64 1))) 2 false,
  .opg (.pick (.v 3) (.c (.bool true)) (.v 0)) 7 true,
  .op (.pick (.v 8) (.v 0) (.c (.bool false))),
  .nop 0]) [0] 22)
 (.ret [.v 0]))
 .skip))
 (.seq (.seq (.post (.reg [.op (.fld 1 (.v 12)),
  .op (.ld1 (.v 0)),
  .op (.bin .lss 3 (.v 0) (.c (.int .i64 5))),
  .nop 0,
  .opg (.fld 1 (.v 14)) 0 true,
  .opg (.ld1 (.v 0)) 1 true,
  .opg (.bin .lss 3 (.v 0) (.c (.int .i64 5))) 2 true,
  .op (.pick (.v 3) (.v 0) (.c (.bool false)))]) [0] 7)
 (.cond (.v 0) (.seq (.reg [.op (.mov (.c (.bool false)))])
 (.ret [.v 0]))
 .skip))
 (.seq (.post (.reg [.op (.ldn 9 (.v 13)),
  .op (.fld 4 (.v 13)),
  .op (.ld1 (.v 0)),
  .op (.call 34 [(.v 2), (.v 0)]),
  .nop 0,
  .opg (.ldn 9 (.v 17)) 0 false,
  .opg (.fld 5 (.v 17)) 1 false,
  .opg (.ld1 (.v 0)) 2 false,
  .opg (.call 34 [(.v 2), (.v 0)]) 3 false,
  .op (.pick (.v 4) (.c (.bool true)) (.v 0)),
  .nop 0]) [0] 9)
 (.ret [.v 0]))))))))⟩


/-- tegula/order.Eligible$1 -/
def ac27 : AFn := ⟨2, [],
 (.seq (.reg [.op (.mov (.c (.bool false)))])
 (.seq (.post (.reg [.nop 1,
  .op (.ld1 (.v 2)),
  .op (.len false (.v 0)),
  .op (.bin .lss 3 (.v 3) (.v 0)),
  .nop 0,
  .opg (.ld1 (.v 5)) 0 true,
  .opg (.mov (.v 5)) 1 true,
  .opg (.idx 1 (.v 1) (.v 0)) 2 true,
  .opg (.ld1 (.v 0)) 3 true,
  .op (.pick (.v 4) (.v 0) (.c (.bool false))),
  .nop 0]) [0] 8)
 (.ret [.v 0])))⟩


/-- tegula/tegularef40.isDone -/
def ac28 : AFn := ⟨2, [],
 (.seq (.reg [.op (.mov (.c (.bool false)))])
 (.seq (.post (.reg [.nop 2,
  .nop 1,
  .op (.len false (.v 1)),
  .op (.bin .lss 3 (.v 3) (.v 0)),
  .nop 0,
  .opg (.mov (.v 3)) 0 true,
  .opg (.mov (.v 5)) 1 true,
  .opg (.idx 1 (.v 1) (.v 0)) 2 true,
  .opg (.ld1 (.v 0)) 3 true,
  .op (.pick (.v 4) (.v 0) (.c (.bool false))),
  .nop 0]) [0] 7)
 (.ret [.v 0])))⟩


/-- tegula/command.Valid -/
def ac29 : AFn := ⟨1, [],
 (.seq (.reg [.op (.box (.v 0)),
  .op (.mov (.c (.bool false)))])
 (.seq (.seq (.post (.reg [.op (.fld 0 (.v 1)),
  .op (.ld1 (.v 0)),
  .op (.bin .lss 3 (.v 0) (.c (.int .i64 0))),
  .nop 0,
  .opg (.fld 0 (.v 4)) 0 false,
  .opg (.ld1 (.v 0)) 1 false,
  .opg (.bin .gtr 3 (.v 0) (.c (.int .i64 2147483647))) 2 false,
  .op (.pick (.v 3) (.c (.bool true)) (.v 0)),
  .nop 0,
  .opg (.fld 2 (.v 8)) 0 false,
  .opg (.ld1 (.v 0)) 1 false,
  .opg (.bin .neq 3 (.v 0) (.c (.int .i64 0))) 2 false,
  .opg (.mov (.v 0)) 3 false,
  .opg (.fld 2 (.v 12)) 0 true,
  .opg (.ld1 (.v 0)) 1 true,
  .opg (.bin .neq 3 (.v 0) (.c (.int .i64 1))) 2 true,
  .opg (.pick (.v 3) (.v 0) (.c (.bool false))) 7 false,
  .op (.pick (.v 8) (.c (.bool true)) (.v 0))]) [0] 16)
 (.cond (.v 0) (.seq (.reg [.op (.mov (.c (.bool false)))])
 (.ret [.v 0]))
 .skip))
 (.seq (.post (.reg [.op (.ldn 9 (.v 2)),
  .op (.call 35 [(.v 0)]),
  .op (.new [(.int .i64 0), (.int .i64 0), (.int .i64 0), (.bool false), (.string ⟨#[]⟩), (.string ⟨#[]⟩), (.int .i64 0), (.int .i64 0), (.slice none 0 0)]),
  .eff (.st 9 (.v 0) (.v 1))]) [0] 3)
 (.seq (.post (.reg [.op (.fld 4 (.v 3)),
  .op (.ld1 (.v 0)),
  .op (.fld 4 (.v 2)),
  .eff (.st 1 (.v 0) (.v 1))]) [] 3)
 (.seq (.post (.reg [.op (.fld 4 (.v 3)),
  .op (.ld1 (.v 0)),
  .op (.call 36 [(.v 0)]),
  .nop 0]) [0] 3)
 (.seq (.seq (.post (.reg [.op (.fld 1 (.v 4)),
  .op (.ld1 (.v 0))]) [0] 2)
 (.block 0 [[2], [4], [32], [30], [3], [22], [], [1], [0]] (.post (.seq (.reg [.op (.bin .eql 3 (.v 0) (.c (.int .i64 1))),
  .nop 0])
 (.cond (.v 0) (.post (.seq (.post (.regD [.op (.fld 6 (.v 6)),
  .op (.ld1 (.v 0)),
  .op (.fld 7 (.v 8)),
  .op (.ld1 (.v 0)),
  .op (.fld 6 (.v 7)),
  .eff (.st 1 (.v 0) (.v 3)),
  .op (.fld 7 (.v 8)),
  .eff (.st 1 (.v 0) (.v 2))] [0, 1, 0, 4, 3, 19, 63, 127]) [] 6)
 (.post (.reg [.nop 2,
  .nop 2,
  .opg (.fld 6 (.v 6)) 2 true,
  .opg (.ld1 (.v 0)) 3 true,
  .opg (.fld 7 (.v 8)) 4 true,
  .opg (.ld1 (.v 0)) 5 true,
  .opg (.call 37 [(.v 2), (.v 0)]) 6 true,
  .op (.pick (.v 7) (.v 0) (.c (.bool false))),
  .nop 0,
  .opg (.fld 7 (.v 12)) 0 true,
  .opg (.ld1 (.v 0)) 1 true,
  .opg (.bin .leq 3 (.v 0) (.c (.int .i64 16))) 2 true,
  .op (.pick (.v 3) (.v 0) (.c (.bool false))),
  .nop 0]) [0] 10)) [6, 0] 1)
 (.post (.seq (.reg [.op (.bin .eql 3 (.v 1) (.c (.int .i64 2))),
  .nop 0])
 (.cond (.v 0) (.post (.seq (.post (.regD [.op (.fld 6 (.v 7)),
  .op (.ld1 (.v 0)),
  .op (.fld 7 (.v 9)),
  .op (.ld1 (.v 0)),
  .op (.fld 8 (.v 11)),
  .op (.ld1 (.v 0)),
  .op (.fld 3 (.v 13)),
  .op (.ld1 (.v 0)),
  .op (.fld 6 (.v 12)),
  .eff (.st 1 (.v 0) (.v 7)),
  .op (.fld 7 (.v 13)),
  .eff (.st 1 (.v 0) (.v 6)),
  .op (.fld 8 (.v 14)),
  .eff (.st 1 (.v 0) (.v 5)),
  .op (.fld 3 (.v 15)),
  .eff (.st 1 (.v 0) (.v 4))] [0, 1, 0, 4, 0, 16, 0, 64, 3, 259, 783, 1807, 3903, 7999, 16383, 32767]) [] 12)
 (.post (.reg [.nop 3,
  .nop 3,
  .opg (.fld 6 (.v 7)) 3 true,
  .opg (.ld1 (.v 0)) 4 true,
  .opg (.fld 7 (.v 9)) 5 true,
  .opg (.ld1 (.v 0)) 6 true,
  .opg (.call 37 [(.v 2), (.v 0)]) 7 true,
  .op (.pick (.v 8) (.v 0) (.c (.bool false))),
  .nop 0,
  .opg (.fld 7 (.v 13)) 0 true,
  .opg (.ld1 (.v 0)) 1 true,
  .opg (.bin .leq 3 (.v 0) (.c (.int .i64 16))) 2 true,
  .op (.pick (.v 3) (.v 0) (.c (.bool false))),
  .nop 0,
  .opg (.fld 8 (.v 17)) 0 true,
  .opg (.ld1 (.v 0)) 1 true,
  .opg (.len false (.v 0)) 2 true,
  .opg (.fld 7 (.v 20)) 3 true,
  .opg (.ld1 (.v 0)) 4 true,
  .opg (.bin .eql 3 (.v 2) (.v 0)) 5 true,
  .op (.pick (.v 6) (.v 0) (.c (.bool false))),
  .nop 0]) [0] 17)) [7, 0] 1)
 (.post (.seq (.reg [.op (.bin .eql 3 (.v 2) (.c (.int .i64 3))),
  .nop 0])
 (.cond (.v 0) (.post (.seq (.post (.regD [.op (.fld 6 (.v 8)),
  .op (.ld1 (.v 0)),
  .op (.fld 7 (.v 10)),
  .op (.ld1 (.v 0)),
  .op (.fld 3 (.v 12)),
  .op (.ld1 (.v 0)),
  .op (.fld 6 (.v 11)),
  .eff (.st 1 (.v 0) (.v 5)),
  .op (.fld 7 (.v 12)),
  .eff (.st 1 (.v 0) (.v 4)),
  .op (.fld 3 (.v 13)),
  .eff (.st 1 (.v 0) (.v 3))] [0, 1, 0, 4, 0, 16, 3, 67, 207, 463, 1023, 2047]) [] 9)
 (.post (.reg [.nop 4,
  .nop 4,
  .opg (.fld 6 (.v 8)) 4 true,
  .opg (.ld1 (.v 0)) 5 true,
  .opg (.fld 7 (.v 10)) 6 true,
  .opg (.ld1 (.v 0)) 7 true,
  .opg (.call 37 [(.v 2), (.v 0)]) 8 true,
  .op (.pick (.v 9) (.v 0) (.c (.bool false))),
  .nop 0]) [0] 6)) [8, 0] 1)
 (.post (.seq (.reg [.op (.bin .eql 3 (.v 3) (.c (.int .i64 4))),
  .nop 0])
 (.cond (.v 0) (.post (.post (.reg [.op (.fld 4 (.v 9)),
  .op (.ld1 (.v 0)),
  .op (.bin .eql 9 (.v 0) (.c (.string ⟨#[]⟩))),
  .nop 0]) [0] 3) [9, 0] 1)
 (.post (.seq (.reg [.op (.bin .eql 3 (.v 4) (.c (.int .i64 5))),
  .nop 0])
 (.cond (.v 0) (.post (.seq (.post (.regD [.op (.fld 6 (.v 10)),
  .op (.ld1 (.v 0)),
  .op (.fld 7 (.v 12)),
  .op (.ld1 (.v 0)),
  .op (.fld 6 (.v 11)),
  .eff (.st 1 (.v 0) (.v 3)),
  .op (.fld 7 (.v 12)),
  .eff (.st 1 (.v 0) (.v 2))] [0, 1, 0, 4, 3, 19, 63, 127]) [] 6)
 (.post (.reg [.nop 6,
  .nop 6,
  .opg (.fld 7 (.v 10)) 6 true,
  .opg (.ld1 (.v 0)) 7 true,
  .opg (.bin .geq 3 (.v 0) (.c (.int .i64 1))) 8 true,
  .op (.pick (.v 9) (.v 0) (.c (.bool false))),
  .nop 0,
  .opg (.fld 7 (.v 14)) 0 true,
  .opg (.ld1 (.v 0)) 1 true,
  .opg (.bin .leq 3 (.v 0) (.c (.int .i64 65536))) 2 true,
  .op (.pick (.v 3) (.v 0) (.c (.bool false))),
  .nop 0,
  .opg (.fld 6 (.v 18)) 0 true,
  .opg (.ld1 (.v 0)) 1 true,
  .opg (.bin .geq 3 (.v 0) (.c (.int .i64 0))) 2 true,
  .op (.pick (.v 3) (.v 0) (.c (.bool false))),
  .nop 0,
  .opg (.fld 6 (.v 22)) 0 true,
  .opg (.ld1 (.v 0)) 1 true,
  .opg (.fld 7 (.v 24)) 2 true,
  .opg (.ld1 (.v 0)) 3 true,
  .opg (.bin .leq 3 (.v 2) (.v 0)) 4 true,
  .op (.pick (.v 5) (.v 0) (.c (.bool false))),
  .nop 0]) [0] 18)) [10, 0] 1)
 (.post (.seq (.reg [.op (.bin .eql 3 (.v 5) (.c (.int .i64 6))),
  .nop 0])
 (.cond (.v 0) (.post (.seq (.post (.reg [.op (.fld 5 (.v 11)),
  .op (.ld1 (.v 0)),
  .op (.fld 5 (.v 10)),
  .eff (.st 1 (.v 0) (.v 1))]) [] 3)
 (.post (.reg [.nop 7,
  .nop 7,
  .opg (.fld 5 (.v 11)) 7 true,
  .opg (.ld1 (.v 0)) 8 true,
  .opg (.call 36 [(.v 0)]) 9 true,
  .op (.pick (.v 10) (.v 0) (.c (.bool false))),
  .nop 0,
  .opg (.fld 5 (.v 15)) 0 true,
  .opg (.ld1 (.v 0)) 1 true,
  .opg (.fld 4 (.v 17)) 2 true,
  .opg (.ld1 (.v 0)) 3 true,
  .opg (.bin .neq 9 (.v 2) (.v 0)) 4 true,
  .op (.pick (.v 5) (.v 0) (.c (.bool false))),
  .nop 0]) [0] 10)) [11, 0] 1)
 (.post (.seq (.reg [.op (.bin .eql 3 (.v 6) (.c (.int .i64 7))),
  .nop 0])
 (.cond (.v 0) .skip
 (.seq (.reg [.op (.mov (.c (.bool false)))])
 (.ret [.v 0])))) [11, 8] 1))) [0, 1] 3))) [0, 1] 3))) [0, 1] 3))) [0, 1] 3))) [0, 1] 3))) [0, 1] 3)))
 (.seq (.post (.reg [.nop 1,
  .nop 1,
  .opg (.ldn 9 (.v 7)) 1 true,
  .opg (.ldn 9 (.v 5)) 2 true,
  .opg (.call 38 [(.v 1), (.v 0)]) 3 true,
  .op (.pick (.v 4) (.v 0) (.c (.bool false))),
  .nop 0]) [0] 4)
 (.ret [.v 0]))))))))⟩


def ac30L0b : AC :=
 (.post (.seq (.reg [.op (.bin .lss 3 (.v 1) (.c (.int .i64 2)))])
 (.seq (.cond (.v 0) .skip
 (.pre [1] 3 (.exit 0)))
 (.seq (.block 1 [[4], [13], [], [12], [], [11], [], [3], [2], [0], [1]] (.post (.seq (.reg [.op (.pur (.ind 2) [(.v 4), (.v 2)]),
  .nop 0])
 (.seq (.reg [.nop 0,
  .op (.bin .neq 9 (.v 0) (.c (.string ⟨#[]⟩))),
  .nop 0,
  .opg (.mov (.v 1)) 0 true,
  .opg (.fld 4 (.v 9)) 1 true,
  .opg (.ld1 (.v 0)) 2 true,
  .opg (.bin .eql 9 (.v 2) (.v 0)) 3 true,
  .opg (.mov (.v 0)) 4 true,
  .opg (.mov (.v 6)) 0 false,
  .opg (.fld 5 (.v 14)) 1 false,
  .opg (.ld1 (.v 0)) 2 false,
  .opg (.bin .eql 9 (.v 2) (.v 0)) 3 false,
  .opg (.pick (.v 4) (.c (.bool true)) (.v 0)) 9 true,
  .op (.pick (.v 10) (.v 0) (.c (.bool false)))])
 (.cond (.v 0) (.seq (.reg [.op (.mov (.c (.bool true)))])
 (.ret [.v 0]))
 .skip))) [14] 13))
 (.reg [.op (.bin .add 3 (.v 3) (.c (.int .i64 1))),
  .nop 0])))) [1, 0] 5)
def ac30L0 : AC := .loop [[4], [12], [], [11], [], [3], [2], [0], [1]] ac30L0b
/-- tegula/command.shares -/
def ac30 : AFn := ⟨2, [],
 (.seq (.reg [.op (.box (.v 0)),
  .op (.box (.v 2)),
  .op (.mov (.c (.bool false)))])
 (.seq (.seq (.post (.reg [.op (.fld 4 (.v 2)),
  .op (.ld1 (.v 0)),
  .op (.fld 5 (.v 4)),
  .op (.ld1 (.v 0)),
  .op (.build [(.string ⟨#[]⟩), (.string ⟨#[]⟩)] [(0, 1, (.v 2)), (1, 1, (.v 0))]),
  .op (.mov (.c (.int .i64 0)))]) [0, 1] 6)
 (.block 0 [[4], [], [11], [], [3], [2], [0], [1]] (.pre [2, 0] 0 ac30L0)))
 (.seq (.reg [.op (.mov (.c (.bool false)))])
 (.ret [.v 0]))))⟩


/-- tegula/command.Range -/
def ac31 : AFn := ⟨1, [],
 (.seq (.reg [.op (.box (.v 0)),
  .op (.mov (.c (.string ⟨#[]⟩))),
  .op (.mov (.c (.int .i64 0))),
  .op (.mov (.c (.int .i64 0))),
  .op (.mov (.c (.bool false)))])
 (.seq (.seq (.post (.reg [.op (.ldn 9 (.v 4)),
  .op (.call 29 [(.v 0)]),
  .op (.una .not (.v 0)),
  .nop 0,
  .opg (.fld 1 (.v 7)) 0 false,
  .opg (.ld1 (.v 0)) 1 false,
  .opg (.bin .gtr 3 (.v 0) (.c (.int .i64 3))) 2 false,
  .op (.pick (.v 3) (.c (.bool true)) (.v 0))]) [0] 7)
 (.cond (.v 0) (.seq (.reg [.op (.mov (.c (.string ⟨#[]⟩))),
  .op (.mov (.c (.int .i64 0))),
  .op (.mov (.c (.int .i64 0))),
  .op (.mov (.c (.bool false)))])
 (.ret [.v 3, .v 2, .v 1, .v 0]))
 .skip))
 (.seq (.post (.regD [.op (.fld 4 (.v 5)),
  .op (.ld1 (.v 0)),
  .op (.fld 6 (.v 7)),
  .op (.ld1 (.v 0)),
  .op (.fld 7 (.v 9)),
  .op (.ld1 (.v 0)),
  .nop 4,
  .nop 2,
  .nop 0,
  .op (.mov (.c (.bool true)))] [0, 1, 0, 4, 0, 16, 3, 79, 255, 511]) [0, 1, 3, 5] 7)
 (.ret [.v 3, .v 2, .v 1, .v 0]))))⟩


/-- tegula/tegularef39.Valid -/
def ac32 : AFn := ⟨1, [],
 (.seq (.reg [.op (.box (.v 0)),
  .op (.mov (.c (.bool false)))])
 (.seq (.seq (.post (.reg [.op (.fld 0 (.v 1)),
  .op (.ld1 (.v 0)),
  .op (.bin .lss 3 (.v 0) (.c (.int .i64 0))),
  .nop 0,
  .opg (.fld 0 (.v 4)) 0 false,
  .opg (.ld1 (.v 0)) 1 false,
  .opg (.bin .geq 3 (.v 0) (.c (.int .i64 2147483648))) 2 false,
  .op (.pick (.v 3) (.c (.bool true)) (.v 0)),
  .nop 0,
  .opg (.fld 2 (.v 8)) 0 false,
  .opg (.ld1 (.v 0)) 1 false,
  .opg (.bin .neq 3 (.v 0) (.c (.int .i64 0))) 2 false,
  .opg (.mov (.v 0)) 3 false,
  .opg (.fld 2 (.v 12)) 0 true,
  .opg (.ld1 (.v 0)) 1 true,
  .opg (.bin .neq 3 (.v 0) (.c (.int .i64 1))) 2 true,
  .opg (.pick (.v 3) (.v 0) (.c (.bool false))) 7 false,
  .op (.pick (.v 8) (.c (.bool true)) (.v 0))]) [0] 16)
 (.cond (.v 0) (.seq (.reg [.op (.mov (.c (.bool false)))])
 (.ret [.v 0]))
 .skip))
 (.seq (.post (.reg [.op (.fld 4 (.v 2)),
  .op (.ld1 (.v 0)),
  .op (.call 39 [(.v 0)]),
  .nop 0]) [0] 3)
 (.seq (.post (.reg [.op (.fld 5 (.v 3)),
  .op (.ld1 (.v 0)),
  .op (.bin .eql 9 (.v 0) (.c (.string ⟨#[]⟩))),
  .nop 0,
  .opg (.fld 8 (.v 6)) 0 true,
  .opg (.ld1 (.v 0)) 1 true,
  .opg (.len false (.v 0)) 2 true,
  .opg (.bin .eql 3 (.v 0) (.c (.int .i64 0))) 3 true,
  .op (.pick (.v 4) (.v 0) (.c (.bool false))),
  .nop 0]) [0] 8)
 (.seq (.seq (.post (.reg [.op (.fld 1 (.v 4)),
  .op (.ld1 (.v 0))]) [0] 2)
 (.block 0 [[2], [36], [34, 4], [25, 3], [22], [], [1], [0]] (.post (.seq (.reg [.op (.bin .eql 3 (.v 0) (.c (.int .i64 1))),
  .nop 0])
 (.cond (.v 0) (.seq (.post (.reg [.nop 3,
  .nop 3,
  .opg (.mov (.v 2)) 3 true,
  .op (.pick (.v 4) (.v 0) (.c (.bool false))),
  .nop 0,
  .opg (.fld 3 (.v 8)) 0 true,
  .opg (.ld1 (.v 0)) 1 true,
  .opg (.una .not (.v 0)) 2 true,
  .op (.pick (.v 3) (.v 0) (.c (.bool false))),
  .nop 0,
  .opg (.fld 6 (.v 12)) 0 true,
  .opg (.ld1 (.v 0)) 1 true,
  .opg (.fld 7 (.v 14)) 2 true,
  .opg (.ld1 (.v 0)) 3 true,
  .opg (.call 40 [(.v 2), (.v 0)]) 4 true,
  .op (.pick (.v 5) (.v 0) (.c (.bool false))),
  .nop 0,
  .opg (.fld 7 (.v 18)) 0 true,
  .opg (.ld1 (.v 0)) 1 true,
  .opg (.bin .leq 3 (.v 0) (.c (.int .i64 16))) 2 true,
  .op (.pick (.v 3) (.v 0) (.c (.bool false))),
  .nop 0]) [0] 16)
 (.ret [.v 0]))
 (.seq (.reg [.op (.bin .eql 3 (.v 1) (.c (.int .i64 2))),
  .nop 0])
 (.cond (.v 0) (.seq (.post (.reg [.nop 4,
  .nop 4,
  .opg (.fld 5 (.v 7)) 4 true,
  .opg (.ld1 (.v 0)) 5 true,
  .opg (.bin .eql 9 (.v 0) (.c (.string ⟨#[]⟩))) 6 true,
  .op (.pick (.v 7) (.v 0) (.c (.bool false))),
  .nop 0,
  .opg (.fld 6 (.v 11)) 0 true,
  .opg (.ld1 (.v 0)) 1 true,
  .opg (.fld 7 (.v 13)) 2 true,
  .opg (.ld1 (.v 0)) 3 true,
  .opg (.call 40 [(.v 2), (.v 0)]) 4 true,
  .op (.pick (.v 5) (.v 0) (.c (.bool false))),
  .nop 0,
  .opg (.fld 7 (.v 17)) 0 true,
  .opg (.ld1 (.v 0)) 1 true,
  .opg (.bin .leq 3 (.v 0) (.c (.int .i64 16))) 2 true,
  .op (.pick (.v 3) (.v 0) (.c (.bool false))),
  .nop 0,
  .opg (.fld 8 (.v 21)) 0 true,
  .opg (.ld1 (.v 0)) 1 true,
  .opg (.len false (.v 0)) 2 true,
  .opg (.fld 7 (.v 24)) 3 true,
  .opg (.ld1 (.v 0)) 4 true,
  .opg (.bin .eql 3 (.v 2) (.v 0)) 5 true,
  .op (.pick (.v 6) (.v 0) (.c (.bool false))),
  .nop 0]) [0] 21)
 (.ret [.v 0]))
 (.seq (.reg [.op (.bin .eql 3 (.v 2) (.c (.int .i64 3))),
  .nop 0])
 (.cond (.v 0) (.seq (.post (.reg [.nop 5,
  .nop 5,
  .opg (.mov (.v 4)) 5 true,
  .op (.pick (.v 6) (.v 0) (.c (.bool false))),
  .nop 0,
  .opg (.fld 6 (.v 10)) 0 true,
  .opg (.ld1 (.v 0)) 1 true,
  .opg (.fld 7 (.v 12)) 2 true,
  .opg (.ld1 (.v 0)) 3 true,
  .opg (.call 40 [(.v 2), (.v 0)]) 4 true,
  .op (.pick (.v 5) (.v 0) (.c (.bool false))),
  .nop 0]) [0] 8)
 (.ret [.v 0]))
 (.seq (.reg [.op (.bin .eql 3 (.v 3) (.c (.int .i64 4))),
  .nop 0])
 (.cond (.v 0) (.seq (.post (.reg [.op (.fld 4 (.v 9)),
  .op (.ld1 (.v 0)),
  .op (.bin .eql 9 (.v 0) (.c (.string ⟨#[]⟩))),
  .nop 0,
  .opg (.mov (.v 8)) 0 true,
  .op (.pick (.v 1) (.v 0) (.c (.bool false))),
  .nop 0,
  .opg (.fld 3 (.v 14)) 0 true,
  .opg (.ld1 (.v 0)) 1 true,
  .opg (.una .not (.v 0)) 2 true,
  .op (.pick (.v 3) (.v 0) (.c (.bool false))),
  .nop 0,
  .opg (.fld 6 (.v 18)) 0 true,
  .opg (.ld1 (.v 0)) 1 true,
  .opg (.bin .eql 3 (.v 0) (.c (.int .i64 0))) 2 true,
  .op (.pick (.v 3) (.v 0) (.c (.bool false))),
  .nop 0,
  .opg (.fld 7 (.v 22)) 0 true,
  .opg (.ld1 (.v 0)) 1 true,
  .opg (.bin .eql 3 (.v 0) (.c (.int .i64 0))) 2 true,
  .op (.pick (.v 3) (.v 0) (.c (.bool false))),
  .nop 0]) [0] 17)
 (.ret [.v 0]))
 (.seq (.reg [.op (.bin .eql 3 (.v 4) (.c (.int .i64 5))),
  .nop 0])
 (.cond (.v 0) (.seq (.post (.reg [.nop 7,
  .nop 7,
  .opg (.mov (.v 6)) 7 true,
  .op (.pick (.v 8) (.v 0) (.c (.bool false))),
  .nop 0,
  .opg (.fld 3 (.v 12)) 0 true,
  .opg (.ld1 (.v 0)) 1 true,
  .opg (.una .not (.v 0)) 2 true,
  .op (.pick (.v 3) (.v 0) (.c (.bool false))),
  .nop 0,
  .opg (.fld 7 (.v 16)) 0 true,
  .opg (.ld1 (.v 0)) 1 true,
  .opg (.bin .geq 3 (.v 0) (.c (.int .i64 1))) 2 true,
  .op (.pick (.v 3) (.v 0) (.c (.bool false))),
  .nop 0,
  .opg (.fld 7 (.v 20)) 0 true,
  .opg (.ld1 (.v 0)) 1 true,
  .opg (.bin .leq 3 (.v 0) (.c (.int .i64 65536))) 2 true,
  .op (.pick (.v 3) (.v 0) (.c (.bool false))),
  .nop 0,
  .opg (.fld 6 (.v 24)) 0 true,
  .opg (.ld1 (.v 0)) 1 true,
  .opg (.bin .geq 3 (.v 0) (.c (.int .i64 0))) 2 true,
  .op (.pick (.v 3) (.v 0) (.c (.bool false))),
  .nop 0,
  .opg (.fld 6 (.v 28)) 0 true,
  .opg (.ld1 (.v 0)) 1 true,
  .opg (.fld 7 (.v 30)) 2 true,
  .opg (.ld1 (.v 0)) 3 true,
  .opg (.bin .leq 3 (.v 2) (.v 0)) 4 true,
  .op (.pick (.v 5) (.v 0) (.c (.bool false))),
  .nop 0]) [0] 24)
 (.ret [.v 0]))
 (.seq (.reg [.op (.bin .eql 3 (.v 5) (.c (.int .i64 6))),
  .nop 0])
 (.cond (.v 0) (.seq (.post (.reg [.nop 8,
  .nop 8,
  .opg (.fld 5 (.v 11)) 8 true,
  .opg (.ld1 (.v 0)) 9 true,
  .opg (.call 39 [(.v 0)]) 10 true,
  .op (.pick (.v 11) (.v 0) (.c (.bool false))),
  .nop 0,
  .opg (.fld 5 (.v 15)) 0 true,
  .opg (.ld1 (.v 0)) 1 true,
  .opg (.fld 4 (.v 17)) 2 true,
  .opg (.ld1 (.v 0)) 3 true,
  .opg (.bin .neq 9 (.v 2) (.v 0)) 4 true,
  .op (.pick (.v 5) (.v 0) (.c (.bool false))),
  .nop 0,
  .opg (.fld 8 (.v 21)) 0 true,
  .opg (.ld1 (.v 0)) 1 true,
  .opg (.len false (.v 0)) 2 true,
  .opg (.bin .eql 3 (.v 0) (.c (.int .i64 0))) 3 true,
  .op (.pick (.v 4) (.v 0) (.c (.bool false))),
  .nop 0,
  .opg (.fld 3 (.v 26)) 0 true,
  .opg (.ld1 (.v 0)) 1 true,
  .opg (.una .not (.v 0)) 2 true,
  .op (.pick (.v 3) (.v 0) (.c (.bool false))),
  .nop 0,
  .opg (.fld 6 (.v 30)) 0 true,
  .opg (.ld1 (.v 0)) 1 true,
  .opg (.bin .eql 3 (.v 0) (.c (.int .i64 0))) 2 true,
  .op (.pick (.v 3) (.v 0) (.c (.bool false))),
  .nop 0,
  .opg (.fld 7 (.v 34)) 0 true,
  .opg (.ld1 (.v 0)) 1 true,
  .opg (.bin .eql 3 (.v 0) (.c (.int .i64 0))) 2 true,
  .op (.pick (.v 3) (.v 0) (.c (.bool false))),
  .nop 0]) [0] 27)
 (.ret [.v 0]))
 (.seq (.reg [.op (.bin .eql 3 (.v 6) (.c (.int .i64 7))),
  .nop 0])
 (.cond (.v 0) (.seq (.post (.reg [.nop 9,
  .nop 9,
  .opg (.mov (.v 8)) 9 true,
  .op (.pick (.v 10) (.v 0) (.c (.bool false))),
  .nop 0,
  .opg (.fld 3 (.v 14)) 0 true,
  .opg (.ld1 (.v 0)) 1 true,
  .opg (.una .not (.v 0)) 2 true,
  .op (.pick (.v 3) (.v 0) (.c (.bool false))),
  .nop 0,
  .opg (.fld 6 (.v 18)) 0 true,
  .opg (.ld1 (.v 0)) 1 true,
  .opg (.bin .eql 3 (.v 0) (.c (.int .i64 0))) 2 true,
  .op (.pick (.v 3) (.v 0) (.c (.bool false))),
  .nop 0,
  .opg (.fld 7 (.v 22)) 0 true,
  .opg (.ld1 (.v 0)) 1 true,
  .opg (.bin .eql 3 (.v 0) (.c (.int .i64 0))) 2 true,
  .op (.pick (.v 3) (.v 0) (.c (.bool false))),
  .nop 0]) [0] 14)
 (.ret [.v 0]))
 .skip)))))))))))))) [11] 7)))
 (.seq (.reg [.op (.mov (.c (.bool false)))])
 (.ret [.v 0])))))))⟩


/-- tegula/tegularef39.Range -/
def ac33 : AFn := ⟨1, [],
 (.seq (.reg [.op (.box (.v 0)),
  .op (.mov (.c (.string ⟨#[]⟩))),
  .op (.mov (.c (.int .i64 0))),
  .op (.mov (.c (.int .i64 0))),
  .op (.mov (.c (.bool false)))])
 (.seq (.seq (.post (.reg [.op (.ldn 9 (.v 4)),
  .op (.call 32 [(.v 0)]),
  .op (.una .not (.v 0)),
  .nop 0,
  .opg (.fld 1 (.v 7)) 0 false,
  .opg (.ld1 (.v 0)) 1 false,
  .opg (.bin .neq 3 (.v 0) (.c (.int .i64 1))) 2 false,
  .opg (.mov (.v 0)) 3 false,
  .opg (.fld 1 (.v 11)) 0 true,
  .opg (.ld1 (.v 0)) 1 true,
  .opg (.bin .neq 3 (.v 0) (.c (.int .i64 2))) 2 true,
  .opg (.pick (.v 3) (.v 0) (.c (.bool false))) 7 false,
  .opg (.mov (.v 0)) 8 false,
  .opg (.fld 1 (.v 16)) 0 true,
  .opg (.ld1 (.v 0)) 1 true,
  .opg (.bin .neq 3 (.v 0) (.c (.int .i64 3))) 2 true,
  .opg (.pick (.v 3) (.v 0) (.c (.bool false))) 12 false,
  .op (.pick (.v 13) (.c (.bool true)) (.v 0))]) [0] 17)
 (.cond (.v 0) (.seq (.reg [.op (.mov (.c (.string ⟨#[]⟩))),
  .op (.mov (.c (.int .i64 0))),
  .op (.mov (.c (.int .i64 0))),
  .op (.mov (.c (.bool false)))])
 (.ret [.v 3, .v 2, .v 1, .v 0]))
 .skip))
 (.seq (.post (.regD [.op (.fld 4 (.v 5)),
  .op (.ld1 (.v 0)),
  .op (.fld 6 (.v 7)),
  .op (.ld1 (.v 0)),
  .op (.fld 7 (.v 9)),
  .op (.ld1 (.v 0)),
  .nop 4,
  .nop 2,
  .nop 0,
  .op (.mov (.c (.bool true)))] [0, 1, 0, 4, 0, 16, 3, 79, 255, 511]) [0, 1, 3, 5] 7)
 (.ret [.v 3, .v 2, .v 1, .v 0]))))⟩


/-- tegula/tegularef39.names -/
def ac34 : AFn := ⟨2, [],
 (.seq (.reg [.op (.box (.v 0)),
  .op (.mov (.c (.bool false)))])
 (.seq (.post (.reg [.nop 3,
  .op (.bin .neq 9 (.v 3) (.c (.string ⟨#[]⟩))),
  .nop 0,
  .opg (.fld 4 (.v 2)) 0 true,
  .opg (.ld1 (.v 0)) 1 true,
  .opg (.mov (.v 6)) 2 true,
  .opg (.bin .eql 9 (.v 1) (.v 0)) 3 true,
  .opg (.mov (.v 0)) 4 true,
  .opg (.fld 5 (.v 7)) 0 false,
  .opg (.ld1 (.v 0)) 1 false,
  .opg (.mov (.v 11)) 2 false,
  .opg (.bin .eql 9 (.v 1) (.v 0)) 3 false,
  .opg (.pick (.v 4) (.c (.bool true)) (.v 0)) 9 true,
  .op (.pick (.v 10) (.v 0) (.c (.bool false))),
  .nop 0]) [0] 12)
 (.ret [.v 0])))⟩


/-- tegula/command.only -/
def ac35 : AFn := ⟨1, [],
 (.seq (.reg [.op (.box (.v 0)),
  .op (.new [(.int .i64 0), (.int .i64 0), (.int .i64 0), (.bool false), (.string ⟨#[]⟩), (.string ⟨#[]⟩), (.int .i64 0), (.int .i64 0), (.slice none 0 0)])])
 (.seq (.post (.reg [.op (.fld 0 (.v 1)),
  .op (.ld1 (.v 0)),
  .op (.fld 1 (.v 3)),
  .op (.ld1 (.v 0)),
  .op (.fld 2 (.v 5)),
  .op (.ld1 (.v 0)),
  .op (.build [(.int .i64 0), (.int .i64 0), (.int .i64 0), (.bool false), (.string ⟨#[]⟩), (.string ⟨#[]⟩), (.int .i64 0), (.int .i64 0), (.slice none 0 0)] [(0, 1, (.v 4)), (1, 1, (.v 2)), (2, 1, (.v 0))]),
  .eff (.st 9 (.v 7) (.v 0))]) [] 7)
 (.ret [.cells 0 9])))⟩


/-- tegula/command.name -/
def ac36 : AFn := ⟨1, [],
 (.seq (.reg [.op (.mov (.c (.bool false)))])
 (.seq (.seq (.post (.reg [.nop 1,
  .op (.len true (.v 1)),
  .op (.bin .lss 3 (.v 0) (.c (.int .i64 1))),
  .nop 0,
  .opg (.mov (.v 3)) 0 false,
  .opg (.len true (.v 0)) 1 false,
  .opg (.bin .gtr 3 (.v 0) (.c (.int .i64 16))) 2 false,
  .op (.pick (.v 3) (.c (.bool true)) (.v 0)),
  .nop 0,
  .opg (.mov (.v 7)) 0 false,
  .opg (.pur .byte [(.v 0), (.c (.int .i64 0))]) 1 false,
  .opg (.bin .lss 5 (.v 0) (.c (.int .u8 97))) 2 false,
  .op (.pick (.v 3) (.c (.bool true)) (.v 0)),
  .nop 0,
  .opg (.mov (.v 11)) 0 false,
  .opg (.pur .byte [(.v 0), (.c (.int .i64 0))]) 1 false,
  .opg (.bin .gtr 5 (.v 0) (.c (.int .u8 122))) 2 false,
  .op (.pick (.v 3) (.c (.bool true)) (.v 0))]) [0] 14)
 (.cond (.v 0) (.seq (.reg [.op (.mov (.c (.bool false)))])
 (.ret [.v 0]))
 .skip))
 (.seq (.post (.reg [.nop 2,
  .op (.call 41 [(.v 2), (.c (.string ⟨#[97, 98, 99, 100, 101, 102, 103, 104, 105, 106, 107, 108, 109, 110, 111, 112, 113, 114, 115, 116, 117, 118, 119, 120, 121, 122, 48, 49, 50, 51, 52, 53, 54, 55, 56, 57]⟩))]),
  .op (.bin .eql 9 (.v 0) (.c (.string ⟨#[]⟩))),
  .nop 0]) [0] 2)
 (.ret [.v 0]))))⟩


/-- tegula/command.inside -/
def ac37 : AFn := ⟨2, [],
 (.seq (.reg [.op (.mov (.c (.bool false)))])
 (.seq (.post (.reg [.nop 1,
  .op (.bin .geq 3 (.v 1) (.c (.int .i64 0))),
  .nop 0,
  .opg (.mov (.v 3)) 0 true,
  .opg (.bin .geq 3 (.v 0) (.c (.int .i64 1))) 1 true,
  .op (.pick (.v 2) (.v 0) (.c (.bool false))),
  .nop 0,
  .opg (.mov (.v 5)) 0 true,
  .opg (.bin .leq 3 (.v 0) (.c (.int .i64 65536))) 1 true,
  .op (.pick (.v 2) (.v 0) (.c (.bool false))),
  .nop 0,
  .opg (.mov (.v 9)) 0 true,
  .opg (.mov (.v 9)) 1 true,
  .opg (.bin .sub 3 (.c (.int .i64 65536)) (.v 0)) 2 true,
  .opg (.bin .leq 3 (.v 2) (.v 0)) 3 true,
  .op (.pick (.v 4) (.v 0) (.c (.bool false))),
  .nop 0]) [0] 12)
 (.ret [.v 0])))⟩


def ac38L0b : AC :=
 (.post (.seq (.reg [.op (.bin .lss 3 (.v 1) (.v 3))])
 (.seq (.cond (.v 0) .skip
 (.pre [1] 3 (.exit 0)))
 (.seq (.block 1 [[4], [18], [], [17], [], [16], [15], [13], [], [3], [2], [0], [1]] (.post (.seq (.reg [.nop 2,
  .op (.idx 8 (.v 5) (.v 2)),
  .op (.ldn 8 (.v 0)),
  .op (.new [(.int .u8 0), (.int .u8 0), (.int .u8 0), (.int .u8 0), (.int .u8 0), (.int .u8 0), (.int .u8 0), (.int .u8 0)]),
  .nop 5,
  .eff (.st 8 (.v 0) (.v 1))])
 (.seq (.regD [.op (.ldn 8 (.v 0)),
  .op (.fld 8 (.v 12)),
  .op (.ld1 (.v 0)),
  .nop 8,
  .op (.idx 8 (.v 0) (.v 8)),
  .op (.ldn 8 (.v 0)),
  .op (.bin .neq 51 (.v 4) (.v 0))] [0, 0, 2, 0, 14, 30, 63])
 (.cond (.v 0) (.seq (.reg [.op (.mov (.c (.bool false)))])
 (.ret [.v 0]))
 .skip))) [10] 9))
 (.reg [.op (.bin .add 3 (.v 3) (.c (.int .i64 1))),
  .nop 0])))) [1, 0] 5)
def ac38L0 : AC := .loop [[4], [17], [], [16], [15], [13], [], [3], [2], [0], [1]] ac38L0b
/-- tegula/command.same -/
def ac38 : AFn := ⟨2, [],
 (.seq (.reg [.op (.box (.v 0)),
  .op (.box (.v 2)),
  .op (.mov (.c (.bool false)))])
 (.seq (.seq (.post (.reg [.op (.fld 8 (.v 2)),
  .op (.ld1 (.v 0)),
  .op (.len false (.v 0)),
  .op (.fld 8 (.v 4)),
  .op (.ld1 (.v 0)),
  .op (.len false (.v 0)),
  .op (.bin .neq 3 (.v 3) (.v 0))]) [0] 7)
 (.cond (.v 0) (.seq (.reg [.op (.mov (.c (.bool false)))])
 (.ret [.v 0]))
 .skip))
 (.seq (.seq (.post (.reg [.op (.fld 8 (.v 3)),
  .op (.ld1 (.v 0)),
  .op (.len false (.v 0)),
  .op (.mov (.c (.int .i64 0)))]) [0, 1, 2] 4)
 (.block 0 [[4], [], [16], [15], [13], [], [3], [2], [0], [1]] (.pre [4, 0] 0 ac38L0)))
 (.seq (.post (.reg [.op (.fld 0 (.v 7)),
  .op (.ld1 (.v 0)),
  .op (.fld 0 (.v 8)),
  .op (.ld1 (.v 0)),
  .op (.bin .eql 3 (.v 2) (.v 0)),
  .nop 0,
  .opg (.fld 1 (.v 12)) 0 true,
  .opg (.ld1 (.v 0)) 1 true,
  .opg (.fld 1 (.v 13)) 2 true,
  .opg (.ld1 (.v 0)) 3 true,
  .opg (.bin .eql 3 (.v 2) (.v 0)) 4 true,
  .op (.pick (.v 5) (.v 0) (.c (.bool false))),
  .nop 0,
  .opg (.fld 2 (.v 18)) 0 true,
  .opg (.ld1 (.v 0)) 1 true,
  .opg (.fld 2 (.v 19)) 2 true,
  .opg (.ld1 (.v 0)) 3 true,
  .opg (.bin .eql 3 (.v 2) (.v 0)) 4 true,
  .op (.pick (.v 5) (.v 0) (.c (.bool false))),
  .nop 0,
  .opg (.fld 3 (.v 24)) 0 true,
  .opg (.ld1 (.v 0)) 1 true,
  .opg (.fld 3 (.v 25)) 2 true,
  .opg (.ld1 (.v 0)) 3 true,
  .opg (.bin .eql 4 (.v 2) (.v 0)) 4 true,
  .op (.pick (.v 5) (.v 0) (.c (.bool false))),
  .nop 0,
  .opg (.fld 4 (.v 30)) 0 true,
  .opg (.ld1 (.v 0)) 1 true,
  .opg (.fld 4 (.v 31)) 2 true,
  .opg (.ld1 (.v 0)) 3 true,
  .opg (.bin .eql 9 (.v 2) (.v 0)) 4 true,
  .op (.pick (.v 5) (.v 0) (.c (.bool false))),
  .nop 0,
  .opg (.fld 5 (.v 36)) 0 true,
  .opg (.ld1 (.v 0)) 1 true,
  .opg (.fld 5 (.v 37)) 2 true,
  .opg (.ld1 (.v 0)) 3 true,
  .opg (.bin .eql 9 (.v 2) (.v 0)) 4 true,
  .op (.pick (.v 5) (.v 0) (.c (.bool false))),
  .nop 0,
  .opg (.fld 6 (.v 42)) 0 true,
  .opg (.ld1 (.v 0)) 1 true,
  .opg (.fld 6 (.v 43)) 2 true,
  .opg (.ld1 (.v 0)) 3 true,
  .opg (.bin .eql 3 (.v 2) (.v 0)) 4 true,
  .op (.pick (.v 5) (.v 0) (.c (.bool false))),
  .nop 0,
  .opg (.fld 7 (.v 48)) 0 true,
  .opg (.ld1 (.v 0)) 1 true,
  .opg (.fld 7 (.v 49)) 2 true,
  .opg (.ld1 (.v 0)) 3 true,
  .opg (.bin .eql 3 (.v 2) (.v 0)) 4 true,
  .op (.pick (.v 5) (.v 0) (.c (.bool false))),
  .nop 0]) [0] 47)
 (.ret [.v 0])))))⟩


def ac39L0b : AC :=
 (.post (.seq (.seq (.reg [.nop 1,
  .nop 5,
  .op (.len true (.v 5)),
  .op (.bin .lss 3 (.v 2) (.v 0))])
 (.cond (.v 0) .skip
 (.pre [2] 4 (.exit 0))))
 (.seq (.block 1 [[2], [16], [15], [], [3, 13], [], [12], [], [0, 5, 14]] (.post (.seq (.reg [.nop 7,
  .nop 3,
  .op (.pur .byte [(.v 7), (.v 3)]),
  .op (.bin .geq 5 (.v 0) (.c (.int .u8 97))),
  .nop 0,
  .opg (.mov (.v 9)) 0 true,
  .opg (.mov (.v 6)) 1 true,
  .opg (.pur .byte [(.v 1), (.v 0)]) 2 true,
  .opg (.bin .leq 5 (.v 0) (.c (.int .u8 122))) 3 true,
  .op (.pick (.v 4) (.v 0) (.c (.bool false))),
  .nop 0])
 (.seq (.reg [.nop 0,
  .op (.una .not (.v 0)),
  .nop 0,
  .opg (.mov (.v 11)) 0 true,
  .opg (.bin .eql 3 (.v 0) (.c (.int .i64 0))) 1 true,
  .opg (.mov (.v 0)) 2 true,
  .opg (.mov (.v 18)) 0 false,
  .opg (.mov (.v 15)) 1 false,
  .opg (.pur .byte [(.v 1), (.v 0)]) 2 false,
  .opg (.bin .lss 5 (.v 0) (.c (.int .u8 48))) 3 false,
  .opg (.pick (.v 4) (.c (.bool true)) (.v 0)) 7 true,
  .opg (.mov (.v 0)) 8 true,
  .opg (.mov (.v 24)) 0 false,
  .opg (.mov (.v 21)) 1 false,
  .opg (.pur .byte [(.v 1), (.v 0)]) 2 false,
  .opg (.bin .gtr 5 (.v 0) (.c (.int .u8 57))) 3 false,
  .opg (.pick (.v 4) (.c (.bool true)) (.v 0)) 13 true,
  .op (.pick (.v 14) (.v 0) (.c (.bool false)))])
 (.cond (.v 0) (.seq (.reg [.op (.mov (.c (.bool false)))])
 (.ret [.v 0]))
 .skip))) [25] 23))
 (.reg [.nop 4,
  .op (.bin .add 3 (.v 4) (.c (.int .i64 1))),
  .nop 0]))) [1, 0] 6)
def ac39L0 : AC := .loop [[2], [3], [], [12], [], [0, 5]] ac39L0b
/-- tegula/tegularef39.Name -/
def ac39 : AFn := ⟨1, [],
 (.seq (.reg [.op (.mov (.c (.bool false)))])
 (.seq (.seq (.post (.reg [.nop 1,
  .op (.len true (.v 1)),
  .op (.bin .lss 3 (.v 0) (.c (.int .i64 1))),
  .nop 0,
  .opg (.mov (.v 3)) 0 false,
  .opg (.len true (.v 0)) 1 false,
  .opg (.bin .gtr 3 (.v 0) (.c (.int .i64 16))) 2 false,
  .op (.pick (.v 3) (.c (.bool true)) (.v 0))]) [0] 6)
 (.cond (.v 0) (.seq (.reg [.op (.mov (.c (.bool false)))])
 (.ret [.v 0]))
 .skip))
 (.seq (.seq (.reg [.op (.mov (.c (.int .i64 0)))])
 (.block 0 [[2], [], [12], [], [0, 5]] (.pre [2, 0] 0 ac39L0)))
 (.seq (.reg [.op (.mov (.c (.bool true)))])
 (.ret [.v 0])))))⟩


/-- tegula/tegularef39.within -/
def ac40 : AFn := ⟨2, [],
 (.seq (.reg [.op (.mov (.c (.bool false)))])
 (.seq (.post (.reg [.nop 1,
  .op (.bin .geq 3 (.v 1) (.c (.int .i64 0))),
  .nop 0,
  .opg (.mov (.v 3)) 0 true,
  .opg (.bin .geq 3 (.v 0) (.c (.int .i64 1))) 1 true,
  .op (.pick (.v 2) (.v 0) (.c (.bool false))),
  .nop 0,
  .opg (.mov (.v 5)) 0 true,
  .opg (.bin .leq 3 (.v 0) (.c (.int .i64 65536))) 1 true,
  .op (.pick (.v 2) (.v 0) (.c (.bool false))),
  .nop 0,
  .opg (.mov (.v 9)) 0 true,
  .opg (.bin .leq 3 (.v 0) (.c (.int .i64 65536))) 1 true,
  .op (.pick (.v 2) (.v 0) (.c (.bool false))),
  .nop 0,
  .opg (.mov (.v 11)) 0 true,
  .opg (.mov (.v 13)) 1 true,
  .opg (.bin .add 3 (.v 1) (.v 0)) 2 true,
  .opg (.bin .leq 3 (.v 0) (.c (.int .i64 65536))) 3 true,
  .op (.pick (.v 4) (.v 0) (.c (.bool false))),
  .nop 0]) [0] 15)
 (.ret [.v 0])))⟩


/-- strings.Trim -/
def ac41 : AFn := ⟨2, [],
 (.seq (.reg [.op (.mov (.c (.string ⟨#[]⟩)))])
 (.seq (.seq (.post (.reg [.nop 1,
  .op (.bin .eql 9 (.v 1) (.c (.string ⟨#[]⟩))),
  .nop 0,
  .opg (.mov (.v 3)) 0 false,
  .opg (.bin .eql 9 (.v 0) (.c (.string ⟨#[]⟩))) 1 false,
  .op (.pick (.v 2) (.c (.bool true)) (.v 0))]) [0] 4)
 (.cond (.v 0) (.seq (.reg [.nop 2,
  .nop 2])
 (.ret [.v 2]))
 .skip))
 (.seq (.seq (.post (.reg [.nop 3,
  .op (.len true (.v 3)),
  .op (.bin .eql 3 (.v 0) (.c (.int .i64 1))),
  .nop 0,
  .opg (.mov (.v 5)) 0 true,
  .opg (.pur .byte [(.v 0), (.c (.int .i64 0))]) 1 true,
  .opg (.bin .lss 5 (.v 0) (.c (.int .u8 128))) 2 true,
  .op (.pick (.v 3) (.v 0) (.c (.bool false)))]) [0] 6)
 (.cond (.v 0) (.seq (.post (.regD [.nop 3,
  .nop 4,
  .op (.pur .byte [(.v 4), (.c (.int .i64 0))]),
  .op (.call 43 [(.v 4), (.v 0)]),
  .nop 6,
  .op (.pur .byte [(.v 6), (.c (.int .i64 0))]),
  .op (.call 42 [(.v 1), (.v 0)]),
  .nop 0] [0, 0, 2, 7, 0, 16, 63, 127]) [0] 4)
 (.ret [.v 0]))
 .skip))
 (.seq (.seq (.post (.reg [.nop 4,
  .op (.call 44 [(.v 4)]),
  .nop 0,
  .op (.extr 0 (.v 0)),
  .op (.extr 1 (.v 1)),
  .op (.new (List.replicate 256 (.bool false))),
  .eff (.st 256 (.v 0) (.v 2)),
  .nop 1]) [0, 1] 4)
 (.seq (.reg [.nop 1])
 (.cond (.v 1) (.seq (.post (.reg [.nop 5,
  .op (.call 46 [(.v 5), (.v 0)]),
  .op (.call 45 [(.v 0), (.v 1)]),
  .nop 0]) [0] 2)
 (.ret [.v 0]))
 .skip)))
 (.seq (.post (.reg [.nop 5,
  .nop 6,
  .op (.call 48 [(.v 5), (.v 6)]),
  .nop 7,
  .op (.call 47 [(.v 0), (.v 7)]),
  .nop 0]) [0] 2)
 (.ret [.v 0]))))))⟩


def ac42L0b : AC :=
 (.post (.seq (.seq (.reg [.nop 0,
  .op (.len true (.v 0)),
  .op (.bin .gtr 3 (.v 0) (.c (.int .i64 0))),
  .nop 0,
  .opg (.mov (.v 2)) 0 true,
  .opg (.pur .byte [(.v 0), (.c (.int .i64 0))]) 1 true,
  .opg (.mov (.v 7)) 2 true,
  .opg (.bin .eql 5 (.v 1) (.v 0)) 3 true,
  .op (.pick (.v 4) (.v 0) (.c (.bool false)))])
 (.cond (.v 0) .skip
 (.pre [7] 8 (.exit 0))))
 (.block 1 [[0], [13], [12], [11], [10], [9], [7, 8], [6], [5], [4], [], [1]] (.reg [.nop 7,
  .op (.pur .subl [(.v 7), (.c (.int .i64 1))]),
  .nop 0]))) [0] 9)
def ac42L0 : AC := .loop [[0], [4], [], [1]] ac42L0b
/-- strings.trimLeftByte -/
def ac42 : AFn := ⟨2, [],
 (.seq (.reg [.op (.mov (.c (.string ⟨#[]⟩)))])
 (.seq (.block 0 [[0], [4], [], [1]] (.pre [1] 0 ac42L0))
 (.seq (.reg [.nop 0,
  .nop 0])
 (.ret [.v 0]))))⟩


def ac43L0b : AC :=
 (.post (.seq (.seq (.reg [.nop 0,
  .op (.len true (.v 0)),
  .op (.bin .gtr 3 (.v 0) (.c (.int .i64 0))),
  .nop 0,
  .opg (.mov (.v 2)) 0 true,
  .opg (.mov (.v 3)) 1 true,
  .opg (.len true (.v 0)) 2 true,
  .opg (.bin .sub 3 (.v 0) (.c (.int .i64 1))) 3 true,
  .opg (.pur .byte [(.v 3), (.v 0)]) 4 true,
  .opg (.mov (.v 10)) 5 true,
  .opg (.bin .eql 5 (.v 1) (.v 0)) 6 true,
  .op (.pick (.v 7) (.v 0) (.c (.bool false)))])
 (.cond (.v 0) .skip
 (.pre [10] 11 (.exit 0))))
 (.block 1 [[0], [16], [15], [14], [13], [12], [11], [10], [9], [7, 8], [6], [5], [4], [], [1]] (.post (.reg [.nop 10,
  .nop 10,
  .op (.len true (.v 10)),
  .op (.bin .sub 3 (.v 0) (.c (.int .i64 1))),
  .op (.pur .subh [(.v 12), (.v 0)]),
  .nop 0]) [0] 3))) [0] 12)
def ac43L0 : AC := .loop [[0], [4], [], [1]] ac43L0b
/-- strings.trimRightByte -/
def ac43 : AFn := ⟨2, [],
 (.seq (.reg [.op (.mov (.c (.string ⟨#[]⟩)))])
 (.seq (.block 0 [[0], [4], [], [1]] (.pre [1] 0 ac43L0))
 (.seq (.reg [.nop 0,
  .nop 0])
 (.ret [.v 0]))))⟩


def ac44L0b : AC :=
 (.post (.seq (.seq (.reg [.nop 1,
  .nop 5,
  .op (.len true (.v 5)),
  .op (.bin .lss 3 (.v 2) (.v 0))])
 (.cond (.v 0) .skip
 (.pre [2] 4 (.exit 0))))
 (.seq (.block 1 [[3], [9], [8], [], [4, 6], [], [], [2], [0, 7]] (.post (.seq (.reg [.nop 7,
  .nop 3,
  .op (.pur .byte [(.v 7), (.v 3)]),
  .nop 0])
 (.seq (.seq (.reg [.nop 0,
  .op (.bin .geq 5 (.v 0) (.c (.int .u8 128)))])
 (.cond (.v 0) (.seq (.reg [.op (.ldn 256 (.v 8)),
  .eff (.st 256 (.v 9) (.v 0)),
  .op (.mov (.c (.bool false)))])
 (.ret [.cells 10 256, .v 0]))
 .skip))
 (.reg [.nop 1,
  .op (.ida 256 1 (.v 8) (.v 1)),
  .eff (.st 1 (.v 0) (.c (.bool true)))]))) [5] 3))
 (.reg [.nop 4,
  .op (.bin .add 3 (.v 4) (.c (.int .i64 1))),
  .nop 0]))) [1, 0] 6)
def ac44L0 : AC := .loop [[3], [4], [], [], [2], [0]] ac44L0b
/-- strings.makeASCIISet -/
def ac44 : AFn := ⟨1, [],
 (.seq (.reg [.op (.new (List.replicate 256 (.bool false))),
  .op (.mov (.c (.bool false)))])
 (.seq (.seq (.reg [.op (.mov (.c (.int .i64 0)))])
 (.block 0 [[3], [], [], [2], [0]] (.pre [1, 0] 0 ac44L0)))
 (.seq (.post (.reg [.op (.ldn 256 (.v 3)),
  .eff (.st 256 (.v 4) (.v 0)),
  .op (.mov (.c (.bool true)))]) [0] 2)
 (.ret [.cells 4 256, .v 0]))))⟩


def ac45L0b : AC :=
 (.post (.seq (.seq (.reg [.nop 0,
  .op (.len true (.v 0)),
  .op (.bin .gtr 3 (.v 0) (.c (.int .i64 0)))])
 (.cond (.v 0) .skip
 (.pre [2] 3 (.exit 0))))
 (.block 1 [[0], [7], [6], [5], [4], [], [1]] (.post (.seq (.seq (.reg [.nop 5,
  .nop 2,
  .op (.pur .byte [(.v 2), (.c (.int .i64 0))]),
  .op (.call 49 [(.v 6), (.v 0)]),
  .op (.una .not (.v 0))])
 (.cond (.v 0) (.pre [5] 6 (.exit 0))
 .skip))
 (.reg [.nop 5,
  .op (.pur .subl [(.v 5), (.c (.int .i64 1))]),
  .nop 0])) [0] 4))) [0] 4)
def ac45L0 : AC := .loop [[0], [4], [], [1]] ac45L0b
/-- strings.trimLeftASCII -/
def ac45 : AFn := ⟨2, [],
 (.seq (.reg [.op (.mov (.c (.string ⟨#[]⟩)))])
 (.seq (.block 0 [[0], [4], [], [1]] (.pre [1] 0 ac45L0))
 (.seq (.reg [.nop 0,
  .nop 0])
 (.ret [.v 0]))))⟩


def ac46L0b : AC :=
 (.post (.seq (.seq (.reg [.nop 0,
  .op (.len true (.v 0)),
  .op (.bin .gtr 3 (.v 0) (.c (.int .i64 0)))])
 (.cond (.v 0) .skip
 (.pre [2] 3 (.exit 0))))
 (.block 1 [[0], [7], [6], [5], [4], [], [1]] (.post (.seq (.seq (.reg [.nop 5,
  .nop 2,
  .nop 2,
  .op (.len true (.v 2)),
  .op (.bin .sub 3 (.v 0) (.c (.int .i64 1))),
  .op (.pur .byte [(.v 4), (.v 0)]),
  .op (.call 49 [(.v 8), (.v 0)]),
  .op (.una .not (.v 0))])
 (.cond (.v 0) (.pre [7] 8 (.exit 0))
 .skip))
 (.reg [.nop 7,
  .nop 7,
  .op (.len true (.v 7)),
  .op (.bin .sub 3 (.v 0) (.c (.int .i64 1))),
  .op (.pur .subh [(.v 9), (.v 0)]),
  .nop 0])) [0] 8))) [0] 4)
def ac46L0 : AC := .loop [[0], [4], [], [1]] ac46L0b
/-- strings.trimRightASCII -/
def ac46 : AFn := ⟨2, [],
 (.seq (.reg [.op (.mov (.c (.string ⟨#[]⟩)))])
 (.seq (.block 0 [[0], [4], [], [1]] (.pre [1] 0 ac46L0))
 (.seq (.reg [.nop 0,
  .nop 0])
 (.ret [.v 0]))))⟩


def ac47L0b : AC :=
 (.post (.seq (.seq (.reg [.nop 0,
  .op (.len true (.v 0)),
  .op (.bin .gtr 3 (.v 0) (.c (.int .i64 0)))])
 (.cond (.v 0) .skip
 (.pre [2] 3 (.exit 0))))
 (.block 1 [[0], [9], [8], [7], [4], [], [1]] (.post (.seq (.reg [.nop 2,
  .op (.call 50 [(.v 2)]),
  .nop 0,
  .op (.extr 0 (.v 0)),
  .op (.extr 1 (.v 1)),
  .nop 1,
  .nop 0])
 (.seq (.seq (.reg [.nop 8,
  .nop 1,
  .op (.call 51 [(.v 8), (.v 1)]),
  .op (.una .not (.v 0))])
 (.cond (.v 0) (.pre [7] 8 (.exit 0))
 .skip))
 (.reg [.nop 7,
  .nop 2,
  .op (.pur .subl [(.v 7), (.v 2)]),
  .nop 0]))) [0] 6))) [0] 4)
def ac47L0 : AC := .loop [[0], [4], [], [1]] ac47L0b
/-- strings.trimLeftUnicode -/
def ac47 : AFn := ⟨2, [],
 (.seq (.reg [.op (.mov (.c (.string ⟨#[]⟩)))])
 (.seq (.block 0 [[0], [4], [], [1]] (.pre [1] 0 ac47L0))
 (.seq (.reg [.nop 0,
  .nop 0])
 (.ret [.v 0]))))⟩


def ac48L0b : AC :=
 (.post (.seq (.seq (.reg [.nop 0,
  .op (.len true (.v 0)),
  .op (.bin .gtr 3 (.v 0) (.c (.int .i64 0)))])
 (.cond (.v 0) .skip
 (.pre [2] 3 (.exit 0))))
 (.block 1 [[0], [9], [8], [7], [4], [], [1]] (.post (.seq (.reg [.nop 2,
  .nop 2,
  .op (.len true (.v 2)),
  .op (.bin .sub 3 (.v 0) (.c (.int .i64 1))),
  .op (.pur .byte [(.v 4), (.v 0)]),
  .op (.conv .i32 (.v 0)),
  .nop 0,
  .op (.mov (.c (.int .i64 1)))])
 (.seq (.seq (.reg [.nop 1,
  .op (.bin .geq 21 (.v 1) (.c (.int .i32 128)))])
 (.cond (.v 0) (.post (.reg [.nop 8,
  .op (.call 52 [(.v 8)]),
  .nop 0,
  .op (.extr 0 (.v 0)),
  .op (.extr 1 (.v 1)),
  .nop 1,
  .nop 0]) [1, 0] 3)
 (.post .skip [2, 1] 0)))
 (.seq (.seq (.reg [.nop 13,
  .nop 0,
  .op (.call 51 [(.v 13), (.v 0)]),
  .op (.una .not (.v 0))])
 (.cond (.v 0) (.pre [12] 13 (.exit 0))
 .skip))
 (.reg [.nop 12,
  .nop 12,
  .op (.len true (.v 12)),
  .nop 4,
  .op (.bin .sub 3 (.v 0) (.v 4)),
  .op (.pur .subh [(.v 14), (.v 0)]),
  .nop 0])))) [0] 13))) [0] 4)
def ac48L0 : AC := .loop [[0], [4], [], [1]] ac48L0b
/-- strings.trimRightUnicode -/
def ac48 : AFn := ⟨2, [],
 (.seq (.reg [.op (.mov (.c (.string ⟨#[]⟩)))])
 (.seq (.block 0 [[0], [4], [], [1]] (.pre [1] 0 ac48L0))
 (.seq (.reg [.nop 0,
  .nop 0])
 (.ret [.v 0]))))⟩


/-- (*strings.asciiSet).contains -/
def ac49 : AFn := ⟨2, [],
 (.seq (.reg [.op (.mov (.c (.bool false)))])
 (.seq (.post (.reg [.nop 1,
  .nop 2,
  .op (.nilck (.v 1)),
  .op (.ida 256 1 (.v 0) (.v 3)),
  .op (.ld1 (.v 0)),
  .nop 0]) [0] 3)
 (.ret [.v 0])))⟩


theorem chk3 : chkFn Proofs.Tryd.prog Proofs.Tryd.f3 ac3 = true := by kernel_rfl
theorem chk4 : chkFn Proofs.Tryd.prog Proofs.Tryd.f4 ac4 = true := by kernel_rfl
theorem chk5 : chkFn Proofs.Tryd.prog Proofs.Tryd.f5 ac5 = true := by kernel_rfl
theorem chk6 : chkFn Proofs.Tryd.prog Proofs.Tryd.f6 ac6 = true := by kernel_rfl
theorem chk7 : chkFn Proofs.Tryd.prog Proofs.Tryd.f7 ac7 = true := by kernel_rfl
theorem chk8 : chkFn Proofs.Tryd.prog Proofs.Tryd.f8 ac8 = true := by kernel_rfl
theorem chk9 : chkFn Proofs.Tryd.prog Proofs.Tryd.f9 ac9 = true := by kernel_rfl
theorem chk10 : chkFn Proofs.Tryd.prog Proofs.Tryd.f10 ac10 = true := by kernel_rfl
theorem chk11 : chkFn Proofs.Tryd.prog Proofs.Tryd.f11 ac11 = true := by kernel_rfl
theorem chk12 : chkFn Proofs.Tryd.prog Proofs.Tryd.f12 ac12 = true := by kernel_rfl
theorem chk13 : chkFn Proofs.Tryd.prog Proofs.Tryd.f13 ac13 = true := by kernel_rfl
theorem chk14 : chkFn Proofs.Tryd.prog Proofs.Tryd.f14 ac14 = true := by kernel_rfl
theorem chk15 : chkFn Proofs.Tryd.prog Proofs.Tryd.f15 ac15 = true := by kernel_rfl
theorem chk16 : chkFn Proofs.Tryd.prog Proofs.Tryd.f16 ac16 = true := by kernel_rfl
theorem chk17 : chkFn Proofs.Tryd.prog Proofs.Tryd.f17 ac17 = true := by kernel_rfl
theorem chk18 : chkFn Proofs.Tryd.prog Proofs.Tryd.f18 ac18 = true := by kernel_rfl
theorem chk19 : chkFn Proofs.Tryd.prog Proofs.Tryd.f19 ac19 = true := by kernel_rfl
theorem chk20 : chkFn Proofs.Tryd.prog Proofs.Tryd.f20 ac20 = true := by kernel_rfl
theorem chk21 : chkFn Proofs.Tryd.prog Proofs.Tryd.f21 ac21 = true := by kernel_rfl
theorem chk22 : chkFn Proofs.Tryd.prog Proofs.Tryd.f22 ac22 = true := by kernel_rfl
theorem chk23 : chkFn Proofs.Tryd.prog Proofs.Tryd.f23 ac23 = true := by kernel_rfl
theorem chk24 : chkFn Proofs.Tryd.prog Proofs.Tryd.f24 ac24 = true := by kernel_rfl
theorem chk25 : chkFn Proofs.Tryd.prog Proofs.Tryd.f25 ac25 = true := by kernel_rfl
theorem chk26 : chkFn Proofs.Tryd.prog Proofs.Tryd.f26 ac26 = true := by kernel_rfl
theorem chk27 : chkFn Proofs.Tryd.prog Proofs.Tryd.f27 ac27 = true := by kernel_rfl
theorem chk28 : chkFn Proofs.Tryd.prog Proofs.Tryd.f28 ac28 = true := by kernel_rfl
theorem chk29 : chkFn Proofs.Tryd.prog Proofs.Tryd.f29 ac29 = true := by kernel_rfl
theorem chk30 : chkFn Proofs.Tryd.prog Proofs.Tryd.f30 ac30 = true := by kernel_rfl
theorem chk31 : chkFn Proofs.Tryd.prog Proofs.Tryd.f31 ac31 = true := by kernel_rfl
theorem chk32 : chkFn Proofs.Tryd.prog Proofs.Tryd.f32 ac32 = true := by kernel_rfl
theorem chk33 : chkFn Proofs.Tryd.prog Proofs.Tryd.f33 ac33 = true := by kernel_rfl
theorem chk34 : chkFn Proofs.Tryd.prog Proofs.Tryd.f34 ac34 = true := by kernel_rfl
theorem chk35 : chkFn Proofs.Tryd.prog Proofs.Tryd.f35 ac35 = true := by kernel_rfl
theorem chk36 : chkFn Proofs.Tryd.prog Proofs.Tryd.f36 ac36 = true := by kernel_rfl
theorem chk37 : chkFn Proofs.Tryd.prog Proofs.Tryd.f37 ac37 = true := by kernel_rfl
theorem chk38 : chkFn Proofs.Tryd.prog Proofs.Tryd.f38 ac38 = true := by kernel_rfl
theorem chk39 : chkFn Proofs.Tryd.prog Proofs.Tryd.f39 ac39 = true := by kernel_rfl
theorem chk40 : chkFn Proofs.Tryd.prog Proofs.Tryd.f40 ac40 = true := by kernel_rfl
theorem chk41 : chkFn Proofs.Tryd.prog Proofs.Tryd.f41 ac41 = true := by kernel_rfl
theorem chk42 : chkFn Proofs.Tryd.prog Proofs.Tryd.f42 ac42 = true := by kernel_rfl
theorem chk43 : chkFn Proofs.Tryd.prog Proofs.Tryd.f43 ac43 = true := by kernel_rfl
theorem chk44 : chkFn Proofs.Tryd.prog Proofs.Tryd.f44 ac44 = true := by kernel_rfl
theorem chk45 : chkFn Proofs.Tryd.prog Proofs.Tryd.f45 ac45 = true := by kernel_rfl
theorem chk46 : chkFn Proofs.Tryd.prog Proofs.Tryd.f46 ac46 = true := by kernel_rfl
theorem chk47 : chkFn Proofs.Tryd.prog Proofs.Tryd.f47 ac47 = true := by kernel_rfl
theorem chk48 : chkFn Proofs.Tryd.prog Proofs.Tryd.f48 ac48 = true := by kernel_rfl
theorem chk49 : chkFn Proofs.Tryd.prog Proofs.Tryd.f49 ac49 = true := by kernel_rfl
noncomputable def tab : List (Nat × AFn) := [(3, ac3), (4, ac4), (5, ac5), (6, ac6), (7, ac7), (8, ac8), (9, ac9), (10, ac10), (11, ac11), (12, ac12), (13, ac13), (14, ac14), (15, ac15), (16, ac16), (17, ac17), (18, ac18), (19, ac19), (20, ac20), (21, ac21), (22, ac22), (23, ac23), (24, ac24), (25, ac25), (26, ac26), (27, ac27), (28, ac28), (29, ac29), (30, ac30), (31, ac31), (32, ac32), (33, ac33), (34, ac34), (35, ac35), (36, ac36), (37, ac37), (38, ac38), (39, ac39), (40, ac40), (41, ac41), (42, ac42), (43, ac43), (44, ac44), (45, ac45), (46, ac46), (47, ac47), (48, ac48), (49, ac49)]
theorem good : Good Proofs.Tryd.prog tab := (.cons Proofs.Tryd.func3 chk3 (.cons Proofs.Tryd.func4 chk4 (.cons Proofs.Tryd.func5 chk5 (.cons Proofs.Tryd.func6 chk6 (.cons Proofs.Tryd.func7 chk7 (.cons Proofs.Tryd.func8 chk8 (.cons Proofs.Tryd.func9 chk9 (.cons Proofs.Tryd.func10 chk10 (.cons Proofs.Tryd.func11 chk11 (.cons Proofs.Tryd.func12 chk12 (.cons Proofs.Tryd.func13 chk13 (.cons Proofs.Tryd.func14 chk14 (.cons Proofs.Tryd.func15 chk15 (.cons Proofs.Tryd.func16 chk16 (.cons Proofs.Tryd.func17 chk17 (.cons Proofs.Tryd.func18 chk18 (.cons Proofs.Tryd.func19 chk19 (.cons Proofs.Tryd.func20 chk20 (.cons Proofs.Tryd.func21 chk21 (.cons Proofs.Tryd.func22 chk22 (.cons Proofs.Tryd.func23 chk23 (.cons Proofs.Tryd.func24 chk24 (.cons Proofs.Tryd.func25 chk25 (.cons Proofs.Tryd.func26 chk26 (.cons Proofs.Tryd.func27 chk27 (.cons Proofs.Tryd.func28 chk28 (.cons Proofs.Tryd.func29 chk29 (.cons Proofs.Tryd.func30 chk30 (.cons Proofs.Tryd.func31 chk31 (.cons Proofs.Tryd.func32 chk32 (.cons Proofs.Tryd.func33 chk33 (.cons Proofs.Tryd.func34 chk34 (.cons Proofs.Tryd.func35 chk35 (.cons Proofs.Tryd.func36 chk36 (.cons Proofs.Tryd.func37 chk37 (.cons Proofs.Tryd.func38 chk38 (.cons Proofs.Tryd.func39 chk39 (.cons Proofs.Tryd.func40 chk40 (.cons Proofs.Tryd.func41 chk41 (.cons Proofs.Tryd.func42 chk42 (.cons Proofs.Tryd.func43 chk43 (.cons Proofs.Tryd.func44 chk44 (.cons Proofs.Tryd.func45 chk45 (.cons Proofs.Tryd.func46 chk46 (.cons Proofs.Tryd.func47 chk47 (.cons Proofs.Tryd.func48 chk48 (.cons Proofs.Tryd.func49 chk49 .nil)))))))))))))))))))))))))))))))))))))))))))))))
end Go.Am.C40
