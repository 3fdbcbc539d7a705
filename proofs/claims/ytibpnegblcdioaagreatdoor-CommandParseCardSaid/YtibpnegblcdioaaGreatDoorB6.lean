/- The machine and its runs, part 6: Az39. -/
import Derived.Test.YtibpnegblcdioaaGreatDoorProg
import Derived.Test.YtibpnegblcdioaaGreatDoorB5
set_option linter.unusedVariables false
set_option linter.unusedSimpArgs false
set_option linter.unusedSectionVars false
set_option maxRecDepth 1000000
namespace Go.Am.C39
open Go Go.Am
def ac3 : AFn := ⟨1, [],
 (.seq (.reg [.op (.mov (.c (.bool false)))])
 (.seq (.seq (.post (.reg [.op (.call 4 []),
  .op (.una .not (.v 0)),
  .nop 0,
  .opg (.mov (.v 3)) 0 false,
  .opg (.len true (.v 0)) 1 false,
  .opg (.bin .gtr 3 (.v 0) (.c (.int .i64 400))) 2 false,
  .op (.pick (.v 3) (.c (.bool true)) (.v 0))]) [0] 6)
 (.cond (.v 0) (.seq (.reg [.op (.call 4 []),
  .nop 0])
 (.ret [.v 0]))
 .skip))
 (.seq (.post (.reg [.nop 2,
  .op (.call 5 [(.v 2)]),
  .nop 0,
  .op (.extr 0 (.v 0)),
  .op (.extr 1 (.v 1)),
  .op (.new [(.int .i64 0), (.int .i64 0), (.int .i64 0), (.bool false), (.string ⟨#[]⟩), (.string ⟨#[]⟩), (.int .i64 0), (.int .i64 0), (.slice none 0 0)]),
  .eff (.st 9 (.v 0) (.v 2)),
  .nop 1]) [0, 1] 4)
 (.seq (.post (.reg [.nop 4,
  .op (.call 6 [(.v 4)]),
  .nop 0,
  .op (.extr 0 (.v 0)),
  .op (.extr 1 (.v 1)),
  .op (.new [(.int .i64 0), (.int .i64 0), (.int .i64 0), (.bool false), (.string ⟨#[]⟩), (.string ⟨#[]⟩), (.int .i64 0), (.int .i64 0), (.slice none 0 0)]),
  .eff (.st 9 (.v 0) (.v 2)),
  .nop 1]) [0, 1] 4)
 (.seq (.post (.reg [.nop 3,
  .nop 1,
  .op (.bin .eql 26 (.v 3) (.v 1)),
  .nop 0,
  .opg (.ldn 9 (.v 3)) 0 true,
  .opg (.ldn 9 (.v 2)) 1 true,
  .opg (.call 7 [(.v 1), (.v 0)]) 2 true,
  .op (.pick (.v 3) (.v 0) (.c (.bool false))),
  .nop 0,
  .opg (.mov (.v 8)) 0 true,
  .opg (.bin .neq 26 (.v 0) (.c (.int .i64 0))) 1 true,
  .opg (.mov (.v 0)) 2 true,
  .opg (.ldn 9 (.v 10)) 0 false,
  .opg (.call 8 [(.v 0)]) 1 false,
  .opg (.mov (.v 16)) 2 false,
  .opg (.bin .eql 9 (.v 1) (.v 0)) 3 false,
  .opg (.pick (.v 4) (.c (.bool true)) (.v 0)) 7 true,
  .op (.pick (.v 8) (.v 0) (.c (.bool false))),
  .nop 0]) [0] 14)
 (.ret [.v 0]))))))⟩


def ac4 : AFn := ⟨0, [],
 (.seq (.reg [.op (.mov (.c (.bool false)))])
 (.seq (.post (.reg [.op (.call 5 [(.c (.string ⟨#[119, 114, 105, 116, 101, 32, 55, 32, 118, 111, 108, 32, 51, 32, 48, 48, 49, 49, 50, 50, 51, 51, 52, 52, 53, 53, 54, 54, 55, 55, 32, 56, 56, 57, 57, 97, 97, 98, 98, 99, 99, 100, 100, 101, 101, 102, 102, 32, 102, 111, 114, 99, 101]⟩))]),
  .nop 0,
  .op (.extr 0 (.v 0)),
  .op (.extr 1 (.v 1)),
  .op (.new [(.int .i64 0), (.int .i64 0), (.int .i64 0), (.bool false), (.string ⟨#[]⟩), (.string ⟨#[]⟩), (.int .i64 0), (.int .i64 0), (.slice none 0 0)]),
  .eff (.st 9 (.v 0) (.v 2)),
  .nop 1]) [0, 1] 4)
 (.seq (.post (.reg [.op (.call 5 [(.c (.string ⟨#[114, 101, 97, 100, 32, 48, 56, 32, 118, 111, 108, 32, 48, 32, 52]⟩))]),
  .nop 0,
  .op (.extr 0 (.v 0)),
  .op (.extr 1 (.v 1)),
  .op (.new [(.int .i64 0), (.int .i64 0), (.int .i64 0), (.bool false), (.string ⟨#[]⟩), (.string ⟨#[]⟩), (.int .i64 0), (.int .i64 0), (.slice none 0 0)]),
  .eff (.st 9 (.v 0) (.v 2)),
  .nop 1]) [1] 4)
 (.seq (.post (.reg [.op (.call 5 [(.c (.string ⟨#[114, 101, 97, 100, 32, 56, 32, 118, 111, 108, 32, 48, 32, 49, 55]⟩))]),
  .nop 0,
  .op (.extr 0 (.v 0)),
  .op (.extr 1 (.v 1)),
  .op (.new [(.int .i64 0), (.int .i64 0), (.int .i64 0), (.bool false), (.string ⟨#[]⟩), (.string ⟨#[]⟩), (.int .i64 0), (.int .i64 0), (.slice none 0 0)]),
  .eff (.st 9 (.v 0) (.v 2)),
  .nop 1]) [1] 4)
 (.seq (.post (.reg [.nop 3,
  .op (.bin .eql 26 (.v 3) (.c (.int .i64 0))),
  .nop 0,
  .opg (.fld 1 (.v 3)) 0 true,
  .opg (.ld1 (.v 0)) 1 true,
  .opg (.bin .eql 3 (.v 0) (.c (.int .i64 2))) 2 true,
  .op (.pick (.v 3) (.v 0) (.c (.bool false))),
  .nop 0,
  .opg (.fld 0 (.v 7)) 0 true,
  .opg (.ld1 (.v 0)) 1 true,
  .opg (.bin .eql 3 (.v 0) (.c (.int .i64 7))) 2 true,
  .op (.pick (.v 3) (.v 0) (.c (.bool false))),
  .nop 0,
  .opg (.fld 6 (.v 11)) 0 true,
  .opg (.ld1 (.v 0)) 1 true,
  .opg (.bin .eql 3 (.v 0) (.c (.int .i64 3))) 2 true,
  .op (.pick (.v 3) (.v 0) (.c (.bool false))),
  .nop 0,
  .opg (.fld 7 (.v 15)) 0 true,
  .opg (.ld1 (.v 0)) 1 true,
  .opg (.bin .eql 3 (.v 0) (.c (.int .i64 2))) 2 true,
  .op (.pick (.v 3) (.v 0) (.c (.bool false))),
  .nop 0,
  .opg (.fld 3 (.v 19)) 0 true,
  .opg (.ld1 (.v 0)) 1 true,
  .op (.pick (.v 2) (.v 0) (.c (.bool false))),
  .nop 0,
  .opg (.fld 8 (.v 22)) 0 true,
  .opg (.ld1 (.v 0)) 1 true,
  .opg (.idx 8 (.v 0) (.c (.int .i64 1))) 2 true,
  .opg (.ida 8 1 (.v 0) (.c (.int .i64 0))) 3 true,
  .opg (.ld1 (.v 0)) 4 true,
  .opg (.bin .eql 5 (.v 0) (.c (.int .u8 136))) 5 true,
  .op (.pick (.v 6) (.v 0) (.c (.bool false))),
  .nop 0,
  .opg (.mov (.v 28)) 0 true,
  .opg (.bin .eql 26 (.v 0) (.c (.int .i64 4))) 1 true,
  .op (.pick (.v 2) (.v 0) (.c (.bool false))),
  .nop 0,
  .opg (.mov (.v 30)) 0 true,
  .opg (.bin .eql 26 (.v 0) (.c (.int .i64 4))) 1 true,
  .op (.pick (.v 2) (.v 0) (.c (.bool false))),
  .nop 0,
  .opg (.ldn 9 (.v 35)) 0 true,
  .opg (.call 8 [(.v 0)]) 1 true,
  .opg (.bin .eql 9 (.v 0) (.c (.string ⟨#[119, 114, 105, 116, 101, 32, 55, 32, 118, 111, 108, 32, 51, 32, 48, 48, 49, 49, 50, 50, 51, 51, 52, 52, 53, 53, 54, 54, 55, 55, 32, 56, 56, 57, 57, 97, 97, 98, 98, 99, 99, 100, 100, 101, 101, 102, 102, 32, 102, 111, 114, 99, 101]⟩))) 2 true,
  .op (.pick (.v 3) (.v 0) (.c (.bool false))),
  .nop 0]) [0] 37)
 (.ret [.v 0]))))))⟩


def ac5L0b : AC :=
 (.post (.seq (.seq (.reg [.nop 1])
 (.cond (.v 1) .skip
 (.pre [] 2 (.exit 0))))
 (.block 1 [[5], [6], [], [18], [], [4], [3], [2], [0, 17]] (.post (.seq (.reg [.op (.mov (.c (.string ⟨#[]⟩)))])
 (.seq (.reg [.nop 1,
  .op (.call 9 [(.v 1), (.c (.string ⟨#[32]⟩))]),
  .nop 0,
  .op (.extr 0 (.v 0)),
  .op (.extr 1 (.v 1)),
  .op (.extr 2 (.v 2)),
  .nop 2,
  .nop 1,
  .nop 0])
 (.reg [.op (.ld1 (.v 8)),
  .nop 3,
  .op (.mkl 1 1 [(.string ⟨#[]⟩)] [(0, (.v 3))]),
  .op (.app 1 16 (.v 1) (.v 0)),
  .eff (.st 1 (.v 11) (.v 0))]))) [4, 3] 8))) [0, 1] 4)
def ac5L0 : AC := .loop [[5], [6], [], [4], [3], [2], [0, 17]] ac5L0b
def ac5L1b : AC :=
 (.post (.seq (.reg [.op (.bin .lss 3 (.v 0) (.c (.int .i64 8)))])
 (.seq (.cond (.v 0) .skip
 (.pre [] 2 (.exit 2)))
 (.seq (.block 3 [[31], [30], [], [29], [8], [], [4], [3], [2], [0, 17]] (.post (.seq (.reg [.nop 1,
  .op (.pur (.ind 8) [(.v 3), (.v 1)]),
  .nop 2,
  .nop 0])
 (.seq (.reg [.nop 0,
  .op (.ld1 (.v 7)),
  .op (.idx 1 (.v 0) (.c (.int .i64 0))),
  .op (.ld1 (.v 0)),
  .op (.bin .eql 9 (.v 3) (.v 0))])
 (.cond (.v 0) (.post (.reg [.nop 6,
  .op (.fld 1 (.v 9)),
  .eff (.st 1 (.v 0) (.v 7))]) [] 1)
 .skip))) [] 5))
 (.reg [.op (.bin .add 3 (.v 1) (.c (.int .i64 1))),
  .nop 0])))) [0] 3)
def ac5L1 : AC := .loop [[30], [], [29], [8], [], [4], [3], [2], [0, 17]] ac5L1b
def ac5L2b : AC :=
 (.post (.seq (.seq (.reg [.nop 0,
  .op (.ld1 (.v 15)),
  .op (.len false (.v 0)),
  .op (.bin .lss 3 (.v 2) (.v 0))])
 (.cond (.v 0) .skip
 (.pre [] 4 (.exit 5))))
 (.seq (.block 6 [[106], [105], [104], [14, 103], [], [98, 97], [86], [87], [85], [76, 13, 77, 80, 99], [70], [60, 12, 61], [53], [43, 11, 44], [], [29], [8], [], [4], [3], [2], [0, 17]] (.post (.seq (.reg [.op (.ld1 (.v 18)),
  .nop 4,
  .op (.idx 1 (.v 0) (.v 4)),
  .op (.ld1 (.v 0)),
  .op (.call 13 [(.v 0)]),
  .nop 0,
  .op (.extr 0 (.v 0)),
  .op (.extr 1 (.v 1)),
  .op (.new [(.int .u8 0), (.int .u8 0), (.int .u8 0), (.int .u8 0), (.int .u8 0), (.int .u8 0), (.int .u8 0), (.int .u8 0)]),
  .eff (.st 8 (.v 0) (.v 2)),
  .nop 1])
 (.reg [.op (.fld 8 (.v 23)),
  .op (.ld1 (.v 0)),
  .op (.ldn 8 (.v 2)),
  .op (.mkl 8 1 [(.int .u8 0), (.int .u8 0), (.int .u8 0), (.int .u8 0), (.int .u8 0), (.int .u8 0), (.int .u8 0), (.int .u8 0)] [(0, (.v 0))]),
  .op (.app 8 8 (.v 2) (.v 0)),
  .op (.fld 8 (.v 28)),
  .eff (.st 1 (.v 0) (.v 1))])) [] 13))
 (.reg [.nop 3,
  .op (.bin .add 3 (.v 3) (.c (.int .i64 1))),
  .nop 0]))) [0] 5)
def ac5L2 : AC := .loop [[14], [], [98, 97], [86], [87], [85], [76, 13, 77, 80, 99], [70], [60, 12, 61], [53], [43, 11, 44], [], [29], [8], [], [4], [3], [2], [0, 17]] ac5L2b
def ac5 : AFn := ⟨1, [],
 (.seq (.reg [.op (.new [(.int .i64 0), (.int .i64 0), (.int .i64 0), (.bool false), (.string ⟨#[]⟩), (.string ⟨#[]⟩), (.int .i64 0), (.int .i64 0), (.slice none 0 0)]),
  .op (.mov (.c (.int .i64 0)))])
 (.seq (.reg [.op (.new [(.slice none 0 0)])])
 (.seq (.seq (.reg [.nop 3,
  .nop 3,
  .op (.mov (.c (.bool true)))])
 (.block 0 [[], [4], [3], [2], [0, 17]] (.pre [4, 0] 0 ac5L0)))
 (.seq (.reg [.op (.new [(.int .i64 0), (.int .i64 0), (.int .i64 0), (.bool false), (.string ⟨#[]⟩), (.string ⟨#[]⟩), (.int .i64 0), (.int .i64 0), (.slice none 0 0)])])
 (.seq (.seq (.reg [.op (.call 10 []),
  .op (.mov (.c (.int .i64 0)))])
 (.block 2 [[], [29], [8], [], [4], [3], [2], [0, 17]] (.pre [0] 0 ac5L1)))
 (.seq (.seq (.post (.reg [.op (.ld1 (.v 4)),
  .op (.len false (.v 0)),
  .nop 0]) [0] 2)
 (.seq (.post (.reg [.nop 0,
  .op (.bin .gtr 3 (.v 0) (.c (.int .i64 1))),
  .nop 0,
  .opg (.ld1 (.v 6)) 0 true,
  .opg (.mov (.v 2)) 1 true,
  .opg (.bin .sub 3 (.v 0) (.c (.int .i64 1))) 2 true,
  .opg (.idx 1 (.v 2) (.v 0)) 3 true,
  .opg (.ld1 (.v 0)) 4 true,
  .opg (.bin .eql 9 (.v 0) (.c (.string ⟨#[111, 114, 100, 101, 114, 101, 100]⟩))) 5 true,
  .op (.pick (.v 6) (.v 0) (.c (.bool false)))]) [0] 8)
 (.cond (.v 0) (.post (.regD [.op (.ld1 (.v 6)),
  .nop 2,
  .op (.bin .sub 3 (.v 2) (.c (.int .i64 1))),
  .op (.slc 1 (.v 1) none (some (.v 0))),
  .op (.fld 2 (.v 7)),
  .eff (.st 1 (.v 0) (.c (.int .i64 1))),
  .eff (.st 1 (.v 10) (.v 1))] [0, 0, 2, 7, 0, 16, 63]) [] 4)
 .skip)))
 (.seq (.seq (.post (.reg [.op (.ld1 (.v 6)),
  .op (.len false (.v 0)),
  .nop 0]) [0] 2)
 (.seq (.post (.reg [.nop 0,
  .op (.bin .gtr 3 (.v 0) (.c (.int .i64 1))),
  .nop 0,
  .opg (.ld1 (.v 8)) 0 true,
  .opg (.mov (.v 2)) 1 true,
  .opg (.bin .sub 3 (.v 0) (.c (.int .i64 1))) 2 true,
  .opg (.idx 1 (.v 2) (.v 0)) 3 true,
  .opg (.ld1 (.v 0)) 4 true,
  .opg (.bin .eql 9 (.v 0) (.c (.string ⟨#[102, 111, 114, 99, 101]⟩))) 5 true,
  .op (.pick (.v 6) (.v 0) (.c (.bool false)))]) [0] 8)
 (.cond (.v 0) (.post (.regD [.op (.ld1 (.v 8)),
  .nop 2,
  .op (.bin .sub 3 (.v 2) (.c (.int .i64 1))),
  .op (.slc 1 (.v 1) none (some (.v 0))),
  .op (.fld 3 (.v 9)),
  .eff (.st 1 (.v 0) (.c (.bool true))),
  .eff (.st 1 (.v 12) (.v 1))] [0, 0, 2, 7, 0, 16, 63]) [] 4)
 .skip)))
 (.seq (.reg [.op (.func 11 [] [(.v 8)]),
  .nop 0])
 (.seq (.post (.reg [.nop 0,
  .op (.callv (.v 0) [(.c (.int .i64 1))]),
  .op (.call 12 [(.v 0)]),
  .nop 2,
  .op (.callv (.v 2) [(.c (.int .i64 2))]),
  .op (.fld 0 (.v 10)),
  .eff (.st 1 (.v 0) (.v 2)),
  .op (.fld 4 (.v 11)),
  .eff (.st 1 (.v 0) (.v 2))]) [] 5)
 (.seq (.seq (.post (.reg [.op (.fld 1 (.v 7)),
  .op (.ld1 (.v 0))]) [0] 2)
 (.block 4 [[85], [76, 13, 77, 80], [70], [60, 12, 61], [53], [43, 11, 44], [], [29], [8], [], [4], [3], [2], [0, 17]] (.post (.seq (.seq (.reg [.op (.bin .eql 3 (.v 0) (.c (.int .i64 1))),
  .nop 0])
 (.cond (.v 0) (.post .skip [0] 0)
 (.reg [.op (.bin .eql 3 (.v 1) (.c (.int .i64 3))),
  .nop 0])))
 (.cond (.v 0) (.post (.reg [.nop 3,
  .op (.callv (.v 3) [(.c (.int .i64 3))]),
  .op (.call 12 [(.v 0)]),
  .nop 5,
  .op (.callv (.v 5) [(.c (.int .i64 4))]),
  .op (.call 12 [(.v 0)]),
  .op (.fld 6 (.v 14)),
  .eff (.st 1 (.v 0) (.v 3)),
  .op (.fld 7 (.v 15)),
  .eff (.st 1 (.v 0) (.v 2))]) [] 6)
 (.post (.seq (.reg [.op (.bin .eql 3 (.v 2) (.c (.int .i64 2))),
  .nop 0])
 (.cond (.v 0) (.post (.seq (.post (.reg [.nop 4,
  .op (.callv (.v 4) [(.c (.int .i64 3))]),
  .op (.call 12 [(.v 0)]),
  .op (.fld 6 (.v 13)),
  .eff (.st 1 (.v 0) (.v 1))]) [] 3)
 (.seq (.seq (.reg [.op (.mov (.c (.int .i64 4)))])
 (.block 5 [[], [98, 97], [86], [87], [85], [76, 13, 77, 80, 99], [70], [60, 12, 61], [53], [43, 11, 44], [], [29], [8], [], [4], [3], [2], [0, 17]] (.pre [0] 0 ac5L2)))
 (.post (.reg [.op (.fld 8 (.v 12)),
  .op (.ld1 (.v 0)),
  .op (.len false (.v 0)),
  .op (.fld 7 (.v 15)),
  .eff (.st 1 (.v 0) (.v 1))]) [] 4))) [] 1)
 (.post (.seq (.reg [.op (.bin .eql 3 (.v 3) (.c (.int .i64 5))),
  .nop 0])
 (.cond (.v 0) (.post (.reg [.nop 5,
  .op (.callv (.v 5) [(.c (.int .i64 3))]),
  .op (.call 12 [(.v 0)]),
  .nop 7,
  .op (.callv (.v 7) [(.c (.int .i64 4))]),
  .op (.call 12 [(.v 0)]),
  .op (.fld 7 (.v 16)),
  .eff (.st 1 (.v 0) (.v 3)),
  .op (.fld 6 (.v 17)),
  .eff (.st 1 (.v 0) (.v 2))]) [] 6)
 (.post (.seq (.reg [.op (.bin .eql 3 (.v 4) (.c (.int .i64 6))),
  .nop 0])
 (.cond (.v 0) (.post (.reg [.nop 6,
  .op (.callv (.v 6) [(.c (.int .i64 3))]),
  .op (.fld 5 (.v 14)),
  .eff (.st 1 (.v 0) (.v 1))]) [] 2)
 .skip)) [] 1))) [] 1))) [] 1))) [] 2)))
 (.seq (.seq (.post (.reg [.op (.ldn 9 (.v 8)),
  .op (.call 8 [(.v 0)]),
  .nop 15,
  .op (.bin .neq 9 (.v 0) (.v 15)),
  .nop 0,
  .opg (.mov (.v 16)) 0 false,
  .opg (.bin .eql 9 (.v 0) (.c (.string ⟨#[]⟩))) 1 false,
  .op (.pick (.v 2) (.c (.bool true)) (.v 0))]) [0] 6)
 (.cond (.v 0) (.seq (.post (.reg [.op (.ldn 9 (.v 9)),
  .op (.ld1 (.v 12)),
  .nop 16,
  .op (.call 14 [(.v 1), (.v 0), (.v 16)]),
  .op (.extr 0 (.v 0)),
  .op (.extr 1 (.v 1)),
  .eff (.st 9 (.v 18) (.v 1)),
  .nop 0]) [0] 5)
 (.ret [.cells 14 9, .v 0]))
 .skip))
 (.seq (.post (.reg [.op (.ldn 9 (.v 9)),
  .eff (.st 9 (.v 14) (.v 0)),
  .op (.mov (.c (.int .i64 0)))]) [0] 2)
 (.ret [.cells 14 9, .v 0])))))))))))))⟩


def ac6L0b : AC :=
 (.post (.seq (.seq (.reg [.op (.fld 1 (.v 2)),
  .op (.ld1 (.v 0)),
  .op (.bin .leq 3 (.v 0) (.c (.int .i64 7)))])
 (.cond (.v 0) .skip
 (.pre [3] 4 (.exit 4))))
 (.seq (.block 5 [[3], [39], [38], [37], [], [36], [7], [35], [34], [32], [31], [29], [28], [27], [23], [], [6, 22, 30, 33], [], [19], [18], [17], [16], [15], [14], [12, 13], [], [5, 11], [], [10, 4, 26], [], [2], [0, 9]] (.post (.seq (.regD [.op (.ldn 9 (.v 5)),
  .nop 28,
  .nop 28,
  .op (.len false (.v 28)),
  .nop 27,
  .op (.bin .sub 3 (.v 0) (.v 27)),
  .op (.slc 1 (.v 30) (some (.c (.int .i64 2))) (some (.v 0))),
  .op (.call 17 [(.v 3), (.v 0)]),
  .op (.new [(.int .i64 0), (.int .i64 0), (.int .i64 0), (.bool false), (.string ⟨#[]⟩), (.string ⟨#[]⟩), (.int .i64 0), (.int .i64 0), (.slice none 0 0)]),
  .eff (.st 9 (.v 0) (.v 1))] [0, 0, 0, 4, 0, 28, 62, 127, 0, 511])
 (.seq (.reg [.op (.ldn 9 (.v 0)),
  .op (.call 18 [(.v 0)]),
  .nop 0,
  .opg (.ldn 9 (.v 2)) 0 true,
  .opg (.call 19 [(.v 0)]) 1 true,
  .opg (.mov (.v 40)) 2 true,
  .opg (.bin .eql 9 (.v 1) (.v 0)) 3 true,
  .op (.pick (.v 4) (.v 0) (.c (.bool false)))])
 (.cond (.v 0) (.seq (.reg [.op (.ldn 9 (.v 7)),
  .eff (.st 9 (.v 43) (.v 0)),
  .op (.mov (.c (.int .i64 0)))])
 (.ret [.cells 44 9, .v 0]))
 .skip))) [16] 13))
 (.reg [.op (.fld 1 (.v 6)),
  .op (.ld1 (.v 0)),
  .op (.bin .add 3 (.v 0) (.c (.int .i64 1))),
  .op (.fld 1 (.v 9)),
  .eff (.st 1 (.v 0) (.v 1))]))) [4] 9)
def ac6L0 : AC := .loop [[3], [36], [7], [35], [34], [32], [31], [29], [28], [27], [23], [], [6, 22, 30, 33], [], [19], [18], [17], [16], [15], [14], [12, 13], [], [5, 11], [], [10, 4, 26], [], [2], [0, 9]] ac6L0b
def ac6L1b : AC :=
 (.post (.seq (.seq (.reg [.nop 1,
  .op (.bin .lss 3 (.v 1) (.c (.int .i64 4)))])
 (.cond (.v 0) .skip
 (.pre [1, 2] 3 (.exit 2))))
 (.seq (.block 3 [[3], [23], [], [6, 22], [], [19], [18], [17], [16], [15], [14], [12, 13], [], [5, 11], [], [10, 4], [], [2], [0, 9]] (.post (.seq (.reg [.nop 14,
  .op (.idx 1 (.v 14) (.c (.int .i64 1))),
  .op (.ld1 (.v 0)),
  .op (.call 16 [(.v 0)]),
  .nop 5,
  .op (.bin .rem 3 (.v 5) (.c (.int .i64 2))),
  .op (.bin .eql 3 (.v 0) (.c (.int .i64 1))),
  .nop 7,
  .op (.bin .quo 3 (.v 7) (.c (.int .i64 2))),
  .op (.build [(.int .i64 0), (.int .i64 0), (.int .i64 0), (.bool false), (.string ⟨#[]⟩), (.string ⟨#[]⟩), (.int .i64 0), (.int .i64 0), (.slice none 0 0)] [(0, 1, (.v 3)), (3, 1, (.v 1)), (2, 1, (.v 0))]),
  .op (.new [(.int .i64 0), (.int .i64 0), (.int .i64 0), (.bool false), (.string ⟨#[]⟩), (.string ⟨#[]⟩), (.int .i64 0), (.int .i64 0), (.slice none 0 0)]),
  .eff (.st 9 (.v 0) (.v 1))])
 (.seq (.reg [.op (.fld 1 (.v 0)),
  .eff (.st 1 (.v 0) (.c (.int .i64 1)))])
 (.block 4 [[3], [36], [7], [35], [34], [32], [31], [29], [28], [27], [23], [], [6, 22, 30, 33], [], [19], [18], [17], [16], [15], [14], [12, 13], [], [5, 11], [], [10, 4, 26], [], [2], [0, 9]] (.pre [10] 0 ac6L0)))) [0] 10))
 (.reg [.nop 3,
  .op (.bin .add 3 (.v 3) (.c (.int .i64 1))),
  .nop 0]))) [1, 0] 5)
def ac6L1 : AC := .loop [[3], [6], [], [19], [18], [17], [16], [15], [14], [12, 13], [], [5, 11], [], [10, 4], [], [2], [0, 9]] ac6L1b
def ac6L2b : AC :=
 (.post (.seq (.seq (.reg [.nop 1,
  .op (.bin .lss 3 (.v 1) (.c (.int .i64 3))),
  .nop 0,
  .opg (.mov (.v 2)) 0 true,
  .opg (.bin .add 3 (.v 0) (.c (.int .i64 2))) 1 true,
  .opg (.mov (.v 6)) 2 true,
  .opg (.len false (.v 0)) 3 true,
  .opg (.bin .leq 3 (.v 2) (.v 0)) 4 true,
  .op (.pick (.v 5) (.v 0) (.c (.bool false)))])
 (.cond (.v 0) .skip
 (.pre [7] 9 (.exit 0))))
 (.seq (.block 1 [[3], [19], [18], [17], [16], [15], [14], [12, 13], [], [5, 11], [], [10, 4], [], [2], [0, 9]] (.post (.seq (.reg [.op (.mov (.c (.int .i64 0)))])
 (.block 2 [[3], [6], [], [19], [18], [17], [16], [15], [14], [12, 13], [], [5, 11], [], [10, 4], [], [2], [0, 9]] (.pre [8, 0] 0 ac6L1))) [0] 3))
 (.reg [.nop 9,
  .op (.bin .add 3 (.v 9) (.c (.int .i64 1))),
  .nop 0]))) [1, 0] 11)
def ac6L2 : AC := .loop [[3], [5], [], [10, 4], [], [2], [0, 9]] ac6L2b
def ac6 : AFn := ⟨1, [],
 (.seq (.reg [.op (.new [(.int .i64 0), (.int .i64 0), (.int .i64 0), (.bool false), (.string ⟨#[]⟩), (.string ⟨#[]⟩), (.int .i64 0), (.int .i64 0), (.slice none 0 0)]),
  .op (.mov (.c (.int .i64 0)))])
 (.seq (.reg [.nop 2,
  .op (.call 15 [(.v 2)]),
  .nop 0])
 (.seq (.seq (.reg [.op (.mov (.c (.int .i64 0)))])
 (.block 0 [[3], [], [10, 4], [], [2], [0, 9]] (.pre [2, 0] 0 ac6L2)))
 (.seq (.post (.reg [.op (.build [(.int .i64 0), (.int .i64 0), (.int .i64 0), (.bool false), (.string ⟨#[]⟩), (.string ⟨#[]⟩), (.int .i64 0), (.int .i64 0), (.slice none 0 0)] []),
  .eff (.st 9 (.v 5) (.v 0)),
  .op (.mov (.c (.int .i64 4)))]) [0] 2)
 (.ret [.cells 5 9, .v 0])))))⟩


def ac7L0b : AC :=
 (.post (.seq (.seq (.reg [.nop 1,
  .op (.fld 8 (.v 6)),
  .op (.ld1 (.v 0)),
  .op (.len false (.v 0)),
  .op (.bin .lss 3 (.v 4) (.v 0))])
 (.cond (.v 0) .skip
 (.pre [4] 6 (.exit 0))))
 (.seq (.block 1 [[4], [17], [16], [15], [14], [], [5, 13], [], [12], [], [3], [2], [0], [1]] (.post (.seq (.regD [.op (.fld 8 (.v 10)),
  .op (.ld1 (.v 0)),
  .nop 7,
  .op (.idx 8 (.v 0) (.v 7)),
  .op (.ldn 8 (.v 0)),
  .op (.fld 8 (.v 13)),
  .op (.ld1 (.v 0)),
  .nop 11,
  .op (.idx 8 (.v 0) (.v 11)),
  .op (.ldn 8 (.v 0)),
  .op (.bin .neq 33 (.v 4) (.v 0))] [0, 1, 0, 7, 15, 0, 32, 0, 224, 480, 1023])
 (.cond (.v 0) (.seq (.reg [.op (.mov (.c (.bool false)))])
 (.ret [.v 0]))
 .skip)) [13] 9))
 (.reg [.nop 6,
  .op (.bin .add 3 (.v 6) (.c (.int .i64 1))),
  .nop 0]))) [1, 0] 8)
def ac7L0 : AC := .loop [[4], [5], [], [12], [], [3], [2], [0], [1]] ac7L0b
def ac7 : AFn := ⟨2, [],
 (.seq (.reg [.op (.box (.v 0)),
  .op (.box (.v 2)),
  .op (.mov (.c (.bool false)))])
 (.seq (.seq (.post (.reg [.op (.fld 8 (.v 2)),
  .op (.ld1 (.v 0)),
  .op (.len false (.v 0)),
  .op (.fld 8 (.v 4)),
  .op (.ld1 (.v 0)),
  .op (.len false (.v 0)),
  .op (.bin .neq 3 (.v 3) (.v 0))]) [0] 7)
 (.cond (.v 0) (.seq (.reg [.op (.mov (.c (.bool false)))])
 (.ret [.v 0]))
 .skip))
 (.seq (.seq (.reg [.op (.mov (.c (.int .i64 0)))])
 (.block 0 [[4], [], [12], [], [3], [2], [0], [1]] (.pre [2, 0] 0 ac7L0)))
 (.seq (.post (.reg [.op (.fld 0 (.v 5)),
  .op (.ld1 (.v 0)),
  .op (.fld 0 (.v 6)),
  .op (.ld1 (.v 0)),
  .op (.bin .eql 3 (.v 2) (.v 0)),
  .nop 0,
  .opg (.fld 1 (.v 10)) 0 true,
  .opg (.ld1 (.v 0)) 1 true,
  .opg (.fld 1 (.v 11)) 2 true,
  .opg (.ld1 (.v 0)) 3 true,
  .opg (.bin .eql 3 (.v 2) (.v 0)) 4 true,
  .op (.pick (.v 5) (.v 0) (.c (.bool false))),
  .nop 0,
  .opg (.fld 2 (.v 16)) 0 true,
  .opg (.ld1 (.v 0)) 1 true,
  .opg (.fld 2 (.v 17)) 2 true,
  .opg (.ld1 (.v 0)) 3 true,
  .opg (.bin .eql 3 (.v 2) (.v 0)) 4 true,
  .op (.pick (.v 5) (.v 0) (.c (.bool false))),
  .nop 0,
  .opg (.fld 3 (.v 22)) 0 true,
  .opg (.ld1 (.v 0)) 1 true,
  .opg (.fld 3 (.v 23)) 2 true,
  .opg (.ld1 (.v 0)) 3 true,
  .opg (.bin .eql 4 (.v 2) (.v 0)) 4 true,
  .op (.pick (.v 5) (.v 0) (.c (.bool false))),
  .nop 0,
  .opg (.fld 4 (.v 28)) 0 true,
  .opg (.ld1 (.v 0)) 1 true,
  .opg (.fld 4 (.v 29)) 2 true,
  .opg (.ld1 (.v 0)) 3 true,
  .opg (.bin .eql 9 (.v 2) (.v 0)) 4 true,
  .op (.pick (.v 5) (.v 0) (.c (.bool false))),
  .nop 0,
  .opg (.fld 5 (.v 34)) 0 true,
  .opg (.ld1 (.v 0)) 1 true,
  .opg (.fld 5 (.v 35)) 2 true,
  .opg (.ld1 (.v 0)) 3 true,
  .opg (.bin .eql 9 (.v 2) (.v 0)) 4 true,
  .op (.pick (.v 5) (.v 0) (.c (.bool false))),
  .nop 0,
  .opg (.fld 6 (.v 40)) 0 true,
  .opg (.ld1 (.v 0)) 1 true,
  .opg (.fld 6 (.v 41)) 2 true,
  .opg (.ld1 (.v 0)) 3 true,
  .opg (.bin .eql 3 (.v 2) (.v 0)) 4 true,
  .op (.pick (.v 5) (.v 0) (.c (.bool false))),
  .nop 0,
  .opg (.fld 7 (.v 46)) 0 true,
  .opg (.ld1 (.v 0)) 1 true,
  .opg (.fld 7 (.v 47)) 2 true,
  .opg (.ld1 (.v 0)) 3 true,
  .opg (.bin .eql 3 (.v 2) (.v 0)) 4 true,
  .op (.pick (.v 5) (.v 0) (.c (.bool false))),
  .nop 0]) [0] 47)
 (.ret [.v 0])))))⟩


def ac8L0b : AC :=
 (.post (.seq (.reg [.op (.bin .lss 3 (.v 1) (.v 3))])
 (.seq (.cond (.v 0) .skip
 (.pre [1] 3 (.exit 1)))
 (.seq (.block 2 [[3], [51], [], [50], [], [49], [48], [46], [40, 39], [27], [28], [26], [41], [19], [16], [8], [2], [1], [0]] (.post (.seq (.reg [.op (.idx 8 (.v 5) (.v 2)),
  .op (.ldn 8 (.v 0)),
  .op (.new [(.int .u8 0), (.int .u8 0), (.int .u8 0), (.int .u8 0), (.int .u8 0), (.int .u8 0), (.int .u8 0), (.int .u8 0)]),
  .eff (.st 8 (.v 0) (.v 1))])
 (.reg [.nop 4,
  .op (.ldn 8 (.v 0)),
  .op (.call 22 [(.v 0)]),
  .op (.mkl 1 1 [(.string ⟨#[]⟩)] [(0, (.v 0))]),
  .op (.app 1 16 (.v 7) (.v 0)),
  .nop 0])) [0] 7))
 (.reg [.op (.bin .add 3 (.v 3) (.c (.int .i64 1))),
  .nop 0])))) [1, 0] 5)
def ac8L0 : AC := .loop [[3], [50], [], [49], [48], [46], [40, 39], [27], [28], [26], [41], [19], [16], [8], [2], [1], [0]] ac8L0b
def ac8 : AFn := ⟨1, [],
 (.seq (.reg [.op (.box (.v 0)),
  .op (.mov (.c (.string ⟨#[]⟩)))])
 (.seq (.seq (.post (.reg [.op (.ldn 9 (.v 1)),
  .op (.call 20 [(.v 0)]),
  .op (.una .not (.v 0))]) [0] 3)
 (.cond (.v 0) (.seq (.reg [.op (.mov (.c (.string ⟨#[]⟩)))])
 (.ret [.v 0]))
 .skip))
 (.seq (.post (.regD [.op (.call 10 []),
  .op (.fld 1 (.v 3)),
  .op (.ld1 (.v 0)),
  .op (.pur (.ind 8) [(.v 2), (.v 0)]),
  .op (.fld 0 (.v 6)),
  .op (.ld1 (.v 0)),
  .op (.call 21 [(.v 0)]),
  .op (.mkl 1 2 [(.string ⟨#[]⟩)] [(0, (.v 3)), (1, (.v 0))]),
  .nop 0] [0, 0, 2, 7, 0, 16, 49, 127, 255]) [0] 8)
 (.seq (.seq (.post (.reg [.op (.fld 1 (.v 3)),
  .op (.ld1 (.v 0)),
  .op (.bin .neq 3 (.v 0) (.c (.int .i64 4)))]) [0] 3)
 (.cond (.v 0) (.post (.reg [.nop 1,
  .op (.fld 4 (.v 4)),
  .op (.ld1 (.v 0)),
  .op (.mkl 1 1 [(.string ⟨#[]⟩)] [(0, (.v 0))]),
  .op (.app 1 16 (.v 4) (.v 0)),
  .nop 0]) [0] 4)
 (.post .skip [1] 0)))
 (.seq (.seq (.post (.reg [.op (.fld 1 (.v 5)),
  .op (.ld1 (.v 0))]) [0] 2)
 (.block 0 [[3], [26], [], [19], [16], [8], [2], [1], [0]] (.post (.seq (.seq (.reg [.op (.bin .eql 3 (.v 0) (.c (.int .i64 1))),
  .nop 0])
 (.cond (.v 0) (.post .skip [0] 0)
 (.reg [.op (.bin .eql 3 (.v 1) (.c (.int .i64 3))),
  .nop 0])))
 (.cond (.v 0) (.post (.regD [.nop 3,
  .op (.fld 6 (.v 8)),
  .op (.ld1 (.v 0)),
  .op (.call 21 [(.v 0)]),
  .op (.fld 7 (.v 11)),
  .op (.ld1 (.v 0)),
  .op (.call 21 [(.v 0)]),
  .op (.mkl 1 2 [(.string ⟨#[]⟩)] [(0, (.v 3)), (1, (.v 0))]),
  .op (.app 1 16 (.v 10) (.v 0)),
  .nop 0] [0, 0, 2, 6, 0, 16, 62, 126, 255, 511]) [0] 8)
 (.post (.seq (.reg [.op (.bin .eql 3 (.v 2) (.c (.int .i64 2))),
  .nop 0])
 (.cond (.v 0) (.post (.seq (.post (.reg [.nop 4,
  .op (.fld 6 (.v 9)),
  .op (.ld1 (.v 0)),
  .op (.call 21 [(.v 0)]),
  .op (.mkl 1 1 [(.string ⟨#[]⟩)] [(0, (.v 0))]),
  .op (.app 1 16 (.v 8) (.v 0)),
  .nop 0]) [0] 5)
 (.seq (.post (.reg [.op (.fld 8 (.v 10)),
  .op (.ld1 (.v 0)),
  .op (.len false (.v 0)),
  .op (.mov (.c (.int .i64 0)))]) [0, 1, 2] 4)
 (.block 1 [[3], [], [49], [48], [46], [40, 39], [27], [28], [26], [41], [19], [16], [8], [2], [1], [0]] (.pre [3, 0] 0 ac8L0)))) [0] 5)
 (.post (.seq (.reg [.op (.bin .eql 3 (.v 3) (.c (.int .i64 5))),
  .nop 0])
 (.cond (.v 0) (.post (.regD [.nop 5,
  .op (.fld 7 (.v 10)),
  .op (.ld1 (.v 0)),
  .op (.call 21 [(.v 0)]),
  .op (.fld 6 (.v 13)),
  .op (.ld1 (.v 0)),
  .op (.call 21 [(.v 0)]),
  .op (.mkl 1 2 [(.string ⟨#[]⟩)] [(0, (.v 3)), (1, (.v 0))]),
  .op (.app 1 16 (.v 12) (.v 0)),
  .nop 0] [0, 0, 2, 6, 0, 16, 62, 126, 255, 511]) [0] 8)
 (.post (.seq (.reg [.op (.bin .eql 3 (.v 4) (.c (.int .i64 6))),
  .nop 0])
 (.cond (.v 0) (.post (.reg [.nop 6,
  .op (.fld 5 (.v 11)),
  .op (.ld1 (.v 0)),
  .op (.mkl 1 1 [(.string ⟨#[]⟩)] [(0, (.v 0))]),
  .op (.app 1 16 (.v 9) (.v 0)),
  .nop 0]) [0] 4)
 (.post .skip [6] 0))) [0] 2))) [0] 2))) [0] 2))) [0] 3)))
 (.seq (.seq (.post (.reg [.op (.fld 3 (.v 7)),
  .op (.ld1 (.v 0))]) [0] 2)
 (.cond (.v 0) (.post (.reg [.nop 1,
  .op (.mkl 1 1 [(.string ⟨#[]⟩)] [(0, (.c (.string ⟨#[102, 111, 114, 99, 101]⟩)))]),
  .op (.app 1 16 (.v 2) (.v 0)),
  .nop 0]) [0] 2)
 (.post .skip [1] 0)))
 (.seq (.seq (.post (.reg [.op (.fld 2 (.v 9)),
  .op (.ld1 (.v 0)),
  .op (.bin .eql 3 (.v 0) (.c (.int .i64 1)))]) [0] 3)
 (.cond (.v 0) (.post (.reg [.nop 1,
  .op (.mkl 1 1 [(.string ⟨#[]⟩)] [(0, (.c (.string ⟨#[111, 114, 100, 101, 114, 101, 100]⟩)))]),
  .op (.app 1 16 (.v 2) (.v 0)),
  .nop 0]) [0] 2)
 (.post .skip [1] 0)))
 (.seq (.reg [.nop 0,
  .op (.call 23 [(.v 0), (.c (.string ⟨#[32]⟩))]),
  .nop 0])
 (.ret [.v 0])))))))))⟩


def ac10 : AFn := ⟨0, [],
 (.seq (.reg [.op (.new [(.string ⟨#[]⟩), (.string ⟨#[]⟩), (.string ⟨#[]⟩), (.string ⟨#[]⟩), (.string ⟨#[]⟩), (.string ⟨#[]⟩), (.string ⟨#[]⟩), (.string ⟨#[]⟩)])])
 (.seq (.post (.reg [.op (.build [(.string ⟨#[]⟩), (.string ⟨#[]⟩), (.string ⟨#[]⟩), (.string ⟨#[]⟩), (.string ⟨#[]⟩), (.string ⟨#[]⟩), (.string ⟨#[]⟩), (.string ⟨#[]⟩)] [(1, 1, (.c (.string ⟨#[114, 101, 97, 100]⟩))), (2, 1, (.c (.string ⟨#[119, 114, 105, 116, 101]⟩))), (3, 1, (.c (.string ⟨#[116, 114, 105, 109]⟩))), (4, 1, (.c (.string ⟨#[102, 108, 117, 115, 104]⟩))), (5, 1, (.c (.string ⟨#[99, 114, 101, 97, 116, 101]⟩))), (6, 1, (.c (.string ⟨#[99, 108, 111, 110, 101]⟩))), (7, 1, (.c (.string ⟨#[100, 101, 108, 101, 116, 101]⟩)))]),
  .eff (.st 8 (.v 1) (.v 0))]) [] 1)
 (.ret [.cells 0 8])))⟩


def ac11 : AFn := ⟨2, [],
 (.seq (.reg [.op (.mov (.c (.string ⟨#[]⟩)))])
 (.seq (.seq (.post (.reg [.nop 1,
  .op (.ld1 (.v 2)),
  .op (.len false (.v 0)),
  .op (.bin .lss 3 (.v 3) (.v 0))]) [0] 3)
 (.cond (.v 0) (.seq (.post (.reg [.op (.ld1 (.v 3)),
  .nop 3,
  .op (.idx 1 (.v 0) (.v 3)),
  .op (.ld1 (.v 0)),
  .nop 0]) [0] 3)
 (.ret [.v 0]))
 .skip))
 (.seq (.reg [.op (.mov (.c (.string ⟨#[]⟩)))])
 (.ret [.v 0]))))⟩


def ac12 : AFn := ⟨1, [],
 (.seq (.reg [.op (.mov (.c (.int .i64 0)))])
 (.seq (.post (.reg [.nop 1,
  .op (.call 25 [(.v 1)]),
  .nop 0,
  .op (.extr 0 (.v 0)),
  .op (.extr 1 (.v 1)),
  .nop 1,
  .nop 0]) [1] 3)
 (.seq (.reg [.nop 0,
  .nop 0])
 (.ret [.v 0]))))⟩


def ac13L0b : AC :=
 (.post (.seq (.reg [.op (.bin .lss 3 (.v 1) (.c (.int .i64 8)))])
 (.seq (.cond (.v 0) .skip
 (.pre [1] 3 (.exit 0)))
 (.seq (.block 1 [[3], [13], [], [12], [], [10], [4], [], [2], [0, 8]] (.post (.seq (.reg [.nop 2,
  .nop 2])
 (.seq (.reg [.nop 8,
  .nop 2,
  .op (.bin .mul 3 (.c (.int .i64 2)) (.v 2)),
  .nop 3,
  .op (.bin .mul 3 (.c (.int .i64 2)) (.v 3)),
  .op (.bin .add 3 (.v 0) (.c (.int .i64 2))),
  .op (.pur .sub [(.v 11), (.v 2), (.v 0)]),
  .op (.call 26 [(.v 0), (.c (.int .i64 16)), (.c (.int .i64 8))]),
  .nop 0,
  .op (.extr 0 (.v 0)),
  .op (.extr 1 (.v 1)),
  .nop 1,
  .nop 0])
 (.seq (.seq (.reg [.nop 0,
  .op (.pur (.isn .neq 50) [(.v 0)])])
 (.cond (.v 0) (.seq (.reg [.op (.ldn 8 (.v 13)),
  .eff (.st 8 (.v 16) (.v 0)),
  .op (.mov (.c (.bool false)))])
 (.ret [.cells 17 8, .v 0]))
 .skip))
 (.reg [.nop 10,
  .nop 2,
  .op (.conv .u8 (.v 2)),
  .op (.ida 8 1 (.v 14) (.v 11)),
  .eff (.st 1 (.v 0) (.v 1))])))) [11] 10))
 (.reg [.op (.bin .add 3 (.v 3) (.c (.int .i64 1))),
  .nop 0])))) [1, 0] 5)
def ac13L0 : AC := .loop [[3], [12], [], [10], [4], [], [2], [0, 8]] ac13L0b
def ac13 : AFn := ⟨1, [],
 (.seq (.reg [.op (.new [(.int .u8 0), (.int .u8 0), (.int .u8 0), (.int .u8 0), (.int .u8 0), (.int .u8 0), (.int .u8 0), (.int .u8 0)]),
  .op (.mov (.c (.bool false)))])
 (.seq (.reg [.op (.new [(.int .u8 0), (.int .u8 0), (.int .u8 0), (.int .u8 0), (.int .u8 0), (.int .u8 0), (.int .u8 0), (.int .u8 0)])])
 (.seq (.seq (.post (.reg [.nop 3,
  .op (.len true (.v 3)),
  .op (.bin .neq 3 (.v 0) (.c (.int .i64 16)))]) [0] 2)
 (.cond (.v 0) (.seq (.post (.reg [.op (.ldn 8 (.v 1)),
  .eff (.st 8 (.v 4) (.v 0)),
  .op (.mov (.c (.bool false)))]) [0] 2)
 (.ret [.cells 4 8, .v 0]))
 .skip))
 (.seq (.seq (.reg [.op (.mov (.c (.int .i64 0)))])
 (.block 0 [[3], [], [10], [4], [], [2], [0, 8]] (.pre [3, 0] 0 ac13L0)))
 (.seq (.post (.regD [.op (.ldn 8 (.v 3)),
  .op (.ldn 8 (.v 4)),
  .op (.call 22 [(.v 0)]),
  .nop 9,
  .op (.bin .eql 9 (.v 0) (.v 9)),
  .eff (.st 8 (.v 9) (.v 3)),
  .nop 0] [0, 0, 2, 0, 14, 7, 63]) [0] 4)
 (.ret [.cells 6 8, .v 0]))))))⟩


def ac14L0b : AC :=
 (.post (.seq (.reg [.op (.bin .lss 3 (.v 1) (.v 3))])
 (.seq (.cond (.v 0) .skip
 (.pre [1, 2] 3 (.exit 2)))
 (.seq (.block 3 [[7], [23], [], [22], [], [21], [20], [19, 9], [18], [17], [], [16], [], [15], [14], [], [6], [3], [0], [1], [2]] (.post (.seq (.reg [.op (.idx 1 (.v 5) (.v 2)),
  .op (.ld1 (.v 0)),
  .nop 0])
 (.seq (.reg [.op (.ldn 9 (.v 18)),
  .op (.new [(.int .i64 0), (.int .i64 0), (.int .i64 0), (.bool false), (.string ⟨#[]⟩), (.string ⟨#[]⟩), (.int .i64 0), (.int .i64 0), (.slice none 0 0)]),
  .eff (.st 9 (.v 0) (.v 1))])
 (.seq (.reg [.nop 10,
  .nop 2,
  .op (.fld 3 (.v 0)),
  .eff (.st 1 (.v 0) (.v 11)),
  .op (.fld 2 (.v 1)),
  .eff (.st 1 (.v 0) (.v 4))])
 (.seq (.reg [.nop 25,
  .op (.call 27 [(.v 25), (.c (.string ⟨#[32]⟩))]),
  .nop 0])
 (.seq (.seq (.reg [.nop 5,
  .op (.bin .eql 3 (.v 5) (.c (.int .i64 1)))])
 (.cond (.v 0) (.post (.reg [.nop 1,
  .nop 1,
  .op (.len false (.v 1)),
  .op (.bin .sub 3 (.v 0) (.c (.int .i64 1))),
  .op (.mx (.v 0) (.c (.int .i64 0))),
  .op (.slc 1 (.v 4) none (some (.v 0))),
  .nop 0]) [0] 4)
 (.post .skip [1] 0)))
 (.seq (.seq (.reg [.nop 15])
 (.cond (.v 15) (.post (.reg [.nop 0,
  .nop 0,
  .op (.len false (.v 0)),
  .op (.bin .sub 3 (.v 0) (.c (.int .i64 1))),
  .op (.mx (.v 0) (.c (.int .i64 0))),
  .op (.slc 1 (.v 3) none (some (.v 0))),
  .nop 0]) [0] 4)
 (.post .skip [0] 0)))
 (.seq (.seq (.reg [.nop 0,
  .op (.len false (.v 0)),
  .op (.bin .gtr 3 (.v 0) (.c (.int .i64 2)))])
 (.cond (.v 0) (.post (.reg [.nop 2,
  .op (.idx 1 (.v 2) (.c (.int .i64 2))),
  .op (.ld1 (.v 0)),
  .op (.fld 4 (.v 10)),
  .eff (.st 1 (.v 0) (.v 1))]) [] 3)
 .skip))
 (.seq (.seq (.reg [.op (.fld 1 (.v 8)),
  .op (.ld1 (.v 0)),
  .op (.bin .eql 3 (.v 0) (.c (.int .i64 6))),
  .nop 0,
  .opg (.mov (.v 5)) 0 true,
  .opg (.len false (.v 0)) 1 true,
  .opg (.bin .gtr 3 (.v 0) (.c (.int .i64 3))) 2 true,
  .op (.pick (.v 3) (.v 0) (.c (.bool false)))])
 (.cond (.v 0) (.post (.reg [.nop 9,
  .op (.idx 1 (.v 9) (.c (.int .i64 3))),
  .op (.ld1 (.v 0)),
  .op (.fld 5 (.v 17)),
  .eff (.st 1 (.v 0) (.v 1))]) [] 3)
 .skip))
 (.seq (.reg [.nop 37,
  .op (.len false (.v 37)),
  .op (.bin .gtr 3 (.v 0) (.c (.int .i64 0))),
  .nop 0,
  .opg (.mov (.v 40)) 0 true,
  .opg (.bin .neq 9 (.v 0) (.c (.string ⟨#[]⟩))) 1 true,
  .op (.pick (.v 2) (.v 0) (.c (.bool false))),
  .nop 0,
  .opg (.ldn 9 (.v 20)) 0 true,
  .opg (.call 8 [(.v 0)]) 1 true,
  .opg (.mov (.v 45)) 2 true,
  .opg (.bin .eql 9 (.v 1) (.v 0)) 3 true,
  .op (.pick (.v 4) (.v 0) (.c (.bool false)))])
 (.cond (.v 0) (.seq (.reg [.op (.ldn 9 (.v 25)),
  .eff (.st 9 (.v 45) (.v 0)),
  .op (.mov (.c (.int .i64 0)))])
 (.ret [.cells 46 9, .v 0]))
 .skip)))))))))) [30] 29))
 (.reg [.op (.bin .add 3 (.v 3) (.c (.int .i64 1))),
  .nop 0])))) [1, 0] 5)
def ac14L0 : AC := .loop [[7], [22], [], [21], [20], [19, 9], [18], [17], [], [16], [], [15], [14], [], [6], [3], [0], [1], [2]] ac14L0b
def ac14L1b : AC :=
 (.post (.seq (.reg [.op (.bin .lss 3 (.v 1) (.v 3))])
 (.seq (.cond (.v 0) .skip
 (.pre [1] 3 (.exit 0)))
 (.seq (.block 1 [[7], [17], [], [16], [], [15], [14], [], [6], [3], [0], [1], [2]] (.post (.seq (.reg [.op (.idx 1 (.v 5) (.v 2)),
  .op (.ld1 (.v 0)),
  .nop 0])
 (.seq (.reg [.op (.mkl 1 2 [(.int .i64 0)] [(0, (.c (.int .i64 0))), (1, (.c (.int .i64 1)))]),
  .op (.len false (.v 0)),
  .op (.mov (.c (.int .i64 0)))])
 (.block 2 [[7], [22], [], [21], [20], [19, 9], [18], [17], [], [16], [], [15], [14], [], [6], [3], [0], [1], [2]] (.pre [6, 0] 0 ac14L0)))) [0] 7))
 (.reg [.op (.bin .add 3 (.v 3) (.c (.int .i64 1))),
  .nop 0])))) [1, 0] 5)
def ac14L1 : AC := .loop [[7], [16], [], [15], [14], [], [6], [3], [0], [1], [2]] ac14L1b
def ac14 : AFn := ⟨3, [],
 (.seq (.reg [.op (.box (.v 0)),
  .op (.new [(.int .i64 0), (.int .i64 0), (.int .i64 0), (.bool false), (.string ⟨#[]⟩), (.string ⟨#[]⟩), (.int .i64 0), (.int .i64 0), (.slice none 0 0)]),
  .op (.mov (.c (.int .i64 0)))])
 (.seq (.seq (.reg [.op (.mkl 1 2 [(.bool false)] [(0, (.c (.bool false))), (1, (.c (.bool true)))]),
  .op (.len false (.v 0)),
  .op (.mov (.c (.int .i64 0)))])
 (.block 0 [[7], [], [15], [14], [], [6], [3], [0], [1], [2]] (.pre [3, 0] 0 ac14L1)))
 (.seq (.post (.reg [.op (.build [(.int .i64 0), (.int .i64 0), (.int .i64 0), (.bool false), (.string ⟨#[]⟩), (.string ⟨#[]⟩), (.int .i64 0), (.int .i64 0), (.slice none 0 0)] []),
  .eff (.st 9 (.v 6) (.v 0)),
  .op (.mov (.c (.int .i64 4)))]) [0] 2)
 (.ret [.cells 6 9, .v 0]))))⟩


def ac15L0b : AC :=
 (.post (.seq (.seq (.reg [.nop 1,
  .nop 5,
  .op (.len true (.v 5)),
  .op (.bin .lss 3 (.v 2) (.v 0))])
 (.cond (.v 0) .skip
 (.pre [2] 4 (.exit 0))))
 (.seq (.block 1 [[3], [9], [8], [], [4, 6], [], [5], [2], [0, 7]] (.post (.seq (.reg [.nop 7,
  .nop 3,
  .op (.pur .byte [(.v 7), (.v 3)]),
  .op (.bin .eql 5 (.v 0) (.c (.int .u8 32)))])
 (.cond (.v 0) (.post (.reg [.nop 4,
  .op (.mkl 1 1 [(.string ⟨#[]⟩)] [(0, (.c (.string ⟨#[]⟩)))]),
  .op (.app 1 16 (.v 5) (.v 0)),
  .nop 0]) [0] 2)
 (.post (.regD [.nop 4,
  .nop 4,
  .op (.len false (.v 4)),
  .op (.bin .sub 3 (.v 0) (.c (.int .i64 1))),
  .nop 6,
  .nop 6,
  .op (.len false (.v 6)),
  .op (.bin .sub 3 (.v 0) (.c (.int .i64 1))),
  .op (.idx 1 (.v 8) (.v 0)),
  .op (.ld1 (.v 0)),
  .nop 15,
  .nop 11,
  .op (.pur .byte [(.v 15), (.v 11)]),
  .op (.mkl 1 1 [(.int .u8 0)] [(0, (.v 0))]),
  .op (.mp .str [(.v 0)]),
  .op (.bin .add 9 (.v 3) (.v 0)),
  .op (.idx 1 (.v 14) (.v 8)),
  .eff (.st 1 (.v 0) (.v 1))] [0, 0, 2, 6, 0, 0, 32, 96, 240, 496, 0, 0, 3072, 7168, 15360, 32752, 65535, 131071]) [15] 11))) [0] 3))
 (.reg [.nop 4,
  .op (.bin .add 3 (.v 4) (.c (.int .i64 1))),
  .nop 0]))) [1, 0] 6)
def ac15L0 : AC := .loop [[3], [4], [], [5], [2], [0]] ac15L0b
def ac15 : AFn := ⟨1, [],
 (.seq (.reg [.op (.mov (.c (.slice none 0 0)))])
 (.seq (.reg [.op (.mkl 1 1 [(.string ⟨#[]⟩)] [(0, (.c (.string ⟨#[]⟩)))]),
  .nop 0])
 (.seq (.seq (.reg [.op (.mov (.c (.int .i64 0)))])
 (.block 0 [[3], [], [5], [2], [0]] (.pre [1, 0] 0 ac15L0)))
 (.seq (.reg [.nop 0,
  .nop 0])
 (.ret [.v 0])))))⟩


def ac16L0b : AC :=
 (.post (.seq (.seq (.reg [.nop 1,
  .nop 5,
  .op (.len true (.v 5)),
  .op (.bin .lss 3 (.v 2) (.v 0)),
  .nop 0,
  .opg (.mov (.v 3)) 0 true,
  .opg (.bin .lss 3 (.v 0) (.c (.int .i64 12))) 1 true,
  .op (.pick (.v 2) (.v 0) (.c (.bool false)))])
 (.cond (.v 0) .skip
 (.pre [5] 7 (.exit 0))))
 (.seq (.block 1 [[3], [12], [11], [10], [8, 9], [7], [], [4, 5], [], [], [2], [0, 6]] (.post (.reg [.nop 5,
  .op (.bin .mul 3 (.v 5) (.c (.int .i64 10))),
  .nop 11,
  .nop 7,
  .op (.pur .byte [(.v 11), (.v 7)]),
  .op (.conv .i64 (.v 0)),
  .op (.bin .add 3 (.v 2) (.v 0)),
  .op (.bin .sub 3 (.v 0) (.c (.int .i64 48))),
  .nop 0]) [0] 5))
 (.reg [.nop 7,
  .op (.bin .add 3 (.v 7) (.c (.int .i64 1))),
  .nop 0]))) [1, 0] 9)
def ac16L0 : AC := .loop [[3], [4], [], [], [2], [0]] ac16L0b
def ac16 : AFn := ⟨1, [],
 (.seq (.reg [.op (.mov (.c (.int .i64 0)))])
 (.seq (.reg [.op (.mov (.c (.int .i64 0)))])
 (.seq (.seq (.reg [.op (.mov (.c (.int .i64 0)))])
 (.block 0 [[3], [], [], [2], [0]] (.pre [1, 0] 0 ac16L0)))
 (.seq (.reg [.nop 0,
  .nop 0])
 (.ret [.v 0])))))⟩


def ac17L0b : AC :=
 (.post (.seq (.seq (.reg [.nop 0,
  .nop 6,
  .op (.len false (.v 6)),
  .op (.bin .sub 3 (.v 0) (.c (.int .i64 3))),
  .op (.bin .lss 3 (.v 2) (.v 0))])
 (.cond (.v 0) .skip
 (.pre [] 4 (.exit 1))))
 (.seq (.block 2 [[41], [40], [39], [5, 37], [], [31, 30], [17], [18], [16], [10, 1, 11, 32, 38], [4], [2], [0], [7]] (.post (.regD [.op (.fld 8 (.v 11)),
  .op (.ld1 (.v 0)),
  .nop 11,
  .nop 5,
  .op (.idx 1 (.v 11) (.v 5)),
  .op (.ld1 (.v 0)),
  .op (.call 28 [(.v 0)]),
  .op (.mkl 8 1 [(.int .u8 0), (.int .u8 0), (.int .u8 0), (.int .u8 0), (.int .u8 0), (.int .u8 0), (.int .u8 0), (.int .u8 0)] [(0, (.v 0))]),
  .op (.app 8 8 (.v 4) (.v 0)),
  .op (.fld 8 (.v 18)),
  .eff (.st 1 (.v 0) (.v 1))] [0, 1, 0, 0, 12, 28, 60, 124, 255, 511, 1023]) [] 8))
 (.reg [.nop 3,
  .op (.bin .add 3 (.v 3) (.c (.int .i64 1))),
  .nop 0]))) [0] 5)
def ac17L0 : AC := .loop [[5], [], [31, 30], [17], [18], [16], [10, 1, 11, 32], [4], [2], [0], [7]] ac17L0b
def ac17 : AFn := ⟨2, [],
 (.seq (.reg [.op (.box (.v 0)),
  .op (.new [(.int .i64 0), (.int .i64 0), (.int .i64 0), (.bool false), (.string ⟨#[]⟩), (.string ⟨#[]⟩), (.int .i64 0), (.int .i64 0), (.slice none 0 0)])])
 (.seq (.post (.reg [.op (.mkl 1 0 [(.string ⟨#[]⟩)] []),
  .nop 4,
  .op (.app 1 16 (.v 0) (.v 4)),
  .op (.mkl 1 3 [(.string ⟨#[]⟩)] [(0, (.c (.string ⟨#[]⟩))), (1, (.c (.string ⟨#[]⟩))), (2, (.c (.string ⟨#[]⟩)))]),
  .op (.app 1 16 (.v 1) (.v 0)),
  .nop 0]) [0] 4)
 (.seq (.post (.reg [.nop 0,
  .op (.idx 1 (.v 0) (.c (.int .i64 0))),
  .op (.ld1 (.v 0)),
  .op (.fld 4 (.v 4)),
  .eff (.st 1 (.v 0) (.v 1))]) [] 3)
 (.seq (.seq (.post (.reg [.op (.fld 1 (.v 2)),
  .op (.ld1 (.v 0))]) [0] 2)
 (.block 0 [[16], [10, 1, 11], [4], [2], [0], [7]] (.post (.seq (.seq (.reg [.op (.bin .eql 3 (.v 0) (.c (.int .i64 1))),
  .nop 0])
 (.cond (.v 0) (.post .skip [0] 0)
 (.reg [.op (.bin .eql 3 (.v 1) (.c (.int .i64 3))),
  .nop 0])))
 (.cond (.v 0) (.post (.regD [.nop 3,
  .op (.idx 1 (.v 3) (.c (.int .i64 1))),
  .op (.ld1 (.v 0)),
  .op (.call 16 [(.v 0)]),
  .nop 6,
  .op (.idx 1 (.v 6) (.c (.int .i64 2))),
  .op (.ld1 (.v 0)),
  .op (.call 16 [(.v 0)]),
  .op (.fld 6 (.v 11)),
  .eff (.st 1 (.v 0) (.v 4)),
  .op (.fld 7 (.v 12)),
  .eff (.st 1 (.v 0) (.v 2))] [0, 1, 3, 7, 0, 16, 48, 127, 15, 511, 1023, 2047]) [] 8)
 (.post (.seq (.reg [.op (.bin .eql 3 (.v 2) (.c (.int .i64 2))),
  .nop 0])
 (.cond (.v 0) (.post (.seq (.post (.reg [.nop 4,
  .op (.idx 1 (.v 4) (.c (.int .i64 1))),
  .op (.ld1 (.v 0)),
  .op (.call 16 [(.v 0)]),
  .op (.fld 6 (.v 9)),
  .eff (.st 1 (.v 0) (.v 1))]) [] 4)
 (.seq (.seq (.reg [.op (.mov (.c (.int .i64 2)))])
 (.block 1 [[], [31, 30], [17], [18], [16], [10, 1, 11, 32], [4], [2], [0], [7]] (.pre [0] 0 ac17L0)))
 (.post (.reg [.op (.fld 8 (.v 7)),
  .op (.ld1 (.v 0)),
  .op (.len false (.v 0)),
  .op (.fld 7 (.v 10)),
  .eff (.st 1 (.v 0) (.v 1))]) [] 4))) [] 1)
 (.post (.seq (.reg [.op (.bin .eql 3 (.v 3) (.c (.int .i64 5))),
  .nop 0])
 (.cond (.v 0) (.post (.regD [.nop 5,
  .op (.idx 1 (.v 5) (.c (.int .i64 1))),
  .op (.ld1 (.v 0)),
  .op (.call 16 [(.v 0)]),
  .nop 8,
  .op (.idx 1 (.v 8) (.c (.int .i64 2))),
  .op (.ld1 (.v 0)),
  .op (.call 16 [(.v 0)]),
  .op (.fld 7 (.v 13)),
  .eff (.st 1 (.v 0) (.v 4)),
  .op (.fld 6 (.v 14)),
  .eff (.st 1 (.v 0) (.v 2))] [0, 1, 3, 7, 0, 16, 48, 127, 15, 511, 1023, 2047]) [] 8)
 (.post (.seq (.reg [.op (.bin .eql 3 (.v 4) (.c (.int .i64 6))),
  .nop 0])
 (.cond (.v 0) (.post (.reg [.nop 6,
  .op (.idx 1 (.v 6) (.c (.int .i64 1))),
  .op (.ld1 (.v 0)),
  .op (.fld 5 (.v 10)),
  .eff (.st 1 (.v 0) (.v 1))]) [] 3)
 .skip)) [] 1))) [] 1))) [] 1))) [] 2)))
 (.seq (.post (.reg [.op (.ldn 9 (.v 3)),
  .eff (.st 9 (.v 3) (.v 0))]) [] 1)
 (.ret [.cells 2 9]))))))⟩


def ac18 : AFn := ⟨1, [],
 (.seq (.reg [.op (.box (.v 0)),
  .op (.mov (.c (.bool false)))])
 (.seq (.seq (.post (.reg [.op (.fld 0 (.v 1)),
  .op (.ld1 (.v 0)),
  .op (.bin .lss 3 (.v 0) (.c (.int .i64 0))),
  .nop 0,
  .opg (.fld 0 (.v 4)) 0 false,
  .opg (.ld1 (.v 0)) 1 false,
  .opg (.bin .geq 3 (.v 0) (.c (.int .i64 2147483648))) 2 false,
  .op (.pick (.v 3) (.c (.bool true)) (.v 0)),
  .nop 0,
  .opg (.fld 2 (.v 8)) 0 false,
  .opg (.ld1 (.v 0)) 1 false,
  .opg (.bin .neq 3 (.v 0) (.c (.int .i64 0))) 2 false,
  .opg (.mov (.v 0)) 3 false,
  .opg (.fld 2 (.v 12)) 0 true,
  .opg (.ld1 (.v 0)) 1 true,
  .opg (.bin .neq 3 (.v 0) (.c (.int .i64 1))) 2 true,
  .opg (.pick (.v 3) (.v 0) (.c (.bool false))) 7 false,
  .op (.pick (.v 8) (.c (.bool true)) (.v 0))]) [0] 16)
 (.cond (.v 0) (.seq (.reg [.op (.mov (.c (.bool false)))])
 (.ret [.v 0]))
 .skip))
 (.seq (.post (.reg [.op (.fld 4 (.v 2)),
  .op (.ld1 (.v 0)),
  .op (.call 29 [(.v 0)]),
  .nop 0]) [0] 3)
 (.seq (.post (.reg [.op (.fld 5 (.v 3)),
  .op (.ld1 (.v 0)),
  .op (.bin .eql 9 (.v 0) (.c (.string ⟨#[]⟩))),
  .nop 0,
  .opg (.fld 8 (.v 6)) 0 true,
  .opg (.ld1 (.v 0)) 1 true,
  .opg (.len false (.v 0)) 2 true,
  .opg (.bin .eql 3 (.v 0) (.c (.int .i64 0))) 3 true,
  .op (.pick (.v 4) (.v 0) (.c (.bool false))),
  .nop 0]) [0] 8)
 (.seq (.seq (.post (.reg [.op (.fld 1 (.v 4)),
  .op (.ld1 (.v 0))]) [0] 2)
 (.block 0 [[2], [36], [34, 4], [25, 3], [22], [], [1], [0]] (.post (.seq (.reg [.op (.bin .eql 3 (.v 0) (.c (.int .i64 1))),
  .nop 0])
 (.cond (.v 0) (.seq (.post (.reg [.nop 3,
  .nop 3,
  .opg (.mov (.v 2)) 3 true,
  .op (.pick (.v 4) (.v 0) (.c (.bool false))),
  .nop 0,
  .opg (.fld 3 (.v 8)) 0 true,
  .opg (.ld1 (.v 0)) 1 true,
  .opg (.una .not (.v 0)) 2 true,
  .op (.pick (.v 3) (.v 0) (.c (.bool false))),
  .nop 0,
  .opg (.fld 6 (.v 12)) 0 true,
  .opg (.ld1 (.v 0)) 1 true,
  .opg (.fld 7 (.v 14)) 2 true,
  .opg (.ld1 (.v 0)) 3 true,
  .opg (.call 30 [(.v 2), (.v 0)]) 4 true,
  .op (.pick (.v 5) (.v 0) (.c (.bool false))),
  .nop 0,
  .opg (.fld 7 (.v 18)) 0 true,
  .opg (.ld1 (.v 0)) 1 true,
  .opg (.bin .leq 3 (.v 0) (.c (.int .i64 16))) 2 true,
  .op (.pick (.v 3) (.v 0) (.c (.bool false))),
  .nop 0]) [0] 16)
 (.ret [.v 0]))
 (.seq (.reg [.op (.bin .eql 3 (.v 1) (.c (.int .i64 2))),
  .nop 0])
 (.cond (.v 0) (.seq (.post (.reg [.nop 4,
  .nop 4,
  .opg (.fld 5 (.v 7)) 4 true,
  .opg (.ld1 (.v 0)) 5 true,
  .opg (.bin .eql 9 (.v 0) (.c (.string ⟨#[]⟩))) 6 true,
  .op (.pick (.v 7) (.v 0) (.c (.bool false))),
  .nop 0,
  .opg (.fld 6 (.v 11)) 0 true,
  .opg (.ld1 (.v 0)) 1 true,
  .opg (.fld 7 (.v 13)) 2 true,
  .opg (.ld1 (.v 0)) 3 true,
  .opg (.call 30 [(.v 2), (.v 0)]) 4 true,
  .op (.pick (.v 5) (.v 0) (.c (.bool false))),
  .nop 0,
  .opg (.fld 7 (.v 17)) 0 true,
  .opg (.ld1 (.v 0)) 1 true,
  .opg (.bin .leq 3 (.v 0) (.c (.int .i64 16))) 2 true,
  .op (.pick (.v 3) (.v 0) (.c (.bool false))),
  .nop 0,
  .opg (.fld 8 (.v 21)) 0 true,
  .opg (.ld1 (.v 0)) 1 true,
  .opg (.len false (.v 0)) 2 true,
  .opg (.fld 7 (.v 24)) 3 true,
  .opg (.ld1 (.v 0)) 4 true,
  .opg (.bin .eql 3 (.v 2) (.v 0)) 5 true,
  .op (.pick (.v 6) (.v 0) (.c (.bool false))),
  .nop 0]) [0] 21)
 (.ret [.v 0]))
 (.seq (.reg [.op (.bin .eql 3 (.v 2) (.c (.int .i64 3))),
  .nop 0])
 (.cond (.v 0) (.seq (.post (.reg [.nop 5,
  .nop 5,
  .opg (.mov (.v 4)) 5 true,
  .op (.pick (.v 6) (.v 0) (.c (.bool false))),
  .nop 0,
  .opg (.fld 6 (.v 10)) 0 true,
  .opg (.ld1 (.v 0)) 1 true,
  .opg (.fld 7 (.v 12)) 2 true,
  .opg (.ld1 (.v 0)) 3 true,
  .opg (.call 30 [(.v 2), (.v 0)]) 4 true,
  .op (.pick (.v 5) (.v 0) (.c (.bool false))),
  .nop 0]) [0] 8)
 (.ret [.v 0]))
 (.seq (.reg [.op (.bin .eql 3 (.v 3) (.c (.int .i64 4))),
  .nop 0])
 (.cond (.v 0) (.seq (.post (.reg [.op (.fld 4 (.v 9)),
  .op (.ld1 (.v 0)),
  .op (.bin .eql 9 (.v 0) (.c (.string ⟨#[]⟩))),
  .nop 0,
  .opg (.mov (.v 8)) 0 true,
  .op (.pick (.v 1) (.v 0) (.c (.bool false))),
  .nop 0,
  .opg (.fld 3 (.v 14)) 0 true,
  .opg (.ld1 (.v 0)) 1 true,
  .opg (.una .not (.v 0)) 2 true,
  .op (.pick (.v 3) (.v 0) (.c (.bool false))),
  .nop 0,
  .opg (.fld 6 (.v 18)) 0 true,
  .opg (.ld1 (.v 0)) 1 true,
  .opg (.bin .eql 3 (.v 0) (.c (.int .i64 0))) 2 true,
  .op (.pick (.v 3) (.v 0) (.c (.bool false))),
  .nop 0,
  .opg (.fld 7 (.v 22)) 0 true,
  .opg (.ld1 (.v 0)) 1 true,
  .opg (.bin .eql 3 (.v 0) (.c (.int .i64 0))) 2 true,
  .op (.pick (.v 3) (.v 0) (.c (.bool false))),
  .nop 0]) [0] 17)
 (.ret [.v 0]))
 (.seq (.reg [.op (.bin .eql 3 (.v 4) (.c (.int .i64 5))),
  .nop 0])
 (.cond (.v 0) (.seq (.post (.reg [.nop 7,
  .nop 7,
  .opg (.mov (.v 6)) 7 true,
  .op (.pick (.v 8) (.v 0) (.c (.bool false))),
  .nop 0,
  .opg (.fld 3 (.v 12)) 0 true,
  .opg (.ld1 (.v 0)) 1 true,
  .opg (.una .not (.v 0)) 2 true,
  .op (.pick (.v 3) (.v 0) (.c (.bool false))),
  .nop 0,
  .opg (.fld 7 (.v 16)) 0 true,
  .opg (.ld1 (.v 0)) 1 true,
  .opg (.bin .geq 3 (.v 0) (.c (.int .i64 1))) 2 true,
  .op (.pick (.v 3) (.v 0) (.c (.bool false))),
  .nop 0,
  .opg (.fld 7 (.v 20)) 0 true,
  .opg (.ld1 (.v 0)) 1 true,
  .opg (.bin .leq 3 (.v 0) (.c (.int .i64 65536))) 2 true,
  .op (.pick (.v 3) (.v 0) (.c (.bool false))),
  .nop 0,
  .opg (.fld 6 (.v 24)) 0 true,
  .opg (.ld1 (.v 0)) 1 true,
  .opg (.bin .geq 3 (.v 0) (.c (.int .i64 0))) 2 true,
  .op (.pick (.v 3) (.v 0) (.c (.bool false))),
  .nop 0,
  .opg (.fld 6 (.v 28)) 0 true,
  .opg (.ld1 (.v 0)) 1 true,
  .opg (.fld 7 (.v 30)) 2 true,
  .opg (.ld1 (.v 0)) 3 true,
  .opg (.bin .leq 3 (.v 2) (.v 0)) 4 true,
  .op (.pick (.v 5) (.v 0) (.c (.bool false))),
  .nop 0]) [0] 24)
 (.ret [.v 0]))
 (.seq (.reg [.op (.bin .eql 3 (.v 5) (.c (.int .i64 6))),
  .nop 0])
 (.cond (.v 0) (.seq (.post (.reg [.nop 8,
  .nop 8,
  .opg (.fld 5 (.v 11)) 8 true,
  .opg (.ld1 (.v 0)) 9 true,
  .opg (.call 29 [(.v 0)]) 10 true,
  .op (.pick (.v 11) (.v 0) (.c (.bool false))),
  .nop 0,
  .opg (.fld 5 (.v 15)) 0 true,
  .opg (.ld1 (.v 0)) 1 true,
  .opg (.fld 4 (.v 17)) 2 true,
  .opg (.ld1 (.v 0)) 3 true,
  .opg (.bin .neq 9 (.v 2) (.v 0)) 4 true,
  .op (.pick (.v 5) (.v 0) (.c (.bool false))),
  .nop 0,
  .opg (.fld 8 (.v 21)) 0 true,
  .opg (.ld1 (.v 0)) 1 true,
  .opg (.len false (.v 0)) 2 true,
  .opg (.bin .eql 3 (.v 0) (.c (.int .i64 0))) 3 true,
  .op (.pick (.v 4) (.v 0) (.c (.bool false))),
  .nop 0,
  .opg (.fld 3 (.v 26)) 0 true,
  .opg (.ld1 (.v 0)) 1 true,
  .opg (.una .not (.v 0)) 2 true,
  .op (.pick (.v 3) (.v 0) (.c (.bool false))),
  .nop 0,
  .opg (.fld 6 (.v 30)) 0 true,
  .opg (.ld1 (.v 0)) 1 true,
  .opg (.bin .eql 3 (.v 0) (.c (.int .i64 0))) 2 true,
  .op (.pick (.v 3) (.v 0) (.c (.bool false))),
  .nop 0,
  .opg (.fld 7 (.v 34)) 0 true,
  .opg (.ld1 (.v 0)) 1 true,
  .opg (.bin .eql 3 (.v 0) (.c (.int .i64 0))) 2 true,
  .op (.pick (.v 3) (.v 0) (.c (.bool false))),
  .nop 0]) [0] 27)
 (.ret [.v 0]))
 (.seq (.reg [.op (.bin .eql 3 (.v 6) (.c (.int .i64 7))),
  .nop 0])
 (.cond (.v 0) (.seq (.post (.reg [.nop 9,
  .nop 9,
  .opg (.mov (.v 8)) 9 true,
  .op (.pick (.v 10) (.v 0) (.c (.bool false))),
  .nop 0,
  .opg (.fld 3 (.v 14)) 0 true,
  .opg (.ld1 (.v 0)) 1 true,
  .opg (.una .not (.v 0)) 2 true,
  .op (.pick (.v 3) (.v 0) (.c (.bool false))),
  .nop 0,
  .opg (.fld 6 (.v 18)) 0 true,
  .opg (.ld1 (.v 0)) 1 true,
  .opg (.bin .eql 3 (.v 0) (.c (.int .i64 0))) 2 true,
  .op (.pick (.v 3) (.v 0) (.c (.bool false))),
  .nop 0,
  .opg (.fld 7 (.v 22)) 0 true,
  .opg (.ld1 (.v 0)) 1 true,
  .opg (.bin .eql 3 (.v 0) (.c (.int .i64 0))) 2 true,
  .op (.pick (.v 3) (.v 0) (.c (.bool false))),
  .nop 0]) [0] 14)
 (.ret [.v 0]))
 .skip)))))))))))))) [11] 7)))
 (.seq (.reg [.op (.mov (.c (.bool false)))])
 (.ret [.v 0])))))))⟩


def ac19 : AFn := ⟨1, [],
 (.seq (.reg [.op (.box (.v 0)),
  .op (.mov (.c (.string ⟨#[]⟩)))])
 (.seq (.seq (.post (.reg [.op (.ldn 9 (.v 1)),
  .op (.call 18 [(.v 0)]),
  .op (.una .not (.v 0))]) [0] 3)
 (.cond (.v 0) (.seq (.reg [.op (.mov (.c (.string ⟨#[]⟩)))])
 (.ret [.v 0]))
 .skip))
 (.seq (.post (.reg [.op (.ldn 9 (.v 2)),
  .op (.call 31 [(.v 0)]),
  .nop 0]) [0] 2)
 (.seq (.seq (.post (.reg [.op (.fld 3 (.v 3)),
  .op (.ld1 (.v 0))]) [0] 2)
 (.cond (.v 0) (.reg [.nop 1,
  .op (.bin .add 9 (.v 1) (.c (.string ⟨#[32, 102, 111, 114, 99, 101]⟩))),
  .nop 0])
 (.post .skip [1] 0)))
 (.seq (.seq (.post (.reg [.op (.fld 2 (.v 5)),
  .op (.ld1 (.v 0)),
  .op (.bin .eql 3 (.v 0) (.c (.int .i64 1)))]) [0] 3)
 (.cond (.v 0) (.reg [.nop 1,
  .op (.bin .add 9 (.v 1) (.c (.string ⟨#[32, 111, 114, 100, 101, 114, 101, 100]⟩))),
  .nop 0])
 (.post .skip [1] 0)))
 (.seq (.reg [.nop 0,
  .nop 0])
 (.ret [.v 0])))))))⟩


def ac20 : AFn := ⟨1, [],
 (.seq (.reg [.op (.box (.v 0)),
  .op (.mov (.c (.bool false)))])
 (.seq (.seq (.post (.reg [.op (.fld 0 (.v 1)),
  .op (.ld1 (.v 0)),
  .op (.bin .lss 3 (.v 0) (.c (.int .i64 0))),
  .nop 0,
  .opg (.fld 0 (.v 4)) 0 false,
  .opg (.ld1 (.v 0)) 1 false,
  .opg (.bin .gtr 3 (.v 0) (.c (.int .i64 2147483647))) 2 false,
  .op (.pick (.v 3) (.c (.bool true)) (.v 0)),
  .nop 0,
  .opg (.fld 2 (.v 8)) 0 false,
  .opg (.ld1 (.v 0)) 1 false,
  .opg (.bin .neq 3 (.v 0) (.c (.int .i64 0))) 2 false,
  .opg (.mov (.v 0)) 3 false,
  .opg (.fld 2 (.v 12)) 0 true,
  .opg (.ld1 (.v 0)) 1 true,
  .opg (.bin .neq 3 (.v 0) (.c (.int .i64 1))) 2 true,
  .opg (.pick (.v 3) (.v 0) (.c (.bool false))) 7 false,
  .op (.pick (.v 8) (.c (.bool true)) (.v 0))]) [0] 16)
 (.cond (.v 0) (.seq (.reg [.op (.mov (.c (.bool false)))])
 (.ret [.v 0]))
 .skip))
 (.seq (.post (.reg [.op (.ldn 9 (.v 2)),
  .op (.call 32 [(.v 0)]),
  .op (.new [(.int .i64 0), (.int .i64 0), (.int .i64 0), (.bool false), (.string ⟨#[]⟩), (.string ⟨#[]⟩), (.int .i64 0), (.int .i64 0), (.slice none 0 0)]),
  .eff (.st 9 (.v 0) (.v 1))]) [0] 3)
 (.seq (.post (.reg [.op (.fld 4 (.v 3)),
  .op (.ld1 (.v 0)),
  .op (.fld 4 (.v 2)),
  .eff (.st 1 (.v 0) (.v 1))]) [] 3)
 (.seq (.post (.reg [.op (.fld 4 (.v 3)),
  .op (.ld1 (.v 0)),
  .op (.call 33 [(.v 0)]),
  .nop 0]) [0] 3)
 (.seq (.seq (.post (.reg [.op (.fld 1 (.v 4)),
  .op (.ld1 (.v 0))]) [0] 2)
 (.block 0 [[2], [4], [32], [30], [3], [22], [], [1], [0]] (.post (.seq (.reg [.op (.bin .eql 3 (.v 0) (.c (.int .i64 1))),
  .nop 0])
 (.cond (.v 0) (.post (.seq (.post (.regD [.op (.fld 6 (.v 6)),
  .op (.ld1 (.v 0)),
  .op (.fld 7 (.v 8)),
  .op (.ld1 (.v 0)),
  .op (.fld 6 (.v 7)),
  .eff (.st 1 (.v 0) (.v 3)),
  .op (.fld 7 (.v 8)),
  .eff (.st 1 (.v 0) (.v 2))] [0, 1, 0, 4, 3, 19, 63, 127]) [] 6)
 (.post (.reg [.nop 2,
  .nop 2,
  .opg (.fld 6 (.v 6)) 2 true,
  .opg (.ld1 (.v 0)) 3 true,
  .opg (.fld 7 (.v 8)) 4 true,
  .opg (.ld1 (.v 0)) 5 true,
  .opg (.call 34 [(.v 2), (.v 0)]) 6 true,
  .op (.pick (.v 7) (.v 0) (.c (.bool false))),
  .nop 0,
  .opg (.fld 7 (.v 12)) 0 true,
  .opg (.ld1 (.v 0)) 1 true,
  .opg (.bin .leq 3 (.v 0) (.c (.int .i64 16))) 2 true,
  .op (.pick (.v 3) (.v 0) (.c (.bool false))),
  .nop 0]) [0] 10)) [6, 0] 1)
 (.post (.seq (.reg [.op (.bin .eql 3 (.v 1) (.c (.int .i64 2))),
  .nop 0])
 (.cond (.v 0) (.post (.seq (.post (.regD [.op (.fld 6 (.v 7)),
  .op (.ld1 (.v 0)),
  .op (.fld 7 (.v 9)),
  .op (.ld1 (.v 0)),
  .op (.fld 8 (.v 11)),
  .op (.ld1 (.v 0)),
  .op (.fld 3 (.v 13)),
  .op (.ld1 (.v 0)),
  .op (.fld 6 (.v 12)),
  .eff (.st 1 (.v 0) (.v 7)),
  .op (.fld 7 (.v 13)),
  .eff (.st 1 (.v 0) (.v 6)),
  .op (.fld 8 (.v 14)),
  .eff (.st 1 (.v 0) (.v 5)),
  .op (.fld 3 (.v 15)),
  .eff (.st 1 (.v 0) (.v 4))] [0, 1, 0, 4, 0, 16, 0, 64, 3, 259, 783, 1807, 3903, 7999, 16383, 32767]) [] 12)
 (.post (.reg [.nop 3,
  .nop 3,
  .opg (.fld 6 (.v 7)) 3 true,
  .opg (.ld1 (.v 0)) 4 true,
  .opg (.fld 7 (.v 9)) 5 true,
  .opg (.ld1 (.v 0)) 6 true,
  .opg (.call 34 [(.v 2), (.v 0)]) 7 true,
  .op (.pick (.v 8) (.v 0) (.c (.bool false))),
  .nop 0,
  .opg (.fld 7 (.v 13)) 0 true,
  .opg (.ld1 (.v 0)) 1 true,
  .opg (.bin .leq 3 (.v 0) (.c (.int .i64 16))) 2 true,
  .op (.pick (.v 3) (.v 0) (.c (.bool false))),
  .nop 0,
  .opg (.fld 8 (.v 17)) 0 true,
  .opg (.ld1 (.v 0)) 1 true,
  .opg (.len false (.v 0)) 2 true,
  .opg (.fld 7 (.v 20)) 3 true,
  .opg (.ld1 (.v 0)) 4 true,
  .opg (.bin .eql 3 (.v 2) (.v 0)) 5 true,
  .op (.pick (.v 6) (.v 0) (.c (.bool false))),
  .nop 0]) [0] 17)) [7, 0] 1)
 (.post (.seq (.reg [.op (.bin .eql 3 (.v 2) (.c (.int .i64 3))),
  .nop 0])
 (.cond (.v 0) (.post (.seq (.post (.regD [.op (.fld 6 (.v 8)),
  .op (.ld1 (.v 0)),
  .op (.fld 7 (.v 10)),
  .op (.ld1 (.v 0)),
  .op (.fld 3 (.v 12)),
  .op (.ld1 (.v 0)),
  .op (.fld 6 (.v 11)),
  .eff (.st 1 (.v 0) (.v 5)),
  .op (.fld 7 (.v 12)),
  .eff (.st 1 (.v 0) (.v 4)),
  .op (.fld 3 (.v 13)),
  .eff (.st 1 (.v 0) (.v 3))] [0, 1, 0, 4, 0, 16, 3, 67, 207, 463, 1023, 2047]) [] 9)
 (.post (.reg [.nop 4,
  .nop 4,
  .opg (.fld 6 (.v 8)) 4 true,
  .opg (.ld1 (.v 0)) 5 true,
  .opg (.fld 7 (.v 10)) 6 true,
  .opg (.ld1 (.v 0)) 7 true,
  .opg (.call 34 [(.v 2), (.v 0)]) 8 true,
  .op (.pick (.v 9) (.v 0) (.c (.bool false))),
  .nop 0]) [0] 6)) [8, 0] 1)
 (.post (.seq (.reg [.op (.bin .eql 3 (.v 3) (.c (.int .i64 4))),
  .nop 0])
 (.cond (.v 0) (.post (.post (.reg [.op (.fld 4 (.v 9)),
  .op (.ld1 (.v 0)),
  .op (.bin .eql 9 (.v 0) (.c (.string ⟨#[]⟩))),
  .nop 0]) [0] 3) [9, 0] 1)
 (.post (.seq (.reg [.op (.bin .eql 3 (.v 4) (.c (.int .i64 5))),
  .nop 0])
 (.cond (.v 0) (.post (.seq (.post (.regD [.op (.fld 6 (.v 10)),
  .op (.ld1 (.v 0)),
  .op (.fld 7 (.v 12)),
  .op (.ld1 (.v 0)),
  .op (.fld 6 (.v 11)),
  .eff (.st 1 (.v 0) (.v 3)),
  .op (.fld 7 (.v 12)),
  .eff (.st 1 (.v 0) (.v 2))] [0, 1, 0, 4, 3, 19, 63, 127]) [] 6)
 (.post (.reg [.nop 6,
  .nop 6,
  .opg (.fld 7 (.v 10)) 6 true,
  .opg (.ld1 (.v 0)) 7 true,
  .opg (.bin .geq 3 (.v 0) (.c (.int .i64 1))) 8 true,
  .op (.pick (.v 9) (.v 0) (.c (.bool false))),
  .nop 0,
  .opg (.fld 7 (.v 14)) 0 true,
  .opg (.ld1 (.v 0)) 1 true,
  .opg (.bin .leq 3 (.v 0) (.c (.int .i64 65536))) 2 true,
  .op (.pick (.v 3) (.v 0) (.c (.bool false))),
  .nop 0,
  .opg (.fld 6 (.v 18)) 0 true,
  .opg (.ld1 (.v 0)) 1 true,
  .opg (.bin .geq 3 (.v 0) (.c (.int .i64 0))) 2 true,
  .op (.pick (.v 3) (.v 0) (.c (.bool false))),
  .nop 0,
  .opg (.fld 6 (.v 22)) 0 true,
  .opg (.ld1 (.v 0)) 1 true,
  .opg (.fld 7 (.v 24)) 2 true,
  .opg (.ld1 (.v 0)) 3 true,
  .opg (.bin .leq 3 (.v 2) (.v 0)) 4 true,
  .op (.pick (.v 5) (.v 0) (.c (.bool false))),
  .nop 0]) [0] 18)) [10, 0] 1)
 (.post (.seq (.reg [.op (.bin .eql 3 (.v 5) (.c (.int .i64 6))),
  .nop 0])
 (.cond (.v 0) (.post (.seq (.post (.reg [.op (.fld 5 (.v 11)),
  .op (.ld1 (.v 0)),
  .op (.fld 5 (.v 10)),
  .eff (.st 1 (.v 0) (.v 1))]) [] 3)
 (.post (.reg [.nop 7,
  .nop 7,
  .opg (.fld 5 (.v 11)) 7 true,
  .opg (.ld1 (.v 0)) 8 true,
  .opg (.call 33 [(.v 0)]) 9 true,
  .op (.pick (.v 10) (.v 0) (.c (.bool false))),
  .nop 0,
  .opg (.fld 5 (.v 15)) 0 true,
  .opg (.ld1 (.v 0)) 1 true,
  .opg (.fld 4 (.v 17)) 2 true,
  .opg (.ld1 (.v 0)) 3 true,
  .opg (.bin .neq 9 (.v 2) (.v 0)) 4 true,
  .op (.pick (.v 5) (.v 0) (.c (.bool false))),
  .nop 0]) [0] 10)) [11, 0] 1)
 (.post (.seq (.reg [.op (.bin .eql 3 (.v 6) (.c (.int .i64 7))),
  .nop 0])
 (.cond (.v 0) .skip
 (.seq (.reg [.op (.mov (.c (.bool false)))])
 (.ret [.v 0])))) [11, 8] 1))) [0, 1] 3))) [0, 1] 3))) [0, 1] 3))) [0, 1] 3))) [0, 1] 3))) [0, 1] 3)))
 (.seq (.post (.reg [.nop 1,
  .nop 1,
  .opg (.ldn 9 (.v 7)) 1 true,
  .opg (.ldn 9 (.v 5)) 2 true,
  .opg (.call 35 [(.v 1), (.v 0)]) 3 true,
  .op (.pick (.v 4) (.v 0) (.c (.bool false))),
  .nop 0]) [0] 4)
 (.ret [.v 0]))))))))⟩


def ac22L0b : AC :=
 (.post (.seq (.reg [.op (.bin .lss 3 (.v 1) (.c (.int .i64 8)))])
 (.seq (.cond (.v 0) .skip
 (.pre [1] 3 (.exit 0)))
 (.seq (.block 1 [[3], [8], [], [7], [], [6], [], [2], [1], [0]] (.post (.seq (.reg [.op (.pur (.ind 8) [(.v 4), (.v 2)]),
  .nop 0])
 (.regD [.nop 2,
  .nop 0,
  .op (.pur (.bit .shr 5) [(.v 0), (.c (.int .u64 4))]),
  .op (.pur .byte [(.c (.string ⟨#[48, 49, 50, 51, 52, 53, 54, 55, 56, 57, 97, 98, 99, 100, 101, 102]⟩)), (.v 0)]),
  .nop 2,
  .op (.pur (.bit .and 5) [(.v 2), (.c (.int .u8 15))]),
  .op (.pur .byte [(.c (.string ⟨#[48, 49, 50, 51, 52, 53, 54, 55, 56, 57, 97, 98, 99, 100, 101, 102]⟩)), (.v 0)]),
  .op (.mkl 1 2 [(.int .u8 0)] [(0, (.v 2)), (1, (.v 0))]),
  .op (.app 1 1 (.v 7) (.v 0)),
  .nop 0] [0, 0, 2, 6, 0, 16, 48, 126, 255, 511])) [0] 7))
 (.reg [.op (.bin .add 3 (.v 3) (.c (.int .i64 1))),
  .nop 0])))) [1, 0] 5)
def ac22L0 : AC := .loop [[3], [7], [], [6], [], [2], [1], [0]] ac22L0b
def ac22 : AFn := ⟨1, [],
 (.seq (.reg [.op (.box (.v 0)),
  .op (.mov (.c (.string ⟨#[]⟩)))])
 (.seq (.reg [.op (.mov (.c (.slice none 0 0)))])
 (.seq (.seq (.reg [.op (.ldn 8 (.v 2)),
  .op (.mov (.c (.int .i64 0)))])
 (.block 0 [[3], [], [6], [], [2], [1], [0]] (.pre [2, 0] 0 ac22L0)))
 (.seq (.reg [.nop 0,
  .op (.mp .str [(.v 0)]),
  .nop 0])
 (.ret [.v 0])))))⟩


def ac28L0b : AC :=
 (.post (.seq (.seq (.reg [.nop 0,
  .op (.bin .lss 3 (.v 0) (.c (.int .i64 8))),
  .nop 0,
  .opg (.mov (.v 1)) 0 true,
  .opg (.bin .mul 3 (.c (.int .i64 2)) (.v 0)) 1 true,
  .opg (.bin .add 3 (.v 0) (.c (.int .i64 1))) 2 true,
  .opg (.mov (.v 8)) 3 true,
  .opg (.len true (.v 0)) 4 true,
  .opg (.bin .lss 3 (.v 2) (.v 0)) 5 true,
  .op (.pick (.v 6) (.v 0) (.c (.bool false)))])
 (.cond (.v 0) .skip
 (.pre [] 9 (.exit 0))))
 (.seq (.block 1 [[14], [13], [12], [11], [10], [9], [8], [6, 7], [4, 5], [], [3], [2], [0]] (.post (.regD [.nop 8,
  .nop 12,
  .nop 8,
  .op (.bin .mul 3 (.c (.int .i64 2)) (.v 8)),
  .op (.pur .byte [(.v 13), (.v 0)]),
  .op (.call 45 [(.v 0)]),
  .op (.pur (.bit .shl 5) [(.v 0), (.c (.int .u64 4))]),
  .nop 16,
  .nop 12,
  .op (.bin .mul 3 (.c (.int .i64 2)) (.v 12)),
  .op (.bin .add 3 (.v 0) (.c (.int .i64 1))),
  .op (.pur .byte [(.v 18), (.v 0)]),
  .op (.call 45 [(.v 0)]),
  .op (.pur (.bit .and 5) [(.v 0), (.c (.int .u8 15))]),
  .op (.pur (.bit .or 5) [(.v 5), (.v 0)]),
  .op (.ida 8 1 (.v 20) (.v 18)),
  .eff (.st 1 (.v 0) (.v 1))] [0, 0, 0, 4, 14, 30, 62, 0, 0, 256, 768, 1920, 4030, 8126, 16382, 32767, 65535]) [] 11))
 (.reg [.nop 8,
  .op (.bin .add 3 (.v 8) (.c (.int .i64 1))),
  .nop 0]))) [0] 10)
def ac28L0 : AC := .loop [[4], [], [3], [2], [0]] ac28L0b
def ac28 : AFn := ⟨1, [],
 (.seq (.reg [.op (.new [(.int .u8 0), (.int .u8 0), (.int .u8 0), (.int .u8 0), (.int .u8 0), (.int .u8 0), (.int .u8 0), (.int .u8 0)])])
 (.seq (.reg [.op (.new [(.int .u8 0), (.int .u8 0), (.int .u8 0), (.int .u8 0), (.int .u8 0), (.int .u8 0), (.int .u8 0), (.int .u8 0)])])
 (.seq (.seq (.reg [.op (.mov (.c (.int .i64 0)))])
 (.block 0 [[], [3], [2], [0]] (.pre [0] 0 ac28L0)))
 (.seq (.post (.reg [.op (.ldn 8 (.v 1)),
  .eff (.st 8 (.v 3) (.v 0))]) [] 1)
 (.ret [.cells 2 8])))))⟩


def ac29L0b : AC :=
 (.post (.seq (.seq (.reg [.nop 1,
  .nop 5,
  .op (.len true (.v 5)),
  .op (.bin .lss 3 (.v 2) (.v 0))])
 (.cond (.v 0) .skip
 (.pre [2] 4 (.exit 0))))
 (.seq (.block 1 [[2], [16], [15], [], [3, 13], [], [12], [], [0, 5, 14]] (.post (.seq (.reg [.nop 7,
  .nop 3,
  .op (.pur .byte [(.v 7), (.v 3)]),
  .op (.bin .geq 5 (.v 0) (.c (.int .u8 97))),
  .nop 0,
  .opg (.mov (.v 9)) 0 true,
  .opg (.mov (.v 6)) 1 true,
  .opg (.pur .byte [(.v 1), (.v 0)]) 2 true,
  .opg (.bin .leq 5 (.v 0) (.c (.int .u8 122))) 3 true,
  .op (.pick (.v 4) (.v 0) (.c (.bool false))),
  .nop 0])
 (.seq (.reg [.nop 0,
  .op (.una .not (.v 0)),
  .nop 0,
  .opg (.mov (.v 11)) 0 true,
  .opg (.bin .eql 3 (.v 0) (.c (.int .i64 0))) 1 true,
  .opg (.mov (.v 0)) 2 true,
  .opg (.mov (.v 18)) 0 false,
  .opg (.mov (.v 15)) 1 false,
  .opg (.pur .byte [(.v 1), (.v 0)]) 2 false,
  .opg (.bin .lss 5 (.v 0) (.c (.int .u8 48))) 3 false,
  .opg (.pick (.v 4) (.c (.bool true)) (.v 0)) 7 true,
  .opg (.mov (.v 0)) 8 true,
  .opg (.mov (.v 24)) 0 false,
  .opg (.mov (.v 21)) 1 false,
  .opg (.pur .byte [(.v 1), (.v 0)]) 2 false,
  .opg (.bin .gtr 5 (.v 0) (.c (.int .u8 57))) 3 false,
  .opg (.pick (.v 4) (.c (.bool true)) (.v 0)) 13 true,
  .op (.pick (.v 14) (.v 0) (.c (.bool false)))])
 (.cond (.v 0) (.seq (.reg [.op (.mov (.c (.bool false)))])
 (.ret [.v 0]))
 .skip))) [25] 23))
 (.reg [.nop 4,
  .op (.bin .add 3 (.v 4) (.c (.int .i64 1))),
  .nop 0]))) [1, 0] 6)
def ac29L0 : AC := .loop [[2], [3], [], [12], [], [0, 5]] ac29L0b
def ac29 : AFn := ⟨1, [],
 (.seq (.reg [.op (.mov (.c (.bool false)))])
 (.seq (.seq (.post (.reg [.nop 1,
  .op (.len true (.v 1)),
  .op (.bin .lss 3 (.v 0) (.c (.int .i64 1))),
  .nop 0,
  .opg (.mov (.v 3)) 0 false,
  .opg (.len true (.v 0)) 1 false,
  .opg (.bin .gtr 3 (.v 0) (.c (.int .i64 16))) 2 false,
  .op (.pick (.v 3) (.c (.bool true)) (.v 0))]) [0] 6)
 (.cond (.v 0) (.seq (.reg [.op (.mov (.c (.bool false)))])
 (.ret [.v 0]))
 .skip))
 (.seq (.seq (.reg [.op (.mov (.c (.int .i64 0)))])
 (.block 0 [[2], [], [12], [], [0, 5]] (.pre [2, 0] 0 ac29L0)))
 (.seq (.reg [.op (.mov (.c (.bool true)))])
 (.ret [.v 0])))))⟩


def ac30 : AFn := ⟨2, [],
 (.seq (.reg [.op (.mov (.c (.bool false)))])
 (.seq (.post (.reg [.nop 1,
  .op (.bin .geq 3 (.v 1) (.c (.int .i64 0))),
  .nop 0,
  .opg (.mov (.v 3)) 0 true,
  .opg (.bin .geq 3 (.v 0) (.c (.int .i64 1))) 1 true,
  .op (.pick (.v 2) (.v 0) (.c (.bool false))),
  .nop 0,
  .opg (.mov (.v 5)) 0 true,
  .opg (.bin .leq 3 (.v 0) (.c (.int .i64 65536))) 1 true,
  .op (.pick (.v 2) (.v 0) (.c (.bool false))),
  .nop 0,
  .opg (.mov (.v 9)) 0 true,
  .opg (.bin .leq 3 (.v 0) (.c (.int .i64 65536))) 1 true,
  .op (.pick (.v 2) (.v 0) (.c (.bool false))),
  .nop 0,
  .opg (.mov (.v 11)) 0 true,
  .opg (.mov (.v 13)) 1 true,
  .opg (.bin .add 3 (.v 1) (.v 0)) 2 true,
  .opg (.bin .leq 3 (.v 0) (.c (.int .i64 65536))) 3 true,
  .op (.pick (.v 4) (.v 0) (.c (.bool false))),
  .nop 0]) [0] 15)
 (.ret [.v 0])))⟩


def ac31L0b : AC :=
 (.post (.seq (.seq (.reg [.nop 1,
  .op (.fld 8 (.v 11)),
  .op (.ld1 (.v 0)),
  .op (.len false (.v 0)),
  .op (.bin .lss 3 (.v 4) (.v 0))])
 (.cond (.v 0) .skip
 (.pre [4] 6 (.exit 1))))
 (.seq (.block 2 [[6], [48], [47], [46], [45], [], [7, 44], [], [43], [35, 34], [23, 22], [21], [19, 5], [15, 4, 42], [11, 3, 36], [2], [1], [0]] (.post (.reg [.nop 4,
  .op (.bin .add 9 (.v 4) (.c (.string ⟨#[32]⟩))),
  .op (.fld 8 (.v 16)),
  .op (.ld1 (.v 0)),
  .nop 8,
  .op (.idx 8 (.v 0) (.v 8)),
  .op (.ldn 8 (.v 0)),
  .op (.call 47 [(.v 0)]),
  .op (.bin .add 9 (.v 5) (.v 0)),
  .nop 0]) [0] 7))
 (.reg [.nop 6,
  .op (.bin .add 3 (.v 6) (.c (.int .i64 1))),
  .nop 0]))) [1, 0] 8)
def ac31L0 : AC := .loop [[6], [7], [], [43], [35, 34], [23, 22], [21], [19, 5], [15, 4, 42], [11, 3, 36], [2], [1], [0]] ac31L0b
def ac31 : AFn := ⟨1, [],
 (.seq (.reg [.op (.box (.v 0)),
  .op (.mov (.c (.string ⟨#[]⟩)))])
 (.seq (.post (.reg [.op (.fld 0 (.v 1)),
  .op (.ld1 (.v 0)),
  .op (.call 46 [(.v 0)]),
  .op (.bin .add 9 (.c (.string ⟨#[32]⟩)) (.v 0)),
  .nop 0]) [0] 4)
 (.seq (.post (.regD [.op (.fld 6 (.v 2)),
  .op (.ld1 (.v 0)),
  .op (.call 46 [(.v 0)]),
  .op (.bin .add 9 (.c (.string ⟨#[32]⟩)) (.v 0)),
  .op (.fld 7 (.v 6)),
  .op (.ld1 (.v 0)),
  .op (.call 46 [(.v 0)]),
  .op (.bin .add 9 (.c (.string ⟨#[32]⟩)) (.v 0)),
  .nop 4,
  .nop 0] [0, 1, 3, 7, 0, 16, 55, 119, 127, 511]) [0, 4] 8)
 (.seq (.seq (.post (.reg [.op (.fld 1 (.v 4)),
  .op (.ld1 (.v 0))]) [0] 2)
 (.block 0 [[2], [21], [19, 5], [15, 4], [11, 3], [], [1], [0]] (.post (.seq (.reg [.op (.bin .eql 3 (.v 0) (.c (.int .i64 1))),
  .nop 0])
 (.cond (.v 0) (.seq (.post (.reg [.nop 4,
  .op (.bin .add 9 (.c (.string ⟨#[114, 101, 97, 100]⟩)) (.v 4)),
  .op (.bin .add 9 (.v 0) (.c (.string ⟨#[32]⟩))),
  .op (.fld 4 (.v 8)),
  .op (.ld1 (.v 0)),
  .op (.bin .add 9 (.v 2) (.v 0)),
  .nop 8,
  .op (.bin .add 9 (.v 0) (.v 8)),
  .nop 8,
  .op (.bin .add 9 (.v 0) (.v 8)),
  .nop 0]) [0] 7)
 (.ret [.v 0]))
 (.seq (.reg [.op (.bin .eql 3 (.v 1) (.c (.int .i64 2))),
  .nop 0])
 (.cond (.v 0) (.seq (.post (.reg [.nop 5,
  .op (.bin .add 9 (.c (.string ⟨#[119, 114, 105, 116, 101]⟩)) (.v 5)),
  .op (.bin .add 9 (.v 0) (.c (.string ⟨#[32]⟩))),
  .op (.fld 4 (.v 9)),
  .op (.ld1 (.v 0)),
  .op (.bin .add 9 (.v 2) (.v 0)),
  .nop 9,
  .op (.bin .add 9 (.v 0) (.v 9)),
  .nop 0]) [0] 6)
 (.seq (.seq (.reg [.op (.mov (.c (.int .i64 0)))])
 (.block 1 [[6], [], [43], [35, 34], [23, 22], [21], [19, 5], [15, 4, 42], [11, 3, 36], [2], [1], [0]] (.pre [1, 0] 0 ac31L0)))
 (.seq (.reg [.nop 0,
  .nop 0])
 (.ret [.v 0]))))
 (.seq (.reg [.op (.bin .eql 3 (.v 2) (.c (.int .i64 3))),
  .nop 0])
 (.cond (.v 0) (.seq (.post (.reg [.nop 6,
  .op (.bin .add 9 (.c (.string ⟨#[116, 114, 105, 109]⟩)) (.v 6)),
  .op (.bin .add 9 (.v 0) (.c (.string ⟨#[32]⟩))),
  .op (.fld 4 (.v 10)),
  .op (.ld1 (.v 0)),
  .op (.bin .add 9 (.v 2) (.v 0)),
  .nop 10,
  .op (.bin .add 9 (.v 0) (.v 10)),
  .nop 10,
  .op (.bin .add 9 (.v 0) (.v 10)),
  .nop 0]) [0] 7)
 (.ret [.v 0]))
 (.seq (.reg [.op (.bin .eql 3 (.v 3) (.c (.int .i64 4))),
  .nop 0])
 (.cond (.v 0) (.seq (.reg [.nop 7,
  .op (.bin .add 9 (.c (.string ⟨#[102, 108, 117, 115, 104]⟩)) (.v 7)),
  .nop 0])
 (.ret [.v 0]))
 (.seq (.reg [.op (.bin .eql 3 (.v 4) (.c (.int .i64 5))),
  .nop 0])
 (.cond (.v 0) (.seq (.post (.reg [.nop 8,
  .op (.bin .add 9 (.c (.string ⟨#[99, 114, 101, 97, 116, 101]⟩)) (.v 8)),
  .op (.bin .add 9 (.v 0) (.c (.string ⟨#[32]⟩))),
  .op (.fld 4 (.v 12)),
  .op (.ld1 (.v 0)),
  .op (.bin .add 9 (.v 2) (.v 0)),
  .nop 11,
  .op (.bin .add 9 (.v 0) (.v 11)),
  .nop 13,
  .op (.bin .add 9 (.v 0) (.v 13)),
  .nop 0]) [0] 7)
 (.ret [.v 0]))
 (.seq (.reg [.op (.bin .eql 3 (.v 5) (.c (.int .i64 6))),
  .nop 0])
 (.cond (.v 0) (.seq (.post (.reg [.nop 9,
  .op (.bin .add 9 (.c (.string ⟨#[99, 108, 111, 110, 101]⟩)) (.v 9)),
  .op (.bin .add 9 (.v 0) (.c (.string ⟨#[32]⟩))),
  .op (.fld 4 (.v 13)),
  .op (.ld1 (.v 0)),
  .op (.bin .add 9 (.v 2) (.v 0)),
  .op (.bin .add 9 (.v 0) (.c (.string ⟨#[32]⟩))),
  .op (.fld 5 (.v 17)),
  .op (.ld1 (.v 0)),
  .op (.bin .add 9 (.v 2) (.v 0)),
  .nop 0]) [0] 9)
 (.ret [.v 0]))
 .skip)))))))))))) [10] 6)))
 (.seq (.post (.reg [.nop 4,
  .op (.bin .add 9 (.c (.string ⟨#[100, 101, 108, 101, 116, 101]⟩)) (.v 4)),
  .op (.bin .add 9 (.v 0) (.c (.string ⟨#[32]⟩))),
  .op (.fld 4 (.v 8)),
  .op (.ld1 (.v 0)),
  .op (.bin .add 9 (.v 2) (.v 0)),
  .nop 0]) [0] 5)
 (.ret [.v 0]))))))⟩


def ac32 : AFn := ⟨1, [],
 (.seq (.reg [.op (.box (.v 0)),
  .op (.new [(.int .i64 0), (.int .i64 0), (.int .i64 0), (.bool false), (.string ⟨#[]⟩), (.string ⟨#[]⟩), (.int .i64 0), (.int .i64 0), (.slice none 0 0)])])
 (.seq (.post (.reg [.op (.fld 0 (.v 1)),
  .op (.ld1 (.v 0)),
  .op (.fld 1 (.v 3)),
  .op (.ld1 (.v 0)),
  .op (.fld 2 (.v 5)),
  .op (.ld1 (.v 0)),
  .op (.build [(.int .i64 0), (.int .i64 0), (.int .i64 0), (.bool false), (.string ⟨#[]⟩), (.string ⟨#[]⟩), (.int .i64 0), (.int .i64 0), (.slice none 0 0)] [(0, 1, (.v 4)), (1, 1, (.v 2)), (2, 1, (.v 0))]),
  .eff (.st 9 (.v 7) (.v 0))]) [] 7)
 (.ret [.cells 0 9])))⟩


def ac33 : AFn := ⟨1, [],
 (.seq (.reg [.op (.mov (.c (.bool false)))])
 (.seq (.seq (.post (.reg [.nop 1,
  .op (.len true (.v 1)),
  .op (.bin .lss 3 (.v 0) (.c (.int .i64 1))),
  .nop 0,
  .opg (.mov (.v 3)) 0 false,
  .opg (.len true (.v 0)) 1 false,
  .opg (.bin .gtr 3 (.v 0) (.c (.int .i64 16))) 2 false,
  .op (.pick (.v 3) (.c (.bool true)) (.v 0)),
  .nop 0,
  .opg (.mov (.v 7)) 0 false,
  .opg (.pur .byte [(.v 0), (.c (.int .i64 0))]) 1 false,
  .opg (.bin .lss 5 (.v 0) (.c (.int .u8 97))) 2 false,
  .op (.pick (.v 3) (.c (.bool true)) (.v 0)),
  .nop 0,
  .opg (.mov (.v 11)) 0 false,
  .opg (.pur .byte [(.v 0), (.c (.int .i64 0))]) 1 false,
  .opg (.bin .gtr 5 (.v 0) (.c (.int .u8 122))) 2 false,
  .op (.pick (.v 3) (.c (.bool true)) (.v 0))]) [0] 14)
 (.cond (.v 0) (.seq (.reg [.op (.mov (.c (.bool false)))])
 (.ret [.v 0]))
 .skip))
 (.seq (.post (.reg [.nop 2,
  .op (.call 48 [(.v 2), (.c (.string ⟨#[97, 98, 99, 100, 101, 102, 103, 104, 105, 106, 107, 108, 109, 110, 111, 112, 113, 114, 115, 116, 117, 118, 119, 120, 121, 122, 48, 49, 50, 51, 52, 53, 54, 55, 56, 57]⟩))]),
  .op (.bin .eql 9 (.v 0) (.c (.string ⟨#[]⟩))),
  .nop 0]) [0] 2)
 (.ret [.v 0]))))⟩


def ac34 : AFn := ⟨2, [],
 (.seq (.reg [.op (.mov (.c (.bool false)))])
 (.seq (.post (.reg [.nop 1,
  .op (.bin .geq 3 (.v 1) (.c (.int .i64 0))),
  .nop 0,
  .opg (.mov (.v 3)) 0 true,
  .opg (.bin .geq 3 (.v 0) (.c (.int .i64 1))) 1 true,
  .op (.pick (.v 2) (.v 0) (.c (.bool false))),
  .nop 0,
  .opg (.mov (.v 5)) 0 true,
  .opg (.bin .leq 3 (.v 0) (.c (.int .i64 65536))) 1 true,
  .op (.pick (.v 2) (.v 0) (.c (.bool false))),
  .nop 0,
  .opg (.mov (.v 9)) 0 true,
  .opg (.mov (.v 9)) 1 true,
  .opg (.bin .sub 3 (.c (.int .i64 65536)) (.v 0)) 2 true,
  .opg (.bin .leq 3 (.v 2) (.v 0)) 3 true,
  .op (.pick (.v 4) (.v 0) (.c (.bool false))),
  .nop 0]) [0] 12)
 (.ret [.v 0])))⟩


def ac35L0b : AC :=
 (.post (.seq (.reg [.op (.bin .lss 3 (.v 1) (.v 3))])
 (.seq (.cond (.v 0) .skip
 (.pre [1] 3 (.exit 0)))
 (.seq (.block 1 [[4], [18], [], [17], [], [16], [15], [13], [], [3], [2], [0], [1]] (.post (.seq (.reg [.nop 2,
  .op (.idx 8 (.v 5) (.v 2)),
  .op (.ldn 8 (.v 0)),
  .op (.new [(.int .u8 0), (.int .u8 0), (.int .u8 0), (.int .u8 0), (.int .u8 0), (.int .u8 0), (.int .u8 0), (.int .u8 0)]),
  .nop 5,
  .eff (.st 8 (.v 0) (.v 1))])
 (.seq (.regD [.op (.ldn 8 (.v 0)),
  .op (.fld 8 (.v 12)),
  .op (.ld1 (.v 0)),
  .nop 8,
  .op (.idx 8 (.v 0) (.v 8)),
  .op (.ldn 8 (.v 0)),
  .op (.bin .neq 33 (.v 4) (.v 0))] [0, 0, 2, 0, 14, 30, 63])
 (.cond (.v 0) (.seq (.reg [.op (.mov (.c (.bool false)))])
 (.ret [.v 0]))
 .skip))) [10] 9))
 (.reg [.op (.bin .add 3 (.v 3) (.c (.int .i64 1))),
  .nop 0])))) [1, 0] 5)
def ac35L0 : AC := .loop [[4], [17], [], [16], [15], [13], [], [3], [2], [0], [1]] ac35L0b
def ac35 : AFn := ⟨2, [],
 (.seq (.reg [.op (.box (.v 0)),
  .op (.box (.v 2)),
  .op (.mov (.c (.bool false)))])
 (.seq (.seq (.post (.reg [.op (.fld 8 (.v 2)),
  .op (.ld1 (.v 0)),
  .op (.len false (.v 0)),
  .op (.fld 8 (.v 4)),
  .op (.ld1 (.v 0)),
  .op (.len false (.v 0)),
  .op (.bin .neq 3 (.v 3) (.v 0))]) [0] 7)
 (.cond (.v 0) (.seq (.reg [.op (.mov (.c (.bool false)))])
 (.ret [.v 0]))
 .skip))
 (.seq (.seq (.post (.reg [.op (.fld 8 (.v 3)),
  .op (.ld1 (.v 0)),
  .op (.len false (.v 0)),
  .op (.mov (.c (.int .i64 0)))]) [0, 1, 2] 4)
 (.block 0 [[4], [], [16], [15], [13], [], [3], [2], [0], [1]] (.pre [4, 0] 0 ac35L0)))
 (.seq (.post (.reg [.op (.fld 0 (.v 7)),
  .op (.ld1 (.v 0)),
  .op (.fld 0 (.v 8)),
  .op (.ld1 (.v 0)),
  .op (.bin .eql 3 (.v 2) (.v 0)),
  .nop 0,
  .opg (.fld 1 (.v 12)) 0 true,
  .opg (.ld1 (.v 0)) 1 true,
  .opg (.fld 1 (.v 13)) 2 true,
  .opg (.ld1 (.v 0)) 3 true,
  .opg (.bin .eql 3 (.v 2) (.v 0)) 4 true,
  .op (.pick (.v 5) (.v 0) (.c (.bool false))),
  .nop 0,
  .opg (.fld 2 (.v 18)) 0 true,
  .opg (.ld1 (.v 0)) 1 true,
  .opg (.fld 2 (.v 19)) 2 true,
  .opg (.ld1 (.v 0)) 3 true,
  .opg (.bin .eql 3 (.v 2) (.v 0)) 4 true,
  .op (.pick (.v 5) (.v 0) (.c (.bool false))),
  .nop 0,
  .opg (.fld 3 (.v 24)) 0 true,
  .opg (.ld1 (.v 0)) 1 true,
  .opg (.fld 3 (.v 25)) 2 true,
  .opg (.ld1 (.v 0)) 3 true,
  .opg (.bin .eql 4 (.v 2) (.v 0)) 4 true,
  .op (.pick (.v 5) (.v 0) (.c (.bool false))),
  .nop 0,
  .opg (.fld 4 (.v 30)) 0 true,
  .opg (.ld1 (.v 0)) 1 true,
  .opg (.fld 4 (.v 31)) 2 true,
  .opg (.ld1 (.v 0)) 3 true,
  .opg (.bin .eql 9 (.v 2) (.v 0)) 4 true,
  .op (.pick (.v 5) (.v 0) (.c (.bool false))),
  .nop 0,
  .opg (.fld 5 (.v 36)) 0 true,
  .opg (.ld1 (.v 0)) 1 true,
  .opg (.fld 5 (.v 37)) 2 true,
  .opg (.ld1 (.v 0)) 3 true,
  .opg (.bin .eql 9 (.v 2) (.v 0)) 4 true,
  .op (.pick (.v 5) (.v 0) (.c (.bool false))),
  .nop 0,
  .opg (.fld 6 (.v 42)) 0 true,
  .opg (.ld1 (.v 0)) 1 true,
  .opg (.fld 6 (.v 43)) 2 true,
  .opg (.ld1 (.v 0)) 3 true,
  .opg (.bin .eql 3 (.v 2) (.v 0)) 4 true,
  .op (.pick (.v 5) (.v 0) (.c (.bool false))),
  .nop 0,
  .opg (.fld 7 (.v 48)) 0 true,
  .opg (.ld1 (.v 0)) 1 true,
  .opg (.fld 7 (.v 49)) 2 true,
  .opg (.ld1 (.v 0)) 3 true,
  .opg (.bin .eql 3 (.v 2) (.v 0)) 4 true,
  .op (.pick (.v 5) (.v 0) (.c (.bool false))),
  .nop 0]) [0] 47)
 (.ret [.v 0])))))⟩


def ac45 : AFn := ⟨1, [],
 (.seq (.reg [.op (.mov (.c (.int .u8 0)))])
 (.seq (.seq (.reg [.nop 1,
  .op (.bin .geq 5 (.v 1) (.c (.int .u8 97)))])
 (.cond (.v 0) (.seq (.post (.reg [.nop 2,
  .op (.bin .sub 5 (.v 2) (.c (.int .u8 97))),
  .op (.bin .add 5 (.v 0) (.c (.int .u8 10))),
  .nop 0]) [0] 2)
 (.ret [.v 0]))
 .skip))
 (.seq (.reg [.nop 2,
  .op (.bin .sub 5 (.v 2) (.c (.int .u8 48))),
  .nop 0])
 (.ret [.v 0]))))⟩


def ac46 : AFn := ⟨1, [],
 (.seq (.reg [.op (.mov (.c (.string ⟨#[]⟩)))])
 (.seq (.seq (.reg [.nop 1,
  .op (.bin .lss 3 (.v 1) (.c (.int .i64 10)))])
 (.cond (.v 0) (.seq (.post (.reg [.nop 2,
  .op (.bin .add 3 (.c (.int .i64 48)) (.v 2)),
  .op (.conv .u8 (.v 0)),
  .op (.mkl 1 1 [(.int .u8 0)] [(0, (.v 0))]),
  .op (.mp .str [(.v 0)]),
  .nop 0]) [0] 4)
 (.ret [.v 0]))
 .skip))
 (.seq (.post (.regD [.nop 2,
  .op (.bin .quo 3 (.v 2) (.c (.int .i64 10))),
  .op (.call 46 [(.v 0)]),
  .nop 4,
  .op (.bin .rem 3 (.v 4) (.c (.int .i64 10))),
  .op (.bin .add 3 (.c (.int .i64 48)) (.v 0)),
  .op (.conv .u8 (.v 0)),
  .op (.mkl 1 1 [(.int .u8 0)] [(0, (.v 0))]),
  .op (.mp .str [(.v 0)]),
  .op (.bin .add 9 (.v 5) (.v 0)),
  .nop 0] [0, 1, 3, 0, 8, 24, 56, 120, 248, 511, 1023]) [0] 8)
 (.ret [.v 0]))))⟩


def ac47L0b : AC :=
 (.post (.seq (.seq (.reg [.nop 1,
  .op (.bin .lss 3 (.v 1) (.c (.int .i64 8)))])
 (.cond (.v 0) .skip
 (.pre [1] 3 (.exit 0))))
 (.seq (.block 1 [[3], [6], [], [4, 5], [], [], [2], [1], [0]] (.post (.regD [.nop 1,
  .nop 2,
  .op (.ida 8 1 (.v 6) (.v 2)),
  .op (.ld1 (.v 0)),
  .op (.pur (.bit .shr 5) [(.v 0), (.c (.int .u64 4))]),
  .op (.call 66 [(.v 0)]),
  .nop 6,
  .op (.ida 8 1 (.v 10) (.v 6)),
  .op (.ld1 (.v 0)),
  .op (.pur (.bit .and 5) [(.v 0), (.c (.int .u8 15))]),
  .op (.call 66 [(.v 0)]),
  .op (.mkl 1 2 [(.int .u8 0)] [(0, (.v 4)), (1, (.v 0))]),
  .op (.app 1 1 (.v 10) (.v 0)),
  .nop 0] [0, 0, 2, 6, 14, 30, 0, 64, 192, 448, 1022, 2046, 4095, 8191]) [0] 10))
 (.reg [.nop 3,
  .op (.bin .add 3 (.v 3) (.c (.int .i64 1))),
  .nop 0]))) [1, 0] 5)
def ac47L0 : AC := .loop [[3], [4], [], [], [2], [1], [0]] ac47L0b
def ac47 : AFn := ⟨1, [],
 (.seq (.reg [.op (.box (.v 0)),
  .op (.mov (.c (.string ⟨#[]⟩)))])
 (.seq (.reg [.op (.mov (.c (.slice none 0 0)))])
 (.seq (.seq (.reg [.op (.mov (.c (.int .i64 0)))])
 (.block 0 [[3], [], [], [2], [1], [0]] (.pre [1, 0] 0 ac47L0)))
 (.seq (.reg [.nop 0,
  .op (.mp .str [(.v 0)]),
  .nop 0])
 (.ret [.v 0])))))⟩


def ac48 : AFn := ⟨2, [],
 (.seq (.reg [.op (.mov (.c (.string ⟨#[]⟩)))])
 (.seq (.seq (.post (.reg [.nop 1,
  .op (.bin .eql 9 (.v 1) (.c (.string ⟨#[]⟩))),
  .nop 0,
  .opg (.mov (.v 3)) 0 false,
  .opg (.bin .eql 9 (.v 0) (.c (.string ⟨#[]⟩))) 1 false,
  .op (.pick (.v 2) (.c (.bool true)) (.v 0))]) [0] 4)
 (.cond (.v 0) (.seq (.reg [.nop 2,
  .nop 2])
 (.ret [.v 2]))
 .skip))
 (.seq (.seq (.post (.reg [.nop 3,
  .op (.len true (.v 3)),
  .op (.bin .eql 3 (.v 0) (.c (.int .i64 1))),
  .nop 0,
  .opg (.mov (.v 5)) 0 true,
  .opg (.pur .byte [(.v 0), (.c (.int .i64 0))]) 1 true,
  .opg (.bin .lss 5 (.v 0) (.c (.int .u8 128))) 2 true,
  .op (.pick (.v 3) (.v 0) (.c (.bool false)))]) [0] 6)
 (.cond (.v 0) (.seq (.post (.regD [.nop 3,
  .nop 4,
  .op (.pur .byte [(.v 4), (.c (.int .i64 0))]),
  .op (.call 68 [(.v 4), (.v 0)]),
  .nop 6,
  .op (.pur .byte [(.v 6), (.c (.int .i64 0))]),
  .op (.call 67 [(.v 1), (.v 0)]),
  .nop 0] [0, 0, 2, 7, 0, 16, 63, 127]) [0] 4)
 (.ret [.v 0]))
 .skip))
 (.seq (.seq (.post (.reg [.nop 4,
  .op (.call 69 [(.v 4)]),
  .nop 0,
  .op (.extr 0 (.v 0)),
  .op (.extr 1 (.v 1)),
  .op (.new (List.replicate 256 (.bool false))),
  .eff (.st 256 (.v 0) (.v 2)),
  .nop 1]) [0, 1] 4)
 (.seq (.reg [.nop 1])
 (.cond (.v 1) (.seq (.post (.reg [.nop 5,
  .op (.call 71 [(.v 5), (.v 0)]),
  .op (.call 70 [(.v 0), (.v 1)]),
  .nop 0]) [0] 2)
 (.ret [.v 0]))
 .skip)))
 (.seq (.post (.reg [.nop 5,
  .nop 6,
  .op (.call 73 [(.v 5), (.v 6)]),
  .nop 7,
  .op (.call 72 [(.v 0), (.v 7)]),
  .nop 0]) [0] 2)
 (.ret [.v 0]))))))⟩


def ac66 : AFn := ⟨1, [],
 (.seq (.reg [.op (.mov (.c (.int .u8 0)))])
 (.seq (.seq (.reg [.nop 1,
  .op (.bin .lss 5 (.v 1) (.c (.int .u8 10)))])
 (.cond (.v 0) (.seq (.reg [.nop 2,
  .op (.bin .add 5 (.c (.int .u8 48)) (.v 2)),
  .nop 0])
 (.ret [.v 0]))
 .skip))
 (.seq (.post (.reg [.nop 2,
  .op (.bin .add 5 (.c (.int .u8 97)) (.v 2)),
  .op (.bin .sub 5 (.v 0) (.c (.int .u8 10))),
  .nop 0]) [0] 2)
 (.ret [.v 0]))))⟩


def ac67L0b : AC :=
 (.post (.seq (.seq (.reg [.nop 0,
  .op (.len true (.v 0)),
  .op (.bin .gtr 3 (.v 0) (.c (.int .i64 0))),
  .nop 0,
  .opg (.mov (.v 2)) 0 true,
  .opg (.pur .byte [(.v 0), (.c (.int .i64 0))]) 1 true,
  .opg (.mov (.v 7)) 2 true,
  .opg (.bin .eql 5 (.v 1) (.v 0)) 3 true,
  .op (.pick (.v 4) (.v 0) (.c (.bool false)))])
 (.cond (.v 0) .skip
 (.pre [7] 8 (.exit 0))))
 (.block 1 [[0], [13], [12], [11], [10], [9], [7, 8], [6], [5], [4], [], [1]] (.reg [.nop 7,
  .op (.pur .subl [(.v 7), (.c (.int .i64 1))]),
  .nop 0]))) [0] 9)
def ac67L0 : AC := .loop [[0], [4], [], [1]] ac67L0b
def ac67 : AFn := ⟨2, [],
 (.seq (.reg [.op (.mov (.c (.string ⟨#[]⟩)))])
 (.seq (.block 0 [[0], [4], [], [1]] (.pre [1] 0 ac67L0))
 (.seq (.reg [.nop 0,
  .nop 0])
 (.ret [.v 0]))))⟩


def ac68L0b : AC :=
 (.post (.seq (.seq (.reg [.nop 0,
  .op (.len true (.v 0)),
  .op (.bin .gtr 3 (.v 0) (.c (.int .i64 0))),
  .nop 0,
  .opg (.mov (.v 2)) 0 true,
  .opg (.mov (.v 3)) 1 true,
  .opg (.len true (.v 0)) 2 true,
  .opg (.bin .sub 3 (.v 0) (.c (.int .i64 1))) 3 true,
  .opg (.pur .byte [(.v 3), (.v 0)]) 4 true,
  .opg (.mov (.v 10)) 5 true,
  .opg (.bin .eql 5 (.v 1) (.v 0)) 6 true,
  .op (.pick (.v 7) (.v 0) (.c (.bool false)))])
 (.cond (.v 0) .skip
 (.pre [10] 11 (.exit 0))))
 (.block 1 [[0], [16], [15], [14], [13], [12], [11], [10], [9], [7, 8], [6], [5], [4], [], [1]] (.post (.reg [.nop 10,
  .nop 10,
  .op (.len true (.v 10)),
  .op (.bin .sub 3 (.v 0) (.c (.int .i64 1))),
  .op (.pur .subh [(.v 12), (.v 0)]),
  .nop 0]) [0] 3))) [0] 12)
def ac68L0 : AC := .loop [[0], [4], [], [1]] ac68L0b
def ac68 : AFn := ⟨2, [],
 (.seq (.reg [.op (.mov (.c (.string ⟨#[]⟩)))])
 (.seq (.block 0 [[0], [4], [], [1]] (.pre [1] 0 ac68L0))
 (.seq (.reg [.nop 0,
  .nop 0])
 (.ret [.v 0]))))⟩


def ac69L0b : AC :=
 (.post (.seq (.seq (.reg [.nop 1,
  .nop 5,
  .op (.len true (.v 5)),
  .op (.bin .lss 3 (.v 2) (.v 0))])
 (.cond (.v 0) .skip
 (.pre [2] 4 (.exit 0))))
 (.seq (.block 1 [[3], [9], [8], [], [4, 6], [], [], [2], [0, 7]] (.post (.seq (.reg [.nop 7,
  .nop 3,
  .op (.pur .byte [(.v 7), (.v 3)]),
  .nop 0])
 (.seq (.seq (.reg [.nop 0,
  .op (.bin .geq 5 (.v 0) (.c (.int .u8 128)))])
 (.cond (.v 0) (.seq (.reg [.op (.ldn 256 (.v 8)),
  .eff (.st 256 (.v 9) (.v 0)),
  .op (.mov (.c (.bool false)))])
 (.ret [.cells 10 256, .v 0]))
 .skip))
 (.reg [.nop 1,
  .op (.ida 256 1 (.v 8) (.v 1)),
  .eff (.st 1 (.v 0) (.c (.bool true)))]))) [5] 3))
 (.reg [.nop 4,
  .op (.bin .add 3 (.v 4) (.c (.int .i64 1))),
  .nop 0]))) [1, 0] 6)
def ac69L0 : AC := .loop [[3], [4], [], [], [2], [0]] ac69L0b
def ac69 : AFn := ⟨1, [],
 (.seq (.reg [.op (.new (List.replicate 256 (.bool false))),
  .op (.mov (.c (.bool false)))])
 (.seq (.seq (.reg [.op (.mov (.c (.int .i64 0)))])
 (.block 0 [[3], [], [], [2], [0]] (.pre [1, 0] 0 ac69L0)))
 (.seq (.post (.reg [.op (.ldn 256 (.v 3)),
  .eff (.st 256 (.v 4) (.v 0)),
  .op (.mov (.c (.bool true)))]) [0] 2)
 (.ret [.cells 4 256, .v 0]))))⟩


def ac70L0b : AC :=
 (.post (.seq (.seq (.reg [.nop 0,
  .op (.len true (.v 0)),
  .op (.bin .gtr 3 (.v 0) (.c (.int .i64 0)))])
 (.cond (.v 0) .skip
 (.pre [2] 3 (.exit 0))))
 (.block 1 [[0], [7], [6], [5], [4], [], [1]] (.post (.seq (.seq (.reg [.nop 5,
  .nop 2,
  .op (.pur .byte [(.v 2), (.c (.int .i64 0))]),
  .op (.call 87 [(.v 6), (.v 0)]),
  .op (.una .not (.v 0))])
 (.cond (.v 0) (.pre [5] 6 (.exit 0))
 .skip))
 (.reg [.nop 5,
  .op (.pur .subl [(.v 5), (.c (.int .i64 1))]),
  .nop 0])) [0] 4))) [0] 4)
def ac70L0 : AC := .loop [[0], [4], [], [1]] ac70L0b
def ac70 : AFn := ⟨2, [],
 (.seq (.reg [.op (.mov (.c (.string ⟨#[]⟩)))])
 (.seq (.block 0 [[0], [4], [], [1]] (.pre [1] 0 ac70L0))
 (.seq (.reg [.nop 0,
  .nop 0])
 (.ret [.v 0]))))⟩


def ac71L0b : AC :=
 (.post (.seq (.seq (.reg [.nop 0,
  .op (.len true (.v 0)),
  .op (.bin .gtr 3 (.v 0) (.c (.int .i64 0)))])
 (.cond (.v 0) .skip
 (.pre [2] 3 (.exit 0))))
 (.block 1 [[0], [7], [6], [5], [4], [], [1]] (.post (.seq (.seq (.reg [.nop 5,
  .nop 2,
  .nop 2,
  .op (.len true (.v 2)),
  .op (.bin .sub 3 (.v 0) (.c (.int .i64 1))),
  .op (.pur .byte [(.v 4), (.v 0)]),
  .op (.call 87 [(.v 8), (.v 0)]),
  .op (.una .not (.v 0))])
 (.cond (.v 0) (.pre [7] 8 (.exit 0))
 .skip))
 (.reg [.nop 7,
  .nop 7,
  .op (.len true (.v 7)),
  .op (.bin .sub 3 (.v 0) (.c (.int .i64 1))),
  .op (.pur .subh [(.v 9), (.v 0)]),
  .nop 0])) [0] 8))) [0] 4)
def ac71L0 : AC := .loop [[0], [4], [], [1]] ac71L0b
def ac71 : AFn := ⟨2, [],
 (.seq (.reg [.op (.mov (.c (.string ⟨#[]⟩)))])
 (.seq (.block 0 [[0], [4], [], [1]] (.pre [1] 0 ac71L0))
 (.seq (.reg [.nop 0,
  .nop 0])
 (.ret [.v 0]))))⟩


def ac72L0b : AC :=
 (.post (.seq (.seq (.reg [.nop 0,
  .op (.len true (.v 0)),
  .op (.bin .gtr 3 (.v 0) (.c (.int .i64 0)))])
 (.cond (.v 0) .skip
 (.pre [2] 3 (.exit 0))))
 (.block 1 [[0], [9], [8], [7], [4], [], [1]] (.post (.seq (.reg [.nop 2,
  .op (.call 85 [(.v 2)]),
  .nop 0,
  .op (.extr 0 (.v 0)),
  .op (.extr 1 (.v 1)),
  .nop 1,
  .nop 0])
 (.seq (.seq (.reg [.nop 8,
  .nop 1,
  .op (.call 88 [(.v 8), (.v 1)]),
  .op (.una .not (.v 0))])
 (.cond (.v 0) (.pre [7] 8 (.exit 0))
 .skip))
 (.reg [.nop 7,
  .nop 2,
  .op (.pur .subl [(.v 7), (.v 2)]),
  .nop 0]))) [0] 6))) [0] 4)
def ac72L0 : AC := .loop [[0], [4], [], [1]] ac72L0b
def ac72 : AFn := ⟨2, [],
 (.seq (.reg [.op (.mov (.c (.string ⟨#[]⟩)))])
 (.seq (.block 0 [[0], [4], [], [1]] (.pre [1] 0 ac72L0))
 (.seq (.reg [.nop 0,
  .nop 0])
 (.ret [.v 0]))))⟩


def ac73L0b : AC :=
 (.post (.seq (.seq (.reg [.nop 0,
  .op (.len true (.v 0)),
  .op (.bin .gtr 3 (.v 0) (.c (.int .i64 0)))])
 (.cond (.v 0) .skip
 (.pre [2] 3 (.exit 0))))
 (.block 1 [[0], [9], [8], [7], [4], [], [1]] (.post (.seq (.reg [.nop 2,
  .nop 2,
  .op (.len true (.v 2)),
  .op (.bin .sub 3 (.v 0) (.c (.int .i64 1))),
  .op (.pur .byte [(.v 4), (.v 0)]),
  .op (.conv .i32 (.v 0)),
  .nop 0,
  .op (.mov (.c (.int .i64 1)))])
 (.seq (.seq (.reg [.nop 1,
  .op (.bin .geq 21 (.v 1) (.c (.int .i32 128)))])
 (.cond (.v 0) (.post (.reg [.nop 8,
  .op (.call 89 [(.v 8)]),
  .nop 0,
  .op (.extr 0 (.v 0)),
  .op (.extr 1 (.v 1)),
  .nop 1,
  .nop 0]) [1, 0] 3)
 (.post .skip [2, 1] 0)))
 (.seq (.seq (.reg [.nop 13,
  .nop 0,
  .op (.call 88 [(.v 13), (.v 0)]),
  .op (.una .not (.v 0))])
 (.cond (.v 0) (.pre [12] 13 (.exit 0))
 .skip))
 (.reg [.nop 12,
  .nop 12,
  .op (.len true (.v 12)),
  .nop 4,
  .op (.bin .sub 3 (.v 0) (.v 4)),
  .op (.pur .subh [(.v 14), (.v 0)]),
  .nop 0])))) [0] 13))) [0] 4)
def ac73L0 : AC := .loop [[0], [4], [], [1]] ac73L0b
def ac73 : AFn := ⟨2, [],
 (.seq (.reg [.op (.mov (.c (.string ⟨#[]⟩)))])
 (.seq (.block 0 [[0], [4], [], [1]] (.pre [1] 0 ac73L0))
 (.seq (.reg [.nop 0,
  .nop 0])
 (.ret [.v 0]))))⟩


def ac87 : AFn := ⟨2, [],
 (.seq (.reg [.op (.mov (.c (.bool false)))])
 (.seq (.post (.reg [.nop 1,
  .nop 2,
  .op (.nilck (.v 1)),
  .op (.ida 256 1 (.v 0) (.v 3)),
  .op (.ld1 (.v 0)),
  .nop 0]) [0] 3)
 (.ret [.v 0])))⟩


theorem chk3 : chkFn Proofs.Tryz.prog Proofs.Tryz.f3 ac3 = true := by kernel_rfl
theorem chk4 : chkFn Proofs.Tryz.prog Proofs.Tryz.f4 ac4 = true := by kernel_rfl
theorem chk5 : chkFn Proofs.Tryz.prog Proofs.Tryz.f5 ac5 = true := by kernel_rfl
theorem chk6 : chkFn Proofs.Tryz.prog Proofs.Tryz.f6 ac6 = true := by kernel_rfl
theorem chk7 : chkFn Proofs.Tryz.prog Proofs.Tryz.f7 ac7 = true := by kernel_rfl
theorem chk8 : chkFn Proofs.Tryz.prog Proofs.Tryz.f8 ac8 = true := by kernel_rfl
theorem chk10 : chkFn Proofs.Tryz.prog Proofs.Tryz.f10 ac10 = true := by kernel_rfl
theorem chk11 : chkFn Proofs.Tryz.prog Proofs.Tryz.f11 ac11 = true := by kernel_rfl
theorem chk12 : chkFn Proofs.Tryz.prog Proofs.Tryz.f12 ac12 = true := by kernel_rfl
theorem chk13 : chkFn Proofs.Tryz.prog Proofs.Tryz.f13 ac13 = true := by kernel_rfl
theorem chk14 : chkFn Proofs.Tryz.prog Proofs.Tryz.f14 ac14 = true := by kernel_rfl
theorem chk15 : chkFn Proofs.Tryz.prog Proofs.Tryz.f15 ac15 = true := by kernel_rfl
theorem chk16 : chkFn Proofs.Tryz.prog Proofs.Tryz.f16 ac16 = true := by kernel_rfl
theorem chk17 : chkFn Proofs.Tryz.prog Proofs.Tryz.f17 ac17 = true := by kernel_rfl
theorem chk18 : chkFn Proofs.Tryz.prog Proofs.Tryz.f18 ac18 = true := by kernel_rfl
theorem chk19 : chkFn Proofs.Tryz.prog Proofs.Tryz.f19 ac19 = true := by kernel_rfl
theorem chk20 : chkFn Proofs.Tryz.prog Proofs.Tryz.f20 ac20 = true := by kernel_rfl
theorem chk22 : chkFn Proofs.Tryz.prog Proofs.Tryz.f22 ac22 = true := by kernel_rfl
theorem chk28 : chkFn Proofs.Tryz.prog Proofs.Tryz.f28 ac28 = true := by kernel_rfl
theorem chk29 : chkFn Proofs.Tryz.prog Proofs.Tryz.f29 ac29 = true := by kernel_rfl
theorem chk30 : chkFn Proofs.Tryz.prog Proofs.Tryz.f30 ac30 = true := by kernel_rfl
theorem chk31 : chkFn Proofs.Tryz.prog Proofs.Tryz.f31 ac31 = true := by kernel_rfl
theorem chk32 : chkFn Proofs.Tryz.prog Proofs.Tryz.f32 ac32 = true := by kernel_rfl
theorem chk33 : chkFn Proofs.Tryz.prog Proofs.Tryz.f33 ac33 = true := by kernel_rfl
theorem chk34 : chkFn Proofs.Tryz.prog Proofs.Tryz.f34 ac34 = true := by kernel_rfl
theorem chk35 : chkFn Proofs.Tryz.prog Proofs.Tryz.f35 ac35 = true := by kernel_rfl
theorem chk45 : chkFn Proofs.Tryz.prog Proofs.Tryz.f45 ac45 = true := by kernel_rfl
theorem chk46 : chkFn Proofs.Tryz.prog Proofs.Tryz.f46 ac46 = true := by kernel_rfl
theorem chk47 : chkFn Proofs.Tryz.prog Proofs.Tryz.f47 ac47 = true := by kernel_rfl
theorem chk48 : chkFn Proofs.Tryz.prog Proofs.Tryz.f48 ac48 = true := by kernel_rfl
theorem chk66 : chkFn Proofs.Tryz.prog Proofs.Tryz.f66 ac66 = true := by kernel_rfl
theorem chk67 : chkFn Proofs.Tryz.prog Proofs.Tryz.f67 ac67 = true := by kernel_rfl
theorem chk68 : chkFn Proofs.Tryz.prog Proofs.Tryz.f68 ac68 = true := by kernel_rfl
theorem chk69 : chkFn Proofs.Tryz.prog Proofs.Tryz.f69 ac69 = true := by kernel_rfl
theorem chk70 : chkFn Proofs.Tryz.prog Proofs.Tryz.f70 ac70 = true := by kernel_rfl
theorem chk71 : chkFn Proofs.Tryz.prog Proofs.Tryz.f71 ac71 = true := by kernel_rfl
theorem chk72 : chkFn Proofs.Tryz.prog Proofs.Tryz.f72 ac72 = true := by kernel_rfl
theorem chk73 : chkFn Proofs.Tryz.prog Proofs.Tryz.f73 ac73 = true := by kernel_rfl
theorem chk87 : chkFn Proofs.Tryz.prog Proofs.Tryz.f87 ac87 = true := by kernel_rfl
noncomputable def tab : List (Nat × AFn) := [(3, ac3), (4, ac4), (5, ac5), (6, ac6), (7, ac7), (8, ac8), (10, ac10), (11, ac11), (12, ac12), (13, ac13), (14, ac14), (15, ac15), (16, ac16), (17, ac17), (18, ac18), (19, ac19), (20, ac20), (22, ac22), (28, ac28), (29, ac29), (30, ac30), (31, ac31), (32, ac32), (33, ac33), (34, ac34), (35, ac35), (45, ac45), (46, ac46), (47, ac47), (48, ac48), (66, ac66), (67, ac67), (68, ac68), (69, ac69), (70, ac70), (71, ac71), (72, ac72), (73, ac73), (87, ac87)]
theorem good : Good Proofs.Tryz.prog tab := (.cons Proofs.Tryz.func3 chk3 (.cons Proofs.Tryz.func4 chk4 (.cons Proofs.Tryz.func5 chk5 (.cons Proofs.Tryz.func6 chk6 (.cons Proofs.Tryz.func7 chk7 (.cons Proofs.Tryz.func8 chk8 (.cons Proofs.Tryz.func10 chk10 (.cons Proofs.Tryz.func11 chk11 (.cons Proofs.Tryz.func12 chk12 (.cons Proofs.Tryz.func13 chk13 (.cons Proofs.Tryz.func14 chk14 (.cons Proofs.Tryz.func15 chk15 (.cons Proofs.Tryz.func16 chk16 (.cons Proofs.Tryz.func17 chk17 (.cons Proofs.Tryz.func18 chk18 (.cons Proofs.Tryz.func19 chk19 (.cons Proofs.Tryz.func20 chk20 (.cons Proofs.Tryz.func22 chk22 (.cons Proofs.Tryz.func28 chk28 (.cons Proofs.Tryz.func29 chk29 (.cons Proofs.Tryz.func30 chk30 (.cons Proofs.Tryz.func31 chk31 (.cons Proofs.Tryz.func32 chk32 (.cons Proofs.Tryz.func33 chk33 (.cons Proofs.Tryz.func34 chk34 (.cons Proofs.Tryz.func35 chk35 (.cons Proofs.Tryz.func45 chk45 (.cons Proofs.Tryz.func46 chk46 (.cons Proofs.Tryz.func47 chk47 (.cons Proofs.Tryz.func48 chk48 (.cons Proofs.Tryz.func66 chk66 (.cons Proofs.Tryz.func67 chk67 (.cons Proofs.Tryz.func68 chk68 (.cons Proofs.Tryz.func69 chk69 (.cons Proofs.Tryz.func70 chk70 (.cons Proofs.Tryz.func71 chk71 (.cons Proofs.Tryz.func72 chk72 (.cons Proofs.Tryz.func73 chk73 (.cons Proofs.Tryz.func87 chk87 .nil)))))))))))))))))))))))))))))))))))))))
end Go.Am.C39
