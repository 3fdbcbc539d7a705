/- The machine and its runs, part 6: Am41. -/
import Derived.Test.YtjhomcflchfamaaDoorProg
import Derived.Test.YtjhomcflchfamaaDoorB5
set_option linter.unusedVariables false
set_option linter.unusedSimpArgs false
set_option linter.unusedSectionVars false
set_option maxRecDepth 1000000
namespace Go.Am.C41
open Go Go.Am
def ac3L0b : AC :=
 (.post (.seq (.reg [.op (.bin .lss 3 (.v 2) (.v 4))])
 (.seq (.cond (.v 0) .skip
 (.pre [1, 2] 4 (.exit 0)))
 (.seq (.block 1 [[4], [6], [35], [], [], [34], [], [33], [], [31, 5], [30], [22], [], [0, 23, 32], [1]] (.post (.seq (.reg [.op (.idx 9 (.v 11) (.v 3)),
  .op (.ldn 9 (.v 0)),
  .op (.new [(.int .i64 0), (.int .i64 0), (.int .i64 0), (.bool false), (.string ⟨#[]⟩), (.string ⟨#[]⟩), (.int .i64 0), (.int .i64 0), (.slice none 0 0)]),
  .eff (.st 9 (.v 0) (.v 1))])
 (.seq (.seq (.reg [.op (.fld 8 (.v 0)),
  .op (.ld1 (.v 0)),
  .op (.len false (.v 0)),
  .op (.bin .gtr 3 (.v 0) (.c (.int .i64 100))),
  .nop 0,
  .opg (.fld 4 (.v 4)) 0 false,
  .opg (.ld1 (.v 0)) 1 false,
  .opg (.len true (.v 0)) 2 false,
  .opg (.bin .gtr 3 (.v 0) (.c (.int .i64 100))) 3 false,
  .op (.pick (.v 4) (.c (.bool true)) (.v 0)),
  .nop 0,
  .opg (.fld 5 (.v 9)) 0 false,
  .opg (.ld1 (.v 0)) 1 false,
  .opg (.len true (.v 0)) 2 false,
  .opg (.bin .gtr 3 (.v 0) (.c (.int .i64 100))) 3 false,
  .op (.pick (.v 4) (.c (.bool true)) (.v 0))])
 (.cond (.v 0) (.seq (.reg [.op (.mov (.c (.bool true)))])
 (.ret [.v 0]))
 .skip))
 (.seq (.reg [.nop 24,
  .op (.ldn 9 (.v 14)),
  .op (.call 12 [(.v 25), (.v 0)]),
  .op (.bin .eql 30 (.v 0) (.c (.int .i64 0)))])
 (.cond (.v 0) (.post (.reg [.nop 22,
  .op (.ldn 9 (.v 17)),
  .op (.mkl 9 1 [(.int .i64 0), (.int .i64 0), (.int .i64 0), (.bool false), (.string ⟨#[]⟩), (.string ⟨#[]⟩), (.int .i64 0), (.int .i64 0), (.slice none 0 0)] [(0, (.v 0))]),
  .op (.app 9 104 (.v 24) (.v 0)),
  .nop 0]) [0] 3)
 (.post .skip [22] 0))))) [22, 0] 21))
 (.reg [.op (.bin .add 3 (.v 5) (.c (.int .i64 1))),
  .nop 0])))) [1, 2, 0] 7)
def ac3L0 : AC := .loop [[4], [6], [34], [], [33], [], [31, 5], [30], [22], [], [0, 23, 32], [1]] ac3L0b
def ac3L1b : AC :=
 (.post (.seq (.reg [.op (.bin .lss 3 (.v 0) (.v 2))])
 (.seq (.cond (.v 0) .skip
 (.pre [1] 2 (.exit 4)))
 (.seq (.block 5 [[100], [99], [], [98], [96], [95], [92, 14, 94], [91], [90], [89], [87], [86], [83], [82], [81], [80], [78, 79], [77], [75, 13, 84, 88], [73, 12], [71, 11, 76, 85], [70], [69], [4], [68], [], [67], [65, 9], [], [6, 63, 97], [], [33], [], [31, 5, 72, 74, 93], [30], [22], [], [0, 23, 32], [1, 66]] (.post (.seq (.reg [.nop 1,
  .op (.idx 9 (.v 29) (.v 1)),
  .op (.ldn 9 (.v 0)),
  .op (.new [(.int .i64 0), (.int .i64 0), (.int .i64 0), (.bool false), (.string ⟨#[]⟩), (.string ⟨#[]⟩), (.int .i64 0), (.int .i64 0), (.slice none 0 0)]),
  .nop 4,
  .eff (.st 9 (.v 0) (.v 1))])
 (.reg [.nop 30,
  .nop 4,
  .nop 30,
  .nop 4,
  .op (.idx 1 (.v 30) (.v 4)),
  .op (.ld1 (.v 0)),
  .nop 0,
  .opg (.fld 0 (.v 2)) 0 false,
  .opg (.ld1 (.v 0)) 1 false,
  .opg (.mov (.v 13)) 2 false,
  .opg (.bin .eql 3 (.v 1) (.v 0)) 3 false,
  .op (.pick (.v 4) (.c (.bool true)) (.v 0)),
  .op (.idx 1 (.v 37) (.v 11)),
  .eff (.st 1 (.v 0) (.v 1))])) [] 11))
 (.reg [.op (.bin .add 3 (.v 1) (.c (.int .i64 1))),
  .nop 0])))) [0] 3)
def ac3L1 : AC := .loop [[99], [], [98], [96], [95], [92, 14, 94], [91], [90], [89], [87], [86], [83], [82], [81], [80], [78, 79], [77], [75, 13, 84, 88], [73, 12], [71, 11, 76, 85], [70], [69], [4], [68], [], [67], [65, 9], [], [6, 63, 97], [], [33], [], [31, 5, 72, 74, 93], [30], [22], [], [0, 23, 32], [1, 66]] ac3L1b
def ac3L2b : AC :=
 (.post (.seq (.reg [.op (.bin .lss 3 (.v 1) (.v 11))])
 (.seq (.cond (.v 0) .skip
 (.pre [1, 2] 3 (.exit 8)))
 (.seq (.block 9 [[4], [147], [], [146], [], [144], [142], [141], [19], [140], [139], [137], [], [136, 138, 18, 145], [], [135], [133], [132], [129, 17, 131, 143], [128], [127], [126], [124], [123], [120], [119], [83], [82], [81], [80], [78, 79], [77], [75, 13], [73, 12, 118, 121, 125], [71, 11, 76, 122], [70], [69], [], [68], [], [67], [65, 9], [], [6, 63, 134], [], [33], [], [31, 5, 72, 74, 130], [30], [22], [], [0, 23, 32], [1, 66]] (.post (.seq (.reg [.nop 2,
  .nop 2])
 (.seq (.regD [.nop 40,
  .nop 2,
  .op (.idx 1 (.v 40) (.v 2)),
  .op (.ld1 (.v 0)),
  .op (.una .not (.v 0)),
  .nop 0,
  .opg (.mov (.v 45)) 0 true,
  .opg (.mov (.v 6)) 1 true,
  .opg (.idx 9 (.v 1) (.v 0)) 2 true,
  .opg (.ldn 9 (.v 0)) 3 true,
  .opg (.ldn 9 (.v 14)) 4 true,
  .opg (.call 17 [(.v 1), (.v 0)]) 5 true,
  .op (.pick (.v 6) (.v 0) (.c (.bool false)))] [0, 0, 3, 7, 15, 31, 63, 63, 255, 511, 63, 2047, 4095])
 (.cond (.v 0) (.seq (.reg [.op (.mov (.c (.bool false)))])
 (.ret [.v 0]))
 .skip))) [11] 10))
 (.reg [.op (.bin .add 3 (.v 3) (.c (.int .i64 1))),
  .nop 0])))) [1, 0] 5)
def ac3L2 : AC := .loop [[4], [146], [], [144], [142], [141], [19], [140], [139], [137], [], [136, 138, 18, 145], [], [135], [133], [132], [129, 17, 131, 143], [128], [127], [126], [124], [123], [120], [119], [83], [82], [81], [80], [78, 79], [77], [75, 13], [73, 12, 118, 121, 125], [71, 11, 76, 122], [70], [69], [], [68], [], [67], [65, 9], [], [6, 63, 134], [], [33], [], [31, 5, 72, 74, 130], [30], [22], [], [0, 23, 32], [1, 66]] ac3L2b
def ac3L3b : AC :=
 (.post (.seq (.reg [.op (.bin .lss 3 (.v 1) (.v 3))])
 (.seq (.cond (.v 0) .skip
 (.pre [1, 2] 3 (.exit 6)))
 (.seq (.block 7 [[4], [137], [], [136], [], [135], [133], [132], [129, 17, 131], [128], [127], [126], [124], [123], [120], [119], [83], [82], [81], [80], [78, 79], [77], [75, 13], [73, 12, 118, 121, 125], [71, 11, 76, 122], [70], [69], [], [68], [], [67], [65, 9], [], [6, 63, 134], [], [33], [], [31, 5, 72, 74, 130], [30], [22], [], [0, 23, 32], [1, 66]] (.post (.seq (.reg [.nop 2,
  .op (.idx 9 (.v 32) (.v 2)),
  .op (.ldn 9 (.v 0)),
  .op (.new [(.int .i64 0), (.int .i64 0), (.int .i64 0), (.bool false), (.string ⟨#[]⟩), (.string ⟨#[]⟩), (.int .i64 0), (.int .i64 0), (.slice none 0 0)]),
  .nop 5,
  .eff (.st 9 (.v 0) (.v 1))])
 (.seq (.seq (.reg [.op (.fld 0 (.v 0)),
  .op (.ld1 (.v 0)),
  .nop 12,
  .op (.bin .neq 3 (.v 0) (.v 12))])
 (.cond (.v 0) (.pre [7] 6 (.exit 7))
 .skip))
 (.seq (.reg [.nop 8,
  .op (.mov (.c (.int .i64 0)))])
 (.block 8 [[4], [146], [], [144], [142], [141], [19], [140], [139], [137], [], [136, 138, 18, 145], [], [135], [133], [132], [129, 17, 131, 143], [128], [127], [126], [124], [123], [120], [119], [83], [82], [81], [80], [78, 79], [77], [75, 13], [73, 12, 118, 121, 125], [71, 11, 76, 122], [70], [69], [], [68], [], [67], [65, 9], [], [6, 63, 134], [], [33], [], [31, 5, 72, 74, 130], [30], [22], [], [0, 23, 32], [1, 66]] (.pre [8, 0] 0 ac3L2))))) [0] 9))
 (.reg [.op (.bin .add 3 (.v 3) (.c (.int .i64 1))),
  .nop 0])))) [1, 0] 5)
def ac3L3 : AC := .loop [[4], [136], [], [135], [133], [132], [129, 17, 131], [128], [127], [126], [124], [123], [120], [119], [83], [82], [81], [80], [78, 79], [77], [75, 13], [73, 12, 118, 121, 125], [71, 11, 76, 122], [70], [69], [], [68], [], [67], [65, 9], [], [6, 63, 134], [], [33], [], [31, 5, 72, 74, 130], [30], [22], [], [0, 23, 32], [1, 66]] ac3L3b
def ac3L4b : AC :=
 (.post (.seq (.reg [.op (.bin .lss 3 (.v 1) (.v 3))])
 (.seq (.cond (.v 0) .skip
 (.pre [1] 3 (.exit 2)))
 (.seq (.block 3 [[4], [69], [], [68], [], [67], [65, 9], [], [6, 63], [], [33], [], [31, 5], [30], [22], [], [0, 23, 32], [1, 66]] (.post (.seq (.reg [.op (.idx 1 (.v 16) (.v 2)),
  .op (.ld1 (.v 0)),
  .nop 0])
 (.seq (.reg [.nop 13,
  .op (.call 13 [(.v 13)]),
  .nop 14,
  .op (.call 14 [(.v 14)]),
  .nop 1,
  .nop 0])
 (.seq (.seq (.reg [.nop 2,
  .op (.bin .rem 5 (.v 2) (.c (.int .u8 2))),
  .op (.bin .eql 5 (.v 0) (.c (.int .u8 1))),
  .nop 0,
  .opg (.mov (.v 2)) 0 true,
  .opg (.len false (.v 0)) 1 true,
  .opg (.bin .gtr 3 (.v 0) (.c (.int .i64 0))) 2 true,
  .op (.pick (.v 3) (.v 0) (.c (.bool false)))])
 (.cond (.v 0) (.seq (.reg [.nop 6,
  .nop 8,
  .op (.bin .quo 5 (.v 8) (.c (.int .u8 2))),
  .op (.conv .i64 (.v 0)),
  .nop 8,
  .op (.len false (.v 8)),
  .op (.bin .rem 3 (.v 1) (.v 0)),
  .op (.idx 1 (.v 10) (.v 0)),
  .op (.ld1 (.v 0)),
  .nop 0])
 (.seq (.seq (.reg [.nop 27,
  .nop 0,
  .op (.call 15 [(.v 27), (.v 0)]),
  .op (.bin .neq 30 (.v 0) (.c (.int .i64 0)))])
 (.cond (.v 0) (.seq (.reg [.op (.mov (.c (.bool false)))])
 (.ret [.v 0]))
 .skip))
 (.seq (.seq (.reg [.nop 25,
  .op (.len false (.v 25)),
  .op (.mov (.c (.int .i64 0)))])
 (.block 4 [[99], [], [98], [96], [95], [92, 14, 94], [91], [90], [89], [87], [86], [83], [82], [81], [80], [78, 79], [77], [75, 13, 84, 88], [73, 12], [71, 11, 76, 85], [70], [69], [4], [68], [], [67], [65, 9], [], [6, 63, 97], [], [33], [], [31, 5, 72, 74, 93], [30], [22], [], [0, 23, 32], [1, 66]] (.pre [0] 0 ac3L1)))
 (.pre [22] 21 (.exit 3)))))
 .skip))
 (.seq (.seq (.reg [.nop 7,
  .op (.len false (.v 7)),
  .op (.bin .eql 3 (.v 0) (.c (.int .i64 0)))])
 (.cond (.v 0) (.pre [13] 12 (.exit 3))
 .skip))
 (.seq (.reg [.nop 9,
  .nop 10,
  .op (.bin .quo 5 (.v 10) (.c (.int .u8 2))),
  .op (.conv .i64 (.v 0)),
  .nop 11,
  .op (.len false (.v 11)),
  .op (.bin .rem 3 (.v 1) (.v 0)),
  .op (.idx 1 (.v 13) (.v 0)),
  .op (.ld1 (.v 0)),
  .nop 0])
 (.seq (.seq (.reg [.nop 29,
  .nop 0,
  .op (.call 16 [(.v 29), (.v 0)]),
  .op (.bin .neq 30 (.v 0) (.c (.int .i64 0)))])
 (.cond (.v 0) (.seq (.reg [.op (.mov (.c (.bool false)))])
 (.ret [.v 0]))
 .skip))
 (.seq (.reg [.nop 27,
  .op (.len false (.v 27)),
  .op (.mov (.c (.int .i64 0)))])
 (.block 6 [[4], [136], [], [135], [133], [132], [129, 17, 131], [128], [127], [126], [124], [123], [120], [119], [83], [82], [81], [80], [78, 79], [77], [75, 13], [73, 12, 118, 121, 125], [71, 11, 76, 122], [70], [69], [], [68], [], [67], [65, 9], [], [6, 63, 134], [], [33], [], [31, 5, 72, 74, 130], [30], [22], [], [0, 23, 32], [1, 66]] (.pre [23, 0] 0 ac3L3))))))))) [0] 24))
 (.reg [.op (.bin .add 3 (.v 3) (.c (.int .i64 1))),
  .nop 0])))) [1, 0] 5)
def ac3L4 : AC := .loop [[4], [68], [], [67], [65, 9], [], [6, 63], [], [33], [], [31, 5], [30], [22], [], [0, 23, 32], [1, 66]] ac3L4b
def ac3 : AFn := ⟨2, [],
 (.seq (.reg [.op (.mov (.c (.bool false)))])
 (.seq (.seq (.post (.reg [.op (.call 10 []),
  .op (.una .not (.v 0))]) [0] 2)
 (.cond (.v 0) (.seq (.reg [.op (.mov (.c (.bool false)))])
 (.ret [.v 0]))
 .skip))
 (.seq (.seq (.post (.reg [.nop 2,
  .op (.len false (.v 2)),
  .op (.bin .gtr 3 (.v 0) (.c (.int .i64 30))),
  .nop 0,
  .opg (.mov (.v 5)) 0 false,
  .opg (.len false (.v 0)) 1 false,
  .opg (.bin .gtr 3 (.v 0) (.c (.int .i64 100))) 2 false,
  .op (.pick (.v 3) (.c (.bool true)) (.v 0))]) [0] 6)
 (.cond (.v 0) (.seq (.reg [.op (.mov (.c (.bool true)))])
 (.ret [.v 0]))
 .skip))
 (.seq (.reg [.op (.call 11 []),
  .nop 0])
 (.seq (.reg [.op (.mov (.c (.slice none 0 0)))])
 (.seq (.seq (.reg [.nop 5,
  .op (.len false (.v 5)),
  .op (.mov (.c (.int .i64 0)))])
 (.block 0 [[4], [6], [], [33], [], [31, 5], [30], [22], [], [0, 23, 32], [1]] (.pre [6, 2, 0] 0 ac3L0)))
 (.seq (.post (.reg [.nop 1,
  .op (.len false (.v 1)),
  .op (.make 1 1 [(.bool false)] (.v 0) (.v 0)),
  .nop 0]) [0] 2)
 (.seq (.seq (.reg [.nop 11,
  .op (.len false (.v 11)),
  .op (.mov (.c (.int .i64 0)))])
 (.block 2 [[4], [], [67], [65, 9], [], [6, 63], [], [33], [], [31, 5], [30], [22], [], [0, 23, 32], [1, 66]] (.pre [3, 0] 0 ac3L4)))
 (.seq (.reg [.op (.mov (.c (.bool true)))])
 (.ret [.v 0]))))))))))⟩


def ac4L0b : AC :=
 (.post (.seq (.reg [.op (.bin .lss 3 (.v 1) (.v 3))])
 (.seq (.cond (.v 0) .skip
 (.pre [1] 3 (.exit 0)))
 (.seq (.block 1 [[4], [16], [], [15], [], [14], [10, 5], [9], [], [0, 11], [1]] (.post (.seq (.reg [.nop 2,
  .nop 2])
 (.seq (.reg [.nop 5,
  .nop 2,
  .nop 2,
  .op (.build [(.int .i64 0), (.int .i64 0), (.int .i64 0), (.bool false), (.string ⟨#[]⟩), (.string ⟨#[]⟩), (.int .i64 0), (.int .i64 0), (.slice none 0 0)] [(0, 1, (.v 2)), (1, 1, (.c (.int .i64 1))), (4, 1, (.c (.string ⟨#[118]⟩))), (6, 1, (.v 2)), (7, 1, (.c (.int .i64 1)))]),
  .op (.call 12 [(.v 6), (.v 0)]),
  .nop 0])
 (.seq (.reg [.nop 4,
  .op (.bin .lss 3 (.v 4) (.c (.int .i64 64))),
  .nop 1,
  .op (.bin .eql 30 (.v 1) (.c (.int .i64 0))),
  .op (.bin .neq 4 (.v 1) (.v 0)),
  .nop 0,
  .opg (.mov (.v 7)) 0 false,
  .opg (.bin .geq 3 (.v 0) (.c (.int .i64 64))) 1 false,
  .opg (.mov (.v 0)) 2 false,
  .opg (.mov (.v 6)) 0 true,
  .opg (.bin .neq 30 (.v 0) (.c (.int .i64 7))) 1 true,
  .opg (.pick (.v 2) (.v 0) (.c (.bool false))) 5 false,
  .op (.pick (.v 6) (.c (.bool true)) (.v 0))])
 (.cond (.v 0) (.seq (.reg [.op (.mov (.c (.bool false)))])
 (.ret [.v 0]))
 .skip)))) [13] 12))
 (.reg [.op (.bin .add 3 (.v 3) (.c (.int .i64 1))),
  .nop 0])))) [1, 0] 5)
def ac4L0 : AC := .loop [[4], [15], [], [14], [10, 5], [9], [], [0, 11], [1]] ac4L0b
def ac4 : AFn := ⟨2, [],
 (.seq (.reg [.op (.mov (.c (.bool false)))])
 (.seq (.seq (.post (.reg [.op (.call 10 []),
  .op (.una .not (.v 0))]) [0] 2)
 (.cond (.v 0) (.seq (.reg [.op (.mov (.c (.bool false)))])
 (.ret [.v 0]))
 .skip))
 (.seq (.reg [.op (.call 11 []),
  .nop 0])
 (.seq (.seq (.post (.reg [.nop 3,
  .op (.bin .rem 5 (.v 3) (.c (.int .u8 8))),
  .op (.conv .i64 (.v 0)),
  .op (.bin .add 3 (.c (.int .i64 60)) (.v 0)),
  .op (.mov (.c (.int .i64 0)))]) [0, 1] 4)
 (.block 0 [[4], [], [14], [10, 5], [9], [], [0, 11], [1]] (.pre [4, 0] 0 ac4L0)))
 (.seq (.seq (.post (.reg [.nop 7,
  .op (.bin .lss 3 (.v 7) (.c (.int .i64 0))),
  .nop 0,
  .opg (.mov (.v 8)) 0 false,
  .opg (.bin .geq 3 (.v 0) (.c (.int .i64 60))) 1 false,
  .op (.pick (.v 2) (.c (.bool true)) (.v 0))]) [0] 4)
 (.cond (.v 0) (.seq (.reg [.op (.mov (.c (.bool true)))])
 (.ret [.v 0]))
 .skip))
 (.seq (.post (.reg [.nop 4,
  .nop 8,
  .op (.build [(.int .i64 0), (.int .i64 0), (.int .i64 0), (.bool false), (.string ⟨#[]⟩), (.string ⟨#[]⟩), (.int .i64 0), (.int .i64 0), (.slice none 0 0)] [(0, 1, (.v 8)), (1, 1, (.c (.int .i64 4)))]),
  .op (.call 12 [(.v 5), (.v 0)]),
  .op (.bin .eql 30 (.v 0) (.c (.int .i64 10))),
  .nop 0,
  .opg (.mov (.v 7)) 0 true,
  .opg (.call 18 [(.v 0)]) 1 true,
  .opg (.len false (.v 0)) 2 true,
  .opg (.mov (.v 13)) 3 true,
  .opg (.bin .rem 5 (.v 0) (.c (.int .u8 8))) 4 true,
  .opg (.conv .i64 (.v 0)) 5 true,
  .opg (.bin .add 3 (.c (.int .i64 60)) (.v 0)) 6 true,
  .opg (.pur .min [(.c (.int .i64 64)), (.v 0)]) 7 true,
  .opg (.bin .eql 3 (.v 5) (.v 0)) 8 true,
  .op (.pick (.v 9) (.v 0) (.c (.bool false))),
  .nop 0,
  .opg (.mov (.v 17)) 0 true,
  .opg (.call 13 [(.v 0)]) 1 true,
  .opg (.len false (.v 0)) 2 true,
  .opg (.mov (.v 20)) 3 true,
  .opg (.call 18 [(.v 0)]) 4 true,
  .opg (.len false (.v 0)) 5 true,
  .opg (.bin .eql 3 (.v 3) (.v 0)) 6 true,
  .op (.pick (.v 7) (.v 0) (.c (.bool false))),
  .nop 0]) [0] 21)
 (.ret [.v 0])))))))⟩


def ac5L0b : AC :=
 (.post (.seq (.reg [.op (.bin .lss 3 (.v 0) (.v 2))])
 (.seq (.cond (.v 0) .skip
 (.pre [] 2 (.exit 0)))
 (.seq (.block 1 [[30], [29], [], [28], [26, 6], [24, 5], [23], [21], [4], [0, 22, 27], [1]] (.post (.seq (.reg [.op (.idx 11 (.v 9) (.v 1)),
  .op (.ldn 11 (.v 0)),
  .op (.new [(.int .i64 0), (.int .i64 0), (.int .i64 0), (.int .i64 0), (.int .i64 0), (.bool false), (.string ⟨#[]⟩), (.string ⟨#[]⟩), (.int .i64 0), (.int .i64 0), (.slice none 0 0)]),
  .eff (.st 11 (.v 0) (.v 1))])
 (.post (.reg [.nop 8,
  .nop 7,
  .op (.ldn 11 (.v 0)),
  .op (.call 20 [(.v 9), (.v 8), (.v 0)])]) [1] 2)) [] 4))
 (.reg [.op (.bin .add 3 (.v 1) (.c (.int .i64 1))),
  .nop 0])))) [0] 3)
def ac5L0 : AC := .loop [[29], [], [28], [26, 6], [24, 5], [23], [21], [4], [0, 22, 27], [1]] ac5L0b
def ac5L1b : AC :=
 (.post (.seq (.reg [.op (.bin .lss 3 (.v 1) (.v 3))])
 (.seq (.cond (.v 0) .skip
 (.pre [1, 2] 3 (.exit 4)))
 (.seq (.block 5 [[17], [76], [], [75], [], [74], [72], [71], [70], [68, 69], [65, 16, 66], [64], [63], [4], [62], [], [61], [59, 14, 73], [57, 13], [54, 12], [52, 11, 60], [50, 10, 56, 67], [42], [39, 9, 40, 43, 46], [], [28], [26, 6], [24, 5, 38, 51, 53, 55, 58], [23], [21], [], [0, 22, 27], [1, 44]] (.post (.seq (.reg [.op (.idx 1 (.v 16) (.v 2)),
  .op (.ld1 (.v 0)),
  .nop 0])
 (.reg [.nop 3,
  .nop 3,
  .opg (.mov (.v 11)) 3 false,
  .opg (.mov (.v 1)) 4 false,
  .opg (.bin .eql 3 (.v 1) (.v 0)) 5 false,
  .op (.pick (.v 6) (.c (.bool true)) (.v 0)),
  .nop 0])) [0] 6))
 (.reg [.op (.bin .add 3 (.v 3) (.c (.int .i64 1))),
  .nop 0])))) [1, 0] 5)
def ac5L1 : AC := .loop [[17], [75], [], [74], [72], [71], [70], [68, 69], [65, 16, 66], [64], [63], [4], [62], [], [61], [59, 14, 73], [57, 13], [54, 12], [52, 11, 60], [50, 10, 56, 67], [42], [39, 9, 40, 43, 46], [], [28], [26, 6], [24, 5, 38, 51, 53, 55, 58], [23], [21], [], [0, 22, 27], [1, 44]] ac5L1b
def ac5L2b : AC :=
 (.post (.seq (.reg [.op (.bin .lss 3 (.v 1) (.v 3))])
 (.seq (.cond (.v 0) .skip
 (.pre [1] 3 (.exit 2)))
 (.seq (.block 3 [[4], [63], [], [62], [], [61], [59, 14], [57, 13], [54, 12], [52, 11, 60], [50, 10, 56], [42], [39, 9, 40, 43, 46], [], [28], [26, 6], [24, 5, 38, 51, 53, 55, 58], [23], [21], [], [0, 22, 27], [1, 44]] (.post (.seq (.reg [.op (.idx 1 (.v 8) (.v 2)),
  .op (.ld1 (.v 0)),
  .nop 0])
 (.seq (.reg [.nop 0,
  .nop 11,
  .op (.bin .eql 3 (.v 0) (.v 11)),
  .nop 0,
  .opg (.mov (.v 9)) 0 true,
  .opg (.bin .eql 30 (.v 0) (.c (.int .i64 0))) 1 true,
  .op (.pick (.v 2) (.v 0) (.c (.bool false))),
  .nop 0])
 (.seq (.seq (.reg [.nop 11,
  .op (.len false (.v 11)),
  .op (.mov (.c (.int .i64 0)))])
 (.block 4 [[17], [75], [], [74], [72], [71], [70], [68, 69], [65, 16, 66], [64], [63], [4], [62], [], [61], [59, 14, 73], [57, 13], [54, 12], [52, 11, 60], [50, 10, 56, 67], [42], [39, 9, 40, 43, 46], [], [28], [26, 6], [24, 5, 38, 51, 53, 55, 58], [23], [21], [], [0, 22, 27], [1, 44]] (.pre [2, 0] 0 ac5L1)))
 (.seq (.reg [.nop 0,
  .op (.una .not (.v 0))])
 (.cond (.v 0) (.seq (.reg [.op (.mov (.c (.bool false)))])
 (.ret [.v 0]))
 .skip))))) [12] 11))
 (.reg [.op (.bin .add 3 (.v 3) (.c (.int .i64 1))),
  .nop 0])))) [1, 0] 5)
def ac5L2 : AC := .loop [[4], [62], [], [61], [59, 14], [57, 13], [54, 12], [52, 11, 60], [50, 10, 56], [42], [39, 9, 40, 43, 46], [], [28], [26, 6], [24, 5, 38, 51, 53, 55, 58], [23], [21], [], [0, 22, 27], [1, 44]] ac5L2b
def ac5 : AFn := ⟨2, [],
 (.seq (.reg [.op (.mov (.c (.bool false)))])
 (.seq (.seq (.post (.reg [.op (.call 10 []),
  .op (.una .not (.v 0))]) [0] 2)
 (.cond (.v 0) (.seq (.reg [.op (.mov (.c (.bool false)))])
 (.ret [.v 0]))
 .skip))
 (.seq (.seq (.reg [.nop 2,
  .op (.call 19 [(.v 2)])])
 (.cond (.v 0) (.seq (.reg [.op (.mov (.c (.bool true)))])
 (.ret [.v 0]))
 .skip))
 (.seq (.post (.reg [.op (.call 11 []),
  .op (.build [(.slice none 0 0)] []),
  .op (.box (.v 0)),
  .nop 2,
  .nop 0]) [0, 2] 3)
 (.seq (.seq (.reg [.nop 5,
  .op (.len false (.v 5)),
  .op (.mov (.c (.int .i64 0)))])
 (.block 0 [[], [28], [26, 6], [24, 5], [23], [21], [4], [0, 22, 27], [1]] (.pre [0] 0 ac5L0)))
 (.seq (.reg [.nop 3,
  .op (.call 18 [(.v 3)]),
  .nop 0])
 (.seq (.seq (.post (.reg [.nop 0,
  .op (.len false (.v 0)),
  .op (.bin .eql 3 (.v 0) (.c (.int .i64 0)))]) [0] 2)
 (.cond (.v 0) (.seq (.reg [.op (.mov (.c (.bool true)))])
 (.ret [.v 0]))
 .skip))
 (.seq (.post (.reg [.nop 1,
  .nop 10,
  .op (.conv .i64 (.v 10)),
  .nop 2,
  .op (.len false (.v 2)),
  .op (.bin .rem 3 (.v 1) (.v 0)),
  .op (.idx 1 (.v 4) (.v 0)),
  .op (.ld1 (.v 0)),
  .nop 0]) [0] 5)
 (.seq (.reg [.nop 6,
  .op (.call 13 [(.v 6)]),
  .nop 7,
  .op (.call 14 [(.v 7)]),
  .nop 1,
  .nop 0])
 (.seq (.reg [.nop 8,
  .nop 2,
  .op (.call 21 [(.v 8), (.v 2)]),
  .nop 0])
 (.seq (.reg [.nop 9,
  .op (.call 13 [(.v 9)]),
  .nop 0])
 (.seq (.seq (.reg [.nop 3,
  .op (.len false (.v 3)),
  .op (.mov (.c (.int .i64 0)))])
 (.block 2 [[4], [], [61], [59, 14], [57, 13], [54, 12], [52, 11, 60], [50, 10, 56], [42], [39, 9, 40, 43, 46], [], [28], [26, 6], [24, 5, 38, 51, 53, 55, 58], [23], [21], [], [0, 22, 27], [1, 44]] (.pre [15, 0] 0 ac5L2)))
 (.seq (.post (.reg [.nop 4,
  .op (.bin .eql 30 (.v 4) (.c (.int .i64 0))),
  .nop 0,
  .opg (.mov (.v 14)) 0 true,
  .opg (.call 18 [(.v 0)]) 1 true,
  .opg (.len false (.v 0)) 2 true,
  .opg (.mov (.v 13)) 3 true,
  .opg (.len false (.v 0)) 4 true,
  .opg (.bin .sub 3 (.v 0) (.c (.int .i64 1))) 5 true,
  .opg (.bin .eql 3 (.v 3) (.v 0)) 6 true,
  .op (.pick (.v 7) (.v 0) (.c (.bool false))),
  .nop 0,
  .opg (.mov (.v 13)) 0 false,
  .opg (.bin .eql 30 (.v 0) (.c (.int .i64 8))) 1 false,
  .opg (.mov (.v 0)) 2 false,
  .opg (.mov (.v 25)) 0 true,
  .opg (.call 18 [(.v 0)]) 1 true,
  .opg (.len false (.v 0)) 2 true,
  .opg (.mov (.v 24)) 3 true,
  .opg (.len false (.v 0)) 4 true,
  .opg (.bin .eql 3 (.v 2) (.v 0)) 5 true,
  .opg (.pick (.v 6) (.v 0) (.c (.bool false))) 9 false,
  .op (.pick (.v 10) (.c (.bool true)) (.v 0)),
  .nop 0,
  .opg (.mov (.v 33)) 0 true,
  .opg (.call 14 [(.v 0)]) 1 true,
  .opg (.mov (.v 27)) 2 true,
  .opg (.call 22 [(.v 1), (.v 0)]) 3 true,
  .op (.pick (.v 4) (.v 0) (.c (.bool false))),
  .nop 0]) [0] 25)
 (.ret [.v 0]))))))))))))))⟩


def ac6L0b : AC :=
 (.post (.seq (.reg [.op (.bin .lss 3 (.v 0) (.v 2))])
 (.seq (.cond (.v 0) .skip
 (.pre [] 2 (.exit 0)))
 (.seq (.block 1 [[49], [48], [], [47], [45], [41, 5, 42], [4], [37, 3, 39, 46], [33], [12], [2], [1], [0]] (.post (.seq (.reg [.nop 1,
  .nop 1])
 (.regD [.nop 7,
  .nop 1,
  .op (.idx 8 (.v 7) (.v 1)),
  .op (.ida 8 1 (.v 0) (.c (.int .i64 0))),
  .op (.ld1 (.v 0)),
  .op (.bin .add 5 (.v 0) (.c (.int .u8 1))),
  .op (.idx 8 (.v 11) (.v 5)),
  .op (.ida 8 1 (.v 0) (.c (.int .i64 0))),
  .eff (.st 1 (.v 0) (.v 2))] [0, 0, 3, 7, 15, 31, 3, 127, 255])) [] 6))
 (.reg [.op (.bin .add 3 (.v 1) (.c (.int .i64 1))),
  .nop 0])))) [0] 3)
def ac6L0 : AC := .loop [[48], [], [47], [45], [41, 5, 42], [4], [37, 3, 39, 46], [33], [12], [2], [1], [0]] ac6L0b
def ac6L1b : AC :=
 (.post (.seq (.reg [.op (.bin .lss 3 (.v 0) (.v 2))])
 (.seq (.cond (.v 0) .skip
 (.pre [] 2 (.exit 2)))
 (.seq (.block 3 [[79], [78], [], [77], [74], [7], [66, 8, 67], [], [47], [45], [41, 5, 42, 61], [4], [37, 3, 39, 46], [33], [12], [2], [1], [0]] (.post (.seq (.reg [.nop 1,
  .nop 1])
 (.regD [.op (.fld 8 (.v 5)),
  .op (.ld1 (.v 0)),
  .nop 3,
  .op (.idx 8 (.v 0) (.v 3)),
  .op (.ida 8 1 (.v 0) (.c (.int .i64 0))),
  .op (.ld1 (.v 0)),
  .op (.bin .add 5 (.v 0) (.c (.int .u8 1))),
  .op (.idx 8 (.v 4) (.v 7)),
  .op (.ida 8 1 (.v 0) (.c (.int .i64 0))),
  .eff (.st 1 (.v 0) (.v 2))] [0, 1, 0, 7, 15, 31, 63, 7, 255, 511])) [] 8))
 (.reg [.op (.bin .add 3 (.v 1) (.c (.int .i64 1))),
  .nop 0])))) [0] 3)
def ac6L1 : AC := .loop [[78], [], [77], [74], [7], [66, 8, 67], [], [47], [45], [41, 5, 42, 61], [4], [37, 3, 39, 46], [33], [12], [2], [1], [0]] ac6L1b
def ac6 : AFn := ⟨1, [],
 (.seq (.reg [.op (.box (.v 0)),
  .op (.mov (.c (.bool false)))])
 (.seq (.seq (.post (.reg [.op (.call 10 []),
  .op (.una .not (.v 0))]) [0] 2)
 (.cond (.v 0) (.seq (.reg [.op (.mov (.c (.bool false)))])
 (.ret [.v 0]))
 .skip))
 (.seq (.seq (.post (.reg [.op (.fld 8 (.v 2)),
  .op (.ld1 (.v 0)),
  .op (.len false (.v 0)),
  .op (.bin .gtr 3 (.v 0) (.c (.int .i64 100))),
  .nop 0,
  .opg (.fld 4 (.v 6)) 0 false,
  .opg (.ld1 (.v 0)) 1 false,
  .opg (.len true (.v 0)) 2 false,
  .opg (.bin .gtr 3 (.v 0) (.c (.int .i64 100))) 3 false,
  .op (.pick (.v 4) (.c (.bool true)) (.v 0)),
  .nop 0,
  .opg (.fld 5 (.v 11)) 0 false,
  .opg (.ld1 (.v 0)) 1 false,
  .opg (.len true (.v 0)) 2 false,
  .opg (.bin .gtr 3 (.v 0) (.c (.int .i64 100))) 3 false,
  .op (.pick (.v 4) (.c (.bool true)) (.v 0)),
  .nop 0,
  .opg (.ldn 9 (.v 16)) 0 false,
  .opg (.call 23 [(.v 0)]) 1 false,
  .opg (.una .not (.v 0)) 2 false,
  .op (.pick (.v 3) (.c (.bool true)) (.v 0))]) [0] 18)
 (.cond (.v 0) (.seq (.reg [.op (.mov (.c (.bool true)))])
 (.ret [.v 0]))
 .skip))
 (.seq (.post (.reg [.op (.mkl 8 0 [(.int .u8 0), (.int .u8 0), (.int .u8 0), (.int .u8 0), (.int .u8 0), (.int .u8 0), (.int .u8 0), (.int .u8 0)] []),
  .op (.fld 8 (.v 4)),
  .op (.ld1 (.v 0)),
  .op (.app 8 8 (.v 2) (.v 0)),
  .nop 0]) [0] 4)
 (.seq (.post (.reg [.op (.ldn 9 (.v 4)),
  .op (.new [(.int .i64 0), (.int .i64 0), (.int .i64 0), (.bool false), (.string ⟨#[]⟩), (.string ⟨#[]⟩), (.int .i64 0), (.int .i64 0), (.slice none 0 0)]),
  .eff (.st 9 (.v 0) (.v 1))]) [0] 2)
 (.seq (.post (.reg [.nop 1,
  .op (.fld 8 (.v 0)),
  .eff (.st 1 (.v 0) (.v 2))]) [] 1)
 (.seq (.reg [.op (.call 11 []),
  .nop 0])
 (.seq (.seq (.post (.reg [.nop 0,
  .op (.ldn 9 (.v 1)),
  .op (.call 12 [(.v 1), (.v 0)]),
  .op (.bin .neq 30 (.v 0) (.c (.int .i64 0)))]) [0] 3)
 (.cond (.v 0) (.seq (.reg [.op (.mov (.c (.bool false)))])
 (.ret [.v 0]))
 .skip))
 (.seq (.seq (.reg [.nop 3,
  .op (.len false (.v 3)),
  .op (.mov (.c (.int .i64 0)))])
 (.block 0 [[], [47], [45], [41, 5, 42], [4], [37, 3, 39, 46], [33], [12], [2], [1], [0]] (.pre [0] 0 ac6L0)))
 (.seq (.post (.reg [.nop 3,
  .op (.fld 0 (.v 9)),
  .op (.ld1 (.v 0)),
  .op (.call 24 [(.v 5), (.v 0)]),
  .nop 0,
  .op (.extr 0 (.v 0)),
  .op (.extr 1 (.v 1)),
  .op (.new [(.int .i64 0), (.int .i64 0), (.int .i64 0), (.bool false), (.string ⟨#[]⟩), (.string ⟨#[]⟩), (.int .i64 0), (.int .i64 0), (.slice none 0 0)]),
  .eff (.st 9 (.v 0) (.v 2)),
  .nop 1]) [0, 1] 6)
 (.seq (.seq (.post (.reg [.nop 1,
  .op (.una .not (.v 1)),
  .nop 0,
  .opg (.ldn 9 (.v 1)) 0 false,
  .opg (.ldn 9 (.v 13)) 1 false,
  .opg (.call 25 [(.v 1), (.v 0)]) 2 false,
  .opg (.una .not (.v 0)) 3 false,
  .op (.pick (.v 4) (.c (.bool true)) (.v 0))]) [0] 6)
 (.cond (.v 0) (.seq (.reg [.op (.mov (.c (.bool false)))])
 (.ret [.v 0]))
 .skip))
 (.seq (.seq (.post (.reg [.op (.fld 8 (.v 1)),
  .op (.ld1 (.v 0)),
  .op (.len false (.v 0)),
  .op (.mov (.c (.int .i64 0)))]) [0, 1] 4)
 (.block 2 [[], [77], [74], [7], [66, 8, 67], [], [47], [45], [41, 5, 42, 61], [4], [37, 3, 39, 46], [33], [12], [2], [1], [0]] (.pre [0] 0 ac6L1)))
 (.seq (.post (.reg [.nop 8,
  .op (.fld 0 (.v 14)),
  .op (.ld1 (.v 0)),
  .op (.call 24 [(.v 10), (.v 0)]),
  .nop 0,
  .op (.extr 0 (.v 0)),
  .op (.extr 1 (.v 1)),
  .op (.new [(.int .i64 0), (.int .i64 0), (.int .i64 0), (.bool false), (.string ⟨#[]⟩), (.string ⟨#[]⟩), (.int .i64 0), (.int .i64 0), (.slice none 0 0)]),
  .eff (.st 9 (.v 0) (.v 2)),
  .nop 1]) [0, 1] 6)
 (.seq (.post (.reg [.nop 1,
  .nop 1,
  .opg (.ldn 9 (.v 0)) 1 true,
  .opg (.ldn 9 (.v 17)) 2 true,
  .opg (.call 25 [(.v 1), (.v 0)]) 3 true,
  .op (.pick (.v 4) (.v 0) (.c (.bool false))),
  .nop 0]) [0] 4)
 (.ret [.v 0])))))))))))))))⟩


def ac7L0b : AC :=
 (.post (.seq (.reg [.op (.bin .lss 3 (.v 1) (.v 3))])
 (.seq (.cond (.v 0) .skip
 (.pre [1] 3 (.exit 0)))
 (.seq (.block 1 [[2], [21], [], [20], [], [19], [17, 4], [15, 3], [14], [12], [], [0, 13, 18]] (.post (.seq (.reg [.op (.idx 11 (.v 10) (.v 2)),
  .op (.ldn 11 (.v 0)),
  .op (.new [(.int .i64 0), (.int .i64 0), (.int .i64 0), (.int .i64 0), (.int .i64 0), (.bool false), (.string ⟨#[]⟩), (.string ⟨#[]⟩), (.int .i64 0), (.int .i64 0), (.slice none 0 0)]),
  .eff (.st 11 (.v 0) (.v 1))])
 (.seq (.seq (.reg [.nop 9,
  .nop 8,
  .op (.ldn 11 (.v 0)),
  .op (.call 20 [(.v 10), (.v 9), (.v 0)]),
  .op (.una .not (.v 0)),
  .nop 0,
  .opg (.mov (.v 12)) 0 false,
  .opg (.call 18 [(.v 0)]) 1 false,
  .opg (.mov (.v 13)) 2 false,
  .opg (.call 26 [(.v 0), (.c (.bool false))]) 3 false,
  .opg (.call 22 [(.v 2), (.v 0)]) 4 false,
  .opg (.una .not (.v 0)) 5 false,
  .op (.pick (.v 6) (.c (.bool true)) (.v 0)),
  .nop 0,
  .opg (.mov (.v 19)) 0 false,
  .opg (.call 14 [(.v 0)]) 1 false,
  .opg (.mov (.v 20)) 2 false,
  .opg (.call 26 [(.v 0), (.c (.bool true))]) 3 false,
  .opg (.call 22 [(.v 2), (.v 0)]) 4 false,
  .opg (.una .not (.v 0)) 5 false,
  .op (.pick (.v 6) (.c (.bool true)) (.v 0)),
  .nop 0,
  .opg (.mov (.v 26)) 0 false,
  .opg (.call 13 [(.v 0)]) 1 false,
  .opg (.mov (.v 27)) 2 false,
  .opg (.call 27 [(.v 0)]) 3 false,
  .opg (.call 22 [(.v 2), (.v 0)]) 4 false,
  .opg (.una .not (.v 0)) 5 false,
  .op (.pick (.v 6) (.c (.bool true)) (.v 0))])
 (.cond (.v 0) (.seq (.reg [.op (.mov (.c (.bool false)))])
 (.ret [.v 0]))
 .skip))
 (.seq (.reg [.nop 33,
  .nop 32,
  .op (.ldn 11 (.v 24)),
  .op (.call 28 [(.v 33), (.v 0)]),
  .op (.call 24 [(.v 35), (.v 0)]),
  .nop 0,
  .op (.extr 0 (.v 0)),
  .op (.extr 1 (.v 1)),
  .op (.new [(.int .i64 0), (.int .i64 0), (.int .i64 0), (.bool false), (.string ⟨#[]⟩), (.string ⟨#[]⟩), (.int .i64 0), (.int .i64 0), (.slice none 0 0)]),
  .eff (.st 9 (.v 0) (.v 2)),
  .nop 1])
 (.seq (.reg [.nop 38,
  .nop 38,
  .op (.ldn 11 (.v 30)),
  .op (.call 28 [(.v 39), (.v 0)]),
  .op (.call 29 [(.v 40), (.v 0)]),
  .nop 0,
  .op (.extr 0 (.v 0)),
  .op (.extr 1 (.v 1)),
  .op (.new [(.int .i64 0), (.int .i64 0), (.int .i64 0), (.bool false), (.string ⟨#[]⟩), (.string ⟨#[]⟩), (.int .i64 0), (.int .i64 0), (.slice none 0 0)]),
  .eff (.st 9 (.v 0) (.v 2)),
  .nop 1])
 (.seq (.reg [.nop 7,
  .nop 1,
  .op (.bin .neq 4 (.v 7) (.v 1)),
  .nop 0,
  .opg (.ldn 9 (.v 7)) 0 false,
  .opg (.ldn 9 (.v 2)) 1 false,
  .opg (.call 25 [(.v 1), (.v 0)]) 2 false,
  .opg (.una .not (.v 0)) 3 false,
  .op (.pick (.v 4) (.c (.bool true)) (.v 0))])
 (.cond (.v 0) (.seq (.reg [.op (.mov (.c (.bool false)))])
 (.ret [.v 0]))
 .skip)))))) [46] 45))
 (.reg [.op (.bin .add 3 (.v 3) (.c (.int .i64 1))),
  .nop 0])))) [1, 0] 5)
def ac7L0 : AC := .loop [[2], [20], [], [19], [17, 4], [15, 3], [14], [12], [], [0, 13, 18]] ac7L0b
def ac7 : AFn := ⟨1, [],
 (.seq (.reg [.op (.mov (.c (.bool false)))])
 (.seq (.seq (.post (.reg [.op (.call 10 []),
  .op (.una .not (.v 0))]) [0] 2)
 (.cond (.v 0) (.seq (.reg [.op (.mov (.c (.bool false)))])
 (.ret [.v 0]))
 .skip))
 (.seq (.seq (.reg [.nop 2,
  .op (.call 19 [(.v 2)])])
 (.cond (.v 0) (.seq (.reg [.op (.mov (.c (.bool true)))])
 (.ret [.v 0]))
 .skip))
 (.seq (.post (.reg [.op (.call 11 []),
  .op (.build [(.slice none 0 0)] []),
  .op (.box (.v 0)),
  .nop 2,
  .nop 0]) [0, 2] 3)
 (.seq (.seq (.reg [.nop 5,
  .op (.len false (.v 5)),
  .op (.mov (.c (.int .i64 0)))])
 (.block 0 [[2], [], [19], [17, 4], [15, 3], [14], [12], [], [0, 13, 18]] (.pre [6, 0] 0 ac7L0)))
 (.seq (.reg [.op (.mov (.c (.bool true)))])
 (.ret [.v 0])))))))⟩


def ac8L0b : AC :=
 (.post (.seq (.reg [.op (.bin .lss 3 (.v 2) (.v 4))])
 (.seq (.cond (.v 0) .skip
 (.pre [1, 2, 3] 4 (.exit 2)))
 (.seq (.block 3 [[2], [7], [51], [], [], [50], [], [49], [48], [], [46], [45], [44], [43], [42], [40, 41], [39], [38], [37], [36], [34, 35], [33], [32], [29], [6], [26], [25], [24], [], [23], [], [22], [20, 4, 28], [18, 3, 27, 31, 47], [17], [15], [], [0, 16, 21]] (.post (.seq (.reg [.op (.idx 1 (.v 6) (.v 3)),
  .op (.ld1 (.v 0)),
  .nop 0])
 (.seq (.reg [.nop 33,
  .nop 0,
  .op (.call 24 [(.v 33), (.v 0)]),
  .nop 0,
  .op (.extr 0 (.v 0)),
  .op (.extr 1 (.v 1)),
  .op (.new [(.int .i64 0), (.int .i64 0), (.int .i64 0), (.bool false), (.string ⟨#[]⟩), (.string ⟨#[]⟩), (.int .i64 0), (.int .i64 0), (.slice none 0 0)]),
  .eff (.st 9 (.v 0) (.v 2)),
  .nop 1])
 (.seq (.seq (.reg [.nop 1,
  .op (.una .not (.v 1))])
 (.cond (.v 0) (.seq (.reg [.op (.mov (.c (.bool false)))])
 (.ret [.v 0]))
 .skip))
 (.reg [.nop 9,
  .op (.ldn 9 (.v 1)),
  .op (.mkl 9 1 [(.int .i64 0), (.int .i64 0), (.int .i64 0), (.bool false), (.string ⟨#[]⟩), (.string ⟨#[]⟩), (.int .i64 0), (.int .i64 0), (.slice none 0 0)] [(0, (.v 0))]),
  .op (.app 9 104 (.v 11) (.v 0)),
  .nop 0])))) [11, 0] 10))
 (.reg [.op (.bin .add 3 (.v 5) (.c (.int .i64 1))),
  .nop 0])))) [1, 2, 0] 7)
def ac8L0 : AC := .loop [[2], [7], [50], [], [49], [48], [], [46], [45], [44], [43], [42], [40, 41], [39], [38], [37], [36], [34, 35], [33], [32], [29], [6], [26], [25], [24], [], [23], [], [22], [20, 4, 28], [18, 3, 27, 31, 47], [17], [15], [], [0, 16, 21]] ac8L0b
def ac8L1b : AC :=
 (.post (.seq (.reg [.op (.bin .lss 3 (.v 1) (.v 5))])
 (.seq (.cond (.v 0) .skip
 (.pre [1, 2] 3 (.exit 6)))
 (.seq (.block 7 [[2], [74], [], [73], [], [70], [], [69, 71, 12, 72], [], [68], [], [7, 67], [50], [], [49], [48], [], [46], [45], [44], [43], [42], [40, 41], [39], [38], [37], [36], [34, 35], [33], [32], [29], [6], [26], [25], [24], [], [23], [], [22], [20, 4, 28], [18, 3, 27, 31, 47], [17], [15], [], [0, 16, 21]] (.post (.seq (.reg [.nop 2,
  .nop 2])
 (.seq (.regD [.nop 10,
  .nop 2,
  .op (.idx 9 (.v 10) (.v 2)),
  .op (.ldn 9 (.v 0)),
  .nop 12,
  .nop 8,
  .op (.idx 9 (.v 12) (.v 8)),
  .op (.ldn 9 (.v 0)),
  .op (.call 17 [(.v 2), (.v 0)])] [0, 0, 3, 7, 0, 0, 48, 112, 255])
 (.cond (.v 0) (.seq (.reg [.op (.mov (.c (.bool false)))])
 (.ret [.v 0]))
 .skip))) [6] 5))
 (.reg [.op (.bin .add 3 (.v 3) (.c (.int .i64 1))),
  .nop 0])))) [1, 0] 5)
def ac8L1 : AC := .loop [[2], [73], [], [70], [], [69, 71, 12, 72], [], [68], [], [7, 67], [50], [], [49], [48], [], [46], [45], [44], [43], [42], [40, 41], [39], [38], [37], [36], [34, 35], [33], [32], [29], [6], [26], [25], [24], [], [23], [], [22], [20, 4, 28], [18, 3, 27, 31, 47], [17], [15], [], [0, 16, 21]] ac8L1b
def ac8L2b : AC :=
 (.post (.seq (.reg [.op (.bin .lss 3 (.v 1) (.v 3))])
 (.seq (.cond (.v 0) .skip
 (.pre [1, 2] 3 (.exit 4)))
 (.seq (.block 5 [[2], [70], [], [69], [], [68], [], [7, 67], [50], [], [49], [48], [], [46], [45], [44], [43], [42], [40, 41], [39], [38], [37], [36], [34, 35], [33], [32], [29], [6], [26], [25], [24], [], [23], [], [22], [20, 4, 28], [18, 3, 27, 31, 47], [17], [15], [], [0, 16, 21]] (.post (.seq (.reg [.nop 2,
  .nop 2])
 (.seq (.reg [.nop 2,
  .op (.mov (.c (.int .i64 0)))])
 (.block 6 [[2], [73], [], [70], [], [69, 71, 12, 72], [], [68], [], [7, 67], [50], [], [49], [48], [], [46], [45], [44], [43], [42], [40, 41], [39], [38], [37], [36], [34, 35], [33], [32], [29], [6], [26], [25], [24], [], [23], [], [22], [20, 4, 28], [18, 3, 27, 31, 47], [17], [15], [], [0, 16, 21]] (.pre [2, 0] 0 ac8L1)))) [0] 3))
 (.reg [.op (.bin .add 3 (.v 3) (.c (.int .i64 1))),
  .nop 0])))) [1, 0] 5)
def ac8L2 : AC := .loop [[2], [69], [], [68], [], [7, 67], [50], [], [49], [48], [], [46], [45], [44], [43], [42], [40, 41], [39], [38], [37], [36], [34, 35], [33], [32], [29], [6], [26], [25], [24], [], [23], [], [22], [20, 4, 28], [18, 3, 27, 31, 47], [17], [15], [], [0, 16, 21]] ac8L2b
def ac8L3b : AC :=
 (.post (.seq (.reg [.op (.bin .lss 3 (.v 1) (.v 3))])
 (.seq (.cond (.v 0) .skip
 (.pre [1] 3 (.exit 0)))
 (.seq (.block 1 [[2], [24], [], [23], [], [22], [20, 4], [18, 3], [17], [15], [], [0, 16, 21]] (.post (.seq (.reg [.op (.idx 11 (.v 10) (.v 2)),
  .op (.ldn 11 (.v 0)),
  .op (.new [(.int .i64 0), (.int .i64 0), (.int .i64 0), (.int .i64 0), (.int .i64 0), (.bool false), (.string ⟨#[]⟩), (.string ⟨#[]⟩), (.int .i64 0), (.int .i64 0), (.slice none 0 0)]),
  .eff (.st 11 (.v 0) (.v 1))])
 (.seq (.post (.reg [.nop 9,
  .nop 8,
  .op (.ldn 11 (.v 0)),
  .op (.call 20 [(.v 10), (.v 9), (.v 0)])]) [1] 2)
 (.seq (.seq (.reg [.nop 10,
  .op (.call 18 [(.v 10)]),
  .op (.len false (.v 0)),
  .op (.bin .gtr 3 (.v 0) (.c (.int .i64 0))),
  .nop 0,
  .opg (.mov (.v 13)) 0 true,
  .opg (.call 14 [(.v 0)]) 1 true,
  .opg (.len false (.v 0)) 2 true,
  .opg (.bin .eql 3 (.v 0) (.c (.int .i64 0))) 3 true,
  .op (.pick (.v 4) (.v 0) (.c (.bool false))),
  .nop 0,
  .opg (.mov (.v 18)) 0 true,
  .opg (.call 13 [(.v 0)]) 1 true,
  .opg (.len false (.v 0)) 2 true,
  .opg (.bin .eql 3 (.v 0) (.c (.int .i64 0))) 3 true,
  .op (.pick (.v 4) (.v 0) (.c (.bool false)))])
 (.cond (.v 0) (.seq (.reg [.op (.mov (.c (.bool false)))])
 (.ret [.v 0]))
 .skip))
 (.seq (.reg [.op (.mov (.c (.slice none 0 0)))])
 (.seq (.seq (.reg [.nop 24,
  .op (.call 14 [(.v 24)]),
  .op (.len false (.v 0)),
  .op (.mov (.c (.int .i64 0)))])
 (.block 2 [[2], [7], [50], [], [49], [48], [], [46], [45], [44], [43], [42], [40, 41], [39], [38], [37], [36], [34, 35], [33], [32], [29], [6], [26], [25], [24], [], [23], [], [22], [20, 4, 28], [18, 3, 27, 31, 47], [17], [15], [], [0, 16, 21]] (.pre [22, 3, 0] 0 ac8L0)))
 (.seq (.reg [.nop 1,
  .op (.len false (.v 1)),
  .op (.mov (.c (.int .i64 0)))])
 (.block 4 [[2], [69], [], [68], [], [7, 67], [50], [], [49], [48], [], [46], [45], [44], [43], [42], [40, 41], [39], [38], [37], [36], [34, 35], [33], [32], [29], [6], [26], [25], [24], [], [23], [], [22], [20, 4, 28], [18, 3, 27, 31, 47], [17], [15], [], [0, 16, 21]] (.pre [2, 0] 0 ac8L2)))))))) [0] 28))
 (.reg [.op (.bin .add 3 (.v 3) (.c (.int .i64 1))),
  .nop 0])))) [1, 0] 5)
def ac8L3 : AC := .loop [[2], [23], [], [22], [20, 4], [18, 3], [17], [15], [], [0, 16, 21]] ac8L3b
def ac8 : AFn := ⟨1, [],
 (.seq (.reg [.op (.mov (.c (.bool false)))])
 (.seq (.seq (.post (.reg [.op (.call 10 []),
  .op (.una .not (.v 0))]) [0] 2)
 (.cond (.v 0) (.seq (.reg [.op (.mov (.c (.bool false)))])
 (.ret [.v 0]))
 .skip))
 (.seq (.seq (.reg [.nop 2,
  .op (.call 19 [(.v 2)])])
 (.cond (.v 0) (.seq (.reg [.op (.mov (.c (.bool true)))])
 (.ret [.v 0]))
 .skip))
 (.seq (.post (.reg [.op (.call 11 []),
  .op (.build [(.slice none 0 0)] []),
  .op (.box (.v 0)),
  .nop 2,
  .nop 0]) [0, 2] 3)
 (.seq (.seq (.reg [.nop 5,
  .op (.len false (.v 5)),
  .op (.mov (.c (.int .i64 0)))])
 (.block 0 [[2], [], [22], [20, 4], [18, 3], [17], [15], [], [0, 16, 21]] (.pre [6, 0] 0 ac8L3)))
 (.seq (.reg [.op (.mov (.c (.bool true)))])
 (.ret [.v 0])))))))⟩


def ac9 : AFn := ⟨1, [],
 (.seq (.reg [.op (.mov (.c (.bool false)))])
 (.seq (.seq (.post (.reg [.op (.call 10 []),
  .op (.una .not (.v 0))]) [0] 2)
 (.cond (.v 0) (.seq (.reg [.op (.mov (.c (.bool false)))])
 (.ret [.v 0]))
 .skip))
 (.seq (.reg [.op (.mov (.c (.pointer none)))])
 (.seq (.post (.reg [.nop 0,
  .nop 3,
  .op (.call 24 [(.v 0), (.v 3)]),
  .nop 0,
  .op (.extr 0 (.v 0)),
  .op (.extr 1 (.v 1)),
  .op (.new [(.int .i64 0), (.int .i64 0), (.int .i64 0), (.bool false), (.string ⟨#[]⟩), (.string ⟨#[]⟩), (.int .i64 0), (.int .i64 0), (.slice none 0 0)]),
  .eff (.st 9 (.v 0) (.v 2)),
  .nop 1]) [0, 1] 4)
 (.seq (.post (.reg [.nop 2,
  .op (.build [(.int .i64 0), (.int .i64 0), (.int .i64 0), (.bool false), (.string ⟨#[]⟩), (.string ⟨#[]⟩), (.int .i64 0), (.int .i64 0), (.slice none 0 0)] [(1, 1, (.c (.int .i64 4)))]),
  .op (.call 12 [(.v 3), (.v 0)]),
  .op (.bin .eql 30 (.v 0) (.c (.int .i64 8))),
  .nop 0,
  .opg (.mov (.v 5)) 0 true,
  .opg (.mov (.v 9)) 1 true,
  .opg (.call 16 [(.v 1), (.v 0)]) 2 true,
  .opg (.bin .eql 30 (.v 0) (.c (.int .i64 8))) 3 true,
  .op (.pick (.v 4) (.v 0) (.c (.bool false))),
  .nop 0,
  .opg (.mov (.v 10)) 0 true,
  .opg (.mov (.v 14)) 1 true,
  .opg (.call 15 [(.v 1), (.v 0)]) 2 true,
  .opg (.bin .eql 30 (.v 0) (.c (.int .i64 8))) 3 true,
  .op (.pick (.v 4) (.v 0) (.c (.bool false))),
  .nop 0,
  .opg (.mov (.v 15)) 0 true,
  .opg (.mov (.v 19)) 1 true,
  .opg (.call 21 [(.v 1), (.v 0)]) 2 true,
  .opg (.bin .eql 30 (.v 0) (.c (.int .i64 8))) 3 true,
  .op (.pick (.v 4) (.v 0) (.c (.bool false))),
  .nop 0,
  .opg (.mov (.v 19)) 0 true,
  .opg (.una .not (.v 0)) 1 true,
  .op (.pick (.v 2) (.v 0) (.c (.bool false))),
  .nop 0,
  .opg (.fld 0 (.v 21)) 0 true,
  .opg (.ld1 (.v 0)) 1 true,
  .opg (.bin .eql 3 (.v 0) (.c (.int .i64 0))) 2 true,
  .op (.pick (.v 3) (.v 0) (.c (.bool false))),
  .nop 0,
  .opg (.mov (.v 27)) 0 true,
  .opg (.call 18 [(.v 0)]) 1 true,
  .opg (.len false (.v 0)) 2 true,
  .opg (.bin .eql 3 (.v 0) (.c (.int .i64 0))) 3 true,
  .op (.pick (.v 4) (.v 0) (.c (.bool false))),
  .nop 0,
  .opg (.mov (.v 32)) 0 true,
  .opg (.call 14 [(.v 0)]) 1 true,
  .opg (.len false (.v 0)) 2 true,
  .opg (.bin .eql 3 (.v 0) (.c (.int .i64 0))) 3 true,
  .op (.pick (.v 4) (.v 0) (.c (.bool false))),
  .nop 0,
  .opg (.mov (.v 37)) 0 true,
  .opg (.call 13 [(.v 0)]) 1 true,
  .opg (.len false (.v 0)) 2 true,
  .opg (.bin .eql 3 (.v 0) (.c (.int .i64 0))) 3 true,
  .op (.pick (.v 4) (.v 0) (.c (.bool false))),
  .nop 0]) [0] 40)
 (.ret [.v 0]))))))⟩


def ac10 : AFn := ⟨0, [],
 (.seq (.reg [.op (.mov (.c (.bool false)))])
 (.seq (.reg [.op (.call 11 []),
  .nop 0])
 (.seq (.seq (.reg [.nop 0,
  .op (.bin .eql 25 (.v 0) (.c (.pointer none)))])
 (.cond (.v 0) (.seq (.reg [.op (.mov (.c (.bool false)))])
 (.ret [.v 0]))
 .skip))
 (.seq (.post (.reg [.nop 1,
  .op (.make 8 8 [(.int .u8 0), (.int .u8 0), (.int .u8 0), (.int .u8 0), (.int .u8 0), (.int .u8 0), (.int .u8 0), (.int .u8 0)] (.c (.int .i64 4)) (.c (.int .i64 4))),
  .op (.build [(.int .i64 0), (.int .i64 0), (.int .i64 0), (.bool false), (.string ⟨#[]⟩), (.string ⟨#[]⟩), (.int .i64 0), (.int .i64 0), (.slice none 0 0)] [(0, 1, (.c (.int .i64 1))), (1, 1, (.c (.int .i64 2))), (4, 1, (.c (.string ⟨#[118]⟩))), (7, 1, (.c (.int .i64 4))), (8, 1, (.v 0))]),
  .op (.call 12 [(.v 3), (.v 0)]),
  .nop 0]) [0] 3)
 (.seq (.post (.reg [.nop 2,
  .op (.build [(.int .i64 0), (.int .i64 0), (.int .i64 0), (.bool false), (.string ⟨#[]⟩), (.string ⟨#[]⟩), (.int .i64 0), (.int .i64 0), (.slice none 0 0)] [(0, 1, (.c (.int .i64 2))), (1, 1, (.c (.int .i64 1))), (4, 1, (.c (.string ⟨#[118]⟩))), (6, 1, (.c (.int .i64 2))), (7, 1, (.c (.int .i64 4)))]),
  .op (.call 12 [(.v 3), (.v 0)]),
  .nop 0]) [0] 2)
 (.seq (.post (.reg [.nop 3,
  .op (.build [(.int .i64 0), (.int .i64 0), (.int .i64 0), (.bool false), (.string ⟨#[]⟩), (.string ⟨#[]⟩), (.int .i64 0), (.int .i64 0), (.slice none 0 0)] [(0, 1, (.c (.int .i64 3))), (1, 1, (.c (.int .i64 1))), (4, 1, (.c (.string ⟨#[118]⟩))), (6, 1, (.c (.int .i64 9))), (7, 1, (.c (.int .i64 1)))]),
  .op (.call 12 [(.v 4), (.v 0)]),
  .nop 0]) [0] 2)
 (.seq (.post (.reg [.nop 4,
  .op (.build [(.int .i64 0), (.int .i64 0), (.int .i64 0), (.bool false), (.string ⟨#[]⟩), (.string ⟨#[]⟩), (.int .i64 0), (.int .i64 0), (.slice none 0 0)] [(0, 1, (.c (.int .i64 4))), (1, 1, (.c (.int .i64 4)))]),
  .op (.call 12 [(.v 5), (.v 0)]),
  .nop 0]) [0] 2)
 (.seq (.post (.reg [.nop 3,
  .op (.bin .eql 30 (.v 3) (.c (.int .i64 0))),
  .nop 0,
  .opg (.mov (.v 3)) 0 true,
  .opg (.bin .eql 30 (.v 0) (.c (.int .i64 0))) 1 true,
  .op (.pick (.v 2) (.v 0) (.c (.bool false))),
  .nop 0,
  .opg (.mov (.v 5)) 0 true,
  .opg (.bin .eql 30 (.v 0) (.c (.int .i64 0))) 1 true,
  .op (.pick (.v 2) (.v 0) (.c (.bool false))),
  .nop 0,
  .opg (.mov (.v 7)) 0 true,
  .opg (.bin .eql 30 (.v 0) (.c (.int .i64 0))) 1 true,
  .op (.pick (.v 2) (.v 0) (.c (.bool false))),
  .nop 0,
  .opg (.mov (.v 15)) 0 true,
  .opg (.call 13 [(.v 0)]) 1 true,
  .opg (.mkl 1 2 [(.int .i64 0)] [(0, (.c (.int .i64 1))), (1, (.c (.int .i64 3)))]) 2 true,
  .opg (.call 22 [(.v 1), (.v 0)]) 3 true,
  .op (.pick (.v 4) (.v 0) (.c (.bool false))),
  .nop 0,
  .opg (.mov (.v 20)) 0 true,
  .opg (.call 16 [(.v 0), (.c (.int .i64 2))]) 1 true,
  .opg (.bin .eql 30 (.v 0) (.c (.int .i64 8))) 2 true,
  .op (.pick (.v 3) (.v 0) (.c (.bool false))),
  .nop 0,
  .opg (.mov (.v 24)) 0 true,
  .opg (.call 16 [(.v 0), (.c (.int .i64 1))]) 1 true,
  .opg (.bin .eql 30 (.v 0) (.c (.int .i64 0))) 2 true,
  .op (.pick (.v 3) (.v 0) (.c (.bool false))),
  .nop 0,
  .opg (.mov (.v 28)) 0 true,
  .opg (.call 15 [(.v 0), (.c (.int .i64 1))]) 1 true,
  .opg (.bin .eql 30 (.v 0) (.c (.int .i64 0))) 2 true,
  .op (.pick (.v 3) (.v 0) (.c (.bool false))),
  .nop 0,
  .opg (.mov (.v 32)) 0 true,
  .opg (.call 13 [(.v 0)]) 1 true,
  .opg (.mkl 1 2 [(.int .i64 0)] [(0, (.c (.int .i64 2))), (1, (.c (.int .i64 3)))]) 2 true,
  .opg (.call 22 [(.v 1), (.v 0)]) 3 true,
  .op (.pick (.v 4) (.v 0) (.c (.bool false))),
  .nop 0]) [0] 32)
 (.ret [.v 0])))))))))⟩


def ac11 : AFn := ⟨0, [],
 (.seq (.reg [.op (.mov (.c (.pointer none)))])
 (.seq (.post (.reg [.op (.mp .mk []),
  .op (.mp .mk []),
  .op (.build [(.slice none 0 0), (.map none), (.map none)] [(1, 1, (.v 1)), (2, 1, (.v 0))]),
  .op (.box (.v 0)),
  .nop 0]) [0] 4)
 (.ret [.v 0])))⟩


def ac12 : AFn := ⟨2, [],
 (.seq (.reg [.op (.box (.v 1)),
  .op (.mov (.c (.int .i64 0)))])
 (.seq (.seq (.reg [.nop 2,
  .op (.bin .eql 25 (.v 2) (.c (.pointer none)))])
 (.cond (.v 0) (.seq (.reg [.op (.mov (.c (.int .i64 8)))])
 (.ret [.v 0]))
 .skip))
 (.seq (.seq (.post (.reg [.op (.ldn 9 (.v 2)),
  .op (.call 30 [(.v 0)]),
  .op (.una .not (.v 0))]) [0] 3)
 (.cond (.v 0) (.seq (.reg [.op (.mov (.c (.int .i64 1)))])
 (.ret [.v 0]))
 .skip))
 (.seq (.seq (.post (.regD [.nop 4,
  .op (.nilck (.v 4)),
  .op (.fld 1 (.v 0)),
  .op (.ld1 (.v 0)),
  .op (.fld 0 (.v 6)),
  .op (.ld1 (.v 0)),
  .op (.mp (.look 3 (.agg #[(.int .i64 0), (.int .i64 0), (.int .i64 0), (.bool false), (.string ⟨#[]⟩), (.string ⟨#[]⟩), (.int .i64 0), (.int .i64 0), (.slice none 0 0)]) true) [(.v 2), (.v 0)]),
  .nop 0,
  .op (.extr 0 (.v 0)),
  .op (.extr 1 (.v 1)),
  .op (.new [(.int .i64 0), (.int .i64 0), (.int .i64 0), (.bool false), (.string ⟨#[]⟩), (.string ⟨#[]⟩), (.int .i64 0), (.int .i64 0), (.slice none 0 0)]),
  .eff (.st 9 (.v 0) (.v 2)),
  .nop 1] [0, 1, 3, 7, 0, 16, 63, 127, 255, 255, 0, 1535, 4095]) [1] 9)
 (.seq (.reg [.nop 0])
 (.cond (.v 0) (.seq (.reg [.op (.mov (.c (.int .i64 10)))])
 (.ret [.v 0]))
 .skip)))
 (.seq (.seq (.post (.reg [.nop 5,
  .op (.nilck (.v 5)),
  .op (.fld 0 (.v 0)),
  .op (.ld1 (.v 0)),
  .op (.len false (.v 0)),
  .op (.bin .geq 3 (.v 0) (.c (.int .i64 64)))]) [0] 5)
 (.cond (.v 0) (.seq (.reg [.op (.mov (.c (.int .i64 7)))])
 (.ret [.v 0]))
 .skip))
 (.seq (.post (.regD [.nop 6,
  .nop 6,
  .op (.nilck (.v 6)),
  .op (.fld 0 (.v 0)),
  .op (.ld1 (.v 0)),
  .op (.fld 0 (.v 8)),
  .op (.ld1 (.v 0)),
  .op (.mkl 1 1 [(.int .i64 0)] [(0, (.v 0))]),
  .op (.app 1 8 (.v 3) (.v 0)),
  .op (.nilck (.v 13)),
  .op (.fld 0 (.v 0)),
  .eff (.st 1 (.v 0) (.v 2))] [0, 0, 2, 6, 14, 0, 32, 96, 254, 511, 1023, 2047]) [] 9)
 (.seq (.post (.regD [.nop 6,
  .op (.nilck (.v 6)),
  .op (.fld 1 (.v 0)),
  .op (.ld1 (.v 0)),
  .op (.fld 0 (.v 8)),
  .op (.ld1 (.v 0)),
  .op (.ldn 9 (.v 10)),
  .op (.call 31 [(.v 0)]),
  .eff (.mp (.upd 3) [(.v 4), (.v 2), (.v 0)])] [0, 1, 3, 7, 0, 16, 0, 64, 255]) [] 7)
 (.seq (.reg [.op (.mov (.c (.int .i64 0)))])
 (.ret [.v 0])))))))))⟩


def ac13 : AFn := ⟨1, [],
 (.seq (.reg [.op (.box (.v 0)),
  .op (.mov (.c (.slice none 0 0)))])
 (.seq (.post (.reg [.op (.ld1 (.v 1)),
  .op (.func 33 [] [(.v 2)]),
  .op (.call 32 [(.v 1), (.v 0)]),
  .nop 0]) [0] 3)
 (.ret [.v 0])))⟩


def ac14 : AFn := ⟨1, [],
 (.seq (.reg [.op (.box (.v 0)),
  .op (.mov (.c (.slice none 0 0)))])
 (.seq (.post (.reg [.op (.ld1 (.v 1)),
  .op (.func 37 [] [(.v 2)]),
  .op (.call 32 [(.v 1), (.v 0)]),
  .nop 0]) [0] 3)
 (.ret [.v 0])))⟩


def ac15 : AFn := ⟨2, [],
 (.seq (.reg [.op (.mov (.c (.int .i64 0)))])
 (.seq (.reg [.nop 1,
  .nop 2,
  .op (.call 38 [(.v 1), (.v 2), (.c (.bool true))]),
  .nop 0])
 (.ret [.v 0])))⟩


def ac16 : AFn := ⟨2, [],
 (.seq (.reg [.op (.mov (.c (.int .i64 0)))])
 (.seq (.seq (.reg [.nop 1,
  .nop 2,
  .op (.call 39 [(.v 1), (.v 2)]),
  .nop 0])
 (.seq (.reg [.nop 0,
  .op (.bin .neq 30 (.v 0) (.c (.int .i64 0)))])
 (.cond (.v 0) (.seq (.reg [.nop 1,
  .nop 1])
 (.ret [.v 1]))
 .skip)))
 (.seq (.seq (.post (.reg [.nop 3,
  .op (.call 13 [(.v 3)]),
  .nop 5,
  .op (.call 40 [(.v 0), (.v 5)]),
  .op (.una .not (.v 0))]) [0] 3)
 (.cond (.v 0) (.seq (.reg [.op (.mov (.c (.int .i64 8)))])
 (.ret [.v 0]))
 .skip))
 (.seq (.post (.reg [.nop 4,
  .op (.nilck (.v 4)),
  .op (.fld 2 (.v 0)),
  .op (.ld1 (.v 0)),
  .nop 8,
  .eff (.mp (.upd 3) [(.v 0), (.v 8), (.c (.bool true))])]) [] 3)
 (.seq (.reg [.op (.mov (.c (.int .i64 0)))])
 (.ret [.v 0]))))))⟩


def ac17 : AFn := ⟨2, [],
 (.seq (.reg [.op (.box (.v 0)),
  .op (.box (.v 2)),
  .op (.mov (.c (.bool false)))])
 (.seq (.post (.reg [.op (.ldn 9 (.v 2)),
  .op (.call 41 [(.v 0)]),
  .nop 0,
  .opg (.ldn 9 (.v 3)) 0 false,
  .opg (.call 41 [(.v 0)]) 1 false,
  .op (.pick (.v 2) (.c (.bool true)) (.v 0)),
  .nop 0,
  .opg (.ldn 9 (.v 7)) 0 false,
  .opg (.ldn 9 (.v 7)) 1 false,
  .opg (.call 42 [(.v 1), (.v 0)]) 2 false,
  .op (.pick (.v 3) (.c (.bool true)) (.v 0)),
  .nop 0]) [0] 9)
 (.ret [.v 0])))⟩


def ac18 : AFn := ⟨1, [],
 (.seq (.reg [.op (.mov (.c (.slice none 0 0)))])
 (.seq (.reg [.nop 1,
  .op (.call 32 [(.v 1), (.c (.func (.func 43) #[] #[]))]),
  .nop 0])
 (.ret [.v 0])))⟩


def ac19L0b : AC :=
 (.post (.seq (.reg [.op (.bin .lss 3 (.v 1) (.v 3))])
 (.seq (.cond (.v 0) .skip
 (.pre [1] 3 (.exit 0)))
 (.seq (.block 1 [[2], [8], [], [7], [], [6], [], [0, 5]] (.post (.seq (.reg [.op (.idx 11 (.v 6) (.v 2)),
  .op (.ldn 11 (.v 0)),
  .op (.new [(.int .i64 0), (.int .i64 0), (.int .i64 0), (.int .i64 0), (.int .i64 0), (.bool false), (.string ⟨#[]⟩), (.string ⟨#[]⟩), (.int .i64 0), (.int .i64 0), (.slice none 0 0)]),
  .eff (.st 11 (.v 0) (.v 1))])
 (.seq (.reg [.op (.fld 2 (.v 0)),
  .op (.fld 8 (.v 0)),
  .op (.ld1 (.v 0)),
  .op (.len false (.v 0)),
  .op (.bin .gtr 3 (.v 0) (.c (.int .i64 100))),
  .nop 0,
  .opg (.fld 2 (.v 5)) 0 false,
  .opg (.fld 4 (.v 0)) 1 false,
  .opg (.ld1 (.v 0)) 2 false,
  .opg (.len true (.v 0)) 3 false,
  .opg (.bin .gtr 3 (.v 0) (.c (.int .i64 100))) 4 false,
  .op (.pick (.v 5) (.c (.bool true)) (.v 0)),
  .nop 0,
  .opg (.fld 2 (.v 11)) 0 false,
  .opg (.fld 5 (.v 0)) 1 false,
  .opg (.ld1 (.v 0)) 2 false,
  .opg (.len true (.v 0)) 3 false,
  .opg (.bin .gtr 3 (.v 0) (.c (.int .i64 100))) 4 false,
  .op (.pick (.v 5) (.c (.bool true)) (.v 0))])
 (.cond (.v 0) (.seq (.reg [.op (.mov (.c (.bool true)))])
 (.ret [.v 0]))
 .skip))) [21] 20))
 (.reg [.op (.bin .add 3 (.v 3) (.c (.int .i64 1))),
  .nop 0])))) [1, 0] 5)
def ac19L0 : AC := .loop [[2], [7], [], [6], [], [0, 5]] ac19L0b
def ac19 : AFn := ⟨1, [],
 (.seq (.reg [.op (.mov (.c (.bool false)))])
 (.seq (.seq (.reg [.nop 1,
  .op (.len false (.v 1)),
  .op (.mov (.c (.int .i64 0)))])
 (.block 0 [[2], [], [6], [], [0, 5]] (.pre [2, 0] 0 ac19L0)))
 (.seq (.post (.reg [.nop 4,
  .op (.len false (.v 4)),
  .op (.bin .gtr 3 (.v 0) (.c (.int .i64 150))),
  .nop 0]) [0] 2)
 (.ret [.v 0]))))⟩


def ac20 : AFn := ⟨3, [],
 (.seq (.reg [.op (.box (.v 2)),
  .op (.mov (.c (.bool false)))])
 (.seq (.post (.reg [.nop 3,
  .op (.ldn 11 (.v 1)),
  .op (.call 28 [(.v 4), (.v 0)]),
  .nop 0]) [0] 2)
 (.seq (.seq (.post (.reg [.op (.fld 0 (.v 2)),
  .op (.ld1 (.v 0))]) [0] 2)
 (.block 0 [[6], [12], [10, 7], [], [5], [0], [1, 8], [2]] (.post (.seq (.reg [.op (.bin .eql 3 (.v 0) (.c (.int .i64 0))),
  .nop 0])
 (.cond (.v 0) (.seq (.post (.regD [.nop 5,
  .op (.fld 2 (.v 4)),
  .op (.ldn 9 (.v 0)),
  .op (.call 12 [(.v 7), (.v 0)]),
  .nop 9,
  .op (.fld 2 (.v 7)),
  .op (.ldn 9 (.v 0)),
  .op (.call 44 [(.v 11), (.v 0)]),
  .op (.bin .eql 30 (.v 3) (.v 0)),
  .nop 0] [0, 0, 2, 7, 0, 0, 32, 127, 255, 511]) [0] 7)
 (.ret [.v 0]))
 (.seq (.reg [.op (.bin .eql 3 (.v 1) (.c (.int .i64 1))),
  .nop 0])
 (.cond (.v 0) (.seq (.post (.reg [.nop 6,
  .nop 3,
  .op (.call 16 [(.v 6), (.v 3)]),
  .nop 8,
  .nop 4,
  .op (.call 45 [(.v 8), (.v 4)]),
  .op (.bin .eql 30 (.v 1) (.v 0)),
  .nop 0]) [0] 3)
 (.ret [.v 0]))
 (.seq (.reg [.op (.bin .eql 3 (.v 2) (.c (.int .i64 2))),
  .nop 0])
 (.cond (.v 0) (.seq (.post (.reg [.nop 7,
  .nop 4,
  .op (.call 15 [(.v 7), (.v 4)]),
  .nop 9,
  .nop 5,
  .op (.call 46 [(.v 9), (.v 5), (.c (.bool true))]),
  .op (.bin .eql 30 (.v 1) (.v 0)),
  .nop 0]) [0] 3)
 (.ret [.v 0]))
 (.seq (.reg [.op (.bin .eql 3 (.v 3) (.c (.int .i64 3))),
  .nop 0])
 (.cond (.v 0) (.seq (.post (.reg [.nop 8,
  .nop 5,
  .op (.call 21 [(.v 8), (.v 5)]),
  .nop 10,
  .nop 6,
  .op (.call 46 [(.v 10), (.v 6), (.c (.bool false))]),
  .op (.bin .eql 30 (.v 1) (.v 0)),
  .nop 0]) [0] 3)
 (.ret [.v 0]))
 .skip)))))))) [6] 4)))
 (.seq (.reg [.op (.mov (.c (.bool true)))])
 (.ret [.v 0])))))⟩


def ac21 : AFn := ⟨2, [],
 (.seq (.reg [.op (.mov (.c (.int .i64 0)))])
 (.seq (.reg [.nop 1,
  .nop 2,
  .op (.call 38 [(.v 1), (.v 2), (.c (.bool false))]),
  .nop 0])
 (.ret [.v 0])))⟩


def ac22L0b : AC :=
 (.post (.seq (.seq (.reg [.nop 1,
  .nop 5,
  .op (.len false (.v 5)),
  .op (.bin .lss 3 (.v 2) (.v 0))])
 (.cond (.v 0) .skip
 (.pre [2] 4 (.exit 0))))
 (.seq (.block 1 [[4], [14], [13], [], [5, 11], [], [10], [], [0, 6, 12], [1, 8]] (.post (.seq (.regD [.nop 7,
  .nop 3,
  .op (.idx 1 (.v 7) (.v 3)),
  .op (.ld1 (.v 0)),
  .nop 10,
  .nop 5,
  .op (.idx 1 (.v 10) (.v 5)),
  .op (.ld1 (.v 0)),
  .op (.bin .neq 3 (.v 2) (.v 0))] [0, 0, 3, 7, 0, 0, 48, 112, 255])
 (.cond (.v 0) (.seq (.reg [.op (.mov (.c (.bool false)))])
 (.ret [.v 0]))
 .skip)) [7] 5))
 (.reg [.nop 4,
  .op (.bin .add 3 (.v 4) (.c (.int .i64 1))),
  .nop 0]))) [1, 0] 6)
def ac22L0 : AC := .loop [[4], [5], [], [10], [], [0, 6], [1, 8]] ac22L0b
def ac22 : AFn := ⟨2, [],
 (.seq (.reg [.op (.mov (.c (.bool false)))])
 (.seq (.seq (.post (.reg [.nop 1,
  .op (.len false (.v 1)),
  .nop 3,
  .op (.len false (.v 3)),
  .op (.bin .neq 3 (.v 1) (.v 0))]) [0] 3)
 (.cond (.v 0) (.seq (.reg [.op (.mov (.c (.bool false)))])
 (.ret [.v 0]))
 .skip))
 (.seq (.seq (.reg [.op (.mov (.c (.int .i64 0)))])
 (.block 0 [[4], [], [10], [], [0, 6], [1, 8]] (.pre [2, 0] 0 ac22L0)))
 (.seq (.reg [.op (.mov (.c (.bool true)))])
 (.ret [.v 0])))))⟩


def ac23 : AFn := ⟨1, [],
 (.seq (.reg [.op (.box (.v 0)),
  .op (.mov (.c (.bool false)))])
 (.seq (.seq (.post (.reg [.op (.fld 0 (.v 1)),
  .op (.ld1 (.v 0)),
  .op (.bin .lss 3 (.v 0) (.c (.int .i64 0))),
  .nop 0,
  .opg (.fld 0 (.v 4)) 0 false,
  .opg (.ld1 (.v 0)) 1 false,
  .opg (.bin .geq 3 (.v 0) (.c (.int .i64 2147483648))) 2 false,
  .op (.pick (.v 3) (.c (.bool true)) (.v 0)),
  .nop 0,
  .opg (.fld 2 (.v 8)) 0 false,
  .opg (.ld1 (.v 0)) 1 false,
  .opg (.bin .neq 3 (.v 0) (.c (.int .i64 0))) 2 false,
  .opg (.mov (.v 0)) 3 false,
  .opg (.fld 2 (.v 12)) 0 true,
  .opg (.ld1 (.v 0)) 1 true,
  .opg (.bin .neq 3 (.v 0) (.c (.int .i64 1))) 2 true,
  .opg (.pick (.v 3) (.v 0) (.c (.bool false))) 7 false,
  .op (.pick (.v 8) (.c (.bool true)) (.v 0))]) [0] 16)
 (.cond (.v 0) (.seq (.reg [.op (.mov (.c (.bool false)))])
 (.ret [.v 0]))
 .skip))
 (.seq (.post (.reg [.op (.fld 4 (.v 2)),
  .op (.ld1 (.v 0)),
  .op (.call 47 [(.v 0)]),
  .nop 0]) [0] 3)
 (.seq (.post (.reg [.op (.fld 5 (.v 3)),
  .op (.ld1 (.v 0)),
  .op (.bin .eql 9 (.v 0) (.c (.string ⟨#[]⟩))),
  .nop 0,
  .opg (.fld 8 (.v 6)) 0 true,
  .opg (.ld1 (.v 0)) 1 true,
  .opg (.len false (.v 0)) 2 true,
  .opg (.bin .eql 3 (.v 0) (.c (.int .i64 0))) 3 true,
  .op (.pick (.v 4) (.v 0) (.c (.bool false))),
  .nop 0]) [0] 8)
 (.seq (.seq (.post (.reg [.op (.fld 1 (.v 4)),
  .op (.ld1 (.v 0))]) [0] 2)
 (.block 0 [[2], [36], [34, 4], [25, 3], [22], [], [1], [0]] (.post (.seq (.reg [.op (.bin .eql 3 (.v 0) (.c (.int .i64 1))),
  .nop 0])
 (.cond (.v 0) (.seq (.post (.reg [.nop 3,
  .nop 3,
  .opg (.mov (.v 2)) 3 true,
  .op (.pick (.v 4) (.v 0) (.c (.bool false))),
  .nop 0,
  .opg (.fld 3 (.v 8)) 0 true,
  .opg (.ld1 (.v 0)) 1 true,
  .opg (.una .not (.v 0)) 2 true,
  .op (.pick (.v 3) (.v 0) (.c (.bool false))),
  .nop 0,
  .opg (.fld 6 (.v 12)) 0 true,
  .opg (.ld1 (.v 0)) 1 true,
  .opg (.fld 7 (.v 14)) 2 true,
  .opg (.ld1 (.v 0)) 3 true,
  .opg (.call 48 [(.v 2), (.v 0)]) 4 true,
  .op (.pick (.v 5) (.v 0) (.c (.bool false))),
  .nop 0,
  .opg (.fld 7 (.v 18)) 0 true,
  .opg (.ld1 (.v 0)) 1 true,
  .opg (.bin .leq 3 (.v 0) (.c (.int .i64 16))) 2 true,
  .op (.pick (.v 3) (.v 0) (.c (.bool false))),
  .nop 0]) [0] 16)
 (.ret [.v 0]))
 (.seq (.reg [.op (.bin .eql 3 (.v 1) (.c (.int .i64 2))),
  .nop 0])
 (.cond (.v 0) (.seq (.post (.reg [.nop 4,
  .nop 4,
  .opg (.fld 5 (.v 7)) 4 true,
  .opg (.ld1 (.v 0)) 5 true,
  .opg (.bin .eql 9 (.v 0) (.c (.string ⟨#[]⟩))) 6 true,
  .op (.pick (.v 7) (.v 0) (.c (.bool false))),
  .nop 0,
  .opg (.fld 6 (.v 11)) 0 true,
  .opg (.ld1 (.v 0)) 1 true,
  .opg (.fld 7 (.v 13)) 2 true,
  .opg (.ld1 (.v 0)) 3 true,
  .opg (.call 48 [(.v 2), (.v 0)]) 4 true,
  .op (.pick (.v 5) (.v 0) (.c (.bool false))),
  .nop 0,
  .opg (.fld 7 (.v 17)) 0 true,
  .opg (.ld1 (.v 0)) 1 true,
  .opg (.bin .leq 3 (.v 0) (.c (.int .i64 16))) 2 true,
  .op (.pick (.v 3) (.v 0) (.c (.bool false))),
  .nop 0,
  .opg (.fld 8 (.v 21)) 0 true,
  .opg (.ld1 (.v 0)) 1 true,
  .opg (.len false (.v 0)) 2 true,
  .opg (.fld 7 (.v 24)) 3 true,
  .opg (.ld1 (.v 0)) 4 true,
  .opg (.bin .eql 3 (.v 2) (.v 0)) 5 true,
  .op (.pick (.v 6) (.v 0) (.c (.bool false))),
  .nop 0]) [0] 21)
 (.ret [.v 0]))
 (.seq (.reg [.op (.bin .eql 3 (.v 2) (.c (.int .i64 3))),
  .nop 0])
 (.cond (.v 0) (.seq (.post (.reg [.nop 5,
  .nop 5,
  .opg (.mov (.v 4)) 5 true,
  .op (.pick (.v 6) (.v 0) (.c (.bool false))),
  .nop 0,
  .opg (.fld 6 (.v 10)) 0 true,
  .opg (.ld1 (.v 0)) 1 true,
  .opg (.fld 7 (.v 12)) 2 true,
  .opg (.ld1 (.v 0)) 3 true,
  .opg (.call 48 [(.v 2), (.v 0)]) 4 true,
  .op (.pick (.v 5) (.v 0) (.c (.bool false))),
  .nop 0]) [0] 8)
 (.ret [.v 0]))
 (.seq (.reg [.op (.bin .eql 3 (.v 3) (.c (.int .i64 4))),
  .nop 0])
 (.cond (.v 0) (.seq (.post (.reg [.op (.fld 4 (.v 9)),
  .op (.ld1 (.v 0)),
  .op (.bin .eql 9 (.v 0) (.c (.string ⟨#[]⟩))),
  .nop 0,
  .opg (.mov (.v 8)) 0 true,
  .op (.pick (.v 1) (.v 0) (.c (.bool false))),
  .nop 0,
  .opg (.fld 3 (.v 14)) 0 true,
  .opg (.ld1 (.v 0)) 1 true,
  .opg (.una .not (.v 0)) 2 true,
  .op (.pick (.v 3) (.v 0) (.c (.bool false))),
  .nop 0,
  .opg (.fld 6 (.v 18)) 0 true,
  .opg (.ld1 (.v 0)) 1 true,
  .opg (.bin .eql 3 (.v 0) (.c (.int .i64 0))) 2 true,
  .op (.pick (.v 3) (.v 0) (.c (.bool false))),
  .nop 0,
  .opg (.fld 7 (.v 22)) 0 true,
  .opg (.ld1 (.v 0)) 1 true,
  .opg (.bin .eql 3 (.v 0) (.c (.int .i64 0))) 2 true,
  .op (.pick (.v 3) (.v 0) (.c (.bool false))),
  .nop 0]) [0] 17)
 (.ret [.v 0]))
 (.seq (.reg [.op (.bin .eql 3 (.v 4) (.c (.int .i64 5))),
  .nop 0])
 (.cond (.v 0) (.seq (.post (.reg [.nop 7,
  .nop 7,
  .opg (.mov (.v 6)) 7 true,
  .op (.pick (.v 8) (.v 0) (.c (.bool false))),
  .nop 0,
  .opg (.fld 3 (.v 12)) 0 true,
  .opg (.ld1 (.v 0)) 1 true,
  .opg (.una .not (.v 0)) 2 true,
  .op (.pick (.v 3) (.v 0) (.c (.bool false))),
  .nop 0,
  .opg (.fld 7 (.v 16)) 0 true,
  .opg (.ld1 (.v 0)) 1 true,
  .opg (.bin .geq 3 (.v 0) (.c (.int .i64 1))) 2 true,
  .op (.pick (.v 3) (.v 0) (.c (.bool false))),
  .nop 0,
  .opg (.fld 7 (.v 20)) 0 true,
  .opg (.ld1 (.v 0)) 1 true,
  .opg (.bin .leq 3 (.v 0) (.c (.int .i64 65536))) 2 true,
  .op (.pick (.v 3) (.v 0) (.c (.bool false))),
  .nop 0,
  .opg (.fld 6 (.v 24)) 0 true,
  .opg (.ld1 (.v 0)) 1 true,
  .opg (.bin .geq 3 (.v 0) (.c (.int .i64 0))) 2 true,
  .op (.pick (.v 3) (.v 0) (.c (.bool false))),
  .nop 0,
  .opg (.fld 6 (.v 28)) 0 true,
  .opg (.ld1 (.v 0)) 1 true,
  .opg (.fld 7 (.v 30)) 2 true,
  .opg (.ld1 (.v 0)) 3 true,
  .opg (.bin .leq 3 (.v 2) (.v 0)) 4 true,
  .op (.pick (.v 5) (.v 0) (.c (.bool false))),
  .nop 0]) [0] 24)
 (.ret [.v 0]))
 (.seq (.reg [.op (.bin .eql 3 (.v 5) (.c (.int .i64 6))),
  .nop 0])
 (.cond (.v 0) (.seq (.post (.reg [.nop 8,
  .nop 8,
  .opg (.fld 5 (.v 11)) 8 true,
  .opg (.ld1 (.v 0)) 9 true,
  .opg (.call 47 [(.v 0)]) 10 true,
  .op (.pick (.v 11) (.v 0) (.c (.bool false))),
  .nop 0,
  .opg (.fld 5 (.v 15)) 0 true,
  .opg (.ld1 (.v 0)) 1 true,
  .opg (.fld 4 (.v 17)) 2 true,
  .opg (.ld1 (.v 0)) 3 true,
  .opg (.bin .neq 9 (.v 2) (.v 0)) 4 true,
  .op (.pick (.v 5) (.v 0) (.c (.bool false))),
  .nop 0,
  .opg (.fld 8 (.v 21)) 0 true,
  .opg (.ld1 (.v 0)) 1 true,
  .opg (.len false (.v 0)) 2 true,
  .opg (.bin .eql 3 (.v 0) (.c (.int .i64 0))) 3 true,
  .op (.pick (.v 4) (.v 0) (.c (.bool false))),
  .nop 0,
  .opg (.fld 3 (.v 26)) 0 true,
  .opg (.ld1 (.v 0)) 1 true,
  .opg (.una .not (.v 0)) 2 true,
  .op (.pick (.v 3) (.v 0) (.c (.bool false))),
  .nop 0,
  .opg (.fld 6 (.v 30)) 0 true,
  .opg (.ld1 (.v 0)) 1 true,
  .opg (.bin .eql 3 (.v 0) (.c (.int .i64 0))) 2 true,
  .op (.pick (.v 3) (.v 0) (.c (.bool false))),
  .nop 0,
  .opg (.fld 7 (.v 34)) 0 true,
  .opg (.ld1 (.v 0)) 1 true,
  .opg (.bin .eql 3 (.v 0) (.c (.int .i64 0))) 2 true,
  .op (.pick (.v 3) (.v 0) (.c (.bool false))),
  .nop 0]) [0] 27)
 (.ret [.v 0]))
 (.seq (.reg [.op (.bin .eql 3 (.v 6) (.c (.int .i64 7))),
  .nop 0])
 (.cond (.v 0) (.seq (.post (.reg [.nop 9,
  .nop 9,
  .opg (.mov (.v 8)) 9 true,
  .op (.pick (.v 10) (.v 0) (.c (.bool false))),
  .nop 0,
  .opg (.fld 3 (.v 14)) 0 true,
  .opg (.ld1 (.v 0)) 1 true,
  .opg (.una .not (.v 0)) 2 true,
  .op (.pick (.v 3) (.v 0) (.c (.bool false))),
  .nop 0,
  .opg (.fld 6 (.v 18)) 0 true,
  .opg (.ld1 (.v 0)) 1 true,
  .opg (.bin .eql 3 (.v 0) (.c (.int .i64 0))) 2 true,
  .op (.pick (.v 3) (.v 0) (.c (.bool false))),
  .nop 0,
  .opg (.fld 7 (.v 22)) 0 true,
  .opg (.ld1 (.v 0)) 1 true,
  .opg (.bin .eql 3 (.v 0) (.c (.int .i64 0))) 2 true,
  .op (.pick (.v 3) (.v 0) (.c (.bool false))),
  .nop 0]) [0] 14)
 (.ret [.v 0]))
 .skip)))))))))))))) [11] 7)))
 (.seq (.reg [.op (.mov (.c (.bool false)))])
 (.ret [.v 0])))))))⟩


def ac24 : AFn := ⟨2, [],
 (.seq (.reg [.op (.new [(.int .i64 0), (.int .i64 0), (.int .i64 0), (.bool false), (.string ⟨#[]⟩), (.string ⟨#[]⟩), (.int .i64 0), (.int .i64 0), (.slice none 0 0)]),
  .op (.mov (.c (.bool false)))])
 (.seq (.seq (.post (.reg [.nop 2,
  .nop 3,
  .op (.call 39 [(.v 2), (.v 3)]),
  .op (.bin .neq 30 (.v 0) (.c (.int .i64 0)))]) [0] 2)
 (.cond (.v 0) (.seq (.post (.reg [.op (.build [(.int .i64 0), (.int .i64 0), (.int .i64 0), (.bool false), (.string ⟨#[]⟩), (.string ⟨#[]⟩), (.int .i64 0), (.int .i64 0), (.slice none 0 0)] []),
  .eff (.st 9 (.v 3) (.v 0)),
  .op (.mov (.c (.bool false)))]) [0] 2)
 (.ret [.cells 3 9, .v 0]))
 .skip))
 (.seq (.post (.reg [.nop 3,
  .op (.nilck (.v 3)),
  .op (.fld 1 (.v 0)),
  .op (.ld1 (.v 0)),
  .nop 7,
  .op (.mp (.look 3 (.agg #[(.int .i64 0), (.int .i64 0), (.int .i64 0), (.bool false), (.string ⟨#[]⟩), (.string ⟨#[]⟩), (.int .i64 0), (.int .i64 0), (.slice none 0 0)]) false) [(.v 0), (.v 7)]),
  .op (.call 31 [(.v 0)]),
  .eff (.st 9 (.v 7) (.v 0)),
  .op (.mov (.c (.bool true)))]) [0] 6)
 (.ret [.cells 3 9, .v 0]))))⟩


def ac25L0b : AC :=
 (.post (.seq (.seq (.reg [.nop 1,
  .op (.fld 8 (.v 6)),
  .op (.ld1 (.v 0)),
  .op (.len false (.v 0)),
  .op (.bin .lss 3 (.v 4) (.v 0))])
 (.cond (.v 0) .skip
 (.pre [4] 6 (.exit 0))))
 (.seq (.block 1 [[4], [73], [72], [71], [70], [], [5, 69], [], [68], [], [3], [2], [0], [1]] (.post (.seq (.regD [.op (.fld 8 (.v 10)),
  .op (.ld1 (.v 0)),
  .nop 7,
  .op (.idx 8 (.v 0) (.v 7)),
  .op (.ldn 8 (.v 0)),
  .op (.fld 8 (.v 13)),
  .op (.ld1 (.v 0)),
  .nop 11,
  .op (.idx 8 (.v 0) (.v 11)),
  .op (.ldn 8 (.v 0)),
  .op (.bin .neq 52 (.v 4) (.v 0))] [0, 1, 0, 7, 15, 0, 32, 0, 224, 480, 1023])
 (.cond (.v 0) (.seq (.reg [.op (.mov (.c (.bool false)))])
 (.ret [.v 0]))
 .skip)) [13] 9))
 (.reg [.nop 6,
  .op (.bin .add 3 (.v 6) (.c (.int .i64 1))),
  .nop 0]))) [1, 0] 8)
def ac25L0 : AC := .loop [[4], [5], [], [68], [], [3], [2], [0], [1]] ac25L0b
def ac25 : AFn := ⟨2, [],
 (.seq (.reg [.op (.box (.v 0)),
  .op (.box (.v 2)),
  .op (.mov (.c (.bool false)))])
 (.seq (.seq (.post (.reg [.op (.fld 0 (.v 2)),
  .op (.ld1 (.v 0)),
  .op (.fld 0 (.v 3)),
  .op (.ld1 (.v 0)),
  .op (.bin .neq 3 (.v 2) (.v 0)),
  .nop 0,
  .opg (.fld 1 (.v 7)) 0 false,
  .opg (.ld1 (.v 0)) 1 false,
  .opg (.fld 1 (.v 8)) 2 false,
  .opg (.ld1 (.v 0)) 3 false,
  .opg (.bin .neq 3 (.v 2) (.v 0)) 4 false,
  .op (.pick (.v 5) (.c (.bool true)) (.v 0)),
  .nop 0,
  .opg (.fld 2 (.v 13)) 0 false,
  .opg (.ld1 (.v 0)) 1 false,
  .opg (.fld 2 (.v 14)) 2 false,
  .opg (.ld1 (.v 0)) 3 false,
  .opg (.bin .neq 3 (.v 2) (.v 0)) 4 false,
  .op (.pick (.v 5) (.c (.bool true)) (.v 0)),
  .nop 0,
  .opg (.fld 3 (.v 19)) 0 false,
  .opg (.ld1 (.v 0)) 1 false,
  .opg (.fld 3 (.v 20)) 2 false,
  .opg (.ld1 (.v 0)) 3 false,
  .opg (.bin .neq 4 (.v 2) (.v 0)) 4 false,
  .op (.pick (.v 5) (.c (.bool true)) (.v 0)),
  .nop 0,
  .opg (.fld 4 (.v 25)) 0 false,
  .opg (.ld1 (.v 0)) 1 false,
  .opg (.fld 4 (.v 26)) 2 false,
  .opg (.ld1 (.v 0)) 3 false,
  .opg (.bin .neq 9 (.v 2) (.v 0)) 4 false,
  .op (.pick (.v 5) (.c (.bool true)) (.v 0)),
  .nop 0,
  .opg (.fld 5 (.v 31)) 0 false,
  .opg (.ld1 (.v 0)) 1 false,
  .opg (.fld 5 (.v 32)) 2 false,
  .opg (.ld1 (.v 0)) 3 false,
  .opg (.bin .neq 9 (.v 2) (.v 0)) 4 false,
  .op (.pick (.v 5) (.c (.bool true)) (.v 0)),
  .nop 0,
  .opg (.fld 6 (.v 37)) 0 false,
  .opg (.ld1 (.v 0)) 1 false,
  .opg (.fld 6 (.v 38)) 2 false,
  .opg (.ld1 (.v 0)) 3 false,
  .opg (.bin .neq 3 (.v 2) (.v 0)) 4 false,
  .op (.pick (.v 5) (.c (.bool true)) (.v 0)),
  .nop 0,
  .opg (.fld 7 (.v 43)) 0 false,
  .opg (.ld1 (.v 0)) 1 false,
  .opg (.fld 7 (.v 44)) 2 false,
  .opg (.ld1 (.v 0)) 3 false,
  .opg (.bin .neq 3 (.v 2) (.v 0)) 4 false,
  .op (.pick (.v 5) (.c (.bool true)) (.v 0)),
  .nop 0,
  .opg (.fld 8 (.v 49)) 0 false,
  .opg (.ld1 (.v 0)) 1 false,
  .opg (.len false (.v 0)) 2 false,
  .opg (.fld 8 (.v 51)) 3 false,
  .opg (.ld1 (.v 0)) 4 false,
  .opg (.len false (.v 0)) 5 false,
  .opg (.bin .neq 3 (.v 3) (.v 0)) 6 false,
  .op (.pick (.v 7) (.c (.bool true)) (.v 0))]) [0] 55)
 (.cond (.v 0) (.seq (.reg [.op (.mov (.c (.bool false)))])
 (.ret [.v 0]))
 .skip))
 (.seq (.seq (.reg [.op (.mov (.c (.int .i64 0)))])
 (.block 0 [[4], [], [68], [], [3], [2], [0], [1]] (.pre [2, 0] 0 ac25L0)))
 (.seq (.reg [.op (.mov (.c (.bool true)))])
 (.ret [.v 0])))))⟩


def ac26L0b : AC :=
 (.post (.seq (.seq (.reg [.nop 1,
  .nop 5,
  .op (.nilck (.v 5)),
  .op (.fld 0 (.v 0)),
  .op (.ld1 (.v 0)),
  .op (.len false (.v 0)),
  .op (.bin .lss 3 (.v 5) (.v 0))])
 (.cond (.v 0) .skip
 (.pre [5] 7 (.exit 0))))
 (.seq (.block 1 [[5], [13], [12], [11], [10], [9], [], [6, 7], [], [], [4], [0, 8], [1]] (.post (.seq (.reg [.nop 11,
  .op (.una .not (.v 11)),
  .nop 0,
  .opg (.mov (.v 11)) 0 false,
  .opg (.nilck (.v 0)) 1 false,
  .opg (.fld 0 (.v 0)) 2 false,
  .opg (.ld1 (.v 0)) 3 false,
  .opg (.mov (.v 11)) 4 false,
  .opg (.idx 10 (.v 1) (.v 0)) 5 false,
  .opg (.fld 9 (.v 0)) 6 false,
  .opg (.ld1 (.v 0)) 7 false,
  .op (.pick (.v 8) (.c (.bool true)) (.v 0))])
 (.cond (.v 0) (.post (.reg [.nop 15,
  .nop 20,
  .op (.nilck (.v 20)),
  .op (.fld 0 (.v 0)),
  .op (.ld1 (.v 0)),
  .nop 19,
  .op (.idx 10 (.v 0) (.v 19)),
  .op (.fld 0 (.v 0)),
  .op (.fld 0 (.v 0)),
  .op (.ld1 (.v 0)),
  .op (.mkl 1 1 [(.int .i64 0)] [(0, (.v 0))]),
  .op (.app 1 8 (.v 23) (.v 0)),
  .nop 0]) [0] 9)
 (.post .skip [15] 0))) [0] 11))
 (.reg [.nop 7,
  .op (.bin .add 3 (.v 7) (.c (.int .i64 1))),
  .nop 0]))) [1, 0] 9)
def ac26L0 : AC := .loop [[5], [6], [], [], [4], [0], [1]] ac26L0b
def ac26 : AFn := ⟨2, [],
 (.seq (.reg [.op (.mov (.c (.slice none 0 0)))])
 (.seq (.reg [.op (.mov (.c (.slice none 0 0)))])
 (.seq (.seq (.reg [.op (.mov (.c (.int .i64 0)))])
 (.block 0 [[5], [], [], [4], [0], [1]] (.pre [1, 0] 0 ac26L0)))
 (.seq (.reg [.nop 0,
  .nop 0])
 (.ret [.v 0])))))⟩


def ac27L0b : AC :=
 (.post (.seq (.seq (.reg [.nop 1,
  .nop 5,
  .op (.nilck (.v 5)),
  .op (.fld 0 (.v 0)),
  .op (.ld1 (.v 0)),
  .op (.len false (.v 0)),
  .op (.bin .lss 3 (.v 5) (.v 0))])
 (.cond (.v 0) .skip
 (.pre [5] 7 (.exit 0))))
 (.seq (.block 1 [[3], [11], [10], [9], [8], [7], [], [4, 5], [], [], [2], [0, 6]] (.post (.seq (.reg [.nop 10,
  .nop 6,
  .op (.call 49 [(.v 10), (.v 6)])])
 (.cond (.v 0) (.post (.reg [.nop 6,
  .nop 11,
  .op (.nilck (.v 11)),
  .op (.fld 0 (.v 0)),
  .op (.ld1 (.v 0)),
  .nop 10,
  .op (.idx 10 (.v 0) (.v 10)),
  .op (.fld 0 (.v 0)),
  .op (.fld 0 (.v 0)),
  .op (.ld1 (.v 0)),
  .op (.mkl 1 1 [(.int .i64 0)] [(0, (.v 0))]),
  .op (.app 1 8 (.v 14) (.v 0)),
  .nop 0]) [0] 9)
 (.post .skip [6] 0))) [0] 2))
 (.reg [.nop 7,
  .op (.bin .add 3 (.v 7) (.c (.int .i64 1))),
  .nop 0]))) [1, 0] 9)
def ac27L0 : AC := .loop [[3], [4], [], [], [2], [0]] ac27L0b
def ac27 : AFn := ⟨1, [],
 (.seq (.reg [.op (.mov (.c (.slice none 0 0)))])
 (.seq (.reg [.op (.mov (.c (.slice none 0 0)))])
 (.seq (.seq (.reg [.op (.mov (.c (.int .i64 0)))])
 (.block 0 [[3], [], [], [2], [0]] (.pre [1, 0] 0 ac27L0)))
 (.seq (.reg [.nop 0,
  .nop 0])
 (.ret [.v 0])))))⟩


def ac28 : AFn := ⟨2, [],
 (.seq (.reg [.op (.box (.v 1)),
  .op (.mov (.c (.int .i64 0)))])
 (.seq (.seq (.post (.reg [.op (.fld 1 (.v 1)),
  .op (.ld1 (.v 0)),
  .op (.bin .lss 3 (.v 0) (.c (.int .i64 0))),
  .nop 0,
  .opg (.mov (.v 5)) 0 false,
  .opg (.nilck (.v 0)) 1 false,
  .opg (.fld 0 (.v 0)) 2 false,
  .opg (.ld1 (.v 0)) 3 false,
  .opg (.len false (.v 0)) 4 false,
  .opg (.bin .eql 3 (.v 0) (.c (.int .i64 0))) 5 false,
  .op (.pick (.v 6) (.c (.bool true)) (.v 0))]) [0] 10)
 (.cond (.v 0) (.seq (.post (.reg [.op (.fld 1 (.v 2)),
  .op (.ld1 (.v 0)),
  .nop 0]) [0] 2)
 (.ret [.v 0]))
 .skip))
 (.seq (.post (.regD [.nop 3,
  .op (.nilck (.v 3)),
  .op (.fld 0 (.v 0)),
  .op (.ld1 (.v 0)),
  .op (.fld 1 (.v 5)),
  .op (.ld1 (.v 0)),
  .nop 8,
  .op (.nilck (.v 8)),
  .op (.fld 0 (.v 0)),
  .op (.ld1 (.v 0)),
  .op (.len false (.v 0)),
  .op (.bin .rem 3 (.v 4) (.v 0)),
  .op (.idx 10 (.v 7) (.v 0)),
  .op (.fld 0 (.v 0)),
  .op (.fld 0 (.v 0)),
  .op (.ld1 (.v 0)),
  .nop 0] [0, 1, 3, 7, 0, 16, 0, 64, 192, 448, 960, 2032, 4095, 8191, 16383, 32767, 65535]) [0] 14)
 (.ret [.v 0]))))⟩


def ac29 : AFn := ⟨2, [],
 (.seq (.reg [.op (.new [(.int .i64 0), (.int .i64 0), (.int .i64 0), (.bool false), (.string ⟨#[]⟩), (.string ⟨#[]⟩), (.int .i64 0), (.int .i64 0), (.slice none 0 0)]),
  .op (.mov (.c (.bool false)))])
 (.seq (.reg [.nop 2,
  .nop 3,
  .op (.call 50 [(.v 2), (.v 3)]),
  .nop 0])
 (.seq (.seq (.reg [.nop 0,
  .op (.bin .lss 3 (.v 0) (.c (.int .i64 0)))])
 (.cond (.v 0) (.seq (.post (.reg [.op (.build [(.int .i64 0), (.int .i64 0), (.int .i64 0), (.bool false), (.string ⟨#[]⟩), (.string ⟨#[]⟩), (.int .i64 0), (.int .i64 0), (.slice none 0 0)] []),
  .eff (.st 9 (.v 4) (.v 0)),
  .op (.mov (.c (.bool false)))]) [0] 2)
 (.ret [.cells 4 9, .v 0]))
 .skip))
 (.seq (.post (.reg [.nop 4,
  .op (.nilck (.v 4)),
  .op (.fld 0 (.v 0)),
  .op (.ld1 (.v 0)),
  .nop 4,
  .op (.idx 10 (.v 0) (.v 4)),
  .op (.fld 0 (.v 0)),
  .op (.ldn 9 (.v 0)),
  .eff (.st 9 (.v 9) (.v 0)),
  .op (.mov (.c (.bool true)))]) [0] 7)
 (.ret [.cells 4 9, .v 0])))))⟩


def ac30 : AFn := ⟨1, [],
 (.seq (.reg [.op (.box (.v 0)),
  .op (.mov (.c (.bool false)))])
 (.seq (.seq (.post (.reg [.op (.fld 0 (.v 1)),
  .op (.ld1 (.v 0)),
  .op (.bin .lss 3 (.v 0) (.c (.int .i64 0))),
  .nop 0,
  .opg (.fld 0 (.v 4)) 0 false,
  .opg (.ld1 (.v 0)) 1 false,
  .opg (.bin .gtr 3 (.v 0) (.c (.int .i64 2147483647))) 2 false,
  .op (.pick (.v 3) (.c (.bool true)) (.v 0)),
  .nop 0,
  .opg (.fld 2 (.v 8)) 0 false,
  .opg (.ld1 (.v 0)) 1 false,
  .opg (.bin .neq 3 (.v 0) (.c (.int .i64 0))) 2 false,
  .opg (.mov (.v 0)) 3 false,
  .opg (.fld 2 (.v 12)) 0 true,
  .opg (.ld1 (.v 0)) 1 true,
  .opg (.bin .neq 3 (.v 0) (.c (.int .i64 1))) 2 true,
  .opg (.pick (.v 3) (.v 0) (.c (.bool false))) 7 false,
  .op (.pick (.v 8) (.c (.bool true)) (.v 0))]) [0] 16)
 (.cond (.v 0) (.seq (.reg [.op (.mov (.c (.bool false)))])
 (.ret [.v 0]))
 .skip))
 (.seq (.post (.reg [.op (.ldn 9 (.v 2)),
  .op (.call 51 [(.v 0)]),
  .op (.new [(.int .i64 0), (.int .i64 0), (.int .i64 0), (.bool false), (.string ⟨#[]⟩), (.string ⟨#[]⟩), (.int .i64 0), (.int .i64 0), (.slice none 0 0)]),
  .eff (.st 9 (.v 0) (.v 1))]) [0] 3)
 (.seq (.post (.reg [.op (.fld 4 (.v 3)),
  .op (.ld1 (.v 0)),
  .op (.fld 4 (.v 2)),
  .eff (.st 1 (.v 0) (.v 1))]) [] 3)
 (.seq (.post (.reg [.op (.fld 4 (.v 3)),
  .op (.ld1 (.v 0)),
  .op (.call 52 [(.v 0)]),
  .nop 0]) [0] 3)
 (.seq (.seq (.post (.reg [.op (.fld 1 (.v 4)),
  .op (.ld1 (.v 0))]) [0] 2)
 (.block 0 [[2], [4], [32], [30], [3], [22], [], [1], [0]] (.post (.seq (.reg [.op (.bin .eql 3 (.v 0) (.c (.int .i64 1))),
  .nop 0])
 (.cond (.v 0) (.post (.seq (.post (.regD [.op (.fld 6 (.v 6)),
  .op (.ld1 (.v 0)),
  .op (.fld 7 (.v 8)),
  .op (.ld1 (.v 0)),
  .op (.fld 6 (.v 7)),
  .eff (.st 1 (.v 0) (.v 3)),
  .op (.fld 7 (.v 8)),
  .eff (.st 1 (.v 0) (.v 2))] [0, 1, 0, 4, 3, 19, 63, 127]) [] 6)
 (.post (.reg [.nop 2,
  .nop 2,
  .opg (.fld 6 (.v 6)) 2 true,
  .opg (.ld1 (.v 0)) 3 true,
  .opg (.fld 7 (.v 8)) 4 true,
  .opg (.ld1 (.v 0)) 5 true,
  .opg (.call 53 [(.v 2), (.v 0)]) 6 true,
  .op (.pick (.v 7) (.v 0) (.c (.bool false))),
  .nop 0,
  .opg (.fld 7 (.v 12)) 0 true,
  .opg (.ld1 (.v 0)) 1 true,
  .opg (.bin .leq 3 (.v 0) (.c (.int .i64 16))) 2 true,
  .op (.pick (.v 3) (.v 0) (.c (.bool false))),
  .nop 0]) [0] 10)) [6, 0] 1)
 (.post (.seq (.reg [.op (.bin .eql 3 (.v 1) (.c (.int .i64 2))),
  .nop 0])
 (.cond (.v 0) (.post (.seq (.post (.regD [.op (.fld 6 (.v 7)),
  .op (.ld1 (.v 0)),
  .op (.fld 7 (.v 9)),
  .op (.ld1 (.v 0)),
  .op (.fld 8 (.v 11)),
  .op (.ld1 (.v 0)),
  .op (.fld 3 (.v 13)),
  .op (.ld1 (.v 0)),
  .op (.fld 6 (.v 12)),
  .eff (.st 1 (.v 0) (.v 7)),
  .op (.fld 7 (.v 13)),
  .eff (.st 1 (.v 0) (.v 6)),
  .op (.fld 8 (.v 14)),
  .eff (.st 1 (.v 0) (.v 5)),
  .op (.fld 3 (.v 15)),
  .eff (.st 1 (.v 0) (.v 4))] [0, 1, 0, 4, 0, 16, 0, 64, 3, 259, 783, 1807, 3903, 7999, 16383, 32767]) [] 12)
 (.post (.reg [.nop 3,
  .nop 3,
  .opg (.fld 6 (.v 7)) 3 true,
  .opg (.ld1 (.v 0)) 4 true,
  .opg (.fld 7 (.v 9)) 5 true,
  .opg (.ld1 (.v 0)) 6 true,
  .opg (.call 53 [(.v 2), (.v 0)]) 7 true,
  .op (.pick (.v 8) (.v 0) (.c (.bool false))),
  .nop 0,
  .opg (.fld 7 (.v 13)) 0 true,
  .opg (.ld1 (.v 0)) 1 true,
  .opg (.bin .leq 3 (.v 0) (.c (.int .i64 16))) 2 true,
  .op (.pick (.v 3) (.v 0) (.c (.bool false))),
  .nop 0,
  .opg (.fld 8 (.v 17)) 0 true,
  .opg (.ld1 (.v 0)) 1 true,
  .opg (.len false (.v 0)) 2 true,
  .opg (.fld 7 (.v 20)) 3 true,
  .opg (.ld1 (.v 0)) 4 true,
  .opg (.bin .eql 3 (.v 2) (.v 0)) 5 true,
  .op (.pick (.v 6) (.v 0) (.c (.bool false))),
  .nop 0]) [0] 17)) [7, 0] 1)
 (.post (.seq (.reg [.op (.bin .eql 3 (.v 2) (.c (.int .i64 3))),
  .nop 0])
 (.cond (.v 0) (.post (.seq (.post (.regD [.op (.fld 6 (.v 8)),
  .op (.ld1 (.v 0)),
  .op (.fld 7 (.v 10)),
  .op (.ld1 (.v 0)),
  .op (.fld 3 (.v 12)),
  .op (.ld1 (.v 0)),
  .op (.fld 6 (.v 11)),
  .eff (.st 1 (.v 0) (.v 5)),
  .op (.fld 7 (.v 12)),
  .eff (.st 1 (.v 0) (.v 4)),
  .op (.fld 3 (.v 13)),
  .eff (.st 1 (.v 0) (.v 3))] [0, 1, 0, 4, 0, 16, 3, 67, 207, 463, 1023, 2047]) [] 9)
 (.post (.reg [.nop 4,
  .nop 4,
  .opg (.fld 6 (.v 8)) 4 true,
  .opg (.ld1 (.v 0)) 5 true,
  .opg (.fld 7 (.v 10)) 6 true,
  .opg (.ld1 (.v 0)) 7 true,
  .opg (.call 53 [(.v 2), (.v 0)]) 8 true,
  .op (.pick (.v 9) (.v 0) (.c (.bool false))),
  .nop 0]) [0] 6)) [8, 0] 1)
 (.post (.seq (.reg [.op (.bin .eql 3 (.v 3) (.c (.int .i64 4))),
  .nop 0])
 (.cond (.v 0) (.post (.post (.reg [.op (.fld 4 (.v 9)),
  .op (.ld1 (.v 0)),
  .op (.bin .eql 9 (.v 0) (.c (.string ⟨#[]⟩))),
  .nop 0]) [0] 3) [9, 0] 1)
 (.post (.seq (.reg [.op (.bin .eql 3 (.v 4) (.c (.int .i64 5))),
  .nop 0])
 (.cond (.v 0) (.post (.seq (.post (.regD [.op (.fld 6 (.v 10)),
  .op (.ld1 (.v 0)),
  .op (.fld 7 (.v 12)),
  .op (.ld1 (.v 0)),
  .op (.fld 6 (.v 11)),
  .eff (.st 1 (.v 0) (.v 3)),
  .op (.fld 7 (.v 12)),
  .eff (.st 1 (.v 0) (.v 2))] [0, 1, 0, 4, 3, 19, 63, 127]) [] 6)
 (.post (.reg [.nop 6,
  .nop 6,
  .opg (.fld 7 (.v 10)) 6 true,
  .opg (.ld1 (.v 0)) 7 true,
  .opg (.bin .geq 3 (.v 0) (.c (.int .i64 1))) 8 true,
  .op (.pick (.v 9) (.v 0) (.c (.bool false))),
  .nop 0,
  .opg (.fld 7 (.v 14)) 0 true,
  .opg (.ld1 (.v 0)) 1 true,
  .opg (.bin .leq 3 (.v 0) (.c (.int .i64 65536))) 2 true,
  .op (.pick (.v 3) (.v 0) (.c (.bool false))),
  .nop 0,
  .opg (.fld 6 (.v 18)) 0 true,
  .opg (.ld1 (.v 0)) 1 true,
  .opg (.bin .geq 3 (.v 0) (.c (.int .i64 0))) 2 true,
  .op (.pick (.v 3) (.v 0) (.c (.bool false))),
  .nop 0,
  .opg (.fld 6 (.v 22)) 0 true,
  .opg (.ld1 (.v 0)) 1 true,
  .opg (.fld 7 (.v 24)) 2 true,
  .opg (.ld1 (.v 0)) 3 true,
  .opg (.bin .leq 3 (.v 2) (.v 0)) 4 true,
  .op (.pick (.v 5) (.v 0) (.c (.bool false))),
  .nop 0]) [0] 18)) [10, 0] 1)
 (.post (.seq (.reg [.op (.bin .eql 3 (.v 5) (.c (.int .i64 6))),
  .nop 0])
 (.cond (.v 0) (.post (.seq (.post (.reg [.op (.fld 5 (.v 11)),
  .op (.ld1 (.v 0)),
  .op (.fld 5 (.v 10)),
  .eff (.st 1 (.v 0) (.v 1))]) [] 3)
 (.post (.reg [.nop 7,
  .nop 7,
  .opg (.fld 5 (.v 11)) 7 true,
  .opg (.ld1 (.v 0)) 8 true,
  .opg (.call 52 [(.v 0)]) 9 true,
  .op (.pick (.v 10) (.v 0) (.c (.bool false))),
  .nop 0,
  .opg (.fld 5 (.v 15)) 0 true,
  .opg (.ld1 (.v 0)) 1 true,
  .opg (.fld 4 (.v 17)) 2 true,
  .opg (.ld1 (.v 0)) 3 true,
  .opg (.bin .neq 9 (.v 2) (.v 0)) 4 true,
  .op (.pick (.v 5) (.v 0) (.c (.bool false))),
  .nop 0]) [0] 10)) [11, 0] 1)
 (.post (.seq (.reg [.op (.bin .eql 3 (.v 6) (.c (.int .i64 7))),
  .nop 0])
 (.cond (.v 0) .skip
 (.seq (.reg [.op (.mov (.c (.bool false)))])
 (.ret [.v 0])))) [11, 8] 1))) [0, 1] 3))) [0, 1] 3))) [0, 1] 3))) [0, 1] 3))) [0, 1] 3))) [0, 1] 3)))
 (.seq (.post (.reg [.nop 1,
  .nop 1,
  .opg (.ldn 9 (.v 7)) 1 true,
  .opg (.ldn 9 (.v 5)) 2 true,
  .opg (.call 54 [(.v 1), (.v 0)]) 3 true,
  .op (.pick (.v 4) (.v 0) (.c (.bool false))),
  .nop 0]) [0] 4)
 (.ret [.v 0]))))))))⟩


def ac31 : AFn := ⟨1, [],
 (.seq (.reg [.op (.box (.v 0)),
  .op (.new [(.int .i64 0), (.int .i64 0), (.int .i64 0), (.bool false), (.string ⟨#[]⟩), (.string ⟨#[]⟩), (.int .i64 0), (.int .i64 0), (.slice none 0 0)])])
 (.seq (.post (.reg [.op (.fld 8 (.v 1)),
  .op (.ld1 (.v 0)),
  .op (.call 55 [(.v 0)]),
  .op (.fld 8 (.v 4)),
  .eff (.st 1 (.v 0) (.v 1))]) [] 4)
 (.seq (.post (.reg [.op (.ldn 9 (.v 1)),
  .eff (.st 9 (.v 1) (.v 0))]) [] 1)
 (.ret [.cells 0 9]))))⟩


def ac32L0b : AC :=
 (.post (.seq (.reg [.op (.bin .lss 3 (.v 1) (.v 3))])
 (.seq (.cond (.v 0) .skip
 (.pre [1] 3 (.exit 0)))
 (.seq (.block 1 [[5], [16], [], [15], [], [14], [13], [], [9], [4], [0, 8, 10], [1]] (.post (.seq (.reg [.nop 2,
  .op (.idx 1 (.v 5) (.v 2)),
  .op (.ld1 (.v 0)),
  .nop 4,
  .nop 0])
 (.seq (.reg [.nop 12,
  .nop 4,
  .nop 0,
  .op (.callv (.v 12) [(.v 4), (.v 0)])])
 (.cond (.v 0) (.post (.reg [.nop 4,
  .nop 1,
  .op (.mkl 1 1 [(.int .i64 0)] [(0, (.v 1))]),
  .op (.app 1 8 (.v 5) (.v 0)),
  .nop 0]) [0] 2)
 (.post .skip [4] 0)))) [0] 4))
 (.reg [.op (.bin .add 3 (.v 3) (.c (.int .i64 1))),
  .nop 0])))) [1, 0] 5)
def ac32L0 : AC := .loop [[5], [15], [], [14], [13], [], [9], [4], [0, 8, 10], [1]] ac32L0b
def ac32 : AFn := ⟨2, [],
 (.seq (.reg [.op (.mov (.c (.slice none 0 0)))])
 (.seq (.seq (.reg [.nop 1,
  .op (.bin .eql 25 (.v 1) (.c (.pointer none)))])
 (.cond (.v 0) (.seq (.reg [.op (.mov (.c (.slice none 0 0)))])
 (.ret [.v 0]))
 .skip))
 (.seq (.reg [.op (.mov (.c (.slice none 0 0)))])
 (.seq (.seq (.post (.reg [.nop 3,
  .op (.nilck (.v 3)),
  .op (.fld 0 (.v 0)),
  .op (.ld1 (.v 0)),
  .op (.len false (.v 0)),
  .op (.mov (.c (.int .i64 0)))]) [0, 1, 2] 5)
 (.block 0 [[5], [], [14], [13], [], [9], [4], [0, 8, 10], [1]] (.pre [3, 0] 0 ac32L0)))
 (.seq (.reg [.nop 0,
  .nop 0])
 (.ret [.v 0]))))))⟩


def ac33 : AFn := ⟨3, [],
 (.seq (.reg [.op (.box (.v 1)),
  .op (.mov (.c (.bool false)))])
 (.seq (.seq (.post (.regD [.op (.ld1 (.v 4)),
  .op (.nilck (.v 0)),
  .op (.fld 2 (.v 0)),
  .op (.ld1 (.v 0)),
  .op (.ld1 (.v 5)),
  .op (.mp (.look 3 (.bool false) false) [(.v 1), (.v 0)])] [0, 1, 3, 7, 0, 31]) [0] 6)
 (.cond (.v 0) (.seq (.reg [.op (.mov (.c (.bool false)))])
 (.ret [.v 0]))
 .skip))
 (.seq (.post (.reg [.op (.ld1 (.v 5)),
  .op (.nilck (.v 0)),
  .op (.fld 0 (.v 0)),
  .op (.ld1 (.v 0)),
  .nop 7,
  .op (.slc 1 (.v 0) none (some (.v 7))),
  .op (.func 35 [] [(.v 10), (.v 7)]),
  .op (.call 34 [(.v 1), (.v 0)]),
  .op (.una .not (.v 0)),
  .nop 0]) [0] 8)
 (.ret [.v 0]))))⟩


def ac34 : AFn := ⟨2, [],
 (.seq (.reg [.op (.mov (.c (.bool false)))])
 (.seq (.post (.reg [.nop 1,
  .nop 2,
  .op (.call 56 [(.v 1), (.v 2)]),
  .op (.bin .geq 3 (.v 0) (.c (.int .i64 0))),
  .nop 0]) [0] 2)
 (.ret [.v 0])))⟩


def ac35 : AFn := ⟨3, [],
 (.seq (.reg [.op (.mov (.c (.bool false)))])
 (.seq (.post (.regD [.op (.ld1 (.v 2)),
  .op (.nilck (.v 0)),
  .op (.fld 1 (.v 0)),
  .op (.ld1 (.v 0)),
  .nop 5,
  .op (.mp (.look 3 (.agg #[(.int .i64 0), (.int .i64 0), (.int .i64 0), (.bool false), (.string ⟨#[]⟩), (.string ⟨#[]⟩), (.int .i64 0), (.int .i64 0), (.slice none 0 0)]) false) [(.v 0), (.v 5)]),
  .op (.ld1 (.v 7)),
  .op (.nilck (.v 0)),
  .op (.fld 1 (.v 0)),
  .op (.ld1 (.v 0)),
  .op (.ld1 (.v 12)),
  .op (.mp (.look 3 (.agg #[(.int .i64 0), (.int .i64 0), (.int .i64 0), (.bool false), (.string ⟨#[]⟩), (.string ⟨#[]⟩), (.int .i64 0), (.int .i64 0), (.slice none 0 0)]) false) [(.v 1), (.v 0)]),
  .op (.call 36 [(.v 6), (.v 0)]),
  .nop 0] [0, 1, 3, 7, 0, 31, 0, 64, 192, 448, 0, 1984, 4095, 8191]) [0] 12)
 (.ret [.v 0])))⟩


def ac36 : AFn := ⟨2, [],
 (.seq (.reg [.op (.box (.v 0)),
  .op (.box (.v 2)),
  .op (.mov (.c (.bool false)))])
 (.seq (.post (.reg [.op (.ldn 9 (.v 2)),
  .op (.call 57 [(.v 0)]),
  .nop 0,
  .opg (.ldn 9 (.v 3)) 0 false,
  .opg (.call 57 [(.v 0)]) 1 false,
  .op (.pick (.v 2) (.c (.bool true)) (.v 0)),
  .nop 0,
  .opg (.ldn 9 (.v 7)) 0 false,
  .opg (.ldn 9 (.v 7)) 1 false,
  .opg (.call 58 [(.v 1), (.v 0)]) 2 false,
  .op (.pick (.v 3) (.c (.bool true)) (.v 0)),
  .nop 0]) [0] 9)
 (.ret [.v 0])))⟩


def ac37 : AFn := ⟨3, [],
 (.seq (.reg [.op (.mov (.c (.bool false)))])
 (.seq (.post (.reg [.op (.ld1 (.v 3)),
  .op (.nilck (.v 0)),
  .op (.fld 2 (.v 0)),
  .op (.ld1 (.v 0)),
  .nop 6,
  .op (.mp (.look 3 (.bool false) false) [(.v 0), (.v 6)]),
  .nop 0]) [0] 5)
 (.ret [.v 0])))⟩


def ac38 : AFn := ⟨3, [],
 (.seq (.reg [.op (.box (.v 1)),
  .op (.mov (.c (.int .i64 0)))])
 (.seq (.seq (.post (.reg [.nop 2,
  .op (.ld1 (.v 1)),
  .op (.call 39 [(.v 3), (.v 0)]),
  .nop 0]) [0] 2)
 (.seq (.reg [.nop 0,
  .op (.bin .neq 30 (.v 0) (.c (.int .i64 0)))])
 (.cond (.v 0) (.seq (.reg [.nop 1,
  .nop 1])
 (.ret [.v 1]))
 .skip)))
 (.seq (.seq (.post (.regD [.nop 4,
  .op (.nilck (.v 4)),
  .op (.fld 2 (.v 0)),
  .op (.ld1 (.v 0)),
  .op (.ld1 (.v 6)),
  .op (.mp (.look 3 (.bool false) false) [(.v 1), (.v 0)]),
  .nop 11,
  .op (.bin .neq 4 (.v 0) (.v 11))] [0, 1, 3, 7, 0, 31, 0, 127]) [0] 6)
 (.cond (.v 0) (.seq (.reg [.op (.mov (.c (.int .i64 8)))])
 (.ret [.v 0]))
 .skip))
 (.seq (.post (.reg [.nop 5,
  .nop 5,
  .op (.func 59 [] [(.v 4)]),
  .op (.call 32 [(.v 6), (.v 0)]),
  .op (.nilck (.v 7)),
  .op (.fld 0 (.v 0)),
  .eff (.st 1 (.v 0) (.v 2))]) [] 4)
 (.seq (.post (.regD [.nop 5,
  .op (.nilck (.v 5)),
  .op (.fld 1 (.v 0)),
  .op (.ld1 (.v 0)),
  .op (.ld1 (.v 7)),
  .eff (.mp (.del 3) [(.v 1), (.v 0)])] [0, 1, 3, 7, 0, 31]) [] 4)
 (.seq (.post (.regD [.nop 5,
  .op (.nilck (.v 5)),
  .op (.fld 2 (.v 0)),
  .op (.ld1 (.v 0)),
  .op (.ld1 (.v 7)),
  .eff (.mp (.del 3) [(.v 1), (.v 0)])] [0, 1, 3, 7, 0, 31]) [] 4)
 (.seq (.reg [.op (.mov (.c (.int .i64 0)))])
 (.ret [.v 0]))))))))⟩


def ac39 : AFn := ⟨2, [],
 (.seq (.reg [.op (.mov (.c (.int .i64 0)))])
 (.seq (.seq (.reg [.nop 1,
  .op (.bin .eql 25 (.v 1) (.c (.pointer none)))])
 (.cond (.v 0) (.seq (.reg [.op (.mov (.c (.int .i64 8)))])
 (.ret [.v 0]))
 .skip))
 (.seq (.seq (.post (.reg [.nop 2,
  .op (.nilck (.v 2)),
  .op (.fld 1 (.v 0)),
  .op (.ld1 (.v 0)),
  .nop 6,
  .op (.mp (.look 3 (.agg #[(.int .i64 0), (.int .i64 0), (.int .i64 0), (.bool false), (.string ⟨#[]⟩), (.string ⟨#[]⟩), (.int .i64 0), (.int .i64 0), (.slice none 0 0)]) true) [(.v 0), (.v 6)]),
  .nop 0,
  .op (.extr 0 (.v 0)),
  .op (.extr 1 (.v 1)),
  .op (.new [(.int .i64 0), (.int .i64 0), (.int .i64 0), (.bool false), (.string ⟨#[]⟩), (.string ⟨#[]⟩), (.int .i64 0), (.int .i64 0), (.slice none 0 0)]),
  .eff (.st 9 (.v 0) (.v 2)),
  .nop 1]) [1] 7)
 (.seq (.reg [.nop 0,
  .op (.una .not (.v 0))])
 (.cond (.v 0) (.seq (.reg [.op (.mov (.c (.int .i64 9)))])
 (.ret [.v 0]))
 .skip)))
 (.seq (.reg [.op (.mov (.c (.int .i64 0)))])
 (.ret [.v 0])))))⟩


def ac40 : AFn := ⟨2, [],
 (.seq (.reg [.op (.mov (.c (.bool false)))])
 (.seq (.post (.reg [.nop 1,
  .nop 2,
  .op (.call 60 [(.v 1), (.v 2)]),
  .op (.bin .geq 3 (.v 0) (.c (.int .i64 0))),
  .nop 0]) [0] 2)
 (.ret [.v 0])))⟩


def ac41 : AFn := ⟨1, [],
 (.seq (.reg [.op (.box (.v 0)),
  .op (.mov (.c (.bool false)))])
 (.seq (.post (.reg [.op (.fld 2 (.v 1)),
  .op (.ld1 (.v 0)),
  .op (.bin .eql 3 (.v 0) (.c (.int .i64 1))),
  .nop 0,
  .opg (.fld 1 (.v 4)) 0 false,
  .opg (.ld1 (.v 0)) 1 false,
  .opg (.bin .eql 3 (.v 0) (.c (.int .i64 4))) 2 false,
  .op (.pick (.v 3) (.c (.bool true)) (.v 0)),
  .nop 0]) [0] 7)
 (.ret [.v 0])))⟩


def ac42 : AFn := ⟨2, [],
 (.seq (.reg [.op (.box (.v 0)),
  .op (.box (.v 2)),
  .op (.mov (.c (.bool false)))])
 (.seq (.seq (.post (.reg [.op (.ldn 9 (.v 2)),
  .op (.call 23 [(.v 0)]),
  .op (.una .not (.v 0)),
  .nop 0,
  .opg (.ldn 9 (.v 4)) 0 false,
  .opg (.call 23 [(.v 0)]) 1 false,
  .opg (.una .not (.v 0)) 2 false,
  .op (.pick (.v 3) (.c (.bool true)) (.v 0))]) [0] 7)
 (.cond (.v 0) (.seq (.reg [.op (.mov (.c (.bool false)))])
 (.ret [.v 0]))
 .skip))
 (.seq (.post (.reg [.op (.ldn 9 (.v 3)),
  .op (.call 61 [(.v 0)]),
  .nop 0,
  .op (.extr 0 (.v 0)),
  .op (.extr 1 (.v 1)),
  .op (.extr 2 (.v 2)),
  .op (.extr 3 (.v 3)),
  .nop 3,
  .nop 2,
  .nop 1,
  .nop 0]) [0, 1, 2, 3] 6)
 (.seq (.post (.reg [.op (.ldn 9 (.v 6)),
  .op (.call 61 [(.v 0)]),
  .nop 0,
  .op (.extr 0 (.v 0)),
  .op (.extr 1 (.v 1)),
  .op (.extr 2 (.v 2)),
  .op (.extr 3 (.v 3)),
  .nop 3,
  .nop 2,
  .nop 1,
  .nop 0]) [0, 1, 2, 3] 6)
 (.seq (.seq (.post (.reg [.nop 4,
  .nop 4,
  .opg (.mov (.v 0)) 4 true,
  .op (.pick (.v 5) (.v 0) (.c (.bool false)))]) [0] 2)
 (.cond (.v 0) (.seq (.post (.reg [.nop 8,
  .nop 4,
  .op (.bin .eql 9 (.v 8) (.v 4)),
  .nop 0,
  .opg (.mov (.v 8)) 0 true,
  .opg (.mov (.v 5)) 1 true,
  .opg (.mov (.v 5)) 2 true,
  .opg (.bin .add 3 (.v 1) (.v 0)) 3 true,
  .opg (.bin .lss 3 (.v 3) (.v 0)) 4 true,
  .op (.pick (.v 5) (.v 0) (.c (.bool false))),
  .nop 0,
  .opg (.mov (.v 10)) 0 true,
  .opg (.mov (.v 15)) 1 true,
  .opg (.mov (.v 15)) 2 true,
  .opg (.bin .add 3 (.v 1) (.v 0)) 3 true,
  .opg (.bin .lss 3 (.v 3) (.v 0)) 4 true,
  .op (.pick (.v 5) (.v 0) (.c (.bool false))),
  .nop 0,
  .opg (.fld 1 (.v 25)) 0 true,
  .opg (.ld1 (.v 0)) 1 true,
  .opg (.bin .neq 3 (.v 0) (.c (.int .i64 1))) 2 true,
  .opg (.mov (.v 0)) 3 true,
  .opg (.fld 1 (.v 28)) 0 false,
  .opg (.ld1 (.v 0)) 1 false,
  .opg (.bin .neq 3 (.v 0) (.c (.int .i64 1))) 2 false,
  .opg (.pick (.v 3) (.c (.bool true)) (.v 0)) 7 true,
  .op (.pick (.v 8) (.v 0) (.c (.bool false))),
  .nop 0]) [0] 22)
 (.ret [.v 0]))
 .skip))
 (.seq (.seq (.post (.reg [.op (.fld 1 (.v 12)),
  .op (.ld1 (.v 0)),
  .op (.bin .lss 3 (.v 0) (.c (.int .i64 5))),
  .nop 0,
  .opg (.fld 1 (.v 14)) 0 true,
  .opg (.ld1 (.v 0)) 1 true,
  .opg (.bin .lss 3 (.v 0) (.c (.int .i64 5))) 2 true,
  .op (.pick (.v 3) (.v 0) (.c (.bool false)))]) [0] 7)
 (.cond (.v 0) (.seq (.reg [.op (.mov (.c (.bool false)))])
 (.ret [.v 0]))
 .skip))
 (.seq (.post (.reg [.op (.ldn 9 (.v 13)),
  .op (.fld 4 (.v 13)),
  .op (.ld1 (.v 0)),
  .op (.call 62 [(.v 2), (.v 0)]),
  .nop 0,
  .opg (.ldn 9 (.v 17)) 0 false,
  .opg (.fld 5 (.v 17)) 1 false,
  .opg (.ld1 (.v 0)) 2 false,
  .opg (.call 62 [(.v 2), (.v 0)]) 3 false,
  .op (.pick (.v 4) (.c (.bool true)) (.v 0)),
  .nop 0]) [0] 9)
 (.ret [.v 0]))))))))⟩


def ac43 : AFn := ⟨2, [],
 (.seq (.reg [.op (.mov (.c (.bool false)))])
 (.seq (.reg [.op (.mov (.c (.bool true)))])
 (.ret [.v 0])))⟩


def ac44 : AFn := ⟨2, [],
 (.seq (.reg [.op (.box (.v 1)),
  .op (.mov (.c (.int .i64 0)))])
 (.seq (.block 0 [[4], [], [3], [0], [1]] (.post (.seq (.post (.reg [.op (.ldn 9 (.v 1)),
  .op (.call 23 [(.v 0)]),
  .op (.una .not (.v 0)),
  .nop 0]) [0] 3)
 (.cond (.v 0) (.seq (.reg [.op (.mov (.c (.int .i64 1)))])
 (.ret [.v 0]))
 (.seq (.post (.reg [.nop 3,
  .op (.fld 0 (.v 2)),
  .op (.ld1 (.v 0)),
  .op (.call 50 [(.v 5), (.v 0)]),
  .op (.bin .geq 3 (.v 0) (.c (.int .i64 0))),
  .nop 0]) [0] 4)
 (.cond (.v 0) (.seq (.reg [.op (.mov (.c (.int .i64 10)))])
 (.ret [.v 0]))
 (.seq (.post (.reg [.nop 4,
  .op (.nilck (.v 4)),
  .op (.fld 0 (.v 0)),
  .op (.ld1 (.v 0)),
  .op (.len false (.v 0)),
  .op (.bin .geq 3 (.v 0) (.c (.int .i64 64))),
  .nop 0]) [0] 5)
 (.cond (.v 0) (.seq (.reg [.op (.mov (.c (.int .i64 7)))])
 (.ret [.v 0]))
 .skip)))))) [3] 3))
 (.seq (.post (.reg [.op (.mkl 8 0 [(.int .u8 0), (.int .u8 0), (.int .u8 0), (.int .u8 0), (.int .u8 0), (.int .u8 0), (.int .u8 0), (.int .u8 0)] []),
  .op (.fld 8 (.v 3)),
  .op (.ld1 (.v 0)),
  .op (.app 8 8 (.v 2) (.v 0)),
  .op (.fld 8 (.v 6)),
  .eff (.st 1 (.v 0) (.v 1))]) [] 5)
 (.seq (.post (.regD [.nop 3,
  .nop 3,
  .op (.nilck (.v 3)),
  .op (.fld 0 (.v 0)),
  .op (.ld1 (.v 0)),
  .op (.ldn 9 (.v 5)),
  .op (.build [(.int .i64 0), (.int .i64 0), (.int .i64 0), (.bool false), (.string ⟨#[]⟩), (.string ⟨#[]⟩), (.int .i64 0), (.int .i64 0), (.slice none 0 0), (.bool false)] [(0, 9, (.v 0))]),
  .op (.mkl 10 1 [(.int .i64 0), (.int .i64 0), (.int .i64 0), (.bool false), (.string ⟨#[]⟩), (.string ⟨#[]⟩), (.int .i64 0), (.int .i64 0), (.slice none 0 0), (.bool false)] [(0, (.v 0))]),
  .op (.app 10 112 (.v 3) (.v 0)),
  .op (.nilck (.v 10)),
  .op (.fld 0 (.v 0)),
  .eff (.st 1 (.v 0) (.v 2))] [0, 0, 2, 6, 14, 0, 32, 96, 254, 511, 1023, 2047]) [] 9)
 (.seq (.reg [.op (.mov (.c (.int .i64 0)))])
 (.ret [.v 0]))))))⟩


def ac45 : AFn := ⟨2, [],
 (.seq (.reg [.op (.mov (.c (.int .i64 0)))])
 (.seq (.reg [.nop 1,
  .nop 2,
  .op (.call 50 [(.v 1), (.v 2)]),
  .nop 0])
 (.seq (.seq (.reg [.nop 0,
  .op (.bin .lss 3 (.v 0) (.c (.int .i64 0)))])
 (.cond (.v 0) (.seq (.reg [.op (.mov (.c (.int .i64 9)))])
 (.ret [.v 0]))
 .skip))
 (.seq (.seq (.post (.reg [.nop 3,
  .nop 1,
  .op (.call 49 [(.v 3), (.v 1)]),
  .op (.una .not (.v 0))]) [0] 2)
 (.cond (.v 0) (.seq (.reg [.op (.mov (.c (.int .i64 8)))])
 (.ret [.v 0]))
 .skip))
 (.seq (.post (.reg [.nop 4,
  .op (.nilck (.v 4)),
  .op (.fld 0 (.v 0)),
  .op (.ld1 (.v 0)),
  .nop 5,
  .op (.idx 10 (.v 0) (.v 5)),
  .op (.fld 9 (.v 0)),
  .eff (.st 1 (.v 0) (.c (.bool true)))]) [] 5)
 (.seq (.reg [.op (.mov (.c (.int .i64 0)))])
 (.ret [.v 0])))))))⟩


def ac46 : AFn := ⟨3, [],
 (.seq (.reg [.op (.mov (.c (.int .i64 0)))])
 (.seq (.reg [.nop 1,
  .nop 2,
  .op (.call 50 [(.v 1), (.v 2)]),
  .nop 0])
 (.seq (.seq (.reg [.nop 0,
  .op (.bin .lss 3 (.v 0) (.c (.int .i64 0)))])
 (.cond (.v 0) (.seq (.reg [.op (.mov (.c (.int .i64 9)))])
 (.ret [.v 0]))
 .skip))
 (.seq (.seq (.post (.reg [.nop 3,
  .op (.nilck (.v 3)),
  .op (.fld 0 (.v 0)),
  .op (.ld1 (.v 0)),
  .nop 4,
  .op (.idx 10 (.v 0) (.v 4)),
  .op (.fld 9 (.v 0)),
  .op (.ld1 (.v 0)),
  .nop 11,
  .op (.bin .neq 4 (.v 0) (.v 11))]) [0] 7)
 (.cond (.v 0) (.seq (.reg [.op (.mov (.c (.int .i64 8)))])
 (.ret [.v 0]))
 .skip))
 (.seq (.post (.reg [.nop 4,
  .nop 2,
  .op (.call 63 [(.v 4), (.v 2)])]) [] 1)
 (.seq (.reg [.op (.mov (.c (.int .i64 0)))])
 (.ret [.v 0])))))))⟩


def ac47L0b : AC :=
 (.post (.seq (.seq (.reg [.nop 1,
  .nop 5,
  .op (.len true (.v 5)),
  .op (.bin .lss 3 (.v 2) (.v 0))])
 (.cond (.v 0) .skip
 (.pre [2] 4 (.exit 0))))
 (.seq (.block 1 [[2], [16], [15], [], [3, 13], [], [12], [], [0, 5, 14]] (.post (.seq (.reg [.nop 7,
  .nop 3,
  .op (.pur .byte [(.v 7), (.v 3)]),
  .op (.bin .geq 5 (.v 0) (.c (.int .u8 97))),
  .nop 0,
  .opg (.mov (.v 9)) 0 true,
  .opg (.mov (.v 6)) 1 true,
  .opg (.pur .byte [(.v 1), (.v 0)]) 2 true,
  .opg (.bin .leq 5 (.v 0) (.c (.int .u8 122))) 3 true,
  .op (.pick (.v 4) (.v 0) (.c (.bool false))),
  .nop 0])
 (.seq (.reg [.nop 0,
  .op (.una .not (.v 0)),
  .nop 0,
  .opg (.mov (.v 11)) 0 true,
  .opg (.bin .eql 3 (.v 0) (.c (.int .i64 0))) 1 true,
  .opg (.mov (.v 0)) 2 true,
  .opg (.mov (.v 18)) 0 false,
  .opg (.mov (.v 15)) 1 false,
  .opg (.pur .byte [(.v 1), (.v 0)]) 2 false,
  .opg (.bin .lss 5 (.v 0) (.c (.int .u8 48))) 3 false,
  .opg (.pick (.v 4) (.c (.bool true)) (.v 0)) 7 true,
  .opg (.mov (.v 0)) 8 true,
  .opg (.mov (.v 24)) 0 false,
  .opg (.mov (.v 21)) 1 false,
  .opg (.pur .byte [(.v 1), (.v 0)]) 2 false,
  .opg (.bin .gtr 5 (.v 0) (.c (.int .u8 57))) 3 false,
  .opg (.pick (.v 4) (.c (.bool true)) (.v 0)) 13 true,
  .op (.pick (.v 14) (.v 0) (.c (.bool false)))])
 (.cond (.v 0) (.seq (.reg [.op (.mov (.c (.bool false)))])
 (.ret [.v 0]))
 .skip))) [25] 23))
 (.reg [.nop 4,
  .op (.bin .add 3 (.v 4) (.c (.int .i64 1))),
  .nop 0]))) [1, 0] 6)
def ac47L0 : AC := .loop [[2], [3], [], [12], [], [0, 5]] ac47L0b
def ac47 : AFn := ⟨1, [],
 (.seq (.reg [.op (.mov (.c (.bool false)))])
 (.seq (.seq (.post (.reg [.nop 1,
  .op (.len true (.v 1)),
  .op (.bin .lss 3 (.v 0) (.c (.int .i64 1))),
  .nop 0,
  .opg (.mov (.v 3)) 0 false,
  .opg (.len true (.v 0)) 1 false,
  .opg (.bin .gtr 3 (.v 0) (.c (.int .i64 16))) 2 false,
  .op (.pick (.v 3) (.c (.bool true)) (.v 0))]) [0] 6)
 (.cond (.v 0) (.seq (.reg [.op (.mov (.c (.bool false)))])
 (.ret [.v 0]))
 .skip))
 (.seq (.seq (.reg [.op (.mov (.c (.int .i64 0)))])
 (.block 0 [[2], [], [12], [], [0, 5]] (.pre [2, 0] 0 ac47L0)))
 (.seq (.reg [.op (.mov (.c (.bool true)))])
 (.ret [.v 0])))))⟩


def ac48 : AFn := ⟨2, [],
 (.seq (.reg [.op (.mov (.c (.bool false)))])
 (.seq (.post (.reg [.nop 1,
  .op (.bin .geq 3 (.v 1) (.c (.int .i64 0))),
  .nop 0,
  .opg (.mov (.v 3)) 0 true,
  .opg (.bin .geq 3 (.v 0) (.c (.int .i64 1))) 1 true,
  .op (.pick (.v 2) (.v 0) (.c (.bool false))),
  .nop 0,
  .opg (.mov (.v 5)) 0 true,
  .opg (.bin .leq 3 (.v 0) (.c (.int .i64 65536))) 1 true,
  .op (.pick (.v 2) (.v 0) (.c (.bool false))),
  .nop 0,
  .opg (.mov (.v 9)) 0 true,
  .opg (.bin .leq 3 (.v 0) (.c (.int .i64 65536))) 1 true,
  .op (.pick (.v 2) (.v 0) (.c (.bool false))),
  .nop 0,
  .opg (.mov (.v 11)) 0 true,
  .opg (.mov (.v 13)) 1 true,
  .opg (.bin .add 3 (.v 1) (.v 0)) 2 true,
  .opg (.bin .leq 3 (.v 0) (.c (.int .i64 65536))) 3 true,
  .op (.pick (.v 4) (.v 0) (.c (.bool false))),
  .nop 0]) [0] 15)
 (.ret [.v 0])))⟩


def ac49L0b : AC :=
 (.post (.seq (.seq (.reg [.nop 1,
  .nop 5,
  .op (.bin .lss 3 (.v 1) (.v 5))])
 (.cond (.v 0) .skip
 (.pre [1] 3 (.exit 0))))
 (.seq (.block 1 [[4], [8], [], [5, 6], [], [], [0], [1, 7]] (.post (.seq (.regD [.nop 5,
  .op (.nilck (.v 5)),
  .op (.fld 0 (.v 0)),
  .op (.ld1 (.v 0)),
  .nop 5,
  .op (.idx 10 (.v 0) (.v 5)),
  .op (.fld 0 (.v 0)),
  .op (.ldn 9 (.v 0)),
  .nop 11,
  .op (.nilck (.v 11)),
  .op (.fld 0 (.v 0)),
  .op (.ld1 (.v 0)),
  .nop 15,
  .op (.idx 10 (.v 0) (.v 15)),
  .op (.fld 0 (.v 0)),
  .op (.ldn 9 (.v 0)),
  .op (.call 17 [(.v 6), (.v 0)])] [0, 1, 3, 7, 0, 31, 63, 127, 0, 256, 768, 1792, 0, 7936, 16128, 32512, 65535])
 (.cond (.v 0) (.seq (.reg [.op (.mov (.c (.bool false)))])
 (.ret [.v 0]))
 .skip)) [14] 13))
 (.reg [.nop 3,
  .op (.bin .add 3 (.v 3) (.c (.int .i64 1))),
  .nop 0]))) [1, 0] 5)
def ac49L0 : AC := .loop [[4], [5], [], [], [0], [1]] ac49L0b
def ac49 : AFn := ⟨2, [],
 (.seq (.reg [.op (.mov (.c (.bool false)))])
 (.seq (.seq (.reg [.op (.mov (.c (.int .i64 0)))])
 (.block 0 [[4], [], [], [0], [1]] (.pre [1, 0] 0 ac49L0)))
 (.seq (.post (.reg [.nop 3,
  .op (.nilck (.v 3)),
  .op (.fld 0 (.v 0)),
  .op (.ld1 (.v 0)),
  .nop 7,
  .op (.idx 10 (.v 0) (.v 7)),
  .op (.fld 9 (.v 0)),
  .op (.ld1 (.v 0)),
  .op (.una .not (.v 0)),
  .nop 0]) [0] 7)
 (.ret [.v 0]))))⟩


def ac50L0b : AC :=
 (.post (.seq (.seq (.reg [.nop 1,
  .nop 4,
  .op (.nilck (.v 4)),
  .op (.fld 0 (.v 0)),
  .op (.ld1 (.v 0)),
  .op (.len false (.v 0)),
  .op (.bin .lss 3 (.v 5) (.v 0))])
 (.cond (.v 0) .skip
 (.pre [5] 7 (.exit 0))))
 (.seq (.block 1 [[4], [12], [11], [10], [9], [8], [], [5, 6], [], [], [0, 7], [1]] (.post (.seq (.reg [.nop 9,
  .op (.nilck (.v 9)),
  .op (.fld 0 (.v 0)),
  .op (.ld1 (.v 0)),
  .nop 9,
  .op (.idx 10 (.v 0) (.v 9)),
  .op (.fld 0 (.v 0)),
  .op (.fld 0 (.v 0)),
  .op (.ld1 (.v 0)),
  .nop 17,
  .op (.bin .eql 3 (.v 0) (.v 17))])
 (.cond (.v 0) (.seq (.reg [.nop 14,
  .nop 14])
 (.ret [.v 14]))
 .skip)) [13] 8))
 (.reg [.nop 7,
  .op (.bin .add 3 (.v 7) (.c (.int .i64 1))),
  .nop 0]))) [1, 0] 9)
def ac50L0 : AC := .loop [[4], [5], [], [], [0], [1]] ac50L0b
def ac50 : AFn := ⟨2, [],
 (.seq (.reg [.op (.mov (.c (.int .i64 0)))])
 (.seq (.seq (.reg [.op (.mov (.c (.int .i64 0)))])
 (.block 0 [[4], [], [], [0], [1]] (.pre [1, 0] 0 ac50L0)))
 (.seq (.reg [.op (.mov (.c (.int .i64 (-1))))])
 (.ret [.v 0]))))⟩


def ac51 : AFn := ⟨1, [],
 (.seq (.reg [.op (.box (.v 0)),
  .op (.new [(.int .i64 0), (.int .i64 0), (.int .i64 0), (.bool false), (.string ⟨#[]⟩), (.string ⟨#[]⟩), (.int .i64 0), (.int .i64 0), (.slice none 0 0)])])
 (.seq (.post (.reg [.op (.fld 0 (.v 1)),
  .op (.ld1 (.v 0)),
  .op (.fld 1 (.v 3)),
  .op (.ld1 (.v 0)),
  .op (.fld 2 (.v 5)),
  .op (.ld1 (.v 0)),
  .op (.build [(.int .i64 0), (.int .i64 0), (.int .i64 0), (.bool false), (.string ⟨#[]⟩), (.string ⟨#[]⟩), (.int .i64 0), (.int .i64 0), (.slice none 0 0)] [(0, 1, (.v 4)), (1, 1, (.v 2)), (2, 1, (.v 0))]),
  .eff (.st 9 (.v 7) (.v 0))]) [] 7)
 (.ret [.cells 0 9])))⟩


def ac52 : AFn := ⟨1, [],
 (.seq (.reg [.op (.mov (.c (.bool false)))])
 (.seq (.seq (.post (.reg [.nop 1,
  .op (.len true (.v 1)),
  .op (.bin .lss 3 (.v 0) (.c (.int .i64 1))),
  .nop 0,
  .opg (.mov (.v 3)) 0 false,
  .opg (.len true (.v 0)) 1 false,
  .opg (.bin .gtr 3 (.v 0) (.c (.int .i64 16))) 2 false,
  .op (.pick (.v 3) (.c (.bool true)) (.v 0)),
  .nop 0,
  .opg (.mov (.v 7)) 0 false,
  .opg (.pur .byte [(.v 0), (.c (.int .i64 0))]) 1 false,
  .opg (.bin .lss 5 (.v 0) (.c (.int .u8 97))) 2 false,
  .op (.pick (.v 3) (.c (.bool true)) (.v 0)),
  .nop 0,
  .opg (.mov (.v 11)) 0 false,
  .opg (.pur .byte [(.v 0), (.c (.int .i64 0))]) 1 false,
  .opg (.bin .gtr 5 (.v 0) (.c (.int .u8 122))) 2 false,
  .op (.pick (.v 3) (.c (.bool true)) (.v 0))]) [0] 14)
 (.cond (.v 0) (.seq (.reg [.op (.mov (.c (.bool false)))])
 (.ret [.v 0]))
 .skip))
 (.seq (.post (.reg [.nop 2,
  .op (.call 64 [(.v 2), (.c (.string ⟨#[97, 98, 99, 100, 101, 102, 103, 104, 105, 106, 107, 108, 109, 110, 111, 112, 113, 114, 115, 116, 117, 118, 119, 120, 121, 122, 48, 49, 50, 51, 52, 53, 54, 55, 56, 57]⟩))]),
  .op (.bin .eql 9 (.v 0) (.c (.string ⟨#[]⟩))),
  .nop 0]) [0] 2)
 (.ret [.v 0]))))⟩


def ac53 : AFn := ⟨2, [],
 (.seq (.reg [.op (.mov (.c (.bool false)))])
 (.seq (.post (.reg [.nop 1,
  .op (.bin .geq 3 (.v 1) (.c (.int .i64 0))),
  .nop 0,
  .opg (.mov (.v 3)) 0 true,
  .opg (.bin .geq 3 (.v 0) (.c (.int .i64 1))) 1 true,
  .op (.pick (.v 2) (.v 0) (.c (.bool false))),
  .nop 0,
  .opg (.mov (.v 5)) 0 true,
  .opg (.bin .leq 3 (.v 0) (.c (.int .i64 65536))) 1 true,
  .op (.pick (.v 2) (.v 0) (.c (.bool false))),
  .nop 0,
  .opg (.mov (.v 9)) 0 true,
  .opg (.mov (.v 9)) 1 true,
  .opg (.bin .sub 3 (.c (.int .i64 65536)) (.v 0)) 2 true,
  .opg (.bin .leq 3 (.v 2) (.v 0)) 3 true,
  .op (.pick (.v 4) (.v 0) (.c (.bool false))),
  .nop 0]) [0] 12)
 (.ret [.v 0])))⟩


def ac54L0b : AC :=
 (.post (.seq (.reg [.op (.bin .lss 3 (.v 1) (.v 3))])
 (.seq (.cond (.v 0) .skip
 (.pre [1] 3 (.exit 0)))
 (.seq (.block 1 [[4], [18], [], [17], [], [16], [15], [13], [], [3], [2], [0], [1]] (.post (.seq (.reg [.nop 2,
  .op (.idx 8 (.v 5) (.v 2)),
  .op (.ldn 8 (.v 0)),
  .op (.new [(.int .u8 0), (.int .u8 0), (.int .u8 0), (.int .u8 0), (.int .u8 0), (.int .u8 0), (.int .u8 0), (.int .u8 0)]),
  .nop 5,
  .eff (.st 8 (.v 0) (.v 1))])
 (.seq (.regD [.op (.ldn 8 (.v 0)),
  .op (.fld 8 (.v 12)),
  .op (.ld1 (.v 0)),
  .nop 8,
  .op (.idx 8 (.v 0) (.v 8)),
  .op (.ldn 8 (.v 0)),
  .op (.bin .neq 52 (.v 4) (.v 0))] [0, 0, 2, 0, 14, 30, 63])
 (.cond (.v 0) (.seq (.reg [.op (.mov (.c (.bool false)))])
 (.ret [.v 0]))
 .skip))) [10] 9))
 (.reg [.op (.bin .add 3 (.v 3) (.c (.int .i64 1))),
  .nop 0])))) [1, 0] 5)
def ac54L0 : AC := .loop [[4], [17], [], [16], [15], [13], [], [3], [2], [0], [1]] ac54L0b
def ac54 : AFn := ⟨2, [],
 (.seq (.reg [.op (.box (.v 0)),
  .op (.box (.v 2)),
  .op (.mov (.c (.bool false)))])
 (.seq (.seq (.post (.reg [.op (.fld 8 (.v 2)),
  .op (.ld1 (.v 0)),
  .op (.len false (.v 0)),
  .op (.fld 8 (.v 4)),
  .op (.ld1 (.v 0)),
  .op (.len false (.v 0)),
  .op (.bin .neq 3 (.v 3) (.v 0))]) [0] 7)
 (.cond (.v 0) (.seq (.reg [.op (.mov (.c (.bool false)))])
 (.ret [.v 0]))
 .skip))
 (.seq (.seq (.post (.reg [.op (.fld 8 (.v 3)),
  .op (.ld1 (.v 0)),
  .op (.len false (.v 0)),
  .op (.mov (.c (.int .i64 0)))]) [0, 1, 2] 4)
 (.block 0 [[4], [], [16], [15], [13], [], [3], [2], [0], [1]] (.pre [4, 0] 0 ac54L0)))
 (.seq (.post (.reg [.op (.fld 0 (.v 7)),
  .op (.ld1 (.v 0)),
  .op (.fld 0 (.v 8)),
  .op (.ld1 (.v 0)),
  .op (.bin .eql 3 (.v 2) (.v 0)),
  .nop 0,
  .opg (.fld 1 (.v 12)) 0 true,
  .opg (.ld1 (.v 0)) 1 true,
  .opg (.fld 1 (.v 13)) 2 true,
  .opg (.ld1 (.v 0)) 3 true,
  .opg (.bin .eql 3 (.v 2) (.v 0)) 4 true,
  .op (.pick (.v 5) (.v 0) (.c (.bool false))),
  .nop 0,
  .opg (.fld 2 (.v 18)) 0 true,
  .opg (.ld1 (.v 0)) 1 true,
  .opg (.fld 2 (.v 19)) 2 true,
  .opg (.ld1 (.v 0)) 3 true,
  .opg (.bin .eql 3 (.v 2) (.v 0)) 4 true,
  .op (.pick (.v 5) (.v 0) (.c (.bool false))),
  .nop 0,
  .opg (.fld 3 (.v 24)) 0 true,
  .opg (.ld1 (.v 0)) 1 true,
  .opg (.fld 3 (.v 25)) 2 true,
  .opg (.ld1 (.v 0)) 3 true,
  .opg (.bin .eql 4 (.v 2) (.v 0)) 4 true,
  .op (.pick (.v 5) (.v 0) (.c (.bool false))),
  .nop 0,
  .opg (.fld 4 (.v 30)) 0 true,
  .opg (.ld1 (.v 0)) 1 true,
  .opg (.fld 4 (.v 31)) 2 true,
  .opg (.ld1 (.v 0)) 3 true,
  .opg (.bin .eql 9 (.v 2) (.v 0)) 4 true,
  .op (.pick (.v 5) (.v 0) (.c (.bool false))),
  .nop 0,
  .opg (.fld 5 (.v 36)) 0 true,
  .opg (.ld1 (.v 0)) 1 true,
  .opg (.fld 5 (.v 37)) 2 true,
  .opg (.ld1 (.v 0)) 3 true,
  .opg (.bin .eql 9 (.v 2) (.v 0)) 4 true,
  .op (.pick (.v 5) (.v 0) (.c (.bool false))),
  .nop 0,
  .opg (.fld 6 (.v 42)) 0 true,
  .opg (.ld1 (.v 0)) 1 true,
  .opg (.fld 6 (.v 43)) 2 true,
  .opg (.ld1 (.v 0)) 3 true,
  .opg (.bin .eql 3 (.v 2) (.v 0)) 4 true,
  .op (.pick (.v 5) (.v 0) (.c (.bool false))),
  .nop 0,
  .opg (.fld 7 (.v 48)) 0 true,
  .opg (.ld1 (.v 0)) 1 true,
  .opg (.fld 7 (.v 49)) 2 true,
  .opg (.ld1 (.v 0)) 3 true,
  .opg (.bin .eql 3 (.v 2) (.v 0)) 4 true,
  .op (.pick (.v 5) (.v 0) (.c (.bool false))),
  .nop 0]) [0] 47)
 (.ret [.v 0])))))⟩


def ac55 : AFn := ⟨1, [],
 (.seq (.reg [.op (.mov (.c (.slice none 0 0)))])
 (.seq (.seq (.reg [.nop 1,
  .op (.bin .eql 27 (.v 1) (.c (.slice none 0 0)))])
 (.cond (.v 0) (.seq (.reg [.op (.mov (.c (.slice none 0 0)))])
 (.ret [.v 0]))
 .skip))
 (.seq (.post (.reg [.op (.mkl 8 0 [(.int .u8 0), (.int .u8 0), (.int .u8 0), (.int .u8 0), (.int .u8 0), (.int .u8 0), (.int .u8 0), (.int .u8 0)] []),
  .nop 3,
  .op (.app 8 8 (.v 0) (.v 3)),
  .nop 0]) [0] 2)
 (.ret [.v 0]))))⟩


def ac56L0b : AC :=
 (.post (.seq (.reg [.op (.bin .lss 3 (.v 1) (.v 3))])
 (.seq (.cond (.v 0) .skip
 (.pre [1] 3 (.exit 0)))
 (.seq (.block 1 [[4], [9], [], [8], [], [7], [], [0, 6], [1]] (.post (.seq (.reg [.nop 2,
  .nop 2])
 (.seq (.reg [.nop 7,
  .nop 6,
  .nop 2,
  .op (.idx 1 (.v 6) (.v 2)),
  .op (.ld1 (.v 0)),
  .op (.callv (.v 9) [(.v 0)])])
 (.cond (.v 0) (.seq (.reg [.nop 5,
  .nop 5])
 (.ret [.v 5]))
 .skip))) [4] 3))
 (.reg [.op (.bin .add 3 (.v 3) (.c (.int .i64 1))),
  .nop 0])))) [1, 0] 5)
def ac56L0 : AC := .loop [[4], [8], [], [7], [], [0, 6], [1]] ac56L0b
def ac56 : AFn := ⟨2, [],
 (.seq (.reg [.op (.mov (.c (.int .i64 0)))])
 (.seq (.seq (.reg [.nop 1,
  .op (.len false (.v 1)),
  .op (.mov (.c (.int .i64 0)))])
 (.block 0 [[4], [], [7], [], [0, 6], [1]] (.pre [2, 0] 0 ac56L0)))
 (.seq (.reg [.op (.mov (.c (.int .i64 (-1))))])
 (.ret [.v 0]))))⟩


def ac57 : AFn := ⟨1, [],
 (.seq (.reg [.op (.box (.v 0)),
  .op (.mov (.c (.bool false)))])
 (.seq (.post (.reg [.op (.fld 2 (.v 1)),
  .op (.ld1 (.v 0)),
  .op (.bin .eql 3 (.v 0) (.c (.int .i64 1))),
  .nop 0,
  .opg (.fld 1 (.v 4)) 0 false,
  .opg (.ld1 (.v 0)) 1 false,
  .opg (.bin .eql 3 (.v 0) (.c (.int .i64 4))) 2 false,
  .op (.pick (.v 3) (.c (.bool true)) (.v 0)),
  .nop 0]) [0] 7)
 (.ret [.v 0])))⟩


def ac58 : AFn := ⟨2, [],
 (.seq (.reg [.op (.box (.v 0)),
  .op (.box (.v 2)),
  .op (.mov (.c (.bool false)))])
 (.seq (.seq (.post (.reg [.op (.ldn 9 (.v 2)),
  .op (.call 30 [(.v 0)]),
  .op (.una .not (.v 0)),
  .nop 0,
  .opg (.ldn 9 (.v 4)) 0 false,
  .opg (.call 30 [(.v 0)]) 1 false,
  .opg (.una .not (.v 0)) 2 false,
  .op (.pick (.v 3) (.c (.bool true)) (.v 0))]) [0] 7)
 (.cond (.v 0) (.seq (.reg [.op (.mov (.c (.bool false)))])
 (.ret [.v 0]))
 .skip))
 (.seq (.seq (.post (.reg [.op (.fld 1 (.v 3)),
  .op (.ld1 (.v 0)),
  .op (.bin .geq 3 (.v 0) (.c (.int .i64 5))),
  .nop 0,
  .opg (.fld 1 (.v 5)) 0 false,
  .opg (.ld1 (.v 0)) 1 false,
  .opg (.bin .geq 3 (.v 0) (.c (.int .i64 5))) 2 false,
  .op (.pick (.v 3) (.c (.bool true)) (.v 0))]) [0] 7)
 (.cond (.v 0) (.seq (.post (.reg [.op (.ldn 9 (.v 4)),
  .op (.ldn 9 (.v 4)),
  .op (.call 65 [(.v 1), (.v 0)]),
  .nop 0]) [0] 3)
 (.ret [.v 0]))
 .skip))
 (.seq (.post (.reg [.op (.ldn 9 (.v 4)),
  .op (.call 66 [(.v 0)]),
  .nop 0,
  .op (.extr 0 (.v 0)),
  .op (.extr 1 (.v 1)),
  .op (.extr 2 (.v 2)),
  .op (.extr 3 (.v 3)),
  .nop 3,
  .nop 2,
  .nop 1,
  .nop 0]) [0, 1, 2, 3] 6)
 (.seq (.post (.reg [.op (.ldn 9 (.v 7)),
  .op (.call 66 [(.v 0)]),
  .nop 0,
  .op (.extr 0 (.v 0)),
  .op (.extr 1 (.v 1)),
  .op (.extr 2 (.v 2)),
  .op (.extr 3 (.v 3)),
  .nop 3,
  .nop 2,
  .nop 1,
  .nop 0]) [0, 1, 2, 3] 6)
 (.seq (.post (.reg [.nop 4,
  .nop 4,
  .opg (.mov (.v 0)) 4 true,
  .op (.pick (.v 5) (.v 0) (.c (.bool false))),
  .nop 0,
  .opg (.mov (.v 9)) 0 true,
  .opg (.mov (.v 6)) 1 true,
  .opg (.bin .eql 9 (.v 1) (.v 0)) 2 true,
  .op (.pick (.v 3) (.v 0) (.c (.bool false))),
  .nop 0,
  .opg (.mov (.v 12)) 0 true,
  .opg (.mov (.v 9)) 1 true,
  .opg (.mov (.v 9)) 2 true,
  .opg (.bin .add 3 (.v 1) (.v 0)) 3 true,
  .opg (.bin .lss 3 (.v 3) (.v 0)) 4 true,
  .op (.pick (.v 5) (.v 0) (.c (.bool false))),
  .nop 0,
  .opg (.mov (.v 14)) 0 true,
  .opg (.mov (.v 19)) 1 true,
  .opg (.mov (.v 19)) 2 true,
  .opg (.bin .add 3 (.v 1) (.v 0)) 3 true,
  .opg (.bin .lss 3 (.v 3) (.v 0)) 4 true,
  .op (.pick (.v 5) (.v 0) (.c (.bool false))),
  .nop 0,
  .opg (.fld 1 (.v 30)) 0 true,
  .opg (.ld1 (.v 0)) 1 true,
  .opg (.bin .neq 3 (.v 0) (.c (.int .i64 1))) 2 true,
  .opg (.mov (.v 0)) 3 true,
  .opg (.fld 1 (.v 33)) 0 false,
  .opg (.ld1 (.v 0)) 1 false,
  .opg (.bin .neq 3 (.v 0) (.c (.int .i64 1))) 2 false,
  .opg (.pick (.v 3) (.c (.bool true)) (.v 0)) 7 true,
  .op (.pick (.v 8) (.v 0) (.c (.bool false))),
  .nop 0]) [0] 27)
 (.ret [.v 0])))))))⟩


def ac59 : AFn := ⟨3, [],
 (.seq (.reg [.op (.mov (.c (.bool false)))])
 (.seq (.post (.reg [.nop 2,
  .op (.ld1 (.v 3)),
  .op (.bin .neq 3 (.v 3) (.v 0)),
  .nop 0]) [0] 2)
 (.ret [.v 0])))⟩


def ac60L0b : AC :=
 (.post (.seq (.reg [.op (.bin .lss 3 (.v 1) (.v 3))])
 (.seq (.cond (.v 0) .skip
 (.pre [1] 3 (.exit 0)))
 (.seq (.block 1 [[4], [9], [], [8], [], [7], [], [0, 6], [1]] (.post (.seq (.reg [.nop 2,
  .nop 2])
 (.seq (.reg [.nop 7,
  .nop 6,
  .nop 2,
  .op (.idx 1 (.v 6) (.v 2)),
  .op (.ld1 (.v 0)),
  .op (.bin .eql 3 (.v 9) (.v 0))])
 (.cond (.v 0) (.seq (.reg [.nop 5,
  .nop 5])
 (.ret [.v 5]))
 .skip))) [4] 3))
 (.reg [.op (.bin .add 3 (.v 3) (.c (.int .i64 1))),
  .nop 0])))) [1, 0] 5)
def ac60L0 : AC := .loop [[4], [8], [], [7], [], [0, 6], [1]] ac60L0b
def ac60 : AFn := ⟨2, [],
 (.seq (.reg [.op (.mov (.c (.int .i64 0)))])
 (.seq (.seq (.reg [.nop 1,
  .op (.len false (.v 1)),
  .op (.mov (.c (.int .i64 0)))])
 (.block 0 [[4], [], [7], [], [0, 6], [1]] (.pre [2, 0] 0 ac60L0)))
 (.seq (.reg [.op (.mov (.c (.int .i64 (-1))))])
 (.ret [.v 0]))))⟩


def ac61 : AFn := ⟨1, [],
 (.seq (.reg [.op (.box (.v 0)),
  .op (.mov (.c (.string ⟨#[]⟩))),
  .op (.mov (.c (.int .i64 0))),
  .op (.mov (.c (.int .i64 0))),
  .op (.mov (.c (.bool false)))])
 (.seq (.seq (.post (.reg [.op (.ldn 9 (.v 4)),
  .op (.call 23 [(.v 0)]),
  .op (.una .not (.v 0)),
  .nop 0,
  .opg (.fld 1 (.v 7)) 0 false,
  .opg (.ld1 (.v 0)) 1 false,
  .opg (.bin .neq 3 (.v 0) (.c (.int .i64 1))) 2 false,
  .opg (.mov (.v 0)) 3 false,
  .opg (.fld 1 (.v 11)) 0 true,
  .opg (.ld1 (.v 0)) 1 true,
  .opg (.bin .neq 3 (.v 0) (.c (.int .i64 2))) 2 true,
  .opg (.pick (.v 3) (.v 0) (.c (.bool false))) 7 false,
  .opg (.mov (.v 0)) 8 false,
  .opg (.fld 1 (.v 16)) 0 true,
  .opg (.ld1 (.v 0)) 1 true,
  .opg (.bin .neq 3 (.v 0) (.c (.int .i64 3))) 2 true,
  .opg (.pick (.v 3) (.v 0) (.c (.bool false))) 12 false,
  .op (.pick (.v 13) (.c (.bool true)) (.v 0))]) [0] 17)
 (.cond (.v 0) (.seq (.reg [.op (.mov (.c (.string ⟨#[]⟩))),
  .op (.mov (.c (.int .i64 0))),
  .op (.mov (.c (.int .i64 0))),
  .op (.mov (.c (.bool false)))])
 (.ret [.v 3, .v 2, .v 1, .v 0]))
 .skip))
 (.seq (.post (.regD [.op (.fld 4 (.v 5)),
  .op (.ld1 (.v 0)),
  .op (.fld 6 (.v 7)),
  .op (.ld1 (.v 0)),
  .op (.fld 7 (.v 9)),
  .op (.ld1 (.v 0)),
  .nop 4,
  .nop 2,
  .nop 0,
  .op (.mov (.c (.bool true)))] [0, 1, 0, 4, 0, 16, 3, 79, 255, 511]) [0, 1, 3, 5] 7)
 (.ret [.v 3, .v 2, .v 1, .v 0]))))⟩


def ac62 : AFn := ⟨2, [],
 (.seq (.reg [.op (.box (.v 0)),
  .op (.mov (.c (.bool false)))])
 (.seq (.post (.reg [.nop 3,
  .op (.bin .neq 9 (.v 3) (.c (.string ⟨#[]⟩))),
  .nop 0,
  .opg (.fld 4 (.v 2)) 0 true,
  .opg (.ld1 (.v 0)) 1 true,
  .opg (.mov (.v 6)) 2 true,
  .opg (.bin .eql 9 (.v 1) (.v 0)) 3 true,
  .opg (.mov (.v 0)) 4 true,
  .opg (.fld 5 (.v 7)) 0 false,
  .opg (.ld1 (.v 0)) 1 false,
  .opg (.mov (.v 11)) 2 false,
  .opg (.bin .eql 9 (.v 1) (.v 0)) 3 false,
  .opg (.pick (.v 4) (.c (.bool true)) (.v 0)) 9 true,
  .op (.pick (.v 10) (.v 0) (.c (.bool false))),
  .nop 0]) [0] 12)
 (.ret [.v 0])))⟩


def ac63 : AFn := ⟨2, [],
 (.post (.regD [.nop 0,
  .op (.mkl 10 0 [(.int .i64 0), (.int .i64 0), (.int .i64 0), (.bool false), (.string ⟨#[]⟩), (.string ⟨#[]⟩), (.int .i64 0), (.int .i64 0), (.slice none 0 0), (.bool false)] []),
  .nop 1,
  .op (.nilck (.v 1)),
  .op (.fld 0 (.v 0)),
  .op (.ld1 (.v 0)),
  .nop 5,
  .op (.slc 10 (.v 0) none (some (.v 5))),
  .op (.app 10 112 (.v 4) (.v 0)),
  .nop 6,
  .op (.nilck (.v 6)),
  .op (.fld 0 (.v 0)),
  .op (.ld1 (.v 0)),
  .nop 10,
  .op (.bin .add 3 (.v 10) (.c (.int .i64 1))),
  .op (.slc 10 (.v 1) (some (.v 0)) none),
  .op (.app 10 112 (.v 5) (.v 0)),
  .op (.nilck (.v 12)),
  .op (.fld 0 (.v 0)),
  .eff (.st 1 (.v 0) (.v 2))] [0, 0, 0, 4, 12, 28, 0, 124, 254, 0, 512, 1536, 3584, 0, 8192, 32256, 65534, 131071, 262143, 524287]) [] 14)⟩


def ac64 : AFn := ⟨2, [],
 (.seq (.reg [.op (.mov (.c (.string ⟨#[]⟩)))])
 (.seq (.seq (.post (.reg [.nop 1,
  .op (.bin .eql 9 (.v 1) (.c (.string ⟨#[]⟩))),
  .nop 0,
  .opg (.mov (.v 3)) 0 false,
  .opg (.bin .eql 9 (.v 0) (.c (.string ⟨#[]⟩))) 1 false,
  .op (.pick (.v 2) (.c (.bool true)) (.v 0))]) [0] 4)
 (.cond (.v 0) (.seq (.reg [.nop 2,
  .nop 2])
 (.ret [.v 2]))
 .skip))
 (.seq (.seq (.post (.reg [.nop 3,
  .op (.len true (.v 3)),
  .op (.bin .eql 3 (.v 0) (.c (.int .i64 1))),
  .nop 0,
  .opg (.mov (.v 5)) 0 true,
  .opg (.pur .byte [(.v 0), (.c (.int .i64 0))]) 1 true,
  .opg (.bin .lss 5 (.v 0) (.c (.int .u8 128))) 2 true,
  .op (.pick (.v 3) (.v 0) (.c (.bool false)))]) [0] 6)
 (.cond (.v 0) (.seq (.post (.regD [.nop 3,
  .nop 4,
  .op (.pur .byte [(.v 4), (.c (.int .i64 0))]),
  .op (.call 68 [(.v 4), (.v 0)]),
  .nop 6,
  .op (.pur .byte [(.v 6), (.c (.int .i64 0))]),
  .op (.call 67 [(.v 1), (.v 0)]),
  .nop 0] [0, 0, 2, 7, 0, 16, 63, 127]) [0] 4)
 (.ret [.v 0]))
 .skip))
 (.seq (.seq (.post (.reg [.nop 4,
  .op (.call 69 [(.v 4)]),
  .nop 0,
  .op (.extr 0 (.v 0)),
  .op (.extr 1 (.v 1)),
  .op (.new (List.replicate 256 (.bool false))),
  .eff (.st 256 (.v 0) (.v 2)),
  .nop 1]) [0, 1] 4)
 (.seq (.reg [.nop 1])
 (.cond (.v 1) (.seq (.post (.reg [.nop 5,
  .op (.call 71 [(.v 5), (.v 0)]),
  .op (.call 70 [(.v 0), (.v 1)]),
  .nop 0]) [0] 2)
 (.ret [.v 0]))
 .skip)))
 (.seq (.post (.reg [.nop 5,
  .nop 6,
  .op (.call 73 [(.v 5), (.v 6)]),
  .nop 7,
  .op (.call 72 [(.v 0), (.v 7)]),
  .nop 0]) [0] 2)
 (.ret [.v 0]))))))⟩


def ac65L0b : AC :=
 (.post (.seq (.reg [.op (.bin .lss 3 (.v 1) (.c (.int .i64 2)))])
 (.seq (.cond (.v 0) .skip
 (.pre [1] 3 (.exit 0)))
 (.seq (.block 1 [[4], [13], [], [12], [], [11], [], [3], [2], [0], [1]] (.post (.seq (.reg [.op (.pur (.ind 2) [(.v 4), (.v 2)]),
  .nop 0])
 (.seq (.reg [.nop 0,
  .op (.bin .neq 9 (.v 0) (.c (.string ⟨#[]⟩))),
  .nop 0,
  .opg (.mov (.v 1)) 0 true,
  .opg (.fld 4 (.v 9)) 1 true,
  .opg (.ld1 (.v 0)) 2 true,
  .opg (.bin .eql 9 (.v 2) (.v 0)) 3 true,
  .opg (.mov (.v 0)) 4 true,
  .opg (.mov (.v 6)) 0 false,
  .opg (.fld 5 (.v 14)) 1 false,
  .opg (.ld1 (.v 0)) 2 false,
  .opg (.bin .eql 9 (.v 2) (.v 0)) 3 false,
  .opg (.pick (.v 4) (.c (.bool true)) (.v 0)) 9 true,
  .op (.pick (.v 10) (.v 0) (.c (.bool false)))])
 (.cond (.v 0) (.seq (.reg [.op (.mov (.c (.bool true)))])
 (.ret [.v 0]))
 .skip))) [14] 13))
 (.reg [.op (.bin .add 3 (.v 3) (.c (.int .i64 1))),
  .nop 0])))) [1, 0] 5)
def ac65L0 : AC := .loop [[4], [12], [], [11], [], [3], [2], [0], [1]] ac65L0b
def ac65 : AFn := ⟨2, [],
 (.seq (.reg [.op (.box (.v 0)),
  .op (.box (.v 2)),
  .op (.mov (.c (.bool false)))])
 (.seq (.seq (.post (.reg [.op (.fld 4 (.v 2)),
  .op (.ld1 (.v 0)),
  .op (.fld 5 (.v 4)),
  .op (.ld1 (.v 0)),
  .op (.build [(.string ⟨#[]⟩), (.string ⟨#[]⟩)] [(0, 1, (.v 2)), (1, 1, (.v 0))]),
  .op (.mov (.c (.int .i64 0)))]) [0, 1] 6)
 (.block 0 [[4], [], [11], [], [3], [2], [0], [1]] (.pre [2, 0] 0 ac65L0)))
 (.seq (.reg [.op (.mov (.c (.bool false)))])
 (.ret [.v 0]))))⟩


def ac66 : AFn := ⟨1, [],
 (.seq (.reg [.op (.box (.v 0)),
  .op (.mov (.c (.string ⟨#[]⟩))),
  .op (.mov (.c (.int .i64 0))),
  .op (.mov (.c (.int .i64 0))),
  .op (.mov (.c (.bool false)))])
 (.seq (.seq (.post (.reg [.op (.ldn 9 (.v 4)),
  .op (.call 30 [(.v 0)]),
  .op (.una .not (.v 0)),
  .nop 0,
  .opg (.fld 1 (.v 7)) 0 false,
  .opg (.ld1 (.v 0)) 1 false,
  .opg (.bin .gtr 3 (.v 0) (.c (.int .i64 3))) 2 false,
  .op (.pick (.v 3) (.c (.bool true)) (.v 0))]) [0] 7)
 (.cond (.v 0) (.seq (.reg [.op (.mov (.c (.string ⟨#[]⟩))),
  .op (.mov (.c (.int .i64 0))),
  .op (.mov (.c (.int .i64 0))),
  .op (.mov (.c (.bool false)))])
 (.ret [.v 3, .v 2, .v 1, .v 0]))
 .skip))
 (.seq (.post (.regD [.op (.fld 4 (.v 5)),
  .op (.ld1 (.v 0)),
  .op (.fld 6 (.v 7)),
  .op (.ld1 (.v 0)),
  .op (.fld 7 (.v 9)),
  .op (.ld1 (.v 0)),
  .nop 4,
  .nop 2,
  .nop 0,
  .op (.mov (.c (.bool true)))] [0, 1, 0, 4, 0, 16, 3, 79, 255, 511]) [0, 1, 3, 5] 7)
 (.ret [.v 3, .v 2, .v 1, .v 0]))))⟩


def ac67L0b : AC :=
 (.post (.seq (.seq (.reg [.nop 0,
  .op (.len true (.v 0)),
  .op (.bin .gtr 3 (.v 0) (.c (.int .i64 0))),
  .nop 0,
  .opg (.mov (.v 2)) 0 true,
  .opg (.pur .byte [(.v 0), (.c (.int .i64 0))]) 1 true,
  .opg (.mov (.v 7)) 2 true,
  .opg (.bin .eql 5 (.v 1) (.v 0)) 3 true,
  .op (.pick (.v 4) (.v 0) (.c (.bool false)))])
 (.cond (.v 0) .skip
 (.pre [7] 8 (.exit 0))))
 (.block 1 [[0], [13], [12], [11], [10], [9], [7, 8], [6], [5], [4], [], [1]] (.reg [.nop 7,
  .op (.pur .subl [(.v 7), (.c (.int .i64 1))]),
  .nop 0]))) [0] 9)
def ac67L0 : AC := .loop [[0], [4], [], [1]] ac67L0b
def ac67 : AFn := ⟨2, [],
 (.seq (.reg [.op (.mov (.c (.string ⟨#[]⟩)))])
 (.seq (.block 0 [[0], [4], [], [1]] (.pre [1] 0 ac67L0))
 (.seq (.reg [.nop 0,
  .nop 0])
 (.ret [.v 0]))))⟩


def ac68L0b : AC :=
 (.post (.seq (.seq (.reg [.nop 0,
  .op (.len true (.v 0)),
  .op (.bin .gtr 3 (.v 0) (.c (.int .i64 0))),
  .nop 0,
  .opg (.mov (.v 2)) 0 true,
  .opg (.mov (.v 3)) 1 true,
  .opg (.len true (.v 0)) 2 true,
  .opg (.bin .sub 3 (.v 0) (.c (.int .i64 1))) 3 true,
  .opg (.pur .byte [(.v 3), (.v 0)]) 4 true,
  .opg (.mov (.v 10)) 5 true,
  .opg (.bin .eql 5 (.v 1) (.v 0)) 6 true,
  .op (.pick (.v 7) (.v 0) (.c (.bool false)))])
 (.cond (.v 0) .skip
 (.pre [10] 11 (.exit 0))))
 (.block 1 [[0], [16], [15], [14], [13], [12], [11], [10], [9], [7, 8], [6], [5], [4], [], [1]] (.post (.reg [.nop 10,
  .nop 10,
  .op (.len true (.v 10)),
  .op (.bin .sub 3 (.v 0) (.c (.int .i64 1))),
  .op (.pur .subh [(.v 12), (.v 0)]),
  .nop 0]) [0] 3))) [0] 12)
def ac68L0 : AC := .loop [[0], [4], [], [1]] ac68L0b
def ac68 : AFn := ⟨2, [],
 (.seq (.reg [.op (.mov (.c (.string ⟨#[]⟩)))])
 (.seq (.block 0 [[0], [4], [], [1]] (.pre [1] 0 ac68L0))
 (.seq (.reg [.nop 0,
  .nop 0])
 (.ret [.v 0]))))⟩


def ac69L0b : AC :=
 (.post (.seq (.seq (.reg [.nop 1,
  .nop 5,
  .op (.len true (.v 5)),
  .op (.bin .lss 3 (.v 2) (.v 0))])
 (.cond (.v 0) .skip
 (.pre [2] 4 (.exit 0))))
 (.seq (.block 1 [[3], [9], [8], [], [4, 6], [], [], [2], [0, 7]] (.post (.seq (.reg [.nop 7,
  .nop 3,
  .op (.pur .byte [(.v 7), (.v 3)]),
  .nop 0])
 (.seq (.seq (.reg [.nop 0,
  .op (.bin .geq 5 (.v 0) (.c (.int .u8 128)))])
 (.cond (.v 0) (.seq (.reg [.op (.ldn 256 (.v 8)),
  .eff (.st 256 (.v 9) (.v 0)),
  .op (.mov (.c (.bool false)))])
 (.ret [.cells 10 256, .v 0]))
 .skip))
 (.reg [.nop 1,
  .op (.ida 256 1 (.v 8) (.v 1)),
  .eff (.st 1 (.v 0) (.c (.bool true)))]))) [5] 3))
 (.reg [.nop 4,
  .op (.bin .add 3 (.v 4) (.c (.int .i64 1))),
  .nop 0]))) [1, 0] 6)
def ac69L0 : AC := .loop [[3], [4], [], [], [2], [0]] ac69L0b
def ac69 : AFn := ⟨1, [],
 (.seq (.reg [.op (.new (List.replicate 256 (.bool false))),
  .op (.mov (.c (.bool false)))])
 (.seq (.seq (.reg [.op (.mov (.c (.int .i64 0)))])
 (.block 0 [[3], [], [], [2], [0]] (.pre [1, 0] 0 ac69L0)))
 (.seq (.post (.reg [.op (.ldn 256 (.v 3)),
  .eff (.st 256 (.v 4) (.v 0)),
  .op (.mov (.c (.bool true)))]) [0] 2)
 (.ret [.cells 4 256, .v 0]))))⟩


def ac70L0b : AC :=
 (.post (.seq (.seq (.reg [.nop 0,
  .op (.len true (.v 0)),
  .op (.bin .gtr 3 (.v 0) (.c (.int .i64 0)))])
 (.cond (.v 0) .skip
 (.pre [2] 3 (.exit 0))))
 (.block 1 [[0], [7], [6], [5], [4], [], [1]] (.post (.seq (.seq (.reg [.nop 5,
  .nop 2,
  .op (.pur .byte [(.v 2), (.c (.int .i64 0))]),
  .op (.call 74 [(.v 6), (.v 0)]),
  .op (.una .not (.v 0))])
 (.cond (.v 0) (.pre [5] 6 (.exit 0))
 .skip))
 (.reg [.nop 5,
  .op (.pur .subl [(.v 5), (.c (.int .i64 1))]),
  .nop 0])) [0] 4))) [0] 4)
def ac70L0 : AC := .loop [[0], [4], [], [1]] ac70L0b
def ac70 : AFn := ⟨2, [],
 (.seq (.reg [.op (.mov (.c (.string ⟨#[]⟩)))])
 (.seq (.block 0 [[0], [4], [], [1]] (.pre [1] 0 ac70L0))
 (.seq (.reg [.nop 0,
  .nop 0])
 (.ret [.v 0]))))⟩


def ac71L0b : AC :=
 (.post (.seq (.seq (.reg [.nop 0,
  .op (.len true (.v 0)),
  .op (.bin .gtr 3 (.v 0) (.c (.int .i64 0)))])
 (.cond (.v 0) .skip
 (.pre [2] 3 (.exit 0))))
 (.block 1 [[0], [7], [6], [5], [4], [], [1]] (.post (.seq (.seq (.reg [.nop 5,
  .nop 2,
  .nop 2,
  .op (.len true (.v 2)),
  .op (.bin .sub 3 (.v 0) (.c (.int .i64 1))),
  .op (.pur .byte [(.v 4), (.v 0)]),
  .op (.call 74 [(.v 8), (.v 0)]),
  .op (.una .not (.v 0))])
 (.cond (.v 0) (.pre [7] 8 (.exit 0))
 .skip))
 (.reg [.nop 7,
  .nop 7,
  .op (.len true (.v 7)),
  .op (.bin .sub 3 (.v 0) (.c (.int .i64 1))),
  .op (.pur .subh [(.v 9), (.v 0)]),
  .nop 0])) [0] 8))) [0] 4)
def ac71L0 : AC := .loop [[0], [4], [], [1]] ac71L0b
def ac71 : AFn := ⟨2, [],
 (.seq (.reg [.op (.mov (.c (.string ⟨#[]⟩)))])
 (.seq (.block 0 [[0], [4], [], [1]] (.pre [1] 0 ac71L0))
 (.seq (.reg [.nop 0,
  .nop 0])
 (.ret [.v 0]))))⟩


def ac72L0b : AC :=
 (.post (.seq (.seq (.reg [.nop 0,
  .op (.len true (.v 0)),
  .op (.bin .gtr 3 (.v 0) (.c (.int .i64 0)))])
 (.cond (.v 0) .skip
 (.pre [2] 3 (.exit 0))))
 (.block 1 [[0], [9], [8], [7], [4], [], [1]] (.post (.seq (.reg [.nop 2,
  .op (.call 75 [(.v 2)]),
  .nop 0,
  .op (.extr 0 (.v 0)),
  .op (.extr 1 (.v 1)),
  .nop 1,
  .nop 0])
 (.seq (.seq (.reg [.nop 8,
  .nop 1,
  .op (.call 76 [(.v 8), (.v 1)]),
  .op (.una .not (.v 0))])
 (.cond (.v 0) (.pre [7] 8 (.exit 0))
 .skip))
 (.reg [.nop 7,
  .nop 2,
  .op (.pur .subl [(.v 7), (.v 2)]),
  .nop 0]))) [0] 6))) [0] 4)
def ac72L0 : AC := .loop [[0], [4], [], [1]] ac72L0b
def ac72 : AFn := ⟨2, [],
 (.seq (.reg [.op (.mov (.c (.string ⟨#[]⟩)))])
 (.seq (.block 0 [[0], [4], [], [1]] (.pre [1] 0 ac72L0))
 (.seq (.reg [.nop 0,
  .nop 0])
 (.ret [.v 0]))))⟩


def ac73L0b : AC :=
 (.post (.seq (.seq (.reg [.nop 0,
  .op (.len true (.v 0)),
  .op (.bin .gtr 3 (.v 0) (.c (.int .i64 0)))])
 (.cond (.v 0) .skip
 (.pre [2] 3 (.exit 0))))
 (.block 1 [[0], [9], [8], [7], [4], [], [1]] (.post (.seq (.reg [.nop 2,
  .nop 2,
  .op (.len true (.v 2)),
  .op (.bin .sub 3 (.v 0) (.c (.int .i64 1))),
  .op (.pur .byte [(.v 4), (.v 0)]),
  .op (.conv .i32 (.v 0)),
  .nop 0,
  .op (.mov (.c (.int .i64 1)))])
 (.seq (.seq (.reg [.nop 1,
  .op (.bin .geq 21 (.v 1) (.c (.int .i32 128)))])
 (.cond (.v 0) (.post (.reg [.nop 8,
  .op (.call 77 [(.v 8)]),
  .nop 0,
  .op (.extr 0 (.v 0)),
  .op (.extr 1 (.v 1)),
  .nop 1,
  .nop 0]) [1, 0] 3)
 (.post .skip [2, 1] 0)))
 (.seq (.seq (.reg [.nop 13,
  .nop 0,
  .op (.call 76 [(.v 13), (.v 0)]),
  .op (.una .not (.v 0))])
 (.cond (.v 0) (.pre [12] 13 (.exit 0))
 .skip))
 (.reg [.nop 12,
  .nop 12,
  .op (.len true (.v 12)),
  .nop 4,
  .op (.bin .sub 3 (.v 0) (.v 4)),
  .op (.pur .subh [(.v 14), (.v 0)]),
  .nop 0])))) [0] 13))) [0] 4)
def ac73L0 : AC := .loop [[0], [4], [], [1]] ac73L0b
def ac73 : AFn := ⟨2, [],
 (.seq (.reg [.op (.mov (.c (.string ⟨#[]⟩)))])
 (.seq (.block 0 [[0], [4], [], [1]] (.pre [1] 0 ac73L0))
 (.seq (.reg [.nop 0,
  .nop 0])
 (.ret [.v 0]))))⟩


def ac74 : AFn := ⟨2, [],
 (.seq (.reg [.op (.mov (.c (.bool false)))])
 (.seq (.post (.reg [.nop 1,
  .nop 2,
  .op (.nilck (.v 1)),
  .op (.ida 256 1 (.v 0) (.v 3)),
  .op (.ld1 (.v 0)),
  .nop 0]) [0] 3)
 (.ret [.v 0])))⟩


def ac75 : AFn := ⟨1, [],
 (.seq (.reg [.op (.mov (.c (.int .i32 0))),
  .op (.mov (.c (.int .i64 0)))])
 (.seq (.seq (.post (.reg [.nop 2,
  .op (.bin .neq 9 (.v 2) (.c (.string ⟨#[]⟩))),
  .nop 0,
  .opg (.mov (.v 3)) 0 true,
  .opg (.pur .byte [(.v 0), (.c (.int .i64 0))]) 1 true,
  .opg (.bin .lss 5 (.v 0) (.c (.int .u8 128))) 2 true,
  .op (.pick (.v 3) (.v 0) (.c (.bool false)))]) [0] 5)
 (.cond (.v 0) (.seq (.post (.reg [.nop 3,
  .op (.pur .byte [(.v 3), (.c (.int .i64 0))]),
  .op (.conv .i32 (.v 0)),
  .nop 0,
  .op (.mov (.c (.int .i64 1)))]) [0, 1] 3)
 (.ret [.v 1, .v 0]))
 (.post (.reg [.nop 3,
  .op (.call 78 [(.v 3)]),
  .nop 0,
  .op (.extr 0 (.v 0)),
  .op (.extr 1 (.v 1)),
  .nop 1,
  .nop 0]) [0, 1] 3)))
 (.ret [.v 1, .v 0])))⟩


def ac76 : AFn := ⟨2, [],
 (.seq (.reg [.op (.mov (.c (.bool false)))])
 (.seq (.post (.reg [.nop 1,
  .nop 2,
  .op (.call 79 [(.v 1), (.v 2)]),
  .op (.bin .geq 3 (.v 0) (.c (.int .i64 0))),
  .nop 0]) [0] 2)
 (.ret [.v 0])))⟩


def ac77L0b : AC :=
 (.post (.seq (.seq (.reg [.nop 0,
  .nop 2,
  .op (.bin .geq 3 (.v 0) (.v 2))])
 (.cond (.v 0) .skip
 (.pre [1] 2 (.exit 0))))
 (.seq (.block 1 [[27], [5, 25], [24], [22, 6, 26], [18], [16, 2, 17], [12, 14, 23], [10], [8, 4, 9, 11, 20], [3], [], [0, 7, 13]] (.post (.seq (.reg [.nop 11,
  .nop 1,
  .op (.pur .byte [(.v 11), (.v 1)]),
  .op (.call 80 [(.v 0)])])
 (.cond (.v 0) (.pre [3] 4 (.exit 0))
 .skip)) [] 2))
 (.reg [.nop 1,
  .op (.bin .sub 3 (.v 1) (.c (.int .i64 1))),
  .nop 0]))) [0] 3)
def ac77L0 : AC := .loop [[5], [24], [22, 6], [18], [16, 2, 17], [12, 14, 23], [10], [8, 4, 9, 11, 20], [3], [], [0, 7, 13]] ac77L0b
def ac77 : AFn := ⟨1, [],
 (.seq (.reg [.op (.mov (.c (.int .i32 0))),
  .op (.mov (.c (.int .i64 0)))])
 (.seq (.reg [.nop 2,
  .op (.len true (.v 2)),
  .nop 0])
 (.seq (.seq (.reg [.nop 0,
  .op (.bin .eql 3 (.v 0) (.c (.int .i64 0)))])
 (.cond (.v 0) (.seq (.reg [.op (.mov (.c (.int .i32 65533))),
  .op (.mov (.c (.int .i64 0)))])
 (.ret [.v 1, .v 0]))
 .skip))
 (.seq (.reg [.nop 1,
  .op (.bin .sub 3 (.v 1) (.c (.int .i64 1))),
  .nop 0])
 (.seq (.post (.reg [.nop 5,
  .nop 0,
  .op (.pur .byte [(.v 5), (.v 0)]),
  .op (.conv .i32 (.v 0)),
  .nop 0]) [0] 2)
 (.seq (.seq (.reg [.nop 0,
  .op (.bin .lss 21 (.v 0) (.c (.int .i32 128)))])
 (.cond (.v 0) (.seq (.reg [.nop 1,
  .nop 1,
  .op (.mov (.c (.int .i64 1)))])
 (.ret [.v 2, .v 0]))
 .skip))
 (.seq (.post (.reg [.nop 4,
  .op (.bin .sub 3 (.v 4) (.c (.int .i64 4))),
  .op (.mx (.v 0) (.c (.int .i64 0))),
  .nop 0]) [0] 2)
 (.seq (.seq (.reg [.nop 3,
  .op (.bin .sub 3 (.v 3) (.c (.int .i64 1))),
  .nop 0])
 (.block 0 [[5], [24], [22, 6], [18], [16, 2, 17], [12, 14, 23], [10], [8, 4, 9, 11, 20], [3], [], [0, 7, 13]] (.pre [0] 0 ac77L0)))
 (.seq (.seq (.reg [.nop 0,
  .op (.bin .lss 3 (.v 0) (.c (.int .i64 0)))])
 (.cond (.v 0) (.reg [.op (.mov (.c (.int .i64 0)))])
 (.post .skip [1] 0)))
 (.seq (.post (.reg [.nop 12,
  .nop 0,
  .nop 9,
  .op (.pur .sub [(.v 12), (.v 0), (.v 9)]),
  .op (.call 75 [(.v 0)]),
  .nop 0,
  .op (.extr 0 (.v 0)),
  .op (.extr 1 (.v 1)),
  .nop 1,
  .nop 0]) [0, 1] 4)
 (.seq (.seq (.post (.reg [.nop 2,
  .nop 0,
  .op (.bin .add 3 (.v 2) (.v 0)),
  .nop 12,
  .op (.bin .neq 3 (.v 0) (.v 12))]) [0] 2)
 (.cond (.v 0) (.seq (.reg [.op (.mov (.c (.int .i32 65533))),
  .op (.mov (.c (.int .i64 1)))])
 (.ret [.v 1, .v 0]))
 .skip))
 (.seq (.reg [.nop 2,
  .nop 1,
  .nop 2,
  .nop 1])
 (.ret [.v 2, .v 1])))))))))))))⟩


def ac80 : AFn := ⟨1, [],
 (.seq (.reg [.op (.mov (.c (.bool false)))])
 (.seq (.post (.reg [.nop 1,
  .op (.pur (.bit .and 5) [(.v 1), (.c (.int .u8 192))]),
  .op (.bin .neq 5 (.v 0) (.c (.int .u8 128))),
  .nop 0]) [0] 2)
 (.ret [.v 0])))⟩


def ac81 : AFn := ⟨2, [],
 (.seq (.reg [.op (.mov (.c (.int .i64 0)))])
 (.seq (.reg [.nop 1,
  .nop 2,
  .op (.call 85 [(.v 1), (.v 2)]),
  .nop 0])
 (.ret [.v 0])))⟩


def ac82 : AFn := ⟨1, [],
 (.seq (.reg [.op (.mov (.c (.bool false)))])
 (.seq (.block 0 [[2], [], [0]] (.post (.seq (.post (.reg [.nop 1,
  .op (.bin .leq 21 (.c (.int .i32 0)) (.v 1)),
  .nop 0,
  .opg (.mov (.v 2)) 0 true,
  .opg (.bin .lss 21 (.v 0) (.c (.int .i32 55296))) 1 true,
  .op (.pick (.v 2) (.v 0) (.c (.bool false))),
  .nop 0]) [0] 4)
 (.cond (.v 0) (.seq (.reg [.op (.mov (.c (.bool true)))])
 (.ret [.v 0]))
 (.seq (.post (.reg [.nop 2,
  .op (.bin .lss 21 (.c (.int .i32 57343)) (.v 2)),
  .nop 0,
  .opg (.mov (.v 3)) 0 true,
  .opg (.bin .leq 21 (.v 0) (.c (.int .i32 1114111))) 1 true,
  .op (.pick (.v 2) (.v 0) (.c (.bool false))),
  .nop 0]) [0] 4)
 (.cond (.v 0) (.seq (.reg [.op (.mov (.c (.bool true)))])
 (.ret [.v 0]))
 .skip)))) [2] 2))
 (.seq (.reg [.op (.mov (.c (.bool false)))])
 (.ret [.v 0]))))⟩


def ac83 : AFn := ⟨1, [],
 (.seq (.reg [.op (.mov (.c (.int .i64 0)))])
 (.seq (.post (.reg [.nop 1,
  .op (.bin .add 3 (.v 1) (.c (.int .i64 16))),
  .op (.bin .quo 3 (.v 0) (.c (.int .i64 8))),
  .nop 0]) [0] 2)
 (.ret [.v 0])))⟩


def ac85 : AFn := ⟨2, [],
 (.seq (.reg [.op (.mov (.c (.int .i64 0)))])
 (.seq (.reg [.nop 1,
  .nop 2,
  .op (.call 86 [(.v 1), (.v 2)]),
  .nop 0])
 (.ret [.v 0])))⟩


theorem chk3 : chkFn Proofs.Tryd.prog Proofs.Tryd.f3 ac3 = true := by kernel_rfl
theorem chk4 : chkFn Proofs.Tryd.prog Proofs.Tryd.f4 ac4 = true := by kernel_rfl
theorem chk5 : chkFn Proofs.Tryd.prog Proofs.Tryd.f5 ac5 = true := by kernel_rfl
theorem chk6 : chkFn Proofs.Tryd.prog Proofs.Tryd.f6 ac6 = true := by kernel_rfl
theorem chk7 : chkFn Proofs.Tryd.prog Proofs.Tryd.f7 ac7 = true := by kernel_rfl
theorem chk8 : chkFn Proofs.Tryd.prog Proofs.Tryd.f8 ac8 = true := by kernel_rfl
theorem chk9 : chkFn Proofs.Tryd.prog Proofs.Tryd.f9 ac9 = true := by kernel_rfl
theorem chk10 : chkFn Proofs.Tryd.prog Proofs.Tryd.f10 ac10 = true := by kernel_rfl
theorem chk11 : chkFn Proofs.Tryd.prog Proofs.Tryd.f11 ac11 = true := by kernel_rfl
theorem chk12 : chkFn Proofs.Tryd.prog Proofs.Tryd.f12 ac12 = true := by kernel_rfl
theorem chk13 : chkFn Proofs.Tryd.prog Proofs.Tryd.f13 ac13 = true := by kernel_rfl
theorem chk14 : chkFn Proofs.Tryd.prog Proofs.Tryd.f14 ac14 = true := by kernel_rfl
theorem chk15 : chkFn Proofs.Tryd.prog Proofs.Tryd.f15 ac15 = true := by kernel_rfl
theorem chk16 : chkFn Proofs.Tryd.prog Proofs.Tryd.f16 ac16 = true := by kernel_rfl
theorem chk17 : chkFn Proofs.Tryd.prog Proofs.Tryd.f17 ac17 = true := by kernel_rfl
theorem chk18 : chkFn Proofs.Tryd.prog Proofs.Tryd.f18 ac18 = true := by kernel_rfl
theorem chk19 : chkFn Proofs.Tryd.prog Proofs.Tryd.f19 ac19 = true := by kernel_rfl
theorem chk20 : chkFn Proofs.Tryd.prog Proofs.Tryd.f20 ac20 = true := by kernel_rfl
theorem chk21 : chkFn Proofs.Tryd.prog Proofs.Tryd.f21 ac21 = true := by kernel_rfl
theorem chk22 : chkFn Proofs.Tryd.prog Proofs.Tryd.f22 ac22 = true := by kernel_rfl
theorem chk23 : chkFn Proofs.Tryd.prog Proofs.Tryd.f23 ac23 = true := by kernel_rfl
theorem chk24 : chkFn Proofs.Tryd.prog Proofs.Tryd.f24 ac24 = true := by kernel_rfl
theorem chk25 : chkFn Proofs.Tryd.prog Proofs.Tryd.f25 ac25 = true := by kernel_rfl
theorem chk26 : chkFn Proofs.Tryd.prog Proofs.Tryd.f26 ac26 = true := by kernel_rfl
theorem chk27 : chkFn Proofs.Tryd.prog Proofs.Tryd.f27 ac27 = true := by kernel_rfl
theorem chk28 : chkFn Proofs.Tryd.prog Proofs.Tryd.f28 ac28 = true := by kernel_rfl
theorem chk29 : chkFn Proofs.Tryd.prog Proofs.Tryd.f29 ac29 = true := by kernel_rfl
theorem chk30 : chkFn Proofs.Tryd.prog Proofs.Tryd.f30 ac30 = true := by kernel_rfl
theorem chk31 : chkFn Proofs.Tryd.prog Proofs.Tryd.f31 ac31 = true := by kernel_rfl
theorem chk32 : chkFn Proofs.Tryd.prog Proofs.Tryd.f32 ac32 = true := by kernel_rfl
theorem chk33 : chkFn Proofs.Tryd.prog Proofs.Tryd.f33 ac33 = true := by kernel_rfl
theorem chk34 : chkFn Proofs.Tryd.prog Proofs.Tryd.f34 ac34 = true := by kernel_rfl
theorem chk35 : chkFn Proofs.Tryd.prog Proofs.Tryd.f35 ac35 = true := by kernel_rfl
theorem chk36 : chkFn Proofs.Tryd.prog Proofs.Tryd.f36 ac36 = true := by kernel_rfl
theorem chk37 : chkFn Proofs.Tryd.prog Proofs.Tryd.f37 ac37 = true := by kernel_rfl
theorem chk38 : chkFn Proofs.Tryd.prog Proofs.Tryd.f38 ac38 = true := by kernel_rfl
theorem chk39 : chkFn Proofs.Tryd.prog Proofs.Tryd.f39 ac39 = true := by kernel_rfl
theorem chk40 : chkFn Proofs.Tryd.prog Proofs.Tryd.f40 ac40 = true := by kernel_rfl
theorem chk41 : chkFn Proofs.Tryd.prog Proofs.Tryd.f41 ac41 = true := by kernel_rfl
theorem chk42 : chkFn Proofs.Tryd.prog Proofs.Tryd.f42 ac42 = true := by kernel_rfl
theorem chk43 : chkFn Proofs.Tryd.prog Proofs.Tryd.f43 ac43 = true := by kernel_rfl
theorem chk44 : chkFn Proofs.Tryd.prog Proofs.Tryd.f44 ac44 = true := by kernel_rfl
theorem chk45 : chkFn Proofs.Tryd.prog Proofs.Tryd.f45 ac45 = true := by kernel_rfl
theorem chk46 : chkFn Proofs.Tryd.prog Proofs.Tryd.f46 ac46 = true := by kernel_rfl
theorem chk47 : chkFn Proofs.Tryd.prog Proofs.Tryd.f47 ac47 = true := by kernel_rfl
theorem chk48 : chkFn Proofs.Tryd.prog Proofs.Tryd.f48 ac48 = true := by kernel_rfl
theorem chk49 : chkFn Proofs.Tryd.prog Proofs.Tryd.f49 ac49 = true := by kernel_rfl
theorem chk50 : chkFn Proofs.Tryd.prog Proofs.Tryd.f50 ac50 = true := by kernel_rfl
theorem chk51 : chkFn Proofs.Tryd.prog Proofs.Tryd.f51 ac51 = true := by kernel_rfl
theorem chk52 : chkFn Proofs.Tryd.prog Proofs.Tryd.f52 ac52 = true := by kernel_rfl
theorem chk53 : chkFn Proofs.Tryd.prog Proofs.Tryd.f53 ac53 = true := by kernel_rfl
theorem chk54 : chkFn Proofs.Tryd.prog Proofs.Tryd.f54 ac54 = true := by kernel_rfl
theorem chk55 : chkFn Proofs.Tryd.prog Proofs.Tryd.f55 ac55 = true := by kernel_rfl
theorem chk56 : chkFn Proofs.Tryd.prog Proofs.Tryd.f56 ac56 = true := by kernel_rfl
theorem chk57 : chkFn Proofs.Tryd.prog Proofs.Tryd.f57 ac57 = true := by kernel_rfl
theorem chk58 : chkFn Proofs.Tryd.prog Proofs.Tryd.f58 ac58 = true := by kernel_rfl
theorem chk59 : chkFn Proofs.Tryd.prog Proofs.Tryd.f59 ac59 = true := by kernel_rfl
theorem chk60 : chkFn Proofs.Tryd.prog Proofs.Tryd.f60 ac60 = true := by kernel_rfl
theorem chk61 : chkFn Proofs.Tryd.prog Proofs.Tryd.f61 ac61 = true := by kernel_rfl
theorem chk62 : chkFn Proofs.Tryd.prog Proofs.Tryd.f62 ac62 = true := by kernel_rfl
theorem chk63 : chkFn Proofs.Tryd.prog Proofs.Tryd.f63 ac63 = true := by kernel_rfl
theorem chk64 : chkFn Proofs.Tryd.prog Proofs.Tryd.f64 ac64 = true := by kernel_rfl
theorem chk65 : chkFn Proofs.Tryd.prog Proofs.Tryd.f65 ac65 = true := by kernel_rfl
theorem chk66 : chkFn Proofs.Tryd.prog Proofs.Tryd.f66 ac66 = true := by kernel_rfl
theorem chk67 : chkFn Proofs.Tryd.prog Proofs.Tryd.f67 ac67 = true := by kernel_rfl
theorem chk68 : chkFn Proofs.Tryd.prog Proofs.Tryd.f68 ac68 = true := by kernel_rfl
theorem chk69 : chkFn Proofs.Tryd.prog Proofs.Tryd.f69 ac69 = true := by kernel_rfl
theorem chk70 : chkFn Proofs.Tryd.prog Proofs.Tryd.f70 ac70 = true := by kernel_rfl
theorem chk71 : chkFn Proofs.Tryd.prog Proofs.Tryd.f71 ac71 = true := by kernel_rfl
theorem chk72 : chkFn Proofs.Tryd.prog Proofs.Tryd.f72 ac72 = true := by kernel_rfl
theorem chk73 : chkFn Proofs.Tryd.prog Proofs.Tryd.f73 ac73 = true := by kernel_rfl
theorem chk74 : chkFn Proofs.Tryd.prog Proofs.Tryd.f74 ac74 = true := by kernel_rfl
theorem chk75 : chkFn Proofs.Tryd.prog Proofs.Tryd.f75 ac75 = true := by kernel_rfl
theorem chk76 : chkFn Proofs.Tryd.prog Proofs.Tryd.f76 ac76 = true := by kernel_rfl
theorem chk77 : chkFn Proofs.Tryd.prog Proofs.Tryd.f77 ac77 = true := by kernel_rfl
theorem chk80 : chkFn Proofs.Tryd.prog Proofs.Tryd.f80 ac80 = true := by kernel_rfl
theorem chk81 : chkFn Proofs.Tryd.prog Proofs.Tryd.f81 ac81 = true := by kernel_rfl
theorem chk82 : chkFn Proofs.Tryd.prog Proofs.Tryd.f82 ac82 = true := by kernel_rfl
theorem chk83 : chkFn Proofs.Tryd.prog Proofs.Tryd.f83 ac83 = true := by kernel_rfl
theorem chk85 : chkFn Proofs.Tryd.prog Proofs.Tryd.f85 ac85 = true := by kernel_rfl
noncomputable def tab : List (Nat × AFn) := [(3, ac3), (4, ac4), (5, ac5), (6, ac6), (7, ac7), (8, ac8), (9, ac9), (10, ac10), (11, ac11), (12, ac12), (13, ac13), (14, ac14), (15, ac15), (16, ac16), (17, ac17), (18, ac18), (19, ac19), (20, ac20), (21, ac21), (22, ac22), (23, ac23), (24, ac24), (25, ac25), (26, ac26), (27, ac27), (28, ac28), (29, ac29), (30, ac30), (31, ac31), (32, ac32), (33, ac33), (34, ac34), (35, ac35), (36, ac36), (37, ac37), (38, ac38), (39, ac39), (40, ac40), (41, ac41), (42, ac42), (43, ac43), (44, ac44), (45, ac45), (46, ac46), (47, ac47), (48, ac48), (49, ac49), (50, ac50), (51, ac51), (52, ac52), (53, ac53), (54, ac54), (55, ac55), (56, ac56), (57, ac57), (58, ac58), (59, ac59), (60, ac60), (61, ac61), (62, ac62), (63, ac63), (64, ac64), (65, ac65), (66, ac66), (67, ac67), (68, ac68), (69, ac69), (70, ac70), (71, ac71), (72, ac72), (73, ac73), (74, ac74), (75, ac75), (76, ac76), (77, ac77), (80, ac80), (81, ac81), (82, ac82), (83, ac83), (85, ac85)]
theorem good : Good Proofs.Tryd.prog tab := (.cons Proofs.Tryd.func3 chk3 (.cons Proofs.Tryd.func4 chk4 (.cons Proofs.Tryd.func5 chk5 (.cons Proofs.Tryd.func6 chk6 (.cons Proofs.Tryd.func7 chk7 (.cons Proofs.Tryd.func8 chk8 (.cons Proofs.Tryd.func9 chk9 (.cons Proofs.Tryd.func10 chk10 (.cons Proofs.Tryd.func11 chk11 (.cons Proofs.Tryd.func12 chk12 (.cons Proofs.Tryd.func13 chk13 (.cons Proofs.Tryd.func14 chk14 (.cons Proofs.Tryd.func15 chk15 (.cons Proofs.Tryd.func16 chk16 (.cons Proofs.Tryd.func17 chk17 (.cons Proofs.Tryd.func18 chk18 (.cons Proofs.Tryd.func19 chk19 (.cons Proofs.Tryd.func20 chk20 (.cons Proofs.Tryd.func21 chk21 (.cons Proofs.Tryd.func22 chk22 (.cons Proofs.Tryd.func23 chk23 (.cons Proofs.Tryd.func24 chk24 (.cons Proofs.Tryd.func25 chk25 (.cons Proofs.Tryd.func26 chk26 (.cons Proofs.Tryd.func27 chk27 (.cons Proofs.Tryd.func28 chk28 (.cons Proofs.Tryd.func29 chk29 (.cons Proofs.Tryd.func30 chk30 (.cons Proofs.Tryd.func31 chk31 (.cons Proofs.Tryd.func32 chk32 (.cons Proofs.Tryd.func33 chk33 (.cons Proofs.Tryd.func34 chk34 (.cons Proofs.Tryd.func35 chk35 (.cons Proofs.Tryd.func36 chk36 (.cons Proofs.Tryd.func37 chk37 (.cons Proofs.Tryd.func38 chk38 (.cons Proofs.Tryd.func39 chk39 (.cons Proofs.Tryd.func40 chk40 (.cons Proofs.Tryd.func41 chk41 (.cons Proofs.Tryd.func42 chk42 (.cons Proofs.Tryd.func43 chk43 (.cons Proofs.Tryd.func44 chk44 (.cons Proofs.Tryd.func45 chk45 (.cons Proofs.Tryd.func46 chk46 (.cons Proofs.Tryd.func47 chk47 (.cons Proofs.Tryd.func48 chk48 (.cons Proofs.Tryd.func49 chk49 (.cons Proofs.Tryd.func50 chk50 (.cons Proofs.Tryd.func51 chk51 (.cons Proofs.Tryd.func52 chk52 (.cons Proofs.Tryd.func53 chk53 (.cons Proofs.Tryd.func54 chk54 (.cons Proofs.Tryd.func55 chk55 (.cons Proofs.Tryd.func56 chk56 (.cons Proofs.Tryd.func57 chk57 (.cons Proofs.Tryd.func58 chk58 (.cons Proofs.Tryd.func59 chk59 (.cons Proofs.Tryd.func60 chk60 (.cons Proofs.Tryd.func61 chk61 (.cons Proofs.Tryd.func62 chk62 (.cons Proofs.Tryd.func63 chk63 (.cons Proofs.Tryd.func64 chk64 (.cons Proofs.Tryd.func65 chk65 (.cons Proofs.Tryd.func66 chk66 (.cons Proofs.Tryd.func67 chk67 (.cons Proofs.Tryd.func68 chk68 (.cons Proofs.Tryd.func69 chk69 (.cons Proofs.Tryd.func70 chk70 (.cons Proofs.Tryd.func71 chk71 (.cons Proofs.Tryd.func72 chk72 (.cons Proofs.Tryd.func73 chk73 (.cons Proofs.Tryd.func74 chk74 (.cons Proofs.Tryd.func75 chk75 (.cons Proofs.Tryd.func76 chk76 (.cons Proofs.Tryd.func77 chk77 (.cons Proofs.Tryd.func80 chk80 (.cons Proofs.Tryd.func81 chk81 (.cons Proofs.Tryd.func82 chk82 (.cons Proofs.Tryd.func83 chk83 (.cons Proofs.Tryd.func85 chk85 .nil))))))))))))))))))))))))))))))))))))))))))))))))))))))))))))))))))))))))))))))))
end Go.Am.C41
