/- The interpreter code of the functions that the statement reaches, printed out of the translation; the tie proves that it is the loaded program. No conditions. -/
import Derived.Test.YtoommmeapdkopaaZC1
set_option maxRecDepth 20000
namespace Go.Proofs.Ytoommmeapdkopaa.E
open Go Go.Eng
def r89_1 : IC := (.reg [o3 49 (.mv (.t 0)),
 o3 50 (.mv (.t 11)),
 o3 51 (.mv (.t 0)),
 o3 52 (.mv (.t 1)),
 o3 53 (.mv (.t 12)),
 o3 54 (.bin .add (.t 52) (.t 53)),
 o3 55 (.mv (.t 0)),
 o3 56 (.mv (.t 1)),
 o3 57 (.mv (.t 12)),
 o3 58 (.bin .add (.t 56) (.t 57)),
 o3 59 (.iadr 2 (.t 55) (.t 58)),
 o3 60 (.load 2 true (.t 59)),
 o3 61 (.mv (.t 0)),
 o3 62 (.mv (.t 11)),
 o3 63 (.iadr 2 (.t 61) (.t 62)),
 o3 64 (.load 2 true (.t 63)),
 o1 65 (.iadr 2 (.t 49) (.t 50)),
 o2 (.store 2 (.t 65) (.t 60)),
 o1 66 (.iadr 2 (.t 51) (.t 54)),
 o2 (.store 2 (.t 66) (.t 64))])
def r89_2 : IC := (.reg [o1 36 (.mv (.t 11)),
 o1 37 (.bin .add (.t 36) (.c (.int .i64 1))),
 o1 11 (.mv (.t 37))])
def b89_0 : IC := (.seq (.seq (.reg [o1 28 (.mv (.t 11)),
 o1 29 (.mv (.t 1)),
 o1 30 (.mv (.t 8)),
 o1 31 (.bin .quo (.t 30) (.c (.int .i64 4))),
 o1 32 (.bin .mul (.t 31) (.c (.int .i64 2))),
 o1 33 (.bin .add (.t 29) (.t 32)),
 o1 34 (.bin .add (.t 33) (.c (.int .i64 1))),
 o1 35 (.bin .leq (.t 28) (.t 34))])
 (.cond (.t 35)
 .skip
 (.exit 0)))
 (.seq (.block 1
 (.seq (.reg [o1 38 (.callf 100 [(.t 9)]),
 o1 39 (.mv (.t 10)),
 o1 40 (.bin .sub (.t 39) (.c (.int .u64 1))),
 o1 41 (.bin .and (.t 38) (.t 40)),
 o1 42 (.conv .i64 (.t 41)),
 o1 12 (.mv (.t 42))])
 (.seq (.seq (.reg [o1 43 (.mv (.t 12)),
 o1 44 (.mv (.t 8)),
 o1 45 (.bin .geq (.t 43) (.t 44))])
 (.cond (.t 45)
 (.reg [o1 46 (.mv (.t 12)),
 o1 47 (.mv (.t 8)),
 o1 48 (.bin .sub (.t 46) (.t 47)),
 o1 12 (.mv (.t 48))])
 .skip))
 r89_1)))
 r89_2))
def i89 : IFun := ⟨(.seq (.reg [o1 13 (.mv (.t 2)),
 o1 14 (.mv (.t 1)),
 o1 15 (.bin .sub (.t 13) (.t 14)),
 o1 8 (.mv (.t 15))])
 (.seq (.reg [o1 16 (.mv (.t 8)),
 o1 17 (.bin .geq (.t 16) (.c (.int .i64 8)))])
 (.cond (.t 17)
 (.seq (.reg [o1 18 (.mv (.t 8)),
 o1 19 (.conv .u64 (.t 18)),
 o1 9 (.alloc [(.int .u64 0)]),
 o2 (.store 1 (.t 9) (.t 19))])
 (.seq (.reg [o1 20 (.mv (.t 8)),
 o1 21 (.callf 99 [(.t 20)]),
 o1 10 (.mv (.t 21))])
 (.seq (.reg [o1 22 (.mv (.t 1)),
 o1 23 (.mv (.t 8)),
 o1 24 (.bin .quo (.t 23) (.c (.int .i64 4))),
 o1 25 (.bin .mul (.t 24) (.c (.int .i64 2))),
 o1 26 (.bin .add (.t 22) (.t 25)),
 o1 27 (.bin .sub (.t 26) (.c (.int .i64 1))),
 o1 11 (.mv (.t 27))])
 (.block 0
 (.loop b89_0)))))
 .skip))),
 67, [], 0, []⟩
def r90_0 : IC := (.reg [o1 49 (.mv (.t 0)),
 o1 50 (.mv (.t 12)),
 o1 51 (.mv (.t 13)),
 o1 52 (.mv (.t 14)),
 o1 53 (.mv (.t 3)),
 o1 54 (.callf 102 [(.t 49), (.t 50), (.t 51), (.t 52), (.t 11), (.t 53)]),
 o1 13 (.mv (.t 54))])
def r90_1 : IC := (.seq (.reg [o1 55 (.load 1 false (.t 11))])
 (.block 0
 (.seq (.reg [o1 58 (.bin .eql (.t 55) (.c (.int .i64 0))),
 o1 57 (.mv (.t 58))])
 (.cond (.t 57)
 (.seq (.reg [o1 59 (.mv (.t 13)),
 o1 8 (.mv (.t 59)),
 o1 9 (.mv (.c (.int .i64 1)))])
 .ret)
 (.seq (.reg [o1 61 (.bin .eql (.t 55) (.c (.int .i64 12))),
 o1 60 (.mv (.t 61))])
 (.cond (.t 60)
 (.seq (.reg [o1 62 (.mv (.t 13)),
 o1 8 (.mv (.t 62)),
 o1 9 (.mv (.c (.int .i64 2)))])
 .ret)
 (.seq (.reg [o1 56 (.mv (.t 13)),
 o1 8 (.mv (.t 56)),
 o1 9 (.mv (.c (.int .i64 0)))])
 .ret)))))))
def i90 : IFun := ⟨(.seq (.reg [o1 8 (.mv (.c (.int .i64 0))),
 o1 9 (.mv (.c (.int .i64 0)))])
 (.seq (.reg [o1 15 (.mv (.t 2)),
 o1 16 (.mv (.t 1)),
 o1 17 (.bin .sub (.t 15) (.t 16)),
 o1 10 (.mv (.t 17))])
 (.seq (.reg [o1 11 (.alloc [(.int .i64 0)])])
 (.seq (.reg [o1 18 (.mv (.t 1)),
 o1 19 (.mv (.t 10)),
 o1 20 (.bin .quo (.t 19) (.c (.int .i64 4))),
 o1 21 (.bin .mul (.t 20) (.c (.int .i64 1))),
 o1 22 (.bin .add (.t 18) (.t 21)),
 o1 12 (.mv (.t 22))])
 (.seq (.reg [o1 23 (.mv (.t 1)),
 o1 24 (.mv (.t 10)),
 o1 25 (.bin .quo (.t 24) (.c (.int .i64 4))),
 o1 26 (.bin .mul (.t 25) (.c (.int .i64 2))),
 o1 27 (.bin .add (.t 23) (.t 26)),
 o1 13 (.mv (.t 27))])
 (.seq (.reg [o1 28 (.mv (.t 1)),
 o1 29 (.mv (.t 10)),
 o1 30 (.bin .quo (.t 29) (.c (.int .i64 4))),
 o1 31 (.bin .mul (.t 30) (.c (.int .i64 3))),
 o1 32 (.bin .add (.t 28) (.t 31)),
 o1 14 (.mv (.t 32))])
 (.seq (.seq (.reg [o1 33 (.mv (.t 10)),
 o1 34 (.bin .geq (.t 33) (.c (.int .i64 8)))])
 (.cond (.t 34)
 (.seq (.seq (.reg [o1 35 (.mv (.t 10)),
 o1 36 (.bin .geq (.t 35) (.c (.int .i64 50)))])
 (.cond (.t 36)
 (.seq (.reg [o1 37 (.mv (.t 0)),
 o1 38 (.mv (.t 12)),
 o1 39 (.mv (.t 3)),
 o1 40 (.callf 101 [(.t 37), (.t 38), (.t 11), (.t 39)]),
 o1 12 (.mv (.t 40))])
 (.seq (.reg [o1 41 (.mv (.t 0)),
 o1 42 (.mv (.t 13)),
 o1 43 (.mv (.t 3)),
 o1 44 (.callf 101 [(.t 41), (.t 42), (.t 11), (.t 43)]),
 o1 13 (.mv (.t 44))])
 (.reg [o1 45 (.mv (.t 0)),
 o1 46 (.mv (.t 14)),
 o1 47 (.mv (.t 3)),
 o1 48 (.callf 101 [(.t 45), (.t 46), (.t 11), (.t 47)]),
 o1 14 (.mv (.t 48))])))
 .skip))
 r90_0)
 .skip))
 r90_1))))))),
 63, [.t 8, .t 9], 0, []⟩
def b91_0 : IC := (.seq (.seq (.reg [o1 13 (.mv (.t 8)),
 o1 14 (.mv (.t 9)),
 o1 15 (.bin .lss (.t 13) (.t 14))])
 (.cond (.t 15)
 .skip
 (.exit 0)))
 (.block 1
 (.seq (.reg [o3 16 (.mv (.t 0)),
 o3 17 (.mv (.t 8)),
 o3 18 (.mv (.t 0)),
 o3 19 (.mv (.t 9)),
 o3 20 (.mv (.t 0)),
 o3 21 (.mv (.t 9)),
 o3 22 (.iadr 2 (.t 20) (.t 21)),
 o3 23 (.load 2 true (.t 22)),
 o3 24 (.mv (.t 0)),
 o3 25 (.mv (.t 8)),
 o3 26 (.iadr 2 (.t 24) (.t 25)),
 o3 27 (.load 2 true (.t 26)),
 o1 28 (.iadr 2 (.t 16) (.t 17)),
 o2 (.store 2 (.t 28) (.t 23)),
 o1 29 (.iadr 2 (.t 18) (.t 19)),
 o2 (.store 2 (.t 29) (.t 27))])
 (.seq (.reg [o1 30 (.mv (.t 8)),
 o1 31 (.bin .add (.t 30) (.c (.int .i64 1))),
 o1 8 (.mv (.t 31))])
 (.reg [o1 32 (.mv (.t 9)),
 o1 33 (.bin .sub (.t 32) (.c (.int .i64 1))),
 o1 9 (.mv (.t 33))])))))
def i91 : IFun := ⟨(.seq (.reg [o1 10 (.mv (.t 1)),
 o1 8 (.mv (.t 10))])
 (.seq (.reg [o1 11 (.mv (.t 2)),
 o1 12 (.bin .sub (.t 11) (.c (.int .i64 1))),
 o1 9 (.mv (.t 12))])
 (.block 0
 (.loop b91_0)))),
 34, [], 0, []⟩
def b92_1 : IC := (.seq (.seq (.reg [o1 19 (.mv (.t 9)),
 o1 20 (.mv (.t 2)),
 o1 21 (.bin .lss (.t 19) (.t 20)),
 o1 22 (.mv (.t 21)),
 ⟨some 23, .mv (.t 3), (some (22, true)), false⟩,
 ⟨some 24, .mv (.t 0), (some (22, true)), false⟩,
 ⟨some 25, .mv (.t 9), (some (22, true)), false⟩,
 ⟨some 26, .iadr 2 (.t 24) (.t 25), (some (22, true)), false⟩,
 ⟨some 27, .load 2 true (.t 26), (some (22, true)), false⟩,
 ⟨some 28, .mv (.t 0), (some (22, true)), false⟩,
 ⟨some 29, .mv (.t 9), (some (22, true)), false⟩,
 ⟨some 30, .bin .sub (.t 29) (.c (.int .i64 1)), (some (22, true)), false⟩,
 ⟨some 31, .iadr 2 (.t 28) (.t 30), (some (22, true)), false⟩,
 ⟨some 32, .load 2 true (.t 31), (some (22, true)), false⟩,
 o4 33 (.callv (.t 23) [(.t 27), (.t 32)]) 22 true,
 o4 34 (.bin .lss (.t 33) (.c (.int .i64 0))) 22 true,
 o4 35 (.un .not (.t 34)) 22 true,
 o1 36 (.pick (.t 22) (.t 35) (.c (.bool false)))])
 (.cond (.t 36)
 .skip
 (.exit 2)))
 (.block 3
 (.reg [o1 37 (.mv (.t 9)),
 o1 38 (.bin .add (.t 37) (.c (.int .i64 1))),
 o1 9 (.mv (.t 38))])))
def b92_3 : IC := (.seq (.seq (.reg [o1 68 (.mv (.t 11)),
 o1 69 (.bin .geq (.t 68) (.c (.int .i64 1)))])
 (.cond (.t 69)
 .skip
 (.exit 4)))
 (.seq (.block 5
 (.seq (.seq (.reg [o3 72 (.mv (.t 3)),
 o3 73 (.mv (.t 0)),
 o3 74 (.mv (.t 11)),
 o3 75 (.iadr 2 (.t 73) (.t 74)),
 o3 76 (.load 2 true (.t 75)),
 o3 77 (.mv (.t 0)),
 o3 78 (.mv (.t 11)),
 o3 79 (.bin .sub (.t 78) (.c (.int .i64 1))),
 o3 80 (.iadr 2 (.t 77) (.t 79)),
 o3 81 (.load 2 true (.t 80)),
 o1 82 (.callv (.t 72) [(.t 76), (.t 81)]),
 o1 83 (.bin .lss (.t 82) (.c (.int .i64 0))),
 o1 84 (.un .not (.t 83))])
 (.cond (.t 84)
 (.exit 4)
 .skip))
 (.reg [o3 85 (.mv (.t 0)),
 o3 86 (.mv (.t 11)),
 o3 87 (.mv (.t 0)),
 o3 88 (.mv (.t 11)),
 o3 89 (.bin .sub (.t 88) (.c (.int .i64 1))),
 o3 90 (.mv (.t 0)),
 o3 91 (.mv (.t 11)),
 o3 92 (.bin .sub (.t 91) (.c (.int .i64 1))),
 o3 93 (.iadr 2 (.t 90) (.t 92)),
 o3 94 (.load 2 true (.t 93)),
 o3 95 (.mv (.t 0)),
 o3 96 (.mv (.t 11)),
 o3 97 (.iadr 2 (.t 95) (.t 96)),
 o3 98 (.load 2 true (.t 97)),
 o1 99 (.iadr 2 (.t 85) (.t 86)),
 o2 (.store 2 (.t 99) (.t 94)),
 o1 100 (.iadr 2 (.t 87) (.t 89)),
 o2 (.store 2 (.t 100) (.t 98))])))
 (.reg [o1 70 (.mv (.t 11)),
 o1 71 (.bin .sub (.t 70) (.c (.int .i64 1))),
 o1 11 (.mv (.t 71))])))
def b92_5 : IC := (.seq (.seq (.reg [o1 107 (.mv (.t 12)),
 o1 108 (.mv (.t 2)),
 o1 109 (.bin .lss (.t 107) (.t 108))])
 (.cond (.t 109)
 .skip
 (.exit 6)))
 (.seq (.block 7
 (.seq (.seq (.reg [o3 112 (.mv (.t 3)),
 o3 113 (.mv (.t 0)),
 o3 114 (.mv (.t 12)),
 o3 115 (.iadr 2 (.t 113) (.t 114)),
 o3 116 (.load 2 true (.t 115)),
 o3 117 (.mv (.t 0)),
 o3 118 (.mv (.t 12)),
 o3 119 (.bin .sub (.t 118) (.c (.int .i64 1))),
 o3 120 (.iadr 2 (.t 117) (.t 119)),
 o3 121 (.load 2 true (.t 120)),
 o1 122 (.callv (.t 112) [(.t 116), (.t 121)]),
 o1 123 (.bin .lss (.t 122) (.c (.int .i64 0))),
 o1 124 (.un .not (.t 123))])
 (.cond (.t 124)
 (.exit 6)
 .skip))
 (.reg [o3 125 (.mv (.t 0)),
 o3 126 (.mv (.t 12)),
 o3 127 (.mv (.t 0)),
 o3 128 (.mv (.t 12)),
 o3 129 (.bin .sub (.t 128) (.c (.int .i64 1))),
 o3 130 (.mv (.t 0)),
 o3 131 (.mv (.t 12)),
 o3 132 (.bin .sub (.t 131) (.c (.int .i64 1))),
 o3 133 (.iadr 2 (.t 130) (.t 132)),
 o3 134 (.load 2 true (.t 133)),
 o3 135 (.mv (.t 0)),
 o3 136 (.mv (.t 12)),
 o3 137 (.iadr 2 (.t 135) (.t 136)),
 o3 138 (.load 2 true (.t 137)),
 o1 139 (.iadr 2 (.t 125) (.t 126)),
 o2 (.store 2 (.t 139) (.t 134)),
 o1 140 (.iadr 2 (.t 127) (.t 129)),
 o2 (.store 2 (.t 140) (.t 138))])))
 (.reg [o1 110 (.mv (.t 12)),
 o1 111 (.bin .add (.t 110) (.c (.int .i64 1))),
 o1 12 (.mv (.t 111))])))
def r92_4 : IC := (.seq (.reg [o1 101 (.mv (.t 2)),
 o1 102 (.mv (.t 9)),
 o1 103 (.bin .sub (.t 101) (.t 102)),
 o1 104 (.bin .geq (.t 103) (.c (.int .i64 2)))])
 (.cond (.t 104)
 (.seq (.reg [o1 105 (.mv (.t 9)),
 o1 106 (.bin .add (.t 105) (.c (.int .i64 1))),
 o1 12 (.mv (.t 106))])
 (.block 6
 (.loop b92_5)))
 .skip))
def r92_2 : IC := (.seq (.seq (.reg [o1 39 (.mv (.t 9)),
 o1 40 (.mv (.t 2)),
 o1 41 (.bin .eql (.t 39) (.t 40))])
 (.cond (.t 41)
 (.seq (.reg [o1 8 (.mv (.c (.bool true)))])
 .ret)
 .skip))
 (.seq (.seq (.reg [o1 42 (.mv (.t 2)),
 o1 43 (.mv (.t 1)),
 o1 44 (.bin .sub (.t 42) (.t 43)),
 o1 45 (.bin .lss (.t 44) (.c (.int .i64 50)))])
 (.cond (.t 45)
 (.seq (.reg [o1 8 (.mv (.c (.bool false)))])
 .ret)
 .skip))
 (.seq (.reg [o3 46 (.mv (.t 0)),
 o3 47 (.mv (.t 9)),
 o3 48 (.mv (.t 0)),
 o3 49 (.mv (.t 9)),
 o3 50 (.bin .sub (.t 49) (.c (.int .i64 1))),
 o3 51 (.mv (.t 0)),
 o3 52 (.mv (.t 9)),
 o3 53 (.bin .sub (.t 52) (.c (.int .i64 1))),
 o3 54 (.iadr 2 (.t 51) (.t 53)),
 o3 55 (.load 2 true (.t 54)),
 o3 56 (.mv (.t 0)),
 o3 57 (.mv (.t 9)),
 o3 58 (.iadr 2 (.t 56) (.t 57)),
 o3 59 (.load 2 true (.t 58)),
 o1 60 (.iadr 2 (.t 46) (.t 47)),
 o2 (.store 2 (.t 60) (.t 55)),
 o1 61 (.iadr 2 (.t 48) (.t 50)),
 o2 (.store 2 (.t 61) (.t 59))])
 (.seq (.seq (.reg [o1 62 (.mv (.t 9)),
 o1 63 (.mv (.t 1)),
 o1 64 (.bin .sub (.t 62) (.t 63)),
 o1 65 (.bin .geq (.t 64) (.c (.int .i64 2)))])
 (.cond (.t 65)
 (.seq (.reg [o1 66 (.mv (.t 9)),
 o1 67 (.bin .sub (.t 66) (.c (.int .i64 1))),
 o1 11 (.mv (.t 67))])
 (.block 4
 (.loop b92_3)))
 .skip))
 r92_4))))
def r92_6 : IC := (.reg [o1 17 (.mv (.t 10)),
 o1 18 (.bin .add (.t 17) (.c (.int .i64 1))),
 o1 10 (.mv (.t 18))])
def b92_0 : IC := (.seq (.seq (.reg [o1 15 (.mv (.t 10)),
 o1 16 (.bin .lss (.t 15) (.c (.int .i64 5)))])
 (.cond (.t 16)
 .skip
 (.exit 0)))
 (.seq (.block 1
 (.seq (.block 2
 (.loop b92_1))
 r92_2))
 r92_6))
def r92_7 : IC := (.seq (.reg [o1 8 (.mv (.c (.bool false)))])
 .ret)
def i92 : IFun := ⟨(.seq (.reg [o1 8 (.mv (.c (.bool false)))])
 (.seq (.reg [o1 13 (.mv (.t 1)),
 o1 14 (.bin .add (.t 13) (.c (.int .i64 1))),
 o1 9 (.mv (.t 14))])
 (.seq (.seq (.reg [o1 10 (.mv (.c (.int .i64 0)))])
 (.block 0
 (.loop b92_0)))
 r92_7))),
 141, [.t 8], 0, []⟩
def b93_1 : IC := (.seq (.seq (.reg [o1 31 (.mv (.t 11)),
 o1 32 (.mv (.t 12)),
 o1 33 (.bin .leq (.t 31) (.t 32)),
 o1 34 (.mv (.t 33)),
 ⟨some 35, .mv (.t 4), (some (34, true)), false⟩,
 ⟨some 36, .mv (.t 0), (some (34, true)), false⟩,
 ⟨some 37, .mv (.t 1), (some (34, true)), false⟩,
 ⟨some 38, .iadr 2 (.t 36) (.t 37), (some (34, true)), false⟩,
 ⟨some 39, .load 2 true (.t 38), (some (34, true)), false⟩,
 ⟨some 40, .mv (.t 0), (some (34, true)), false⟩,
 ⟨some 41, .mv (.t 11), (some (34, true)), false⟩,
 ⟨some 42, .iadr 2 (.t 40) (.t 41), (some (34, true)), false⟩,
 ⟨some 43, .load 2 true (.t 42), (some (34, true)), false⟩,
 o4 44 (.callv (.t 35) [(.t 39), (.t 43)]) 34 true,
 o4 45 (.bin .lss (.t 44) (.c (.int .i64 0))) 34 true,
 o4 46 (.un .not (.t 45)) 34 true,
 o1 47 (.pick (.t 34) (.t 46) (.c (.bool false)))])
 (.cond (.t 47)
 .skip
 (.exit 2)))
 (.block 3
 (.reg [o1 48 (.mv (.t 11)),
 o1 49 (.bin .add (.t 48) (.c (.int .i64 1))),
 o1 11 (.mv (.t 49))])))
def b93_3 : IC := (.seq (.seq (.reg [o1 50 (.mv (.t 11)),
 o1 51 (.mv (.t 12)),
 o1 52 (.bin .leq (.t 50) (.t 51)),
 o1 53 (.mv (.t 52)),
 ⟨some 54, .mv (.t 4), (some (53, true)), false⟩,
 ⟨some 55, .mv (.t 0), (some (53, true)), false⟩,
 ⟨some 56, .mv (.t 1), (some (53, true)), false⟩,
 ⟨some 57, .iadr 2 (.t 55) (.t 56), (some (53, true)), false⟩,
 ⟨some 58, .load 2 true (.t 57), (some (53, true)), false⟩,
 ⟨some 59, .mv (.t 0), (some (53, true)), false⟩,
 ⟨some 60, .mv (.t 12), (some (53, true)), false⟩,
 ⟨some 61, .iadr 2 (.t 59) (.t 60), (some (53, true)), false⟩,
 ⟨some 62, .load 2 true (.t 61), (some (53, true)), false⟩,
 o4 63 (.callv (.t 54) [(.t 58), (.t 62)]) 53 true,
 o4 64 (.bin .lss (.t 63) (.c (.int .i64 0))) 53 true,
 o1 65 (.pick (.t 53) (.t 64) (.c (.bool false)))])
 (.cond (.t 65)
 .skip
 (.exit 4)))
 (.block 5
 (.reg [o1 66 (.mv (.t 12)),
 o1 67 (.bin .sub (.t 66) (.c (.int .i64 1))),
 o1 12 (.mv (.t 67))])))
def r93_4 : IC := (.seq (.seq (.reg [o1 68 (.mv (.t 11)),
 o1 69 (.mv (.t 12)),
 o1 70 (.bin .gtr (.t 68) (.t 69))])
 (.cond (.t 70)
 (.exit 0)
 .skip))
 (.seq (.reg [o3 71 (.mv (.t 0)),
 o3 72 (.mv (.t 11)),
 o3 73 (.mv (.t 0)),
 o3 74 (.mv (.t 12)),
 o3 75 (.mv (.t 0)),
 o3 76 (.mv (.t 12)),
 o3 77 (.iadr 2 (.t 75) (.t 76)),
 o3 78 (.load 2 true (.t 77)),
 o3 79 (.mv (.t 0)),
 o3 80 (.mv (.t 11)),
 o3 81 (.iadr 2 (.t 79) (.t 80)),
 o3 82 (.load 2 true (.t 81)),
 o1 83 (.iadr 2 (.t 71) (.t 72)),
 o2 (.store 2 (.t 83) (.t 78)),
 o1 84 (.iadr 2 (.t 73) (.t 74)),
 o2 (.store 2 (.t 84) (.t 82))])
 (.seq (.reg [o1 85 (.mv (.t 11)),
 o1 86 (.bin .add (.t 85) (.c (.int .i64 1))),
 o1 11 (.mv (.t 86))])
 (.reg [o1 87 (.mv (.t 12)),
 o1 88 (.bin .sub (.t 87) (.c (.int .i64 1))),
 o1 12 (.mv (.t 88))]))))
def r93_2 : IC := (.seq (.block 4
 (.loop b93_3))
 r93_4)
def b93_0 : IC := (.block 1
 (.seq (.block 2
 (.loop b93_1))
 r93_2))
def r93_5 : IC := (.seq (.reg [o1 89 (.mv (.t 11)),
 o1 10 (.mv (.t 89))])
 .ret)
def i93 : IFun := ⟨(.seq (.reg [o1 10 (.mv (.c (.int .i64 0)))])
 (.seq (.reg [o3 13 (.mv (.t 0)),
 o3 14 (.mv (.t 1)),
 o3 15 (.mv (.t 0)),
 o3 16 (.mv (.t 3)),
 o3 17 (.mv (.t 0)),
 o3 18 (.mv (.t 3)),
 o3 19 (.iadr 2 (.t 17) (.t 18)),
 o3 20 (.load 2 true (.t 19)),
 o3 21 (.mv (.t 0)),
 o3 22 (.mv (.t 1)),
 o3 23 (.iadr 2 (.t 21) (.t 22)),
 o3 24 (.load 2 true (.t 23)),
 o1 25 (.iadr 2 (.t 13) (.t 14)),
 o2 (.store 2 (.t 25) (.t 20)),
 o1 26 (.iadr 2 (.t 15) (.t 16)),
 o2 (.store 2 (.t 26) (.t 24))])
 (.seq (.reg [o1 27 (.mv (.t 1)),
 o1 28 (.bin .add (.t 27) (.c (.int .i64 1))),
 o1 29 (.mv (.t 2)),
 o1 30 (.bin .sub (.t 29) (.c (.int .i64 1))),
 o1 11 (.mv (.t 28)),
 o1 12 (.mv (.t 30))])
 (.seq (.block 0
 (.loop b93_0))
 r93_5)))),
 90, [.t 10], 0, []⟩
def b94_0 : IC := (.seq (.seq (.reg [o1 32 (.mv (.t 12)),
 o1 33 (.mv (.t 13)),
 o1 34 (.bin .leq (.t 32) (.t 33)),
 o1 35 (.mv (.t 34)),
 ⟨some 36, .mv (.t 4), (some (35, true)), false⟩,
 ⟨some 37, .mv (.t 0), (some (35, true)), false⟩,
 ⟨some 38, .mv (.t 12), (some (35, true)), false⟩,
 ⟨some 39, .iadr 2 (.t 37) (.t 38), (some (35, true)), false⟩,
 ⟨some 40, .load 2 true (.t 39), (some (35, true)), false⟩,
 ⟨some 41, .mv (.t 0), (some (35, true)), false⟩,
 ⟨some 42, .mv (.t 1), (some (35, true)), false⟩,
 ⟨some 43, .iadr 2 (.t 41) (.t 42), (some (35, true)), false⟩,
 ⟨some 44, .load 2 true (.t 43), (some (35, true)), false⟩,
 o4 45 (.callv (.t 36) [(.t 40), (.t 44)]) 35 true,
 o4 46 (.bin .lss (.t 45) (.c (.int .i64 0))) 35 true,
 o1 47 (.pick (.t 35) (.t 46) (.c (.bool false)))])
 (.cond (.t 47)
 .skip
 (.exit 0)))
 (.block 1
 (.reg [o1 48 (.mv (.t 12)),
 o1 49 (.bin .add (.t 48) (.c (.int .i64 1))),
 o1 12 (.mv (.t 49))])))
def b94_2 : IC := (.seq (.seq (.reg [o1 50 (.mv (.t 12)),
 o1 51 (.mv (.t 13)),
 o1 52 (.bin .leq (.t 50) (.t 51)),
 o1 53 (.mv (.t 52)),
 ⟨some 54, .mv (.t 4), (some (53, true)), false⟩,
 ⟨some 55, .mv (.t 0), (some (53, true)), false⟩,
 ⟨some 56, .mv (.t 13), (some (53, true)), false⟩,
 ⟨some 57, .iadr 2 (.t 55) (.t 56), (some (53, true)), false⟩,
 ⟨some 58, .load 2 true (.t 57), (some (53, true)), false⟩,
 ⟨some 59, .mv (.t 0), (some (53, true)), false⟩,
 ⟨some 60, .mv (.t 1), (some (53, true)), false⟩,
 ⟨some 61, .iadr 2 (.t 59) (.t 60), (some (53, true)), false⟩,
 ⟨some 62, .load 2 true (.t 61), (some (53, true)), false⟩,
 o4 63 (.callv (.t 54) [(.t 58), (.t 62)]) 53 true,
 o4 64 (.bin .lss (.t 63) (.c (.int .i64 0))) 53 true,
 o4 65 (.un .not (.t 64)) 53 true,
 o1 66 (.pick (.t 53) (.t 65) (.c (.bool false)))])
 (.cond (.t 66)
 .skip
 (.exit 2)))
 (.block 3
 (.reg [o1 67 (.mv (.t 13)),
 o1 68 (.bin .sub (.t 67) (.c (.int .i64 1))),
 o1 13 (.mv (.t 68))])))
def b94_5 : IC := (.seq (.seq (.reg [o1 105 (.mv (.t 12)),
 o1 106 (.mv (.t 13)),
 o1 107 (.bin .leq (.t 105) (.t 106)),
 o1 108 (.mv (.t 107)),
 ⟨some 109, .mv (.t 4), (some (108, true)), false⟩,
 ⟨some 110, .mv (.t 0), (some (108, true)), false⟩,
 ⟨some 111, .mv (.t 12), (some (108, true)), false⟩,
 ⟨some 112, .iadr 2 (.t 110) (.t 111), (some (108, true)), false⟩,
 ⟨some 113, .load 2 true (.t 112), (some (108, true)), false⟩,
 ⟨some 114, .mv (.t 0), (some (108, true)), false⟩,
 ⟨some 115, .mv (.t 1), (some (108, true)), false⟩,
 ⟨some 116, .iadr 2 (.t 114) (.t 115), (some (108, true)), false⟩,
 ⟨some 117, .load 2 true (.t 116), (some (108, true)), false⟩,
 o4 118 (.callv (.t 109) [(.t 113), (.t 117)]) 108 true,
 o4 119 (.bin .lss (.t 118) (.c (.int .i64 0))) 108 true,
 o1 120 (.pick (.t 108) (.t 119) (.c (.bool false)))])
 (.cond (.t 120)
 .skip
 (.exit 6)))
 (.block 7
 (.reg [o1 121 (.mv (.t 12)),
 o1 122 (.bin .add (.t 121) (.c (.int .i64 1))),
 o1 12 (.mv (.t 122))])))
def b94_7 : IC := (.seq (.seq (.reg [o1 123 (.mv (.t 12)),
 o1 124 (.mv (.t 13)),
 o1 125 (.bin .leq (.t 123) (.t 124)),
 o1 126 (.mv (.t 125)),
 ⟨some 127, .mv (.t 4), (some (126, true)), false⟩,
 ⟨some 128, .mv (.t 0), (some (126, true)), false⟩,
 ⟨some 129, .mv (.t 13), (some (126, true)), false⟩,
 ⟨some 130, .iadr 2 (.t 128) (.t 129), (some (126, true)), false⟩,
 ⟨some 131, .load 2 true (.t 130), (some (126, true)), false⟩,
 ⟨some 132, .mv (.t 0), (some (126, true)), false⟩,
 ⟨some 133, .mv (.t 1), (some (126, true)), false⟩,
 ⟨some 134, .iadr 2 (.t 132) (.t 133), (some (126, true)), false⟩,
 ⟨some 135, .load 2 true (.t 134), (some (126, true)), false⟩,
 o4 136 (.callv (.t 127) [(.t 131), (.t 135)]) 126 true,
 o4 137 (.bin .lss (.t 136) (.c (.int .i64 0))) 126 true,
 o4 138 (.un .not (.t 137)) 126 true,
 o1 139 (.pick (.t 126) (.t 138) (.c (.bool false)))])
 (.cond (.t 139)
 .skip
 (.exit 8)))
 (.block 9
 (.reg [o1 140 (.mv (.t 13)),
 o1 141 (.bin .sub (.t 140) (.c (.int .i64 1))),
 o1 13 (.mv (.t 141))])))
def r94_8 : IC := (.seq (.seq (.reg [o1 142 (.mv (.t 12)),
 o1 143 (.mv (.t 13)),
 o1 144 (.bin .gtr (.t 142) (.t 143))])
 (.cond (.t 144)
 (.exit 4)
 .skip))
 (.seq (.reg [o3 145 (.mv (.t 0)),
 o3 146 (.mv (.t 12)),
 o3 147 (.mv (.t 0)),
 o3 148 (.mv (.t 13)),
 o3 149 (.mv (.t 0)),
 o3 150 (.mv (.t 13)),
 o3 151 (.iadr 2 (.t 149) (.t 150)),
 o3 152 (.load 2 true (.t 151)),
 o3 153 (.mv (.t 0)),
 o3 154 (.mv (.t 12)),
 o3 155 (.iadr 2 (.t 153) (.t 154)),
 o3 156 (.load 2 true (.t 155)),
 o1 157 (.iadr 2 (.t 145) (.t 146)),
 o2 (.store 2 (.t 157) (.t 152)),
 o1 158 (.iadr 2 (.t 147) (.t 148)),
 o2 (.store 2 (.t 158) (.t 156))])
 (.seq (.reg [o1 159 (.mv (.t 12)),
 o1 160 (.bin .add (.t 159) (.c (.int .i64 1))),
 o1 12 (.mv (.t 160))])
 (.reg [o1 161 (.mv (.t 13)),
 o1 162 (.bin .sub (.t 161) (.c (.int .i64 1))),
 o1 13 (.mv (.t 162))]))))
def r94_6 : IC := (.seq (.block 8
 (.loop b94_7))
 r94_8)
def b94_4 : IC := (.block 5
 (.seq (.block 6
 (.loop b94_5))
 r94_6))
def r94_9 : IC := (.seq (.reg [o3 163 (.mv (.t 0)),
 o3 164 (.mv (.t 13)),
 o3 165 (.mv (.t 0)),
 o3 166 (.mv (.t 1)),
 o3 167 (.mv (.t 0)),
 o3 168 (.mv (.t 1)),
 o3 169 (.iadr 2 (.t 167) (.t 168)),
 o3 170 (.load 2 true (.t 169)),
 o3 171 (.mv (.t 0)),
 o3 172 (.mv (.t 13)),
 o3 173 (.iadr 2 (.t 171) (.t 172)),
 o3 174 (.load 2 true (.t 173)),
 o1 175 (.iadr 2 (.t 163) (.t 164)),
 o2 (.store 2 (.t 175) (.t 170)),
 o1 176 (.iadr 2 (.t 165) (.t 166)),
 o2 (.store 2 (.t 176) (.t 174))])
 (.seq (.reg [o1 177 (.mv (.t 13)),
 o1 10 (.mv (.t 177)),
 o1 11 (.mv (.c (.bool false)))])
 .ret))
def r94_3 : IC := (.seq (.seq (.reg [o1 69 (.mv (.t 12)),
 o1 70 (.mv (.t 13)),
 o1 71 (.bin .gtr (.t 69) (.t 70))])
 (.cond (.t 71)
 (.seq (.reg [o3 72 (.mv (.t 0)),
 o3 73 (.mv (.t 13)),
 o3 74 (.mv (.t 0)),
 o3 75 (.mv (.t 1)),
 o3 76 (.mv (.t 0)),
 o3 77 (.mv (.t 1)),
 o3 78 (.iadr 2 (.t 76) (.t 77)),
 o3 79 (.load 2 true (.t 78)),
 o3 80 (.mv (.t 0)),
 o3 81 (.mv (.t 13)),
 o3 82 (.iadr 2 (.t 80) (.t 81)),
 o3 83 (.load 2 true (.t 82)),
 o1 84 (.iadr 2 (.t 72) (.t 73)),
 o2 (.store 2 (.t 84) (.t 79)),
 o1 85 (.iadr 2 (.t 74) (.t 75)),
 o2 (.store 2 (.t 85) (.t 83))])
 (.seq (.reg [o1 86 (.mv (.t 13)),
 o1 10 (.mv (.t 86)),
 o1 11 (.mv (.c (.bool true)))])
 .ret))
 .skip))
 (.seq (.reg [o3 87 (.mv (.t 0)),
 o3 88 (.mv (.t 12)),
 o3 89 (.mv (.t 0)),
 o3 90 (.mv (.t 13)),
 o3 91 (.mv (.t 0)),
 o3 92 (.mv (.t 13)),
 o3 93 (.iadr 2 (.t 91) (.t 92)),
 o3 94 (.load 2 true (.t 93)),
 o3 95 (.mv (.t 0)),
 o3 96 (.mv (.t 12)),
 o3 97 (.iadr 2 (.t 95) (.t 96)),
 o3 98 (.load 2 true (.t 97)),
 o1 99 (.iadr 2 (.t 87) (.t 88)),
 o2 (.store 2 (.t 99) (.t 94)),
 o1 100 (.iadr 2 (.t 89) (.t 90)),
 o2 (.store 2 (.t 100) (.t 98))])
 (.seq (.reg [o1 101 (.mv (.t 12)),
 o1 102 (.bin .add (.t 101) (.c (.int .i64 1))),
 o1 12 (.mv (.t 102))])
 (.seq (.reg [o1 103 (.mv (.t 13)),
 o1 104 (.bin .sub (.t 103) (.c (.int .i64 1))),
 o1 13 (.mv (.t 104))])
 (.seq (.block 4
 (.loop b94_4))
 r94_9)))))
def r94_1 : IC := (.seq (.block 2
 (.loop b94_2))
 r94_3)
def i94 : IFun := ⟨(.seq (.reg [o1 10 (.mv (.c (.int .i64 0))),
 o1 11 (.mv (.c (.bool false)))])
 (.seq (.reg [o3 14 (.mv (.t 0)),
 o3 15 (.mv (.t 1)),
 o3 16 (.mv (.t 0)),
 o3 17 (.mv (.t 3)),
 o3 18 (.mv (.t 0)),
 o3 19 (.mv (.t 3)),
 o3 20 (.iadr 2 (.t 18) (.t 19)),
 o3 21 (.load 2 true (.t 20)),
 o3 22 (.mv (.t 0)),
 o3 23 (.mv (.t 1)),
 o3 24 (.iadr 2 (.t 22) (.t 23)),
 o3 25 (.load 2 true (.t 24)),
 o1 26 (.iadr 2 (.t 14) (.t 15)),
 o2 (.store 2 (.t 26) (.t 21)),
 o1 27 (.iadr 2 (.t 16) (.t 17)),
 o2 (.store 2 (.t 27) (.t 25))])
 (.seq (.reg [o1 28 (.mv (.t 1)),
 o1 29 (.bin .add (.t 28) (.c (.int .i64 1))),
 o1 30 (.mv (.t 2)),
 o1 31 (.bin .sub (.t 30) (.c (.int .i64 1))),
 o1 12 (.mv (.t 29)),
 o1 13 (.mv (.t 31))])
 (.seq (.block 0
 (.loop b94_0))
 r94_1)))),
 178, [.t 10, .t 11], 0, []⟩
def r95_1 : IC := (.seq (.reg [o1 13 (.mv (.t 2)),
 o1 14 (.mv (.t 0)),
 o1 15 (.conv .u8 (.t 14)),
 o1 16 (.sidx (.c (.str [0, 1, 2, 2, 3, 3, 3, 3, 4, 4, 4, 4, 4, 4, 4, 4, 5, 5, 5, 5, 5, 5, 5, 5, 5, 5, 5, 5, 5, 5, 5, 5, 6, 6, 6, 6, 6, 6, 6, 6, 6, 6, 6, 6, 6, 6, 6, 6, 6, 6, 6, 6, 6, 6, 6, 6, 6, 6, 6, 6, 6, 6, 6, 6, 7, 7, 7, 7, 7, 7, 7, 7, 7, 7, 7, 7, 7, 7, 7, 7, 7, 7, 7, 7, 7, 7, 7, 7, 7, 7, 7, 7, 7, 7, 7, 7, 7, 7, 7, 7, 7, 7, 7, 7, 7, 7, 7, 7, 7, 7, 7, 7, 7, 7, 7, 7, 7, 7, 7, 7, 7, 7, 7, 7, 7, 7, 7, 7, 8, 8, 8, 8, 8, 8, 8, 8, 8, 8, 8, 8, 8, 8, 8, 8, 8, 8, 8, 8, 8, 8, 8, 8, 8, 8, 8, 8, 8, 8, 8, 8, 8, 8, 8, 8, 8, 8, 8, 8, 8, 8, 8, 8, 8, 8, 8, 8, 8, 8, 8, 8, 8, 8, 8, 8, 8, 8, 8, 8, 8, 8, 8, 8, 8, 8, 8, 8, 8, 8, 8, 8, 8, 8, 8, 8, 8, 8, 8, 8, 8, 8, 8, 8, 8, 8, 8, 8, 8, 8, 8, 8, 8, 8, 8, 8, 8, 8, 8, 8, 8, 8, 8, 8, 8, 8, 8, 8, 8, 8, 8, 8, 8, 8, 8, 8, 8, 8, 8, 8, 8, 8, 8, 8, 8, 8, 8, 8])) (.t 15)),
 o1 17 (.conv .i64 (.t 16)),
 o1 18 (.bin .add (.t 13) (.t 17)),
 o1 2 (.mv (.t 18))])
 .ret)
def r95_0 : IC := (.seq (.seq (.reg [o1 7 (.mv (.t 0)),
 o1 8 (.bin .geq (.t 7) (.c (.int .u32 256)))])
 (.cond (.t 8)
 (.seq (.reg [o1 9 (.mv (.t 0)),
 o1 10 (.bin .shr (.t 9) (.c (.int .u64 8))),
 o1 0 (.mv (.t 10))])
 (.reg [o1 11 (.mv (.t 2)),
 o1 12 (.bin .add (.t 11) (.c (.int .i64 8))),
 o1 2 (.mv (.t 12))]))
 .skip))
 r95_1)
def i95 : IFun := ⟨(.seq (.reg [o1 2 (.mv (.c (.int .i64 0)))])
 (.seq (.seq (.reg [o1 3 (.mv (.t 0)),
 o1 4 (.bin .geq (.t 3) (.c (.int .u32 65536)))])
 (.cond (.t 4)
 (.seq (.reg [o1 5 (.mv (.t 0)),
 o1 6 (.bin .shr (.t 5) (.c (.int .u64 16))),
 o1 0 (.mv (.t 6))])
 (.reg [o1 2 (.mv (.c (.int .i64 16)))]))
 .skip))
 r95_0)),
 19, [.t 2], 1, []⟩
def r96_2 : IC := (.seq (.reg [o1 19 (.mv (.t 2)),
 o1 20 (.mv (.t 0)),
 o1 21 (.conv .u8 (.t 20)),
 o1 22 (.sidx (.c (.str [0, 1, 2, 2, 3, 3, 3, 3, 4, 4, 4, 4, 4, 4, 4, 4, 5, 5, 5, 5, 5, 5, 5, 5, 5, 5, 5, 5, 5, 5, 5, 5, 6, 6, 6, 6, 6, 6, 6, 6, 6, 6, 6, 6, 6, 6, 6, 6, 6, 6, 6, 6, 6, 6, 6, 6, 6, 6, 6, 6, 6, 6, 6, 6, 7, 7, 7, 7, 7, 7, 7, 7, 7, 7, 7, 7, 7, 7, 7, 7, 7, 7, 7, 7, 7, 7, 7, 7, 7, 7, 7, 7, 7, 7, 7, 7, 7, 7, 7, 7, 7, 7, 7, 7, 7, 7, 7, 7, 7, 7, 7, 7, 7, 7, 7, 7, 7, 7, 7, 7, 7, 7, 7, 7, 7, 7, 7, 7, 8, 8, 8, 8, 8, 8, 8, 8, 8, 8, 8, 8, 8, 8, 8, 8, 8, 8, 8, 8, 8, 8, 8, 8, 8, 8, 8, 8, 8, 8, 8, 8, 8, 8, 8, 8, 8, 8, 8, 8, 8, 8, 8, 8, 8, 8, 8, 8, 8, 8, 8, 8, 8, 8, 8, 8, 8, 8, 8, 8, 8, 8, 8, 8, 8, 8, 8, 8, 8, 8, 8, 8, 8, 8, 8, 8, 8, 8, 8, 8, 8, 8, 8, 8, 8, 8, 8, 8, 8, 8, 8, 8, 8, 8, 8, 8, 8, 8, 8, 8, 8, 8, 8, 8, 8, 8, 8, 8, 8, 8, 8, 8, 8, 8, 8, 8, 8, 8, 8, 8, 8, 8, 8, 8, 8, 8, 8, 8])) (.t 21)),
 o1 23 (.conv .i64 (.t 22)),
 o1 24 (.bin .add (.t 19) (.t 23)),
 o1 2 (.mv (.t 24))])
 .ret)
def r96_1 : IC := (.seq (.seq (.reg [o1 13 (.mv (.t 0)),
 o1 14 (.bin .geq (.t 13) (.c (.int .u64 256)))])
 (.cond (.t 14)
 (.seq (.reg [o1 15 (.mv (.t 0)),
 o1 16 (.bin .shr (.t 15) (.c (.int .u64 8))),
 o1 0 (.mv (.t 16))])
 (.reg [o1 17 (.mv (.t 2)),
 o1 18 (.bin .add (.t 17) (.c (.int .i64 8))),
 o1 2 (.mv (.t 18))]))
 .skip))
 r96_2)
def r96_0 : IC := (.seq (.seq (.reg [o1 7 (.mv (.t 0)),
 o1 8 (.bin .geq (.t 7) (.c (.int .u64 65536)))])
 (.cond (.t 8)
 (.seq (.reg [o1 9 (.mv (.t 0)),
 o1 10 (.bin .shr (.t 9) (.c (.int .u64 16))),
 o1 0 (.mv (.t 10))])
 (.reg [o1 11 (.mv (.t 2)),
 o1 12 (.bin .add (.t 11) (.c (.int .i64 16))),
 o1 2 (.mv (.t 12))]))
 .skip))
 r96_1)
def i96 : IFun := ⟨(.seq (.reg [o1 2 (.mv (.c (.int .i64 0)))])
 (.seq (.seq (.reg [o1 3 (.mv (.t 0)),
 o1 4 (.bin .geq (.t 3) (.c (.int .u64 4294967296)))])
 (.cond (.t 4)
 (.seq (.reg [o1 5 (.mv (.t 0)),
 o1 6 (.bin .shr (.t 5) (.c (.int .u64 32))),
 o1 0 (.mv (.t 6))])
 (.reg [o1 2 (.mv (.c (.int .i64 32)))]))
 .skip))
 r96_0)),
 25, [.t 2], 1, []⟩
def b97_0 : IC := (.seq (.reg [o1 11 (.nxt (.t 10)),
 o1 12 (.ext 0 (.t 11))])
 (.seq (.cond (.t 12)
 .skip
 (.exit 0))
 (.block 1
 (.seq (.reg [o1 13 (.ext 1 (.t 11)),
 o1 14 (.ext 2 (.t 11)),
 o1 7 (.mv (.t 13)),
 o1 8 (.mv (.t 14))])
 (.seq (.reg [o1 15 (.mv (.t 1)),
 o1 16 (.mv (.t 8)),
 o1 17 (.callv (.t 15) [(.t 16)]),
 o1 18 (.mv (.t 2)),
 o1 19 (.eq .bool false (.t 17) (.t 18))])
 (.cond (.t 19)
 (.seq (.reg [o1 20 (.mv (.t 7)),
 o1 6 (.mv (.t 20))])
 .ret)
 .skip))))))
def r97_1 : IC := (.seq (.reg [o1 6 (.mv (.c (.int .i64 (-1))))])
 .ret)
def i97 : IFun := ⟨(.seq (.reg [o1 6 (.mv (.c (.int .i64 0)))])
 (.seq (.seq (.reg [o1 9 (.mv (.t 0)),
 o1 10 (.rng (.t 9))])
 (.block 0
 (.loop b97_0)))
 r97_1)),
 21, [.t 6], 1, []⟩
def r98_1 : IC := (.seq (.seq (.reg [o3 43 (.mv (.t 4)),
 o3 44 (.mv (.t 0)),
 o3 45 (.mv (.t 3)),
 o3 46 (.mv (.t 10)),
 o3 47 (.bin .add (.t 45) (.t 46)),
 o3 48 (.iadr 2 (.t 44) (.t 47)),
 o3 49 (.load 2 true (.t 48)),
 o3 50 (.mv (.t 0)),
 o3 51 (.mv (.t 3)),
 o3 52 (.mv (.t 11)),
 o3 53 (.bin .add (.t 51) (.t 52)),
 o3 54 (.iadr 2 (.t 50) (.t 53)),
 o3 55 (.load 2 true (.t 54)),
 o1 56 (.callv (.t 43) [(.t 49), (.t 55)]),
 o1 57 (.bin .lss (.t 56) (.c (.int .i64 0))),
 o1 58 (.un .not (.t 57))])
 (.cond (.t 58)
 .ret
 .skip))
 (.seq (.reg [o3 59 (.mv (.t 0)),
 o3 60 (.mv (.t 3)),
 o3 61 (.mv (.t 10)),
 o3 62 (.bin .add (.t 60) (.t 61)),
 o3 63 (.mv (.t 0)),
 o3 64 (.mv (.t 3)),
 o3 65 (.mv (.t 11)),
 o3 66 (.bin .add (.t 64) (.t 65)),
 o3 67 (.mv (.t 0)),
 o3 68 (.mv (.t 3)),
 o3 69 (.mv (.t 11)),
 o3 70 (.bin .add (.t 68) (.t 69)),
 o3 71 (.iadr 2 (.t 67) (.t 70)),
 o3 72 (.load 2 true (.t 71)),
 o3 73 (.mv (.t 0)),
 o3 74 (.mv (.t 3)),
 o3 75 (.mv (.t 10)),
 o3 76 (.bin .add (.t 74) (.t 75)),
 o3 77 (.iadr 2 (.t 73) (.t 76)),
 o3 78 (.load 2 true (.t 77)),
 o1 79 (.iadr 2 (.t 59) (.t 62)),
 o2 (.store 2 (.t 79) (.t 72)),
 o1 80 (.iadr 2 (.t 63) (.t 66)),
 o2 (.store 2 (.t 80) (.t 78))])
 (.reg [o1 81 (.mv (.t 11)),
 o1 10 (.mv (.t 81))])))
def b98_0 : IC := (.block 1
 (.seq (.reg [o1 13 (.mv (.t 10)),
 o1 14 (.bin .mul (.c (.int .i64 2)) (.t 13)),
 o1 15 (.bin .add (.t 14) (.c (.int .i64 1))),
 o1 11 (.mv (.t 15))])
 (.seq (.seq (.reg [o1 16 (.mv (.t 11)),
 o1 17 (.mv (.t 2)),
 o1 18 (.bin .geq (.t 16) (.t 17))])
 (.cond (.t 18)
 (.exit 0)
 .skip))
 (.seq (.seq (.reg [o1 19 (.mv (.t 11)),
 o1 20 (.bin .add (.t 19) (.c (.int .i64 1))),
 o1 21 (.mv (.t 2)),
 o1 22 (.bin .lss (.t 20) (.t 21)),
 o1 23 (.mv (.t 22)),
 ⟨some 24, .mv (.t 4), (some (23, true)), false⟩,
 ⟨some 25, .mv (.t 0), (some (23, true)), false⟩,
 ⟨some 26, .mv (.t 3), (some (23, true)), false⟩,
 ⟨some 27, .mv (.t 11), (some (23, true)), false⟩,
 ⟨some 28, .bin .add (.t 26) (.t 27), (some (23, true)), false⟩,
 ⟨some 29, .iadr 2 (.t 25) (.t 28), (some (23, true)), false⟩,
 ⟨some 30, .load 2 true (.t 29), (some (23, true)), false⟩,
 ⟨some 31, .mv (.t 0), (some (23, true)), false⟩,
 ⟨some 32, .mv (.t 3), (some (23, true)), false⟩,
 ⟨some 33, .mv (.t 11), (some (23, true)), false⟩,
 ⟨some 34, .bin .add (.t 32) (.t 33), (some (23, true)), false⟩,
 ⟨some 35, .bin .add (.t 34) (.c (.int .i64 1)), (some (23, true)), false⟩,
 ⟨some 36, .iadr 2 (.t 31) (.t 35), (some (23, true)), false⟩,
 ⟨some 37, .load 2 true (.t 36), (some (23, true)), false⟩,
 o4 38 (.callv (.t 24) [(.t 30), (.t 37)]) 23 true,
 o4 39 (.bin .lss (.t 38) (.c (.int .i64 0))) 23 true,
 o1 40 (.pick (.t 23) (.t 39) (.c (.bool false)))])
 (.cond (.t 40)
 (.reg [o1 41 (.mv (.t 11)),
 o1 42 (.bin .add (.t 41) (.c (.int .i64 1))),
 o1 11 (.mv (.t 42))])
 .skip))
 r98_1))))
def i98 : IFun := ⟨(.seq (.reg [o1 12 (.mv (.t 1)),
 o1 10 (.mv (.t 12))])
 (.block 0
 (.loop b98_0))),
 82, [], 0, []⟩
def i99 : IFun := ⟨(.seq (.reg [o1 2 (.mv (.c (.int .u64 0)))])
 (.seq (.reg [o1 3 (.mv (.t 0)),
 o1 4 (.conv .u64 (.t 3)),
 o1 5 (.callf 84 [(.t 4)]),
 o1 6 (.bin .shl (.c (.int .u64 1)) (.t 5)),
 o1 2 (.mv (.t 6))])
 .ret)),
 7, [.t 2], 1, []⟩
def i100 : IFun := ⟨(.seq (.reg [o1 2 (.mv (.c (.int .u64 0)))])
 (.seq (.reg [o3 3 (.mv (.t 0)),
 o3 4 (.nilck (.t 3)),
 o3 5 (.load 1 false (.t 4)),
 o3 6 (.mv (.t 0)),
 o3 7 (.nilck (.t 6)),
 o3 8 (.load 1 false (.t 7)),
 o3 9 (.bin .shl (.t 8) (.c (.int .u64 13))),
 o1 10 (.bin .xor (.t 5) (.t 9)),
 o1 11 (.nilck (.t 3)),
 o2 (.store 1 (.t 11) (.t 10))])
 (.seq (.reg [o3 12 (.mv (.t 0)),
 o3 13 (.nilck (.t 12)),
 o3 14 (.load 1 false (.t 13)),
 o3 15 (.mv (.t 0)),
 o3 16 (.nilck (.t 15)),
 o3 17 (.load 1 false (.t 16)),
 o3 18 (.bin .shr (.t 17) (.c (.int .u64 7))),
 o1 19 (.bin .xor (.t 14) (.t 18)),
 o1 20 (.nilck (.t 12)),
 o2 (.store 1 (.t 20) (.t 19))])
 (.seq (.reg [o3 21 (.mv (.t 0)),
 o3 22 (.nilck (.t 21)),
 o3 23 (.load 1 false (.t 22)),
 o3 24 (.mv (.t 0)),
 o3 25 (.nilck (.t 24)),
 o3 26 (.load 1 false (.t 25)),
 o3 27 (.bin .shl (.t 26) (.c (.int .u64 17))),
 o1 28 (.bin .xor (.t 23) (.t 27)),
 o1 29 (.nilck (.t 21)),
 o2 (.store 1 (.t 29) (.t 28))])
 (.seq (.reg [o1 30 (.mv (.t 0)),
 o1 31 (.nilck (.t 30)),
 o1 32 (.load 1 false (.t 31)),
 o1 2 (.mv (.t 32))])
 .ret))))),
 33, [.t 2], 0, []⟩
def i101 : IFun := ⟨(.seq (.reg [o1 8 (.mv (.c (.int .i64 0)))])
 (.seq (.reg [o1 9 (.mv (.t 0)),
 o1 10 (.mv (.t 1)),
 o1 11 (.bin .sub (.t 10) (.c (.int .i64 1))),
 o1 12 (.mv (.t 1)),
 o1 13 (.mv (.t 1)),
 o1 14 (.bin .add (.t 13) (.c (.int .i64 1))),
 o1 15 (.mv (.t 2)),
 o1 16 (.mv (.t 3)),
 o1 17 (.callf 102 [(.t 9), (.t 11), (.t 12), (.t 14), (.t 15), (.t 16)]),
 o1 8 (.mv (.t 17))])
 .ret)),
 18, [.t 8], 0, []⟩
def i102 : IFun := ⟨(.seq (.reg [o1 12 (.mv (.c (.int .i64 0)))])
 (.seq (.reg [o1 14 (.mv (.t 0)),
 o1 15 (.mv (.t 1)),
 o1 16 (.mv (.t 2)),
 o1 17 (.mv (.t 4)),
 o1 18 (.mv (.t 5)),
 o1 19 (.callf 103 [(.t 14), (.t 15), (.t 16), (.t 17), (.t 18)]),
 o1 13 (.mv (.t 19)),
 o1 20 (.ext 0 (.t 13)),
 o1 21 (.ext 1 (.t 13)),
 o1 1 (.mv (.t 20)),
 o1 2 (.mv (.t 21))])
 (.seq (.reg [o1 23 (.mv (.t 0)),
 o1 24 (.mv (.t 2)),
 o1 25 (.mv (.t 3)),
 o1 26 (.mv (.t 4)),
 o1 27 (.mv (.t 5)),
 o1 28 (.callf 103 [(.t 23), (.t 24), (.t 25), (.t 26), (.t 27)]),
 o1 22 (.mv (.t 28)),
 o1 29 (.ext 0 (.t 22)),
 o1 30 (.ext 1 (.t 22)),
 o1 2 (.mv (.t 29)),
 o1 3 (.mv (.t 30))])
 (.seq (.reg [o1 32 (.mv (.t 0)),
 o1 33 (.mv (.t 1)),
 o1 34 (.mv (.t 2)),
 o1 35 (.mv (.t 4)),
 o1 36 (.mv (.t 5)),
 o1 37 (.callf 103 [(.t 32), (.t 33), (.t 34), (.t 35), (.t 36)]),
 o1 31 (.mv (.t 37)),
 o1 38 (.ext 0 (.t 31)),
 o1 39 (.ext 1 (.t 31)),
 o1 1 (.mv (.t 38)),
 o1 2 (.mv (.t 39))])
 (.seq (.reg [o1 40 (.mv (.t 2)),
 o1 12 (.mv (.t 40))])
 .ret))))),
 41, [.t 12], 0, []⟩
def i103 : IFun := ⟨(.seq (.reg [o1 10 (.mv (.c (.int .i64 0))),
 o1 11 (.mv (.c (.int .i64 0)))])
 (.seq (.seq (.reg [o3 12 (.mv (.t 4)),
 o3 13 (.mv (.t 0)),
 o3 14 (.mv (.t 2)),
 o3 15 (.iadr 2 (.t 13) (.t 14)),
 o3 16 (.load 2 true (.t 15)),
 o3 17 (.mv (.t 0)),
 o3 18 (.mv (.t 1)),
 o3 19 (.iadr 2 (.t 17) (.t 18)),
 o3 20 (.load 2 true (.t 19)),
 o1 21 (.callv (.t 12) [(.t 16), (.t 20)]),
 o1 22 (.bin .lss (.t 21) (.c (.int .i64 0)))])
 (.cond (.t 22)
 (.seq (.reg [o1 23 (.mv (.t 3)),
 o1 24 (.nilck (.t 23)),
 o1 25 (.load 1 false (.t 24)),
 o1 26 (.bin .add (.t 25) (.c (.int .i64 1))),
 o1 27 (.nilck (.t 23)),
 o2 (.store 1 (.t 27) (.t 26))])
 (.seq (.reg [o1 28 (.mv (.t 2)),
 o1 29 (.mv (.t 1)),
 o1 10 (.mv (.t 28)),
 o1 11 (.mv (.t 29))])
 .ret))
 .skip))
 (.seq (.reg [o1 30 (.mv (.t 1)),
 o1 31 (.mv (.t 2)),
 o1 10 (.mv (.t 30)),
 o1 11 (.mv (.t 31))])
 .ret))),
 32, [.t 10, .t 11], 0, []⟩
def G : Prog := [(8, i8), (10, i10), (11, i11), (12, i12), (14, i14), (15, i15), (16, i16), (17, i17), (19, i19), (22, i22), (24, i24), (25, i25), (26, i26), (29, i29), (30, i30), (31, i31), (32, i32), (33, i33), (34, i34), (35, i35), (36, i36), (38, i38), (39, i39), (40, i40), (41, i41), (42, i42), (43, i43), (44, i44), (45, i45), (46, i46), (47, i47), (48, i48), (49, i49), (50, i50), (51, i51), (52, i52), (53, i53), (55, i55), (56, i56), (57, i57), (58, i58), (59, i59), (60, i60), (61, i61), (62, i62), (63, i63), (64, i64), (65, i65), (66, i66), (67, i67), (68, i68), (69, i69), (70, i70), (71, i71), (72, i72), (73, i73), (74, i74), (75, i75), (76, i76), (77, i77), (78, i78), (79, i79), (80, i80), (81, i81), (82, i82), (83, i83), (84, i84), (85, i85), (86, i86), (87, i87), (88, i88), (89, i89), (90, i90), (91, i91), (92, i92), (93, i93), (94, i94), (95, i95), (96, i96), (97, i97), (98, i98), (99, i99), (100, i100), (101, i101), (102, i102), (103, i103)]
abbrev gd (t : List V) (i : Nat) : V := t.getD i undefV
end Go.Proofs.Ytoommmeapdkopaa.E
