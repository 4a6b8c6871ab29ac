/- The interpreter code of the functions that the statement reaches, printed out of the translation; the tie proves that it is the loaded program. No conditions. -/
import Derived.Test.YtoommmeapdkopaaZC1
set_option maxRecDepth 20000
namespace Go.Proofs.Ytoommmeapdkopaa.E
open Go Go.Eng
/-- slices.breakPatternsCmpFunc[dowel/graph.Edge] -/
def r89_1 : IC := (.reg [⟨some 49, .mv (.t 0), none, false⟩,
 ⟨some 50, .mv (.t 11), none, false⟩,
 ⟨some 51, .mv (.t 0), none, false⟩,
 ⟨some 52, .mv (.t 1), none, false⟩,
 ⟨some 53, .mv (.t 12), none, false⟩,
 ⟨some 54, .bin .add (.t 52) (.t 53), none, false⟩,
 ⟨some 55, .mv (.t 0), none, false⟩,
 ⟨some 56, .mv (.t 1), none, false⟩,
 ⟨some 57, .mv (.t 12), none, false⟩,
 ⟨some 58, .bin .add (.t 56) (.t 57), none, false⟩,
 ⟨some 59, .iadr 2 (.t 55) (.t 58), none, false⟩,
 ⟨some 60, .load 2 true (.t 59), none, false⟩,
 ⟨some 61, .mv (.t 0), none, false⟩,
 ⟨some 62, .mv (.t 11), none, false⟩,
 ⟨some 63, .iadr 2 (.t 61) (.t 62), none, false⟩,
 ⟨some 64, .load 2 true (.t 63), none, false⟩,
 ⟨some 65, .iadr 2 (.t 49) (.t 50), none, true⟩,
 ⟨none, .store 2 (.t 65) (.t 60), none, true⟩,
 ⟨some 66, .iadr 2 (.t 51) (.t 54), none, true⟩,
 ⟨none, .store 2 (.t 66) (.t 64), none, true⟩])
def r89_2 : IC := (.reg [⟨some 36, .mv (.t 11), none, true⟩,
 ⟨some 37, .bin .add (.t 36) (.c (.int .i64 1)), none, true⟩,
 ⟨some 11, .mv (.t 37), none, true⟩])
def b89_0 : IC := (.seq (.seq (.reg [⟨some 28, .mv (.t 11), none, true⟩,
 ⟨some 29, .mv (.t 1), none, true⟩,
 ⟨some 30, .mv (.t 8), none, true⟩,
 ⟨some 31, .bin .quo (.t 30) (.c (.int .i64 4)), none, true⟩,
 ⟨some 32, .bin .mul (.t 31) (.c (.int .i64 2)), none, true⟩,
 ⟨some 33, .bin .add (.t 29) (.t 32), none, true⟩,
 ⟨some 34, .bin .add (.t 33) (.c (.int .i64 1)), none, true⟩,
 ⟨some 35, .bin .leq (.t 28) (.t 34), none, true⟩])
 (.cond (.t 35)
 .skip
 (.exit 0)))
 (.seq (.block 1
 (.seq (.reg [⟨some 38, .callf 100 [(.t 9)], none, true⟩,
 ⟨some 39, .mv (.t 10), none, true⟩,
 ⟨some 40, .bin .sub (.t 39) (.c (.int .u64 1)), none, true⟩,
 ⟨some 41, .bin .and (.t 38) (.t 40), none, true⟩,
 ⟨some 42, .conv .i64 (.t 41), none, true⟩,
 ⟨some 12, .mv (.t 42), none, true⟩])
 (.seq (.seq (.reg [⟨some 43, .mv (.t 12), none, true⟩,
 ⟨some 44, .mv (.t 8), none, true⟩,
 ⟨some 45, .bin .geq (.t 43) (.t 44), none, true⟩])
 (.cond (.t 45)
 (.reg [⟨some 46, .mv (.t 12), none, true⟩,
 ⟨some 47, .mv (.t 8), none, true⟩,
 ⟨some 48, .bin .sub (.t 46) (.t 47), none, true⟩,
 ⟨some 12, .mv (.t 48), none, true⟩])
 .skip))
 r89_1)))
 r89_2))
def i89 : IFun := ⟨(.seq (.reg [⟨some 13, .mv (.t 2), none, true⟩,
 ⟨some 14, .mv (.t 1), none, true⟩,
 ⟨some 15, .bin .sub (.t 13) (.t 14), none, true⟩,
 ⟨some 8, .mv (.t 15), none, true⟩])
 (.seq (.reg [⟨some 16, .mv (.t 8), none, true⟩,
 ⟨some 17, .bin .geq (.t 16) (.c (.int .i64 8)), none, true⟩])
 (.cond (.t 17)
 (.seq (.reg [⟨some 18, .mv (.t 8), none, true⟩,
 ⟨some 19, .conv .u64 (.t 18), none, true⟩,
 ⟨some 9, .alloc [(.int .u64 0)], none, true⟩,
 ⟨none, .store 1 (.t 9) (.t 19), none, true⟩])
 (.seq (.reg [⟨some 20, .mv (.t 8), none, true⟩,
 ⟨some 21, .callf 99 [(.t 20)], none, true⟩,
 ⟨some 10, .mv (.t 21), none, true⟩])
 (.seq (.reg [⟨some 22, .mv (.t 1), none, true⟩,
 ⟨some 23, .mv (.t 8), none, true⟩,
 ⟨some 24, .bin .quo (.t 23) (.c (.int .i64 4)), none, true⟩,
 ⟨some 25, .bin .mul (.t 24) (.c (.int .i64 2)), none, true⟩,
 ⟨some 26, .bin .add (.t 22) (.t 25), none, true⟩,
 ⟨some 27, .bin .sub (.t 26) (.c (.int .i64 1)), none, true⟩,
 ⟨some 11, .mv (.t 27), none, true⟩])
 (.block 0
 (.loop b89_0)))))
 .skip))),
 67, [], 0, []⟩
/-- slices.choosePivotCmpFunc[dowel/graph.Edge] -/
def r90_0 : IC := (.reg [⟨some 49, .mv (.t 0), none, true⟩,
 ⟨some 50, .mv (.t 12), none, true⟩,
 ⟨some 51, .mv (.t 13), none, true⟩,
 ⟨some 52, .mv (.t 14), none, true⟩,
 ⟨some 53, .mv (.t 3), none, true⟩,
 ⟨some 54, .callf 102 [(.t 49), (.t 50), (.t 51), (.t 52), (.t 11), (.t 53)], none, true⟩,
 ⟨some 13, .mv (.t 54), none, true⟩])
def r90_1 : IC := (.seq (.reg [⟨some 55, .load 1 false (.t 11), none, true⟩])
 (.block 0
 (.seq (.reg [⟨some 58, .bin .eql (.t 55) (.c (.int .i64 0)), none, true⟩,
 ⟨some 57, .mv (.t 58), none, true⟩])
 (.cond (.t 57)
 (.seq (.reg [⟨some 59, .mv (.t 13), none, true⟩,
 ⟨some 8, .mv (.t 59), none, true⟩,
 ⟨some 9, .mv (.c (.int .i64 1)), none, true⟩])
 .ret)
 (.seq (.reg [⟨some 61, .bin .eql (.t 55) (.c (.int .i64 12)), none, true⟩,
 ⟨some 60, .mv (.t 61), none, true⟩])
 (.cond (.t 60)
 (.seq (.reg [⟨some 62, .mv (.t 13), none, true⟩,
 ⟨some 8, .mv (.t 62), none, true⟩,
 ⟨some 9, .mv (.c (.int .i64 2)), none, true⟩])
 .ret)
 (.seq (.reg [⟨some 56, .mv (.t 13), none, true⟩,
 ⟨some 8, .mv (.t 56), none, true⟩,
 ⟨some 9, .mv (.c (.int .i64 0)), none, true⟩])
 .ret)))))))
def i90 : IFun := ⟨(.seq (.reg [⟨some 8, .mv (.c (.int .i64 0)), none, true⟩,
 ⟨some 9, .mv (.c (.int .i64 0)), none, true⟩])
 (.seq (.reg [⟨some 15, .mv (.t 2), none, true⟩,
 ⟨some 16, .mv (.t 1), none, true⟩,
 ⟨some 17, .bin .sub (.t 15) (.t 16), none, true⟩,
 ⟨some 10, .mv (.t 17), none, true⟩])
 (.seq (.reg [⟨some 11, .alloc [(.int .i64 0)], none, true⟩])
 (.seq (.reg [⟨some 18, .mv (.t 1), none, true⟩,
 ⟨some 19, .mv (.t 10), none, true⟩,
 ⟨some 20, .bin .quo (.t 19) (.c (.int .i64 4)), none, true⟩,
 ⟨some 21, .bin .mul (.t 20) (.c (.int .i64 1)), none, true⟩,
 ⟨some 22, .bin .add (.t 18) (.t 21), none, true⟩,
 ⟨some 12, .mv (.t 22), none, true⟩])
 (.seq (.reg [⟨some 23, .mv (.t 1), none, true⟩,
 ⟨some 24, .mv (.t 10), none, true⟩,
 ⟨some 25, .bin .quo (.t 24) (.c (.int .i64 4)), none, true⟩,
 ⟨some 26, .bin .mul (.t 25) (.c (.int .i64 2)), none, true⟩,
 ⟨some 27, .bin .add (.t 23) (.t 26), none, true⟩,
 ⟨some 13, .mv (.t 27), none, true⟩])
 (.seq (.reg [⟨some 28, .mv (.t 1), none, true⟩,
 ⟨some 29, .mv (.t 10), none, true⟩,
 ⟨some 30, .bin .quo (.t 29) (.c (.int .i64 4)), none, true⟩,
 ⟨some 31, .bin .mul (.t 30) (.c (.int .i64 3)), none, true⟩,
 ⟨some 32, .bin .add (.t 28) (.t 31), none, true⟩,
 ⟨some 14, .mv (.t 32), none, true⟩])
 (.seq (.seq (.reg [⟨some 33, .mv (.t 10), none, true⟩,
 ⟨some 34, .bin .geq (.t 33) (.c (.int .i64 8)), none, true⟩])
 (.cond (.t 34)
 (.seq (.seq (.reg [⟨some 35, .mv (.t 10), none, true⟩,
 ⟨some 36, .bin .geq (.t 35) (.c (.int .i64 50)), none, true⟩])
 (.cond (.t 36)
 (.seq (.reg [⟨some 37, .mv (.t 0), none, true⟩,
 ⟨some 38, .mv (.t 12), none, true⟩,
 ⟨some 39, .mv (.t 3), none, true⟩,
 ⟨some 40, .callf 101 [(.t 37), (.t 38), (.t 11), (.t 39)], none, true⟩,
 ⟨some 12, .mv (.t 40), none, true⟩])
 (.seq (.reg [⟨some 41, .mv (.t 0), none, true⟩,
 ⟨some 42, .mv (.t 13), none, true⟩,
 ⟨some 43, .mv (.t 3), none, true⟩,
 ⟨some 44, .callf 101 [(.t 41), (.t 42), (.t 11), (.t 43)], none, true⟩,
 ⟨some 13, .mv (.t 44), none, true⟩])
 (.reg [⟨some 45, .mv (.t 0), none, true⟩,
 ⟨some 46, .mv (.t 14), none, true⟩,
 ⟨some 47, .mv (.t 3), none, true⟩,
 ⟨some 48, .callf 101 [(.t 45), (.t 46), (.t 11), (.t 47)], none, true⟩,
 ⟨some 14, .mv (.t 48), none, true⟩])))
 .skip))
 r90_0)
 .skip))
 r90_1))))))),
 63, [.t 8, .t 9], 0, []⟩
/-- slices.reverseRangeCmpFunc[dowel/graph.Edge] -/
def b91_0 : IC := (.seq (.seq (.reg [⟨some 13, .mv (.t 8), none, true⟩,
 ⟨some 14, .mv (.t 9), none, true⟩,
 ⟨some 15, .bin .lss (.t 13) (.t 14), none, true⟩])
 (.cond (.t 15)
 .skip
 (.exit 0)))
 (.block 1
 (.seq (.reg [⟨some 16, .mv (.t 0), none, false⟩,
 ⟨some 17, .mv (.t 8), none, false⟩,
 ⟨some 18, .mv (.t 0), none, false⟩,
 ⟨some 19, .mv (.t 9), none, false⟩,
 ⟨some 20, .mv (.t 0), none, false⟩,
 ⟨some 21, .mv (.t 9), none, false⟩,
 ⟨some 22, .iadr 2 (.t 20) (.t 21), none, false⟩,
 ⟨some 23, .load 2 true (.t 22), none, false⟩,
 ⟨some 24, .mv (.t 0), none, false⟩,
 ⟨some 25, .mv (.t 8), none, false⟩,
 ⟨some 26, .iadr 2 (.t 24) (.t 25), none, false⟩,
 ⟨some 27, .load 2 true (.t 26), none, false⟩,
 ⟨some 28, .iadr 2 (.t 16) (.t 17), none, true⟩,
 ⟨none, .store 2 (.t 28) (.t 23), none, true⟩,
 ⟨some 29, .iadr 2 (.t 18) (.t 19), none, true⟩,
 ⟨none, .store 2 (.t 29) (.t 27), none, true⟩])
 (.seq (.reg [⟨some 30, .mv (.t 8), none, true⟩,
 ⟨some 31, .bin .add (.t 30) (.c (.int .i64 1)), none, true⟩,
 ⟨some 8, .mv (.t 31), none, true⟩])
 (.reg [⟨some 32, .mv (.t 9), none, true⟩,
 ⟨some 33, .bin .sub (.t 32) (.c (.int .i64 1)), none, true⟩,
 ⟨some 9, .mv (.t 33), none, true⟩])))))
def i91 : IFun := ⟨(.seq (.reg [⟨some 10, .mv (.t 1), none, true⟩,
 ⟨some 8, .mv (.t 10), none, true⟩])
 (.seq (.reg [⟨some 11, .mv (.t 2), none, true⟩,
 ⟨some 12, .bin .sub (.t 11) (.c (.int .i64 1)), none, true⟩,
 ⟨some 9, .mv (.t 12), none, true⟩])
 (.block 0
 (.loop b91_0)))),
 34, [], 0, []⟩
/-- slices.partialInsertionSortCmpFunc[dowel/graph.Edge] -/
def b92_1 : IC := (.seq (.seq (.reg [⟨some 19, .mv (.t 9), none, true⟩,
 ⟨some 20, .mv (.t 2), none, true⟩,
 ⟨some 21, .bin .lss (.t 19) (.t 20), none, true⟩,
 ⟨some 22, .mv (.t 21), none, true⟩,
 ⟨some 23, .mv (.t 3), (some (22, true)), false⟩,
 ⟨some 24, .mv (.t 0), (some (22, true)), false⟩,
 ⟨some 25, .mv (.t 9), (some (22, true)), false⟩,
 ⟨some 26, .iadr 2 (.t 24) (.t 25), (some (22, true)), false⟩,
 ⟨some 27, .load 2 true (.t 26), (some (22, true)), false⟩,
 ⟨some 28, .mv (.t 0), (some (22, true)), false⟩,
 ⟨some 29, .mv (.t 9), (some (22, true)), false⟩,
 ⟨some 30, .bin .sub (.t 29) (.c (.int .i64 1)), (some (22, true)), false⟩,
 ⟨some 31, .iadr 2 (.t 28) (.t 30), (some (22, true)), false⟩,
 ⟨some 32, .load 2 true (.t 31), (some (22, true)), false⟩,
 ⟨some 33, .callv (.t 23) [(.t 27), (.t 32)], (some (22, true)), true⟩,
 ⟨some 34, .bin .lss (.t 33) (.c (.int .i64 0)), (some (22, true)), true⟩,
 ⟨some 35, .un .not (.t 34), (some (22, true)), true⟩,
 ⟨some 36, .pick (.t 22) (.t 35) (.c (.bool false)), none, true⟩])
 (.cond (.t 36)
 .skip
 (.exit 2)))
 (.block 3
 (.reg [⟨some 37, .mv (.t 9), none, true⟩,
 ⟨some 38, .bin .add (.t 37) (.c (.int .i64 1)), none, true⟩,
 ⟨some 9, .mv (.t 38), none, true⟩])))
def b92_3 : IC := (.seq (.seq (.reg [⟨some 68, .mv (.t 11), none, true⟩,
 ⟨some 69, .bin .geq (.t 68) (.c (.int .i64 1)), none, true⟩])
 (.cond (.t 69)
 .skip
 (.exit 4)))
 (.seq (.block 5
 (.seq (.seq (.reg [⟨some 72, .mv (.t 3), none, false⟩,
 ⟨some 73, .mv (.t 0), none, false⟩,
 ⟨some 74, .mv (.t 11), none, false⟩,
 ⟨some 75, .iadr 2 (.t 73) (.t 74), none, false⟩,
 ⟨some 76, .load 2 true (.t 75), none, false⟩,
 ⟨some 77, .mv (.t 0), none, false⟩,
 ⟨some 78, .mv (.t 11), none, false⟩,
 ⟨some 79, .bin .sub (.t 78) (.c (.int .i64 1)), none, false⟩,
 ⟨some 80, .iadr 2 (.t 77) (.t 79), none, false⟩,
 ⟨some 81, .load 2 true (.t 80), none, false⟩,
 ⟨some 82, .callv (.t 72) [(.t 76), (.t 81)], none, true⟩,
 ⟨some 83, .bin .lss (.t 82) (.c (.int .i64 0)), none, true⟩,
 ⟨some 84, .un .not (.t 83), none, true⟩])
 (.cond (.t 84)
 (.exit 4)
 .skip))
 (.reg [⟨some 85, .mv (.t 0), none, false⟩,
 ⟨some 86, .mv (.t 11), none, false⟩,
 ⟨some 87, .mv (.t 0), none, false⟩,
 ⟨some 88, .mv (.t 11), none, false⟩,
 ⟨some 89, .bin .sub (.t 88) (.c (.int .i64 1)), none, false⟩,
 ⟨some 90, .mv (.t 0), none, false⟩,
 ⟨some 91, .mv (.t 11), none, false⟩,
 ⟨some 92, .bin .sub (.t 91) (.c (.int .i64 1)), none, false⟩,
 ⟨some 93, .iadr 2 (.t 90) (.t 92), none, false⟩,
 ⟨some 94, .load 2 true (.t 93), none, false⟩,
 ⟨some 95, .mv (.t 0), none, false⟩,
 ⟨some 96, .mv (.t 11), none, false⟩,
 ⟨some 97, .iadr 2 (.t 95) (.t 96), none, false⟩,
 ⟨some 98, .load 2 true (.t 97), none, false⟩,
 ⟨some 99, .iadr 2 (.t 85) (.t 86), none, true⟩,
 ⟨none, .store 2 (.t 99) (.t 94), none, true⟩,
 ⟨some 100, .iadr 2 (.t 87) (.t 89), none, true⟩,
 ⟨none, .store 2 (.t 100) (.t 98), none, true⟩])))
 (.reg [⟨some 70, .mv (.t 11), none, true⟩,
 ⟨some 71, .bin .sub (.t 70) (.c (.int .i64 1)), none, true⟩,
 ⟨some 11, .mv (.t 71), none, true⟩])))
def b92_5 : IC := (.seq (.seq (.reg [⟨some 107, .mv (.t 12), none, true⟩,
 ⟨some 108, .mv (.t 2), none, true⟩,
 ⟨some 109, .bin .lss (.t 107) (.t 108), none, true⟩])
 (.cond (.t 109)
 .skip
 (.exit 6)))
 (.seq (.block 7
 (.seq (.seq (.reg [⟨some 112, .mv (.t 3), none, false⟩,
 ⟨some 113, .mv (.t 0), none, false⟩,
 ⟨some 114, .mv (.t 12), none, false⟩,
 ⟨some 115, .iadr 2 (.t 113) (.t 114), none, false⟩,
 ⟨some 116, .load 2 true (.t 115), none, false⟩,
 ⟨some 117, .mv (.t 0), none, false⟩,
 ⟨some 118, .mv (.t 12), none, false⟩,
 ⟨some 119, .bin .sub (.t 118) (.c (.int .i64 1)), none, false⟩,
 ⟨some 120, .iadr 2 (.t 117) (.t 119), none, false⟩,
 ⟨some 121, .load 2 true (.t 120), none, false⟩,
 ⟨some 122, .callv (.t 112) [(.t 116), (.t 121)], none, true⟩,
 ⟨some 123, .bin .lss (.t 122) (.c (.int .i64 0)), none, true⟩,
 ⟨some 124, .un .not (.t 123), none, true⟩])
 (.cond (.t 124)
 (.exit 6)
 .skip))
 (.reg [⟨some 125, .mv (.t 0), none, false⟩,
 ⟨some 126, .mv (.t 12), none, false⟩,
 ⟨some 127, .mv (.t 0), none, false⟩,
 ⟨some 128, .mv (.t 12), none, false⟩,
 ⟨some 129, .bin .sub (.t 128) (.c (.int .i64 1)), none, false⟩,
 ⟨some 130, .mv (.t 0), none, false⟩,
 ⟨some 131, .mv (.t 12), none, false⟩,
 ⟨some 132, .bin .sub (.t 131) (.c (.int .i64 1)), none, false⟩,
 ⟨some 133, .iadr 2 (.t 130) (.t 132), none, false⟩,
 ⟨some 134, .load 2 true (.t 133), none, false⟩,
 ⟨some 135, .mv (.t 0), none, false⟩,
 ⟨some 136, .mv (.t 12), none, false⟩,
 ⟨some 137, .iadr 2 (.t 135) (.t 136), none, false⟩,
 ⟨some 138, .load 2 true (.t 137), none, false⟩,
 ⟨some 139, .iadr 2 (.t 125) (.t 126), none, true⟩,
 ⟨none, .store 2 (.t 139) (.t 134), none, true⟩,
 ⟨some 140, .iadr 2 (.t 127) (.t 129), none, true⟩,
 ⟨none, .store 2 (.t 140) (.t 138), none, true⟩])))
 (.reg [⟨some 110, .mv (.t 12), none, true⟩,
 ⟨some 111, .bin .add (.t 110) (.c (.int .i64 1)), none, true⟩,
 ⟨some 12, .mv (.t 111), none, true⟩])))
def r92_4 : IC := (.seq (.reg [⟨some 101, .mv (.t 2), none, true⟩,
 ⟨some 102, .mv (.t 9), none, true⟩,
 ⟨some 103, .bin .sub (.t 101) (.t 102), none, true⟩,
 ⟨some 104, .bin .geq (.t 103) (.c (.int .i64 2)), none, true⟩])
 (.cond (.t 104)
 (.seq (.reg [⟨some 105, .mv (.t 9), none, true⟩,
 ⟨some 106, .bin .add (.t 105) (.c (.int .i64 1)), none, true⟩,
 ⟨some 12, .mv (.t 106), none, true⟩])
 (.block 6
 (.loop b92_5)))
 .skip))
def r92_2 : IC := (.seq (.seq (.reg [⟨some 39, .mv (.t 9), none, true⟩,
 ⟨some 40, .mv (.t 2), none, true⟩,
 ⟨some 41, .bin .eql (.t 39) (.t 40), none, true⟩])
 (.cond (.t 41)
 (.seq (.reg [⟨some 8, .mv (.c (.bool true)), none, true⟩])
 .ret)
 .skip))
 (.seq (.seq (.reg [⟨some 42, .mv (.t 2), none, true⟩,
 ⟨some 43, .mv (.t 1), none, true⟩,
 ⟨some 44, .bin .sub (.t 42) (.t 43), none, true⟩,
 ⟨some 45, .bin .lss (.t 44) (.c (.int .i64 50)), none, true⟩])
 (.cond (.t 45)
 (.seq (.reg [⟨some 8, .mv (.c (.bool false)), none, true⟩])
 .ret)
 .skip))
 (.seq (.reg [⟨some 46, .mv (.t 0), none, false⟩,
 ⟨some 47, .mv (.t 9), none, false⟩,
 ⟨some 48, .mv (.t 0), none, false⟩,
 ⟨some 49, .mv (.t 9), none, false⟩,
 ⟨some 50, .bin .sub (.t 49) (.c (.int .i64 1)), none, false⟩,
 ⟨some 51, .mv (.t 0), none, false⟩,
 ⟨some 52, .mv (.t 9), none, false⟩,
 ⟨some 53, .bin .sub (.t 52) (.c (.int .i64 1)), none, false⟩,
 ⟨some 54, .iadr 2 (.t 51) (.t 53), none, false⟩,
 ⟨some 55, .load 2 true (.t 54), none, false⟩,
 ⟨some 56, .mv (.t 0), none, false⟩,
 ⟨some 57, .mv (.t 9), none, false⟩,
 ⟨some 58, .iadr 2 (.t 56) (.t 57), none, false⟩,
 ⟨some 59, .load 2 true (.t 58), none, false⟩,
 ⟨some 60, .iadr 2 (.t 46) (.t 47), none, true⟩,
 ⟨none, .store 2 (.t 60) (.t 55), none, true⟩,
 ⟨some 61, .iadr 2 (.t 48) (.t 50), none, true⟩,
 ⟨none, .store 2 (.t 61) (.t 59), none, true⟩])
 (.seq (.seq (.reg [⟨some 62, .mv (.t 9), none, true⟩,
 ⟨some 63, .mv (.t 1), none, true⟩,
 ⟨some 64, .bin .sub (.t 62) (.t 63), none, true⟩,
 ⟨some 65, .bin .geq (.t 64) (.c (.int .i64 2)), none, true⟩])
 (.cond (.t 65)
 (.seq (.reg [⟨some 66, .mv (.t 9), none, true⟩,
 ⟨some 67, .bin .sub (.t 66) (.c (.int .i64 1)), none, true⟩,
 ⟨some 11, .mv (.t 67), none, true⟩])
 (.block 4
 (.loop b92_3)))
 .skip))
 r92_4))))
def r92_6 : IC := (.reg [⟨some 17, .mv (.t 10), none, true⟩,
 ⟨some 18, .bin .add (.t 17) (.c (.int .i64 1)), none, true⟩,
 ⟨some 10, .mv (.t 18), none, true⟩])
def b92_0 : IC := (.seq (.seq (.reg [⟨some 15, .mv (.t 10), none, true⟩,
 ⟨some 16, .bin .lss (.t 15) (.c (.int .i64 5)), none, true⟩])
 (.cond (.t 16)
 .skip
 (.exit 0)))
 (.seq (.block 1
 (.seq (.block 2
 (.loop b92_1))
 r92_2))
 r92_6))
def r92_7 : IC := (.seq (.reg [⟨some 8, .mv (.c (.bool false)), none, true⟩])
 .ret)
def i92 : IFun := ⟨(.seq (.reg [⟨some 8, .mv (.c (.bool false)), none, true⟩])
 (.seq (.reg [⟨some 13, .mv (.t 1), none, true⟩,
 ⟨some 14, .bin .add (.t 13) (.c (.int .i64 1)), none, true⟩,
 ⟨some 9, .mv (.t 14), none, true⟩])
 (.seq (.seq (.reg [⟨some 10, .mv (.c (.int .i64 0)), none, true⟩])
 (.block 0
 (.loop b92_0)))
 r92_7))),
 141, [.t 8], 0, []⟩
/-- slices.partitionEqualCmpFunc[dowel/graph.Edge] -/
def b93_1 : IC := (.seq (.seq (.reg [⟨some 31, .mv (.t 11), none, true⟩,
 ⟨some 32, .mv (.t 12), none, true⟩,
 ⟨some 33, .bin .leq (.t 31) (.t 32), none, true⟩,
 ⟨some 34, .mv (.t 33), none, true⟩,
 ⟨some 35, .mv (.t 4), (some (34, true)), false⟩,
 ⟨some 36, .mv (.t 0), (some (34, true)), false⟩,
 ⟨some 37, .mv (.t 1), (some (34, true)), false⟩,
 ⟨some 38, .iadr 2 (.t 36) (.t 37), (some (34, true)), false⟩,
 ⟨some 39, .load 2 true (.t 38), (some (34, true)), false⟩,
 ⟨some 40, .mv (.t 0), (some (34, true)), false⟩,
 ⟨some 41, .mv (.t 11), (some (34, true)), false⟩,
 ⟨some 42, .iadr 2 (.t 40) (.t 41), (some (34, true)), false⟩,
 ⟨some 43, .load 2 true (.t 42), (some (34, true)), false⟩,
 ⟨some 44, .callv (.t 35) [(.t 39), (.t 43)], (some (34, true)), true⟩,
 ⟨some 45, .bin .lss (.t 44) (.c (.int .i64 0)), (some (34, true)), true⟩,
 ⟨some 46, .un .not (.t 45), (some (34, true)), true⟩,
 ⟨some 47, .pick (.t 34) (.t 46) (.c (.bool false)), none, true⟩])
 (.cond (.t 47)
 .skip
 (.exit 2)))
 (.block 3
 (.reg [⟨some 48, .mv (.t 11), none, true⟩,
 ⟨some 49, .bin .add (.t 48) (.c (.int .i64 1)), none, true⟩,
 ⟨some 11, .mv (.t 49), none, true⟩])))
def b93_3 : IC := (.seq (.seq (.reg [⟨some 50, .mv (.t 11), none, true⟩,
 ⟨some 51, .mv (.t 12), none, true⟩,
 ⟨some 52, .bin .leq (.t 50) (.t 51), none, true⟩,
 ⟨some 53, .mv (.t 52), none, true⟩,
 ⟨some 54, .mv (.t 4), (some (53, true)), false⟩,
 ⟨some 55, .mv (.t 0), (some (53, true)), false⟩,
 ⟨some 56, .mv (.t 1), (some (53, true)), false⟩,
 ⟨some 57, .iadr 2 (.t 55) (.t 56), (some (53, true)), false⟩,
 ⟨some 58, .load 2 true (.t 57), (some (53, true)), false⟩,
 ⟨some 59, .mv (.t 0), (some (53, true)), false⟩,
 ⟨some 60, .mv (.t 12), (some (53, true)), false⟩,
 ⟨some 61, .iadr 2 (.t 59) (.t 60), (some (53, true)), false⟩,
 ⟨some 62, .load 2 true (.t 61), (some (53, true)), false⟩,
 ⟨some 63, .callv (.t 54) [(.t 58), (.t 62)], (some (53, true)), true⟩,
 ⟨some 64, .bin .lss (.t 63) (.c (.int .i64 0)), (some (53, true)), true⟩,
 ⟨some 65, .pick (.t 53) (.t 64) (.c (.bool false)), none, true⟩])
 (.cond (.t 65)
 .skip
 (.exit 4)))
 (.block 5
 (.reg [⟨some 66, .mv (.t 12), none, true⟩,
 ⟨some 67, .bin .sub (.t 66) (.c (.int .i64 1)), none, true⟩,
 ⟨some 12, .mv (.t 67), none, true⟩])))
def r93_4 : IC := (.seq (.seq (.reg [⟨some 68, .mv (.t 11), none, true⟩,
 ⟨some 69, .mv (.t 12), none, true⟩,
 ⟨some 70, .bin .gtr (.t 68) (.t 69), none, true⟩])
 (.cond (.t 70)
 (.exit 0)
 .skip))
 (.seq (.reg [⟨some 71, .mv (.t 0), none, false⟩,
 ⟨some 72, .mv (.t 11), none, false⟩,
 ⟨some 73, .mv (.t 0), none, false⟩,
 ⟨some 74, .mv (.t 12), none, false⟩,
 ⟨some 75, .mv (.t 0), none, false⟩,
 ⟨some 76, .mv (.t 12), none, false⟩,
 ⟨some 77, .iadr 2 (.t 75) (.t 76), none, false⟩,
 ⟨some 78, .load 2 true (.t 77), none, false⟩,
 ⟨some 79, .mv (.t 0), none, false⟩,
 ⟨some 80, .mv (.t 11), none, false⟩,
 ⟨some 81, .iadr 2 (.t 79) (.t 80), none, false⟩,
 ⟨some 82, .load 2 true (.t 81), none, false⟩,
 ⟨some 83, .iadr 2 (.t 71) (.t 72), none, true⟩,
 ⟨none, .store 2 (.t 83) (.t 78), none, true⟩,
 ⟨some 84, .iadr 2 (.t 73) (.t 74), none, true⟩,
 ⟨none, .store 2 (.t 84) (.t 82), none, true⟩])
 (.seq (.reg [⟨some 85, .mv (.t 11), none, true⟩,
 ⟨some 86, .bin .add (.t 85) (.c (.int .i64 1)), none, true⟩,
 ⟨some 11, .mv (.t 86), none, true⟩])
 (.reg [⟨some 87, .mv (.t 12), none, true⟩,
 ⟨some 88, .bin .sub (.t 87) (.c (.int .i64 1)), none, true⟩,
 ⟨some 12, .mv (.t 88), none, true⟩]))))
def r93_2 : IC := (.seq (.block 4
 (.loop b93_3))
 r93_4)
def b93_0 : IC := (.block 1
 (.seq (.block 2
 (.loop b93_1))
 r93_2))
def r93_5 : IC := (.seq (.reg [⟨some 89, .mv (.t 11), none, true⟩,
 ⟨some 10, .mv (.t 89), none, true⟩])
 .ret)
def i93 : IFun := ⟨(.seq (.reg [⟨some 10, .mv (.c (.int .i64 0)), none, true⟩])
 (.seq (.reg [⟨some 13, .mv (.t 0), none, false⟩,
 ⟨some 14, .mv (.t 1), none, false⟩,
 ⟨some 15, .mv (.t 0), none, false⟩,
 ⟨some 16, .mv (.t 3), none, false⟩,
 ⟨some 17, .mv (.t 0), none, false⟩,
 ⟨some 18, .mv (.t 3), none, false⟩,
 ⟨some 19, .iadr 2 (.t 17) (.t 18), none, false⟩,
 ⟨some 20, .load 2 true (.t 19), none, false⟩,
 ⟨some 21, .mv (.t 0), none, false⟩,
 ⟨some 22, .mv (.t 1), none, false⟩,
 ⟨some 23, .iadr 2 (.t 21) (.t 22), none, false⟩,
 ⟨some 24, .load 2 true (.t 23), none, false⟩,
 ⟨some 25, .iadr 2 (.t 13) (.t 14), none, true⟩,
 ⟨none, .store 2 (.t 25) (.t 20), none, true⟩,
 ⟨some 26, .iadr 2 (.t 15) (.t 16), none, true⟩,
 ⟨none, .store 2 (.t 26) (.t 24), none, true⟩])
 (.seq (.reg [⟨some 27, .mv (.t 1), none, true⟩,
 ⟨some 28, .bin .add (.t 27) (.c (.int .i64 1)), none, true⟩,
 ⟨some 29, .mv (.t 2), none, true⟩,
 ⟨some 30, .bin .sub (.t 29) (.c (.int .i64 1)), none, true⟩,
 ⟨some 11, .mv (.t 28), none, true⟩,
 ⟨some 12, .mv (.t 30), none, true⟩])
 (.seq (.block 0
 (.loop b93_0))
 r93_5)))),
 90, [.t 10], 0, []⟩
/-- slices.partitionCmpFunc[dowel/graph.Edge] -/
def b94_0 : IC := (.seq (.seq (.reg [⟨some 32, .mv (.t 12), none, true⟩,
 ⟨some 33, .mv (.t 13), none, true⟩,
 ⟨some 34, .bin .leq (.t 32) (.t 33), none, true⟩,
 ⟨some 35, .mv (.t 34), none, true⟩,
 ⟨some 36, .mv (.t 4), (some (35, true)), false⟩,
 ⟨some 37, .mv (.t 0), (some (35, true)), false⟩,
 ⟨some 38, .mv (.t 12), (some (35, true)), false⟩,
 ⟨some 39, .iadr 2 (.t 37) (.t 38), (some (35, true)), false⟩,
 ⟨some 40, .load 2 true (.t 39), (some (35, true)), false⟩,
 ⟨some 41, .mv (.t 0), (some (35, true)), false⟩,
 ⟨some 42, .mv (.t 1), (some (35, true)), false⟩,
 ⟨some 43, .iadr 2 (.t 41) (.t 42), (some (35, true)), false⟩,
 ⟨some 44, .load 2 true (.t 43), (some (35, true)), false⟩,
 ⟨some 45, .callv (.t 36) [(.t 40), (.t 44)], (some (35, true)), true⟩,
 ⟨some 46, .bin .lss (.t 45) (.c (.int .i64 0)), (some (35, true)), true⟩,
 ⟨some 47, .pick (.t 35) (.t 46) (.c (.bool false)), none, true⟩])
 (.cond (.t 47)
 .skip
 (.exit 0)))
 (.block 1
 (.reg [⟨some 48, .mv (.t 12), none, true⟩,
 ⟨some 49, .bin .add (.t 48) (.c (.int .i64 1)), none, true⟩,
 ⟨some 12, .mv (.t 49), none, true⟩])))
def b94_2 : IC := (.seq (.seq (.reg [⟨some 50, .mv (.t 12), none, true⟩,
 ⟨some 51, .mv (.t 13), none, true⟩,
 ⟨some 52, .bin .leq (.t 50) (.t 51), none, true⟩,
 ⟨some 53, .mv (.t 52), none, true⟩,
 ⟨some 54, .mv (.t 4), (some (53, true)), false⟩,
 ⟨some 55, .mv (.t 0), (some (53, true)), false⟩,
 ⟨some 56, .mv (.t 13), (some (53, true)), false⟩,
 ⟨some 57, .iadr 2 (.t 55) (.t 56), (some (53, true)), false⟩,
 ⟨some 58, .load 2 true (.t 57), (some (53, true)), false⟩,
 ⟨some 59, .mv (.t 0), (some (53, true)), false⟩,
 ⟨some 60, .mv (.t 1), (some (53, true)), false⟩,
 ⟨some 61, .iadr 2 (.t 59) (.t 60), (some (53, true)), false⟩,
 ⟨some 62, .load 2 true (.t 61), (some (53, true)), false⟩,
 ⟨some 63, .callv (.t 54) [(.t 58), (.t 62)], (some (53, true)), true⟩,
 ⟨some 64, .bin .lss (.t 63) (.c (.int .i64 0)), (some (53, true)), true⟩,
 ⟨some 65, .un .not (.t 64), (some (53, true)), true⟩,
 ⟨some 66, .pick (.t 53) (.t 65) (.c (.bool false)), none, true⟩])
 (.cond (.t 66)
 .skip
 (.exit 2)))
 (.block 3
 (.reg [⟨some 67, .mv (.t 13), none, true⟩,
 ⟨some 68, .bin .sub (.t 67) (.c (.int .i64 1)), none, true⟩,
 ⟨some 13, .mv (.t 68), none, true⟩])))
def b94_5 : IC := (.seq (.seq (.reg [⟨some 105, .mv (.t 12), none, true⟩,
 ⟨some 106, .mv (.t 13), none, true⟩,
 ⟨some 107, .bin .leq (.t 105) (.t 106), none, true⟩,
 ⟨some 108, .mv (.t 107), none, true⟩,
 ⟨some 109, .mv (.t 4), (some (108, true)), false⟩,
 ⟨some 110, .mv (.t 0), (some (108, true)), false⟩,
 ⟨some 111, .mv (.t 12), (some (108, true)), false⟩,
 ⟨some 112, .iadr 2 (.t 110) (.t 111), (some (108, true)), false⟩,
 ⟨some 113, .load 2 true (.t 112), (some (108, true)), false⟩,
 ⟨some 114, .mv (.t 0), (some (108, true)), false⟩,
 ⟨some 115, .mv (.t 1), (some (108, true)), false⟩,
 ⟨some 116, .iadr 2 (.t 114) (.t 115), (some (108, true)), false⟩,
 ⟨some 117, .load 2 true (.t 116), (some (108, true)), false⟩,
 ⟨some 118, .callv (.t 109) [(.t 113), (.t 117)], (some (108, true)), true⟩,
 ⟨some 119, .bin .lss (.t 118) (.c (.int .i64 0)), (some (108, true)), true⟩,
 ⟨some 120, .pick (.t 108) (.t 119) (.c (.bool false)), none, true⟩])
 (.cond (.t 120)
 .skip
 (.exit 6)))
 (.block 7
 (.reg [⟨some 121, .mv (.t 12), none, true⟩,
 ⟨some 122, .bin .add (.t 121) (.c (.int .i64 1)), none, true⟩,
 ⟨some 12, .mv (.t 122), none, true⟩])))
def b94_7 : IC := (.seq (.seq (.reg [⟨some 123, .mv (.t 12), none, true⟩,
 ⟨some 124, .mv (.t 13), none, true⟩,
 ⟨some 125, .bin .leq (.t 123) (.t 124), none, true⟩,
 ⟨some 126, .mv (.t 125), none, true⟩,
 ⟨some 127, .mv (.t 4), (some (126, true)), false⟩,
 ⟨some 128, .mv (.t 0), (some (126, true)), false⟩,
 ⟨some 129, .mv (.t 13), (some (126, true)), false⟩,
 ⟨some 130, .iadr 2 (.t 128) (.t 129), (some (126, true)), false⟩,
 ⟨some 131, .load 2 true (.t 130), (some (126, true)), false⟩,
 ⟨some 132, .mv (.t 0), (some (126, true)), false⟩,
 ⟨some 133, .mv (.t 1), (some (126, true)), false⟩,
 ⟨some 134, .iadr 2 (.t 132) (.t 133), (some (126, true)), false⟩,
 ⟨some 135, .load 2 true (.t 134), (some (126, true)), false⟩,
 ⟨some 136, .callv (.t 127) [(.t 131), (.t 135)], (some (126, true)), true⟩,
 ⟨some 137, .bin .lss (.t 136) (.c (.int .i64 0)), (some (126, true)), true⟩,
 ⟨some 138, .un .not (.t 137), (some (126, true)), true⟩,
 ⟨some 139, .pick (.t 126) (.t 138) (.c (.bool false)), none, true⟩])
 (.cond (.t 139)
 .skip
 (.exit 8)))
 (.block 9
 (.reg [⟨some 140, .mv (.t 13), none, true⟩,
 ⟨some 141, .bin .sub (.t 140) (.c (.int .i64 1)), none, true⟩,
 ⟨some 13, .mv (.t 141), none, true⟩])))
def r94_8 : IC := (.seq (.seq (.reg [⟨some 142, .mv (.t 12), none, true⟩,
 ⟨some 143, .mv (.t 13), none, true⟩,
 ⟨some 144, .bin .gtr (.t 142) (.t 143), none, true⟩])
 (.cond (.t 144)
 (.exit 4)
 .skip))
 (.seq (.reg [⟨some 145, .mv (.t 0), none, false⟩,
 ⟨some 146, .mv (.t 12), none, false⟩,
 ⟨some 147, .mv (.t 0), none, false⟩,
 ⟨some 148, .mv (.t 13), none, false⟩,
 ⟨some 149, .mv (.t 0), none, false⟩,
 ⟨some 150, .mv (.t 13), none, false⟩,
 ⟨some 151, .iadr 2 (.t 149) (.t 150), none, false⟩,
 ⟨some 152, .load 2 true (.t 151), none, false⟩,
 ⟨some 153, .mv (.t 0), none, false⟩,
 ⟨some 154, .mv (.t 12), none, false⟩,
 ⟨some 155, .iadr 2 (.t 153) (.t 154), none, false⟩,
 ⟨some 156, .load 2 true (.t 155), none, false⟩,
 ⟨some 157, .iadr 2 (.t 145) (.t 146), none, true⟩,
 ⟨none, .store 2 (.t 157) (.t 152), none, true⟩,
 ⟨some 158, .iadr 2 (.t 147) (.t 148), none, true⟩,
 ⟨none, .store 2 (.t 158) (.t 156), none, true⟩])
 (.seq (.reg [⟨some 159, .mv (.t 12), none, true⟩,
 ⟨some 160, .bin .add (.t 159) (.c (.int .i64 1)), none, true⟩,
 ⟨some 12, .mv (.t 160), none, true⟩])
 (.reg [⟨some 161, .mv (.t 13), none, true⟩,
 ⟨some 162, .bin .sub (.t 161) (.c (.int .i64 1)), none, true⟩,
 ⟨some 13, .mv (.t 162), none, true⟩]))))
def r94_6 : IC := (.seq (.block 8
 (.loop b94_7))
 r94_8)
def b94_4 : IC := (.block 5
 (.seq (.block 6
 (.loop b94_5))
 r94_6))
def r94_9 : IC := (.seq (.reg [⟨some 163, .mv (.t 0), none, false⟩,
 ⟨some 164, .mv (.t 13), none, false⟩,
 ⟨some 165, .mv (.t 0), none, false⟩,
 ⟨some 166, .mv (.t 1), none, false⟩,
 ⟨some 167, .mv (.t 0), none, false⟩,
 ⟨some 168, .mv (.t 1), none, false⟩,
 ⟨some 169, .iadr 2 (.t 167) (.t 168), none, false⟩,
 ⟨some 170, .load 2 true (.t 169), none, false⟩,
 ⟨some 171, .mv (.t 0), none, false⟩,
 ⟨some 172, .mv (.t 13), none, false⟩,
 ⟨some 173, .iadr 2 (.t 171) (.t 172), none, false⟩,
 ⟨some 174, .load 2 true (.t 173), none, false⟩,
 ⟨some 175, .iadr 2 (.t 163) (.t 164), none, true⟩,
 ⟨none, .store 2 (.t 175) (.t 170), none, true⟩,
 ⟨some 176, .iadr 2 (.t 165) (.t 166), none, true⟩,
 ⟨none, .store 2 (.t 176) (.t 174), none, true⟩])
 (.seq (.reg [⟨some 177, .mv (.t 13), none, true⟩,
 ⟨some 10, .mv (.t 177), none, true⟩,
 ⟨some 11, .mv (.c (.bool false)), none, true⟩])
 .ret))
def r94_3 : IC := (.seq (.seq (.reg [⟨some 69, .mv (.t 12), none, true⟩,
 ⟨some 70, .mv (.t 13), none, true⟩,
 ⟨some 71, .bin .gtr (.t 69) (.t 70), none, true⟩])
 (.cond (.t 71)
 (.seq (.reg [⟨some 72, .mv (.t 0), none, false⟩,
 ⟨some 73, .mv (.t 13), none, false⟩,
 ⟨some 74, .mv (.t 0), none, false⟩,
 ⟨some 75, .mv (.t 1), none, false⟩,
 ⟨some 76, .mv (.t 0), none, false⟩,
 ⟨some 77, .mv (.t 1), none, false⟩,
 ⟨some 78, .iadr 2 (.t 76) (.t 77), none, false⟩,
 ⟨some 79, .load 2 true (.t 78), none, false⟩,
 ⟨some 80, .mv (.t 0), none, false⟩,
 ⟨some 81, .mv (.t 13), none, false⟩,
 ⟨some 82, .iadr 2 (.t 80) (.t 81), none, false⟩,
 ⟨some 83, .load 2 true (.t 82), none, false⟩,
 ⟨some 84, .iadr 2 (.t 72) (.t 73), none, true⟩,
 ⟨none, .store 2 (.t 84) (.t 79), none, true⟩,
 ⟨some 85, .iadr 2 (.t 74) (.t 75), none, true⟩,
 ⟨none, .store 2 (.t 85) (.t 83), none, true⟩])
 (.seq (.reg [⟨some 86, .mv (.t 13), none, true⟩,
 ⟨some 10, .mv (.t 86), none, true⟩,
 ⟨some 11, .mv (.c (.bool true)), none, true⟩])
 .ret))
 .skip))
 (.seq (.reg [⟨some 87, .mv (.t 0), none, false⟩,
 ⟨some 88, .mv (.t 12), none, false⟩,
 ⟨some 89, .mv (.t 0), none, false⟩,
 ⟨some 90, .mv (.t 13), none, false⟩,
 ⟨some 91, .mv (.t 0), none, false⟩,
 ⟨some 92, .mv (.t 13), none, false⟩,
 ⟨some 93, .iadr 2 (.t 91) (.t 92), none, false⟩,
 ⟨some 94, .load 2 true (.t 93), none, false⟩,
 ⟨some 95, .mv (.t 0), none, false⟩,
 ⟨some 96, .mv (.t 12), none, false⟩,
 ⟨some 97, .iadr 2 (.t 95) (.t 96), none, false⟩,
 ⟨some 98, .load 2 true (.t 97), none, false⟩,
 ⟨some 99, .iadr 2 (.t 87) (.t 88), none, true⟩,
 ⟨none, .store 2 (.t 99) (.t 94), none, true⟩,
 ⟨some 100, .iadr 2 (.t 89) (.t 90), none, true⟩,
 ⟨none, .store 2 (.t 100) (.t 98), none, true⟩])
 (.seq (.reg [⟨some 101, .mv (.t 12), none, true⟩,
 ⟨some 102, .bin .add (.t 101) (.c (.int .i64 1)), none, true⟩,
 ⟨some 12, .mv (.t 102), none, true⟩])
 (.seq (.reg [⟨some 103, .mv (.t 13), none, true⟩,
 ⟨some 104, .bin .sub (.t 103) (.c (.int .i64 1)), none, true⟩,
 ⟨some 13, .mv (.t 104), none, true⟩])
 (.seq (.block 4
 (.loop b94_4))
 r94_9)))))
def r94_1 : IC := (.seq (.block 2
 (.loop b94_2))
 r94_3)
def i94 : IFun := ⟨(.seq (.reg [⟨some 10, .mv (.c (.int .i64 0)), none, true⟩,
 ⟨some 11, .mv (.c (.bool false)), none, true⟩])
 (.seq (.reg [⟨some 14, .mv (.t 0), none, false⟩,
 ⟨some 15, .mv (.t 1), none, false⟩,
 ⟨some 16, .mv (.t 0), none, false⟩,
 ⟨some 17, .mv (.t 3), none, false⟩,
 ⟨some 18, .mv (.t 0), none, false⟩,
 ⟨some 19, .mv (.t 3), none, false⟩,
 ⟨some 20, .iadr 2 (.t 18) (.t 19), none, false⟩,
 ⟨some 21, .load 2 true (.t 20), none, false⟩,
 ⟨some 22, .mv (.t 0), none, false⟩,
 ⟨some 23, .mv (.t 1), none, false⟩,
 ⟨some 24, .iadr 2 (.t 22) (.t 23), none, false⟩,
 ⟨some 25, .load 2 true (.t 24), none, false⟩,
 ⟨some 26, .iadr 2 (.t 14) (.t 15), none, true⟩,
 ⟨none, .store 2 (.t 26) (.t 21), none, true⟩,
 ⟨some 27, .iadr 2 (.t 16) (.t 17), none, true⟩,
 ⟨none, .store 2 (.t 27) (.t 25), none, true⟩])
 (.seq (.reg [⟨some 28, .mv (.t 1), none, true⟩,
 ⟨some 29, .bin .add (.t 28) (.c (.int .i64 1)), none, true⟩,
 ⟨some 30, .mv (.t 2), none, true⟩,
 ⟨some 31, .bin .sub (.t 30) (.c (.int .i64 1)), none, true⟩,
 ⟨some 12, .mv (.t 29), none, true⟩,
 ⟨some 13, .mv (.t 31), none, true⟩])
 (.seq (.block 0
 (.loop b94_0))
 r94_1)))),
 178, [.t 10, .t 11], 0, []⟩
/-- math/bits.Len32 -/
def r95_1 : IC := (.seq (.reg [⟨some 13, .mv (.t 2), none, true⟩,
 ⟨some 14, .mv (.t 0), none, true⟩,
 ⟨some 15, .conv .u8 (.t 14), none, true⟩,
 ⟨some 16, .sidx (.c (.str [0, 1, 2, 2, 3, 3, 3, 3, 4, 4, 4, 4, 4, 4, 4, 4, 5, 5, 5, 5, 5, 5, 5, 5, 5, 5, 5, 5, 5, 5, 5, 5, 6, 6, 6, 6, 6, 6, 6, 6, 6, 6, 6, 6, 6, 6, 6, 6, 6, 6, 6, 6, 6, 6, 6, 6, 6, 6, 6, 6, 6, 6, 6, 6, 7, 7, 7, 7, 7, 7, 7, 7, 7, 7, 7, 7, 7, 7, 7, 7, 7, 7, 7, 7, 7, 7, 7, 7, 7, 7, 7, 7, 7, 7, 7, 7, 7, 7, 7, 7, 7, 7, 7, 7, 7, 7, 7, 7, 7, 7, 7, 7, 7, 7, 7, 7, 7, 7, 7, 7, 7, 7, 7, 7, 7, 7, 7, 7, 8, 8, 8, 8, 8, 8, 8, 8, 8, 8, 8, 8, 8, 8, 8, 8, 8, 8, 8, 8, 8, 8, 8, 8, 8, 8, 8, 8, 8, 8, 8, 8, 8, 8, 8, 8, 8, 8, 8, 8, 8, 8, 8, 8, 8, 8, 8, 8, 8, 8, 8, 8, 8, 8, 8, 8, 8, 8, 8, 8, 8, 8, 8, 8, 8, 8, 8, 8, 8, 8, 8, 8, 8, 8, 8, 8, 8, 8, 8, 8, 8, 8, 8, 8, 8, 8, 8, 8, 8, 8, 8, 8, 8, 8, 8, 8, 8, 8, 8, 8, 8, 8, 8, 8, 8, 8, 8, 8, 8, 8, 8, 8, 8, 8, 8, 8, 8, 8, 8, 8, 8, 8, 8, 8, 8, 8, 8, 8])) (.t 15), none, true⟩,
 ⟨some 17, .conv .i64 (.t 16), none, true⟩,
 ⟨some 18, .bin .add (.t 13) (.t 17), none, true⟩,
 ⟨some 2, .mv (.t 18), none, true⟩])
 .ret)
def r95_0 : IC := (.seq (.seq (.reg [⟨some 7, .mv (.t 0), none, true⟩,
 ⟨some 8, .bin .geq (.t 7) (.c (.int .u32 256)), none, true⟩])
 (.cond (.t 8)
 (.seq (.reg [⟨some 9, .mv (.t 0), none, true⟩,
 ⟨some 10, .bin .shr (.t 9) (.c (.int .u64 8)), none, true⟩,
 ⟨some 0, .mv (.t 10), none, true⟩])
 (.reg [⟨some 11, .mv (.t 2), none, true⟩,
 ⟨some 12, .bin .add (.t 11) (.c (.int .i64 8)), none, true⟩,
 ⟨some 2, .mv (.t 12), none, true⟩]))
 .skip))
 r95_1)
def i95 : IFun := ⟨(.seq (.reg [⟨some 2, .mv (.c (.int .i64 0)), none, true⟩])
 (.seq (.seq (.reg [⟨some 3, .mv (.t 0), none, true⟩,
 ⟨some 4, .bin .geq (.t 3) (.c (.int .u32 65536)), none, true⟩])
 (.cond (.t 4)
 (.seq (.reg [⟨some 5, .mv (.t 0), none, true⟩,
 ⟨some 6, .bin .shr (.t 5) (.c (.int .u64 16)), none, true⟩,
 ⟨some 0, .mv (.t 6), none, true⟩])
 (.reg [⟨some 2, .mv (.c (.int .i64 16)), none, true⟩]))
 .skip))
 r95_0)),
 19, [.t 2], 1, []⟩
/-- math/bits.Len64 -/
def r96_2 : IC := (.seq (.reg [⟨some 19, .mv (.t 2), none, true⟩,
 ⟨some 20, .mv (.t 0), none, true⟩,
 ⟨some 21, .conv .u8 (.t 20), none, true⟩,
 ⟨some 22, .sidx (.c (.str [0, 1, 2, 2, 3, 3, 3, 3, 4, 4, 4, 4, 4, 4, 4, 4, 5, 5, 5, 5, 5, 5, 5, 5, 5, 5, 5, 5, 5, 5, 5, 5, 6, 6, 6, 6, 6, 6, 6, 6, 6, 6, 6, 6, 6, 6, 6, 6, 6, 6, 6, 6, 6, 6, 6, 6, 6, 6, 6, 6, 6, 6, 6, 6, 7, 7, 7, 7, 7, 7, 7, 7, 7, 7, 7, 7, 7, 7, 7, 7, 7, 7, 7, 7, 7, 7, 7, 7, 7, 7, 7, 7, 7, 7, 7, 7, 7, 7, 7, 7, 7, 7, 7, 7, 7, 7, 7, 7, 7, 7, 7, 7, 7, 7, 7, 7, 7, 7, 7, 7, 7, 7, 7, 7, 7, 7, 7, 7, 8, 8, 8, 8, 8, 8, 8, 8, 8, 8, 8, 8, 8, 8, 8, 8, 8, 8, 8, 8, 8, 8, 8, 8, 8, 8, 8, 8, 8, 8, 8, 8, 8, 8, 8, 8, 8, 8, 8, 8, 8, 8, 8, 8, 8, 8, 8, 8, 8, 8, 8, 8, 8, 8, 8, 8, 8, 8, 8, 8, 8, 8, 8, 8, 8, 8, 8, 8, 8, 8, 8, 8, 8, 8, 8, 8, 8, 8, 8, 8, 8, 8, 8, 8, 8, 8, 8, 8, 8, 8, 8, 8, 8, 8, 8, 8, 8, 8, 8, 8, 8, 8, 8, 8, 8, 8, 8, 8, 8, 8, 8, 8, 8, 8, 8, 8, 8, 8, 8, 8, 8, 8, 8, 8, 8, 8, 8, 8])) (.t 21), none, true⟩,
 ⟨some 23, .conv .i64 (.t 22), none, true⟩,
 ⟨some 24, .bin .add (.t 19) (.t 23), none, true⟩,
 ⟨some 2, .mv (.t 24), none, true⟩])
 .ret)
def r96_1 : IC := (.seq (.seq (.reg [⟨some 13, .mv (.t 0), none, true⟩,
 ⟨some 14, .bin .geq (.t 13) (.c (.int .u64 256)), none, true⟩])
 (.cond (.t 14)
 (.seq (.reg [⟨some 15, .mv (.t 0), none, true⟩,
 ⟨some 16, .bin .shr (.t 15) (.c (.int .u64 8)), none, true⟩,
 ⟨some 0, .mv (.t 16), none, true⟩])
 (.reg [⟨some 17, .mv (.t 2), none, true⟩,
 ⟨some 18, .bin .add (.t 17) (.c (.int .i64 8)), none, true⟩,
 ⟨some 2, .mv (.t 18), none, true⟩]))
 .skip))
 r96_2)
def r96_0 : IC := (.seq (.seq (.reg [⟨some 7, .mv (.t 0), none, true⟩,
 ⟨some 8, .bin .geq (.t 7) (.c (.int .u64 65536)), none, true⟩])
 (.cond (.t 8)
 (.seq (.reg [⟨some 9, .mv (.t 0), none, true⟩,
 ⟨some 10, .bin .shr (.t 9) (.c (.int .u64 16)), none, true⟩,
 ⟨some 0, .mv (.t 10), none, true⟩])
 (.reg [⟨some 11, .mv (.t 2), none, true⟩,
 ⟨some 12, .bin .add (.t 11) (.c (.int .i64 16)), none, true⟩,
 ⟨some 2, .mv (.t 12), none, true⟩]))
 .skip))
 r96_1)
def i96 : IFun := ⟨(.seq (.reg [⟨some 2, .mv (.c (.int .i64 0)), none, true⟩])
 (.seq (.seq (.reg [⟨some 3, .mv (.t 0), none, true⟩,
 ⟨some 4, .bin .geq (.t 3) (.c (.int .u64 4294967296)), none, true⟩])
 (.cond (.t 4)
 (.seq (.reg [⟨some 5, .mv (.t 0), none, true⟩,
 ⟨some 6, .bin .shr (.t 5) (.c (.int .u64 32)), none, true⟩,
 ⟨some 0, .mv (.t 6), none, true⟩])
 (.reg [⟨some 2, .mv (.c (.int .i64 32)), none, true⟩]))
 .skip))
 r96_0)),
 25, [.t 2], 1, []⟩
/-- strings.indexFunc -/
def b97_0 : IC := (.seq (.reg [⟨some 11, .nxt (.t 10), none, true⟩,
 ⟨some 12, .ext 0 (.t 11), none, true⟩])
 (.seq (.cond (.t 12)
 .skip
 (.exit 0))
 (.block 1
 (.seq (.reg [⟨some 13, .ext 1 (.t 11), none, true⟩,
 ⟨some 14, .ext 2 (.t 11), none, true⟩,
 ⟨some 7, .mv (.t 13), none, true⟩,
 ⟨some 8, .mv (.t 14), none, true⟩])
 (.seq (.reg [⟨some 15, .mv (.t 1), none, true⟩,
 ⟨some 16, .mv (.t 8), none, true⟩,
 ⟨some 17, .callv (.t 15) [(.t 16)], none, true⟩,
 ⟨some 18, .mv (.t 2), none, true⟩,
 ⟨some 19, .eq .bool false (.t 17) (.t 18), none, true⟩])
 (.cond (.t 19)
 (.seq (.reg [⟨some 20, .mv (.t 7), none, true⟩,
 ⟨some 6, .mv (.t 20), none, true⟩])
 .ret)
 .skip))))))
def r97_1 : IC := (.seq (.reg [⟨some 6, .mv (.c (.int .i64 (-1))), none, true⟩])
 .ret)
def i97 : IFun := ⟨(.seq (.reg [⟨some 6, .mv (.c (.int .i64 0)), none, true⟩])
 (.seq (.seq (.reg [⟨some 9, .mv (.t 0), none, true⟩,
 ⟨some 10, .rng (.t 9), none, true⟩])
 (.block 0
 (.loop b97_0)))
 r97_1)),
 21, [.t 6], 1, []⟩
/-- slices.siftDownCmpFunc[dowel/graph.Edge] -/
def r98_1 : IC := (.seq (.seq (.reg [⟨some 43, .mv (.t 4), none, false⟩,
 ⟨some 44, .mv (.t 0), none, false⟩,
 ⟨some 45, .mv (.t 3), none, false⟩,
 ⟨some 46, .mv (.t 10), none, false⟩,
 ⟨some 47, .bin .add (.t 45) (.t 46), none, false⟩,
 ⟨some 48, .iadr 2 (.t 44) (.t 47), none, false⟩,
 ⟨some 49, .load 2 true (.t 48), none, false⟩,
 ⟨some 50, .mv (.t 0), none, false⟩,
 ⟨some 51, .mv (.t 3), none, false⟩,
 ⟨some 52, .mv (.t 11), none, false⟩,
 ⟨some 53, .bin .add (.t 51) (.t 52), none, false⟩,
 ⟨some 54, .iadr 2 (.t 50) (.t 53), none, false⟩,
 ⟨some 55, .load 2 true (.t 54), none, false⟩,
 ⟨some 56, .callv (.t 43) [(.t 49), (.t 55)], none, true⟩,
 ⟨some 57, .bin .lss (.t 56) (.c (.int .i64 0)), none, true⟩,
 ⟨some 58, .un .not (.t 57), none, true⟩])
 (.cond (.t 58)
 .ret
 .skip))
 (.seq (.reg [⟨some 59, .mv (.t 0), none, false⟩,
 ⟨some 60, .mv (.t 3), none, false⟩,
 ⟨some 61, .mv (.t 10), none, false⟩,
 ⟨some 62, .bin .add (.t 60) (.t 61), none, false⟩,
 ⟨some 63, .mv (.t 0), none, false⟩,
 ⟨some 64, .mv (.t 3), none, false⟩,
 ⟨some 65, .mv (.t 11), none, false⟩,
 ⟨some 66, .bin .add (.t 64) (.t 65), none, false⟩,
 ⟨some 67, .mv (.t 0), none, false⟩,
 ⟨some 68, .mv (.t 3), none, false⟩,
 ⟨some 69, .mv (.t 11), none, false⟩,
 ⟨some 70, .bin .add (.t 68) (.t 69), none, false⟩,
 ⟨some 71, .iadr 2 (.t 67) (.t 70), none, false⟩,
 ⟨some 72, .load 2 true (.t 71), none, false⟩,
 ⟨some 73, .mv (.t 0), none, false⟩,
 ⟨some 74, .mv (.t 3), none, false⟩,
 ⟨some 75, .mv (.t 10), none, false⟩,
 ⟨some 76, .bin .add (.t 74) (.t 75), none, false⟩,
 ⟨some 77, .iadr 2 (.t 73) (.t 76), none, false⟩,
 ⟨some 78, .load 2 true (.t 77), none, false⟩,
 ⟨some 79, .iadr 2 (.t 59) (.t 62), none, true⟩,
 ⟨none, .store 2 (.t 79) (.t 72), none, true⟩,
 ⟨some 80, .iadr 2 (.t 63) (.t 66), none, true⟩,
 ⟨none, .store 2 (.t 80) (.t 78), none, true⟩])
 (.reg [⟨some 81, .mv (.t 11), none, true⟩,
 ⟨some 10, .mv (.t 81), none, true⟩])))
def b98_0 : IC := (.block 1
 (.seq (.reg [⟨some 13, .mv (.t 10), none, true⟩,
 ⟨some 14, .bin .mul (.c (.int .i64 2)) (.t 13), none, true⟩,
 ⟨some 15, .bin .add (.t 14) (.c (.int .i64 1)), none, true⟩,
 ⟨some 11, .mv (.t 15), none, true⟩])
 (.seq (.seq (.reg [⟨some 16, .mv (.t 11), none, true⟩,
 ⟨some 17, .mv (.t 2), none, true⟩,
 ⟨some 18, .bin .geq (.t 16) (.t 17), none, true⟩])
 (.cond (.t 18)
 (.exit 0)
 .skip))
 (.seq (.seq (.reg [⟨some 19, .mv (.t 11), none, true⟩,
 ⟨some 20, .bin .add (.t 19) (.c (.int .i64 1)), none, true⟩,
 ⟨some 21, .mv (.t 2), none, true⟩,
 ⟨some 22, .bin .lss (.t 20) (.t 21), none, true⟩,
 ⟨some 23, .mv (.t 22), none, true⟩,
 ⟨some 24, .mv (.t 4), (some (23, true)), false⟩,
 ⟨some 25, .mv (.t 0), (some (23, true)), false⟩,
 ⟨some 26, .mv (.t 3), (some (23, true)), false⟩,
 ⟨some 27, .mv (.t 11), (some (23, true)), false⟩,
 ⟨some 28, .bin .add (.t 26) (.t 27), (some (23, true)), false⟩,
 ⟨some 29, .iadr 2 (.t 25) (.t 28), (some (23, true)), false⟩,
 ⟨some 30, .load 2 true (.t 29), (some (23, true)), false⟩,
 ⟨some 31, .mv (.t 0), (some (23, true)), false⟩,
 ⟨some 32, .mv (.t 3), (some (23, true)), false⟩,
 ⟨some 33, .mv (.t 11), (some (23, true)), false⟩,
 ⟨some 34, .bin .add (.t 32) (.t 33), (some (23, true)), false⟩,
 ⟨some 35, .bin .add (.t 34) (.c (.int .i64 1)), (some (23, true)), false⟩,
 ⟨some 36, .iadr 2 (.t 31) (.t 35), (some (23, true)), false⟩,
 ⟨some 37, .load 2 true (.t 36), (some (23, true)), false⟩,
 ⟨some 38, .callv (.t 24) [(.t 30), (.t 37)], (some (23, true)), true⟩,
 ⟨some 39, .bin .lss (.t 38) (.c (.int .i64 0)), (some (23, true)), true⟩,
 ⟨some 40, .pick (.t 23) (.t 39) (.c (.bool false)), none, true⟩])
 (.cond (.t 40)
 (.reg [⟨some 41, .mv (.t 11), none, true⟩,
 ⟨some 42, .bin .add (.t 41) (.c (.int .i64 1)), none, true⟩,
 ⟨some 11, .mv (.t 42), none, true⟩])
 .skip))
 r98_1))))
def i98 : IFun := ⟨(.seq (.reg [⟨some 12, .mv (.t 1), none, true⟩,
 ⟨some 10, .mv (.t 12), none, true⟩])
 (.block 0
 (.loop b98_0))),
 82, [], 0, []⟩
/-- slices.nextPowerOfTwo -/
def i99 : IFun := ⟨(.seq (.reg [⟨some 2, .mv (.c (.int .u64 0)), none, true⟩])
 (.seq (.reg [⟨some 3, .mv (.t 0), none, true⟩,
 ⟨some 4, .conv .u64 (.t 3), none, true⟩,
 ⟨some 5, .callf 84 [(.t 4)], none, true⟩,
 ⟨some 6, .bin .shl (.c (.int .u64 1)) (.t 5), none, true⟩,
 ⟨some 2, .mv (.t 6), none, true⟩])
 .ret)),
 7, [.t 2], 1, []⟩
/-- (*slices.xorshift).Next -/
def i100 : IFun := ⟨(.seq (.reg [⟨some 2, .mv (.c (.int .u64 0)), none, true⟩])
 (.seq (.reg [⟨some 3, .mv (.t 0), none, false⟩,
 ⟨some 4, .nilck (.t 3), none, false⟩,
 ⟨some 5, .load 1 false (.t 4), none, false⟩,
 ⟨some 6, .mv (.t 0), none, false⟩,
 ⟨some 7, .nilck (.t 6), none, false⟩,
 ⟨some 8, .load 1 false (.t 7), none, false⟩,
 ⟨some 9, .bin .shl (.t 8) (.c (.int .u64 13)), none, false⟩,
 ⟨some 10, .bin .xor (.t 5) (.t 9), none, true⟩,
 ⟨some 11, .nilck (.t 3), none, true⟩,
 ⟨none, .store 1 (.t 11) (.t 10), none, true⟩])
 (.seq (.reg [⟨some 12, .mv (.t 0), none, false⟩,
 ⟨some 13, .nilck (.t 12), none, false⟩,
 ⟨some 14, .load 1 false (.t 13), none, false⟩,
 ⟨some 15, .mv (.t 0), none, false⟩,
 ⟨some 16, .nilck (.t 15), none, false⟩,
 ⟨some 17, .load 1 false (.t 16), none, false⟩,
 ⟨some 18, .bin .shr (.t 17) (.c (.int .u64 7)), none, false⟩,
 ⟨some 19, .bin .xor (.t 14) (.t 18), none, true⟩,
 ⟨some 20, .nilck (.t 12), none, true⟩,
 ⟨none, .store 1 (.t 20) (.t 19), none, true⟩])
 (.seq (.reg [⟨some 21, .mv (.t 0), none, false⟩,
 ⟨some 22, .nilck (.t 21), none, false⟩,
 ⟨some 23, .load 1 false (.t 22), none, false⟩,
 ⟨some 24, .mv (.t 0), none, false⟩,
 ⟨some 25, .nilck (.t 24), none, false⟩,
 ⟨some 26, .load 1 false (.t 25), none, false⟩,
 ⟨some 27, .bin .shl (.t 26) (.c (.int .u64 17)), none, false⟩,
 ⟨some 28, .bin .xor (.t 23) (.t 27), none, true⟩,
 ⟨some 29, .nilck (.t 21), none, true⟩,
 ⟨none, .store 1 (.t 29) (.t 28), none, true⟩])
 (.seq (.reg [⟨some 30, .mv (.t 0), none, true⟩,
 ⟨some 31, .nilck (.t 30), none, true⟩,
 ⟨some 32, .load 1 false (.t 31), none, true⟩,
 ⟨some 2, .mv (.t 32), none, true⟩])
 .ret))))),
 33, [.t 2], 0, []⟩
/-- slices.medianAdjacentCmpFunc[dowel/graph.Edge] -/
def i101 : IFun := ⟨(.seq (.reg [⟨some 8, .mv (.c (.int .i64 0)), none, true⟩])
 (.seq (.reg [⟨some 9, .mv (.t 0), none, true⟩,
 ⟨some 10, .mv (.t 1), none, true⟩,
 ⟨some 11, .bin .sub (.t 10) (.c (.int .i64 1)), none, true⟩,
 ⟨some 12, .mv (.t 1), none, true⟩,
 ⟨some 13, .mv (.t 1), none, true⟩,
 ⟨some 14, .bin .add (.t 13) (.c (.int .i64 1)), none, true⟩,
 ⟨some 15, .mv (.t 2), none, true⟩,
 ⟨some 16, .mv (.t 3), none, true⟩,
 ⟨some 17, .callf 102 [(.t 9), (.t 11), (.t 12), (.t 14), (.t 15), (.t 16)], none, true⟩,
 ⟨some 8, .mv (.t 17), none, true⟩])
 .ret)),
 18, [.t 8], 0, []⟩
/-- slices.medianCmpFunc[dowel/graph.Edge] -/
def i102 : IFun := ⟨(.seq (.reg [⟨some 12, .mv (.c (.int .i64 0)), none, true⟩])
 (.seq (.reg [⟨some 14, .mv (.t 0), none, true⟩,
 ⟨some 15, .mv (.t 1), none, true⟩,
 ⟨some 16, .mv (.t 2), none, true⟩,
 ⟨some 17, .mv (.t 4), none, true⟩,
 ⟨some 18, .mv (.t 5), none, true⟩,
 ⟨some 19, .callf 103 [(.t 14), (.t 15), (.t 16), (.t 17), (.t 18)], none, true⟩,
 ⟨some 13, .mv (.t 19), none, true⟩,
 ⟨some 20, .ext 0 (.t 13), none, true⟩,
 ⟨some 21, .ext 1 (.t 13), none, true⟩,
 ⟨some 1, .mv (.t 20), none, true⟩,
 ⟨some 2, .mv (.t 21), none, true⟩])
 (.seq (.reg [⟨some 23, .mv (.t 0), none, true⟩,
 ⟨some 24, .mv (.t 2), none, true⟩,
 ⟨some 25, .mv (.t 3), none, true⟩,
 ⟨some 26, .mv (.t 4), none, true⟩,
 ⟨some 27, .mv (.t 5), none, true⟩,
 ⟨some 28, .callf 103 [(.t 23), (.t 24), (.t 25), (.t 26), (.t 27)], none, true⟩,
 ⟨some 22, .mv (.t 28), none, true⟩,
 ⟨some 29, .ext 0 (.t 22), none, true⟩,
 ⟨some 30, .ext 1 (.t 22), none, true⟩,
 ⟨some 2, .mv (.t 29), none, true⟩,
 ⟨some 3, .mv (.t 30), none, true⟩])
 (.seq (.reg [⟨some 32, .mv (.t 0), none, true⟩,
 ⟨some 33, .mv (.t 1), none, true⟩,
 ⟨some 34, .mv (.t 2), none, true⟩,
 ⟨some 35, .mv (.t 4), none, true⟩,
 ⟨some 36, .mv (.t 5), none, true⟩,
 ⟨some 37, .callf 103 [(.t 32), (.t 33), (.t 34), (.t 35), (.t 36)], none, true⟩,
 ⟨some 31, .mv (.t 37), none, true⟩,
 ⟨some 38, .ext 0 (.t 31), none, true⟩,
 ⟨some 39, .ext 1 (.t 31), none, true⟩,
 ⟨some 1, .mv (.t 38), none, true⟩,
 ⟨some 2, .mv (.t 39), none, true⟩])
 (.seq (.reg [⟨some 40, .mv (.t 2), none, true⟩,
 ⟨some 12, .mv (.t 40), none, true⟩])
 .ret))))),
 41, [.t 12], 0, []⟩
/-- slices.order2CmpFunc[dowel/graph.Edge] -/
def i103 : IFun := ⟨(.seq (.reg [⟨some 10, .mv (.c (.int .i64 0)), none, true⟩,
 ⟨some 11, .mv (.c (.int .i64 0)), none, true⟩])
 (.seq (.seq (.reg [⟨some 12, .mv (.t 4), none, false⟩,
 ⟨some 13, .mv (.t 0), none, false⟩,
 ⟨some 14, .mv (.t 2), none, false⟩,
 ⟨some 15, .iadr 2 (.t 13) (.t 14), none, false⟩,
 ⟨some 16, .load 2 true (.t 15), none, false⟩,
 ⟨some 17, .mv (.t 0), none, false⟩,
 ⟨some 18, .mv (.t 1), none, false⟩,
 ⟨some 19, .iadr 2 (.t 17) (.t 18), none, false⟩,
 ⟨some 20, .load 2 true (.t 19), none, false⟩,
 ⟨some 21, .callv (.t 12) [(.t 16), (.t 20)], none, true⟩,
 ⟨some 22, .bin .lss (.t 21) (.c (.int .i64 0)), none, true⟩])
 (.cond (.t 22)
 (.seq (.reg [⟨some 23, .mv (.t 3), none, true⟩,
 ⟨some 24, .nilck (.t 23), none, true⟩,
 ⟨some 25, .load 1 false (.t 24), none, true⟩,
 ⟨some 26, .bin .add (.t 25) (.c (.int .i64 1)), none, true⟩,
 ⟨some 27, .nilck (.t 23), none, true⟩,
 ⟨none, .store 1 (.t 27) (.t 26), none, true⟩])
 (.seq (.reg [⟨some 28, .mv (.t 2), none, true⟩,
 ⟨some 29, .mv (.t 1), none, true⟩,
 ⟨some 10, .mv (.t 28), none, true⟩,
 ⟨some 11, .mv (.t 29), none, true⟩])
 .ret))
 .skip))
 (.seq (.reg [⟨some 30, .mv (.t 1), none, true⟩,
 ⟨some 31, .mv (.t 2), none, true⟩,
 ⟨some 10, .mv (.t 30), none, true⟩,
 ⟨some 11, .mv (.t 31), none, true⟩])
 .ret))),
 32, [.t 10, .t 11], 0, []⟩
def G : Prog := [(7, i7), (10, i10), (11, i11), (14, i14), (15, i15), (16, i16), (17, i17), (19, i19), (22, i22), (24, i24), (25, i25), (26, i26), (27, i27), (28, i28), (29, i29), (30, i30), (38, i38), (39, i39), (40, i40), (41, i41), (42, i42), (43, i43), (44, i44), (45, i45), (46, i46), (47, i47), (48, i48), (49, i49), (50, i50), (51, i51), (52, i52), (53, i53), (55, i55), (56, i56), (57, i57), (58, i58), (59, i59), (60, i60), (61, i61), (62, i62), (63, i63), (64, i64), (65, i65), (66, i66), (67, i67), (68, i68), (69, i69), (70, i70), (71, i71), (72, i72), (73, i73), (74, i74), (75, i75), (76, i76), (77, i77), (78, i78), (79, i79), (80, i80), (81, i81), (82, i82), (83, i83), (84, i84), (85, i85), (86, i86), (87, i87), (88, i88), (89, i89), (90, i90), (91, i91), (92, i92), (93, i93), (94, i94), (95, i95), (96, i96), (97, i97), (98, i98), (99, i99), (100, i100), (101, i101), (102, i102), (103, i103)]
abbrev gd (t : List V) (i : Nat) : V := t.getD i undefV
end Go.Proofs.Ytoommmeapdkopaa.E
