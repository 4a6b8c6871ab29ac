/- The interpreter code of the functions that the statement reaches, printed out of the translation; the tie proves that it is the loaded program. No conditions. -/
import Derived.Test.YtoommmeapdkopaaE33
set_option maxRecDepth 20000
namespace Go.Proofs.Ytoommmeapdkopaa.E
open Go Go.Eng
/-- dowel/dowellaw49.TaskOrders -/
def b7_2 : IC := (.seq (.reg [⟨some 99, .bin .lss (.t 98) (.t 97), none, true⟩])
 (.seq (.cond (.t 99)
 .skip
 (.exit 4))
 (.seq (.block 5
 (.seq (.reg [⟨some 100, .iadr 1 (.t 96) (.t 98), none, true⟩,
 ⟨some 101, .load 1 false (.t 100), none, true⟩,
 ⟨some 17, .mv (.t 101), none, true⟩])
 (.reg [⟨some 102, .mv (.t 15), none, true⟩,
 ⟨some 103, .mv (.t 102), none, true⟩,
 ⟨some 104, .mv (.t 11), (some (103, true)), true⟩,
 ⟨some 105, .mv (.t 17), (some (103, true)), true⟩,
 ⟨some 106, .callf 22 [(.t 104), (.t 105)], (some (103, true)), true⟩,
 ⟨some 107, .pick (.t 103) (.t 106) (.c (.bool false)), none, true⟩,
 ⟨some 15, .mv (.t 107), none, true⟩])))
 (.reg [⟨some 108, .bin .add (.t 98) (.c (.int .i64 1)), none, true⟩,
 ⟨some 98, .mv (.t 108), none, true⟩]))))
def r7_3 : IC := (.seq (.reg [⟨some 109, .mv (.t 15), none, true⟩])
 (.cond (.t 109)
 (.reg [⟨some 110, .mv (.t 14), none, true⟩,
 ⟨some 13, .mv (.t 110), none, true⟩])
 .skip))
def r7_4 : IC := (.reg [⟨some 85, .mv (.t 14), none, true⟩,
 ⟨some 86, .bin .add (.t 85) (.c (.int .i64 1)), none, true⟩,
 ⟨some 14, .mv (.t 86), none, true⟩])
def b7_1 : IC := (.seq (.seq (.reg [⟨some 76, .mv (.t 14), none, true⟩,
 ⟨some 77, .fadr 0 (.t 2), none, true⟩,
 ⟨some 78, .load 1 false (.t 77), none, true⟩,
 ⟨some 79, .lens (.t 78), none, true⟩,
 ⟨some 80, .bin .lss (.t 76) (.t 79), none, true⟩,
 ⟨some 81, .mv (.t 80), none, true⟩,
 ⟨some 82, .mv (.t 13), (some (81, true)), true⟩,
 ⟨some 83, .bin .lss (.t 82) (.c (.int .i64 0)), (some (81, true)), true⟩,
 ⟨some 84, .pick (.t 81) (.t 83) (.c (.bool false)), none, true⟩])
 (.cond (.t 84)
 .skip
 (.exit 2)))
 (.seq (.block 3
 (.seq (.reg [⟨some 87, .mv (.t 11), none, true⟩,
 ⟨some 88, .mv (.t 14), none, true⟩,
 ⟨some 89, .callf 22 [(.t 87), (.t 88)], none, true⟩,
 ⟨some 90, .un .not (.t 89), none, true⟩,
 ⟨some 15, .mv (.t 90), none, true⟩])
 (.seq (.seq (.reg [⟨some 91, .fadr 0 (.t 2), none, true⟩,
 ⟨some 92, .load 1 false (.t 91), none, true⟩,
 ⟨some 93, .mv (.t 14), none, true⟩,
 ⟨some 94, .iadr 4 (.t 92) (.t 93), none, true⟩,
 ⟨some 95, .fadr 3 (.t 94), none, true⟩,
 ⟨some 96, .load 1 false (.t 95), none, true⟩,
 ⟨some 97, .lens (.t 96), none, true⟩,
 ⟨some 98, .mv (.c (.int .i64 0)), none, true⟩])
 (.block 4
 (.loop b7_2)))
 r7_3)))
 r7_4))
def r7_5 : IC := (.seq (.seq (.reg [⟨some 111, .mv (.t 5), none, true⟩,
 ⟨some 112, .mv (.t 12), none, true⟩,
 ⟨some 113, .iadr 1 (.t 111) (.t 112), none, true⟩,
 ⟨some 114, .load 1 false (.t 113), none, true⟩,
 ⟨some 115, .mv (.t 13), none, false⟩,
 ⟨some 116, .bin .neq (.t 114) (.t 115), none, true⟩,
 ⟨some 117, .mv (.t 116), none, true⟩,
 ⟨some 118, .mv (.t 7), (some (117, false)), false⟩,
 ⟨some 119, .mv (.t 12), (some (117, false)), false⟩,
 ⟨some 120, .iadr 1 (.t 118) (.t 119), (some (117, false)), false⟩,
 ⟨some 121, .load 1 false (.t 120), (some (117, false)), false⟩,
 ⟨some 122, .load 2 true (.t 2), (some (117, false)), false⟩,
 ⟨some 123, .mv (.t 12), (some (117, false)), false⟩,
 ⟨some 124, .callf 28 [(.t 122), (.t 123)], (some (117, false)), false⟩,
 ⟨some 125, .callf 19 [(.t 121), (.t 124)], (some (117, false)), true⟩,
 ⟨some 126, .un .not (.t 125), (some (117, false)), true⟩,
 ⟨some 127, .pick (.t 117) (.c (.bool true)) (.t 126), none, true⟩])
 (.cond (.t 127)
 (.seq (.reg [⟨some 4, .mv (.c (.bool false)), none, true⟩])
 .ret)
 .skip))
 (.reg [⟨some 128, .mv (.t 11), none, true⟩,
 ⟨some 129, .mv (.t 13), none, true⟩,
 ⟨some 130, .bsl 1 1 [(.int .i64 0)] [(0, 1, (.t 129))], none, true⟩,
 ⟨some 131, .app 1 8 (.t 128) (.t 130), none, true⟩,
 ⟨some 11, .mv (.t 131), none, true⟩]))
def r7_6 : IC := (.reg [⟨some 74, .mv (.t 12), none, true⟩,
 ⟨some 75, .bin .add (.t 74) (.c (.int .i64 1)), none, true⟩,
 ⟨some 12, .mv (.t 75), none, true⟩])
def b7_0 : IC := (.seq (.seq (.reg [⟨some 69, .mv (.t 12), none, true⟩,
 ⟨some 70, .fadr 0 (.t 2), none, true⟩,
 ⟨some 71, .load 1 false (.t 70), none, true⟩,
 ⟨some 72, .lens (.t 71), none, true⟩,
 ⟨some 73, .bin .lss (.t 69) (.t 72), none, true⟩])
 (.cond (.t 73)
 .skip
 (.exit 0)))
 (.seq (.block 1
 (.seq (.reg [⟨some 13, .mv (.c (.int .i64 (-1))), none, true⟩])
 (.seq (.seq (.reg [⟨some 14, .mv (.c (.int .i64 0)), none, true⟩])
 (.block 2
 (.loop b7_1)))
 r7_5)))
 r7_6))
def r7_7 : IC := (.seq (.seq (.reg [⟨some 132, .mv (.t 1), none, true⟩,
 ⟨some 133, .bin .lss (.t 132) (.c (.int .i64 0)), none, true⟩,
 ⟨some 134, .mv (.t 133), none, true⟩,
 ⟨some 135, .mv (.t 1), (some (134, false)), true⟩,
 ⟨some 136, .fadr 0 (.t 2), (some (134, false)), true⟩,
 ⟨some 137, .load 1 false (.t 136), (some (134, false)), true⟩,
 ⟨some 138, .lens (.t 137), (some (134, false)), true⟩,
 ⟨some 139, .bin .geq (.t 135) (.t 138), (some (134, false)), true⟩,
 ⟨some 140, .pick (.t 134) (.c (.bool true)) (.t 139), none, true⟩])
 (.cond (.t 140)
 (.seq (.reg [⟨some 141, .mv (.t 9), none, true⟩,
 ⟨some 142, .lens (.t 141), none, true⟩,
 ⟨some 143, .bin .eql (.t 142) (.c (.int .i64 0)), none, true⟩,
 ⟨some 144, .mv (.t 143), none, true⟩,
 ⟨some 145, .mv (.t 10), (some (144, true)), true⟩,
 ⟨some 146, .bin .eql (.t 145) (.c (.int .i64 2)), (some (144, true)), true⟩,
 ⟨some 147, .pick (.t 144) (.t 146) (.c (.bool false)), none, true⟩,
 ⟨some 4, .mv (.t 147), none, true⟩])
 .ret)
 .skip))
 (.seq (.reg [⟨some 148, .mv (.t 9), none, true⟩,
 ⟨some 149, .load 2 true (.t 2), none, true⟩,
 ⟨some 150, .mv (.t 1), none, true⟩,
 ⟨some 151, .callf 24 [(.t 149), (.t 150)], none, true⟩,
 ⟨some 152, .callf 19 [(.t 148), (.t 151)], none, true⟩,
 ⟨some 153, .mv (.t 152), none, true⟩,
 ⟨some 154, .mv (.t 10), (some (153, true)), true⟩,
 ⟨some 155, .bin .eql (.t 154) (.c (.int .i64 0)), (some (153, true)), true⟩,
 ⟨some 156, .pick (.t 153) (.t 155) (.c (.bool false)), none, true⟩,
 ⟨some 4, .mv (.t 156), none, true⟩])
 .ret))
def i7 : IFun := ⟨(.seq (.reg [⟨some 2, .boxr (.t 0), none, true⟩,
 ⟨some 4, .mv (.c (.bool false)), none, true⟩])
 (.seq (.seq (.reg [⟨some 18, .callf 10 [], none, true⟩,
 ⟨some 19, .un .not (.t 18), none, true⟩,
 ⟨some 20, .mv (.t 19), none, true⟩,
 ⟨some 21, .load 2 true (.t 2), (some (20, false)), true⟩,
 ⟨some 22, .callf 11 [(.t 21)], (some (20, false)), true⟩,
 ⟨some 23, .un .not (.t 22), (some (20, false)), true⟩,
 ⟨some 24, .pick (.t 20) (.c (.bool true)) (.t 23), none, true⟩,
 ⟨some 25, .mv (.t 24), none, true⟩,
 ⟨some 26, .load 2 true (.t 2), (some (25, false)), true⟩,
 ⟨some 27, .callf 14 [(.t 26)], (some (25, false)), true⟩,
 ⟨some 28, .bin .neq (.t 27) (.c (.int .i64 0)), (some (25, false)), true⟩,
 ⟨some 29, .pick (.t 25) (.c (.bool true)) (.t 28), none, true⟩])
 (.cond (.t 29)
 (.seq (.reg [⟨some 30, .callf 10 [], none, true⟩,
 ⟨some 4, .mv (.t 30), none, true⟩])
 .ret)
 .skip))
 (.seq (.reg [⟨some 32, .load 2 true (.t 2), none, true⟩,
 ⟨some 33, .callf 25 [(.t 32)], none, true⟩,
 ⟨some 31, .mv (.t 33), none, true⟩,
 ⟨some 34, .ext 0 (.t 31), none, true⟩,
 ⟨some 35, .ext 1 (.t 31), none, true⟩,
 ⟨some 5, .mv (.t 34), none, true⟩,
 ⟨some 6, .mv (.t 35), none, true⟩])
 (.seq (.reg [⟨some 37, .load 2 true (.t 2), none, true⟩,
 ⟨some 38, .callf 26 [(.t 37)], none, true⟩,
 ⟨some 36, .mv (.t 38), none, true⟩,
 ⟨some 39, .ext 0 (.t 36), none, true⟩,
 ⟨some 40, .ext 1 (.t 36), none, true⟩,
 ⟨some 7, .mv (.t 39), none, true⟩,
 ⟨some 8, .mv (.t 40), none, true⟩])
 (.seq (.reg [⟨some 42, .load 2 true (.t 2), none, true⟩,
 ⟨some 43, .mv (.t 1), none, true⟩,
 ⟨some 44, .callf 27 [(.t 42), (.t 43)], none, true⟩,
 ⟨some 41, .mv (.t 44), none, true⟩,
 ⟨some 45, .ext 0 (.t 41), none, true⟩,
 ⟨some 46, .ext 1 (.t 41), none, true⟩,
 ⟨some 9, .mv (.t 45), none, true⟩,
 ⟨some 10, .mv (.t 46), none, true⟩])
 (.seq (.seq (.reg [⟨some 47, .mv (.t 6), none, true⟩,
 ⟨some 48, .bin .neq (.t 47) (.c (.int .i64 0)), none, true⟩,
 ⟨some 49, .mv (.t 48), none, true⟩,
 ⟨some 50, .mv (.t 8), (some (49, false)), true⟩,
 ⟨some 51, .bin .neq (.t 50) (.c (.int .i64 0)), (some (49, false)), true⟩,
 ⟨some 52, .pick (.t 49) (.c (.bool true)) (.t 51), none, true⟩,
 ⟨some 53, .mv (.t 52), none, true⟩,
 ⟨some 54, .mv (.t 5), (some (53, false)), true⟩,
 ⟨some 55, .lens (.t 54), (some (53, false)), true⟩,
 ⟨some 56, .fadr 0 (.t 2), (some (53, false)), true⟩,
 ⟨some 57, .load 1 false (.t 56), (some (53, false)), true⟩,
 ⟨some 58, .lens (.t 57), (some (53, false)), true⟩,
 ⟨some 59, .bin .neq (.t 55) (.t 58), (some (53, false)), true⟩,
 ⟨some 60, .pick (.t 53) (.c (.bool true)) (.t 59), none, true⟩,
 ⟨some 61, .mv (.t 60), none, true⟩,
 ⟨some 62, .mv (.t 7), (some (61, false)), true⟩,
 ⟨some 63, .lens (.t 62), (some (61, false)), true⟩,
 ⟨some 64, .fadr 0 (.t 2), (some (61, false)), true⟩,
 ⟨some 65, .load 1 false (.t 64), (some (61, false)), true⟩,
 ⟨some 66, .lens (.t 65), (some (61, false)), true⟩,
 ⟨some 67, .bin .neq (.t 63) (.t 66), (some (61, false)), true⟩,
 ⟨some 68, .pick (.t 61) (.c (.bool true)) (.t 67), none, true⟩])
 (.cond (.t 68)
 (.seq (.reg [⟨some 4, .mv (.c (.bool false)), none, true⟩])
 .ret)
 .skip))
 (.seq (.reg [⟨some 11, .mv (.c .nils), none, true⟩])
 (.seq (.seq (.reg [⟨some 12, .mv (.c (.int .i64 0)), none, true⟩])
 (.block 0
 (.loop b7_0)))
 r7_7)))))))),
 157, [.t 4], 1, [2]⟩
/-- dowel/dowellaw49.known -/
def i10 : IFun := ⟨(.seq (.reg [⟨some 0, .mv (.c (.bool false)), none, true⟩])
 (.seq (.seq (.reg [⟨some 11, .callf 30 [], none, true⟩,
 ⟨some 1, .alloc [.nils, .nils], none, true⟩,
 ⟨none, .store 2 (.t 1) (.t 11), none, true⟩])
 (.frz 1))
 (.seq (.reg [⟨some 13, .loadr 2 true (.t 1), none, true⟩,
 ⟨some 14, .callf 25 [(.t 13)], none, true⟩,
 ⟨some 12, .mv (.t 14), none, true⟩,
 ⟨some 15, .ext 0 (.t 12), none, true⟩,
 ⟨some 16, .ext 1 (.t 12), none, true⟩,
 ⟨some 2, .mv (.t 15), none, true⟩,
 ⟨some 3, .mv (.t 16), none, true⟩])
 (.seq (.reg [⟨some 18, .loadr 2 true (.t 1), none, true⟩,
 ⟨some 19, .callf 15 [(.t 18)], none, true⟩,
 ⟨some 17, .mv (.t 19), none, true⟩,
 ⟨some 20, .ext 0 (.t 17), none, true⟩,
 ⟨some 21, .ext 1 (.t 17), none, true⟩,
 ⟨some 4, .mv (.t 20), none, true⟩,
 ⟨some 5, .mv (.t 21), none, true⟩])
 (.seq (.reg [⟨some 23, .loadr 2 true (.t 1), none, true⟩,
 ⟨some 24, .callf 16 [(.t 23)], none, true⟩,
 ⟨some 22, .mv (.t 24), none, true⟩,
 ⟨some 25, .ext 0 (.t 22), none, true⟩,
 ⟨some 26, .ext 1 (.t 22), none, true⟩,
 ⟨some 27, .ext 2 (.t 22), none, true⟩,
 ⟨some 6, .mv (.t 25), none, true⟩,
 ⟨some 7, .mv (.t 26), none, true⟩,
 ⟨some 8, .mv (.t 27), none, true⟩])
 (.seq (.seq (.reg [⟨some 29, .loadr 2 true (.t 1), none, true⟩,
 ⟨some 30, .callf 17 [(.t 29)], none, true⟩,
 ⟨some 28, .mv (.t 30), none, true⟩,
 ⟨some 31, .ext 0 (.t 28), none, true⟩,
 ⟨some 32, .ext 1 (.t 28), none, true⟩,
 ⟨some 9, .alloc [.nils, .nils], none, true⟩,
 ⟨none, .store 2 (.t 9) (.t 31), none, true⟩,
 ⟨some 10, .mv (.t 32), none, true⟩])
 (.frz 9))
 (.seq (.reg [⟨some 33, .mv (.t 3), none, true⟩,
 ⟨some 34, .bin .eql (.t 33) (.c (.int .i64 0)), none, true⟩,
 ⟨some 35, .mv (.t 34), none, true⟩,
 ⟨some 36, .mv (.t 2), (some (35, true)), true⟩,
 ⟨some 37, .bsl 1 4 [(.int .i64 0)] [(0, 1, (.c (.int .i64 0))), (1, 1, (.c (.int .i64 1))), (2, 1, (.c (.int .i64 2))), (3, 1, (.c (.int .i64 3)))], (some (35, true)), true⟩,
 ⟨some 38, .callf 19 [(.t 36), (.t 37)], (some (35, true)), true⟩,
 ⟨some 39, .pick (.t 35) (.t 38) (.c (.bool false)), none, true⟩,
 ⟨some 40, .mv (.t 39), none, true⟩,
 ⟨some 41, .mv (.t 5), (some (40, true)), true⟩,
 ⟨some 42, .bin .eql (.t 41) (.c (.int .i64 0)), (some (40, true)), true⟩,
 ⟨some 43, .pick (.t 40) (.t 42) (.c (.bool false)), none, true⟩,
 ⟨some 44, .mv (.t 43), none, true⟩,
 ⟨some 45, .mv (.t 4), (some (44, true)), true⟩,
 ⟨some 46, .bsl 1 4 [(.int .i64 0)] [(0, 1, (.c (.int .i64 8))), (1, 1, (.c (.int .i64 3))), (2, 1, (.c (.int .i64 5))), (3, 1, (.c (.int .i64 1)))], (some (44, true)), true⟩,
 ⟨some 47, .callf 19 [(.t 45), (.t 46)], (some (44, true)), true⟩,
 ⟨some 48, .pick (.t 44) (.t 47) (.c (.bool false)), none, true⟩,
 ⟨some 49, .mv (.t 48), none, true⟩,
 ⟨some 50, .mv (.t 8), (some (49, true)), true⟩,
 ⟨some 51, .bin .eql (.t 50) (.c (.int .i64 0)), (some (49, true)), true⟩,
 ⟨some 52, .pick (.t 49) (.t 51) (.c (.bool false)), none, true⟩,
 ⟨some 53, .mv (.t 52), none, true⟩,
 ⟨some 54, .mv (.t 6), (some (53, true)), true⟩,
 ⟨some 55, .bin .eql (.t 54) (.c (.int .i64 8)), (some (53, true)), true⟩,
 ⟨some 56, .pick (.t 53) (.t 55) (.c (.bool false)), none, true⟩,
 ⟨some 57, .mv (.t 56), none, true⟩,
 ⟨some 58, .mv (.t 7), (some (57, true)), true⟩,
 ⟨some 59, .bsl 1 3 [(.int .i64 0)] [(0, 1, (.c (.int .i64 0))), (1, 1, (.c (.int .i64 2))), (2, 1, (.c (.int .i64 3)))], (some (57, true)), true⟩,
 ⟨some 60, .callf 19 [(.t 58), (.t 59)], (some (57, true)), true⟩,
 ⟨some 61, .pick (.t 57) (.t 60) (.c (.bool false)), none, true⟩,
 ⟨some 62, .mv (.t 61), none, true⟩,
 ⟨some 63, .mv (.t 10), (some (62, true)), true⟩,
 ⟨some 64, .bin .eql (.t 63) (.c (.int .i64 0)), (some (62, true)), true⟩,
 ⟨some 65, .pick (.t 62) (.t 64) (.c (.bool false)), none, true⟩,
 ⟨some 66, .mv (.t 65), none, true⟩,
 ⟨some 67, .fadr 0 (.t 9), (some (66, true)), true⟩,
 ⟨some 68, .loadr 1 false (.t 67), (some (66, true)), true⟩,
 ⟨some 69, .lens (.t 68), (some (66, true)), true⟩,
 ⟨some 70, .bin .eql (.t 69) (.c (.int .i64 4)), (some (66, true)), true⟩,
 ⟨some 71, .pick (.t 66) (.t 70) (.c (.bool false)), none, true⟩,
 ⟨some 72, .mv (.t 71), none, true⟩,
 ⟨some 73, .fadr 0 (.t 9), (some (72, true)), true⟩,
 ⟨some 74, .loadr 1 false (.t 73), (some (72, true)), true⟩,
 ⟨some 75, .iadr 4 (.t 74) (.c (.int .i64 3)), (some (72, true)), true⟩,
 ⟨some 76, .fadr 3 (.t 75), (some (72, true)), true⟩,
 ⟨some 77, .load 1 false (.t 76), (some (72, true)), true⟩,
 ⟨some 78, .bsl 1 2 [(.int .i64 0)] [(0, 1, (.c (.int .i64 1))), (1, 1, (.c (.int .i64 2)))], (some (72, true)), true⟩,
 ⟨some 79, .callf 19 [(.t 77), (.t 78)], (some (72, true)), true⟩,
 ⟨some 80, .pick (.t 72) (.t 79) (.c (.bool false)), none, true⟩,
 ⟨some 0, .mv (.t 80), none, true⟩])
 .ret))))))),
 81, [.t 0], 1, [1, 1000001, 9, 1000073, 1000067]⟩
/-- dowel/dowellaw49.Few -/
def b11_0 : IC := (.seq (.seq (.reg [⟨some 16, .mv (.t 3), none, true⟩,
 ⟨some 17, .fadr 0 (.t 1), none, true⟩,
 ⟨some 18, .load 1 false (.t 17), none, true⟩,
 ⟨some 19, .lens (.t 18), none, true⟩,
 ⟨some 20, .bin .lss (.t 16) (.t 19), none, true⟩])
 (.cond (.t 20)
 .skip
 (.exit 0)))
 (.seq (.block 1
 (.seq (.reg [⟨some 23, .fadr 0 (.t 1), none, true⟩,
 ⟨some 24, .load 1 false (.t 23), none, true⟩,
 ⟨some 25, .mv (.t 3), none, true⟩,
 ⟨some 26, .iadr 4 (.t 24) (.t 25), none, true⟩,
 ⟨some 27, .fadr 3 (.t 26), none, true⟩,
 ⟨some 28, .load 1 false (.t 27), none, true⟩,
 ⟨some 29, .lens (.t 28), none, true⟩,
 ⟨some 30, .bin .gtr (.t 29) (.c (.int .i64 10)), none, true⟩,
 ⟨some 31, .mv (.t 30), none, true⟩,
 ⟨some 32, .fadr 0 (.t 1), (some (31, false)), true⟩,
 ⟨some 33, .load 1 false (.t 32), (some (31, false)), true⟩,
 ⟨some 34, .mv (.t 3), (some (31, false)), true⟩,
 ⟨some 35, .iadr 4 (.t 33) (.t 34), (some (31, false)), true⟩,
 ⟨some 36, .fadr 0 (.t 35), (some (31, false)), true⟩,
 ⟨some 37, .load 1 false (.t 36), (some (31, false)), true⟩,
 ⟨some 38, .lent (.t 37), (some (31, false)), true⟩,
 ⟨some 39, .bin .gtr (.t 38) (.c (.int .i64 50)), (some (31, false)), true⟩,
 ⟨some 40, .pick (.t 31) (.c (.bool true)) (.t 39), none, true⟩,
 ⟨some 41, .mv (.t 40), none, true⟩,
 ⟨some 42, .fadr 0 (.t 1), (some (41, false)), true⟩,
 ⟨some 43, .load 1 false (.t 42), (some (41, false)), true⟩,
 ⟨some 44, .mv (.t 3), (some (41, false)), true⟩,
 ⟨some 45, .iadr 4 (.t 43) (.t 44), (some (41, false)), true⟩,
 ⟨some 46, .fadr 2 (.t 45), (some (41, false)), true⟩,
 ⟨some 47, .load 1 false (.t 46), (some (41, false)), true⟩,
 ⟨some 48, .lent (.t 47), (some (41, false)), true⟩,
 ⟨some 49, .bin .gtr (.t 48) (.c (.int .i64 50)), (some (41, false)), true⟩,
 ⟨some 50, .pick (.t 41) (.c (.bool true)) (.t 49), none, true⟩])
 (.cond (.t 50)
 (.seq (.reg [⟨some 2, .mv (.c (.bool false)), none, true⟩])
 .ret)
 .skip)))
 (.reg [⟨some 21, .mv (.t 3), none, true⟩,
 ⟨some 22, .bin .add (.t 21) (.c (.int .i64 1)), none, true⟩,
 ⟨some 3, .mv (.t 22), none, true⟩])))
def b11_3 : IC := (.seq (.seq (.reg [⟨some 76, .mv (.t 5), none, true⟩,
 ⟨some 77, .fadr 1 (.t 1), none, true⟩,
 ⟨some 78, .load 1 false (.t 77), none, true⟩,
 ⟨some 79, .mv (.t 4), none, true⟩,
 ⟨some 80, .iadr 2 (.t 78) (.t 79), none, true⟩,
 ⟨some 81, .fadr 1 (.t 80), none, true⟩,
 ⟨some 82, .load 1 false (.t 81), none, true⟩,
 ⟨some 83, .lens (.t 82), none, true⟩,
 ⟨some 84, .bin .lss (.t 76) (.t 83), none, true⟩])
 (.cond (.t 84)
 .skip
 (.exit 4)))
 (.seq (.block 5
 (.seq (.reg [⟨some 87, .fadr 1 (.t 1), none, true⟩,
 ⟨some 88, .load 1 false (.t 87), none, true⟩,
 ⟨some 89, .mv (.t 4), none, true⟩,
 ⟨some 90, .iadr 2 (.t 88) (.t 89), none, true⟩,
 ⟨some 91, .fadr 1 (.t 90), none, true⟩,
 ⟨some 92, .load 1 false (.t 91), none, true⟩,
 ⟨some 93, .mv (.t 5), none, true⟩,
 ⟨some 94, .iadr 1 (.t 92) (.t 93), none, true⟩,
 ⟨some 95, .load 1 false (.t 94), none, true⟩,
 ⟨some 96, .lent (.t 95), none, true⟩,
 ⟨some 97, .bin .gtr (.t 96) (.c (.int .i64 50)), none, true⟩])
 (.cond (.t 97)
 (.seq (.reg [⟨some 2, .mv (.c (.bool false)), none, true⟩])
 .ret)
 .skip)))
 (.reg [⟨some 85, .mv (.t 5), none, true⟩,
 ⟨some 86, .bin .add (.t 85) (.c (.int .i64 1)), none, true⟩,
 ⟨some 5, .mv (.t 86), none, true⟩])))
def r11_4 : IC := (.reg [⟨some 56, .mv (.t 4), none, true⟩,
 ⟨some 57, .bin .add (.t 56) (.c (.int .i64 1)), none, true⟩,
 ⟨some 4, .mv (.t 57), none, true⟩])
def b11_2 : IC := (.seq (.seq (.reg [⟨some 51, .mv (.t 4), none, true⟩,
 ⟨some 52, .fadr 1 (.t 1), none, true⟩,
 ⟨some 53, .load 1 false (.t 52), none, true⟩,
 ⟨some 54, .lens (.t 53), none, true⟩,
 ⟨some 55, .bin .lss (.t 51) (.t 54), none, true⟩])
 (.cond (.t 55)
 .skip
 (.exit 2)))
 (.seq (.block 3
 (.seq (.seq (.reg [⟨some 58, .fadr 1 (.t 1), none, true⟩,
 ⟨some 59, .load 1 false (.t 58), none, true⟩,
 ⟨some 60, .mv (.t 4), none, true⟩,
 ⟨some 61, .iadr 2 (.t 59) (.t 60), none, true⟩,
 ⟨some 62, .fadr 1 (.t 61), none, true⟩,
 ⟨some 63, .load 1 false (.t 62), none, true⟩,
 ⟨some 64, .lens (.t 63), none, true⟩,
 ⟨some 65, .bin .gtr (.t 64) (.c (.int .i64 5)), none, true⟩,
 ⟨some 66, .mv (.t 65), none, true⟩,
 ⟨some 67, .fadr 1 (.t 1), (some (66, false)), true⟩,
 ⟨some 68, .load 1 false (.t 67), (some (66, false)), true⟩,
 ⟨some 69, .mv (.t 4), (some (66, false)), true⟩,
 ⟨some 70, .iadr 2 (.t 68) (.t 69), (some (66, false)), true⟩,
 ⟨some 71, .fadr 0 (.t 70), (some (66, false)), true⟩,
 ⟨some 72, .load 1 false (.t 71), (some (66, false)), true⟩,
 ⟨some 73, .lent (.t 72), (some (66, false)), true⟩,
 ⟨some 74, .bin .gtr (.t 73) (.c (.int .i64 50)), (some (66, false)), true⟩,
 ⟨some 75, .pick (.t 66) (.c (.bool true)) (.t 74), none, true⟩])
 (.cond (.t 75)
 (.seq (.reg [⟨some 2, .mv (.c (.bool false)), none, true⟩])
 .ret)
 .skip))
 (.seq (.reg [⟨some 5, .mv (.c (.int .i64 0)), none, true⟩])
 (.block 4
 (.loop b11_3)))))
 r11_4))
def r11_5 : IC := (.seq (.reg [⟨some 2, .mv (.c (.bool true)), none, true⟩])
 .ret)
def r11_1 : IC := (.seq (.seq (.reg [⟨some 4, .mv (.c (.int .i64 0)), none, true⟩])
 (.block 2
 (.loop b11_2)))
 r11_5)
def i11 : IFun := ⟨(.seq (.reg [⟨some 1, .boxr (.t 0), none, true⟩,
 ⟨some 2, .mv (.c (.bool false)), none, true⟩])
 (.seq (.seq (.reg [⟨some 6, .fadr 0 (.t 1), none, true⟩,
 ⟨some 7, .load 1 false (.t 6), none, true⟩,
 ⟨some 8, .lens (.t 7), none, true⟩,
 ⟨some 9, .bin .gtr (.t 8) (.c (.int .i64 8)), none, true⟩,
 ⟨some 10, .mv (.t 9), none, true⟩,
 ⟨some 11, .fadr 1 (.t 1), (some (10, false)), true⟩,
 ⟨some 12, .load 1 false (.t 11), (some (10, false)), true⟩,
 ⟨some 13, .lens (.t 12), (some (10, false)), true⟩,
 ⟨some 14, .bin .gtr (.t 13) (.c (.int .i64 4)), (some (10, false)), true⟩,
 ⟨some 15, .pick (.t 10) (.c (.bool true)) (.t 14), none, true⟩])
 (.cond (.t 15)
 (.seq (.reg [⟨some 2, .mv (.c (.bool false)), none, true⟩])
 .ret)
 .skip))
 (.seq (.seq (.reg [⟨some 3, .mv (.c (.int .i64 0)), none, true⟩])
 (.block 0
 (.loop b11_0)))
 r11_1))),
 98, [.t 2], 1, [1]⟩
/-- dowel/dowellaw49.check -/
def b14_0 : IC := (.seq (.seq (.reg [⟨some 20, .mv (.t 3), none, true⟩,
 ⟨some 21, .fadr 0 (.t 1), none, true⟩,
 ⟨some 22, .load 1 false (.t 21), none, true⟩,
 ⟨some 23, .lens (.t 22), none, true⟩,
 ⟨some 24, .bin .lss (.t 20) (.t 23), none, true⟩])
 (.cond (.t 24)
 .skip
 (.exit 0)))
 (.seq (.block 1
 (.seq (.reg [⟨some 27, .load 2 true (.t 1), none, true⟩,
 ⟨some 28, .mv (.t 3), none, true⟩,
 ⟨some 29, .callf 38 [(.t 27), (.t 28)], none, true⟩,
 ⟨some 4, .mv (.t 29), none, true⟩])
 (.seq (.reg [⟨some 30, .mv (.t 4), none, true⟩,
 ⟨some 31, .bin .neq (.t 30) (.c (.int .i64 0)), none, true⟩])
 (.cond (.t 31)
 (.seq (.reg [⟨some 32, .mv (.t 4), none, true⟩,
 ⟨some 2, .mv (.t 32), none, true⟩])
 .ret)
 .skip))))
 (.reg [⟨some 25, .mv (.t 3), none, true⟩,
 ⟨some 26, .bin .add (.t 25) (.c (.int .i64 1)), none, true⟩,
 ⟨some 3, .mv (.t 26), none, true⟩])))
def b14_2 : IC := (.seq (.seq (.reg [⟨some 41, .mv (.t 7), none, true⟩,
 ⟨some 42, .fadr 1 (.t 1), none, true⟩,
 ⟨some 43, .load 1 false (.t 42), none, true⟩,
 ⟨some 44, .lens (.t 43), none, true⟩,
 ⟨some 45, .bin .lss (.t 41) (.t 44), none, true⟩])
 (.cond (.t 45)
 .skip
 (.exit 2)))
 (.seq (.block 3
 (.seq (.reg [⟨some 48, .load 2 true (.t 1), none, true⟩,
 ⟨some 49, .mv (.t 7), none, true⟩,
 ⟨some 50, .callf 41 [(.t 48), (.t 49)], none, true⟩,
 ⟨some 8, .mv (.t 50), none, true⟩])
 (.seq (.reg [⟨some 51, .mv (.t 8), none, true⟩,
 ⟨some 52, .bin .neq (.t 51) (.c (.int .i64 0)), none, true⟩])
 (.cond (.t 52)
 (.seq (.reg [⟨some 53, .mv (.t 8), none, true⟩,
 ⟨some 2, .mv (.t 53), none, true⟩])
 .ret)
 .skip))))
 (.reg [⟨some 46, .mv (.t 7), none, true⟩,
 ⟨some 47, .bin .add (.t 46) (.c (.int .i64 1)), none, true⟩,
 ⟨some 7, .mv (.t 47), none, true⟩])))
def b14_4 : IC := (.seq (.seq (.reg [⟨some 54, .mv (.t 9), none, true⟩,
 ⟨some 55, .fadr 0 (.t 1), none, true⟩,
 ⟨some 56, .load 1 false (.t 55), none, true⟩,
 ⟨some 57, .lens (.t 56), none, true⟩,
 ⟨some 58, .bin .lss (.t 54) (.t 57), none, true⟩])
 (.cond (.t 58)
 .skip
 (.exit 4)))
 (.seq (.block 5
 (.seq (.reg [⟨some 61, .load 2 true (.t 1), none, true⟩,
 ⟨some 62, .mv (.t 9), none, true⟩,
 ⟨some 63, .callf 24 [(.t 61), (.t 62)], none, true⟩,
 ⟨some 64, .lens (.t 63), none, true⟩,
 ⟨some 65, .bin .eql (.t 64) (.c (.int .i64 0)), none, true⟩])
 (.cond (.t 65)
 (.seq (.reg [⟨some 2, .mv (.c (.int .i64 10)), none, true⟩])
 .ret)
 .skip)))
 (.reg [⟨some 59, .mv (.t 9), none, true⟩,
 ⟨some 60, .bin .add (.t 59) (.c (.int .i64 1)), none, true⟩,
 ⟨some 9, .mv (.t 60), none, true⟩])))
def r14_5 : IC := (.seq (.reg [⟨some 2, .mv (.c (.int .i64 0)), none, true⟩])
 .ret)
def r14_3 : IC := (.seq (.seq (.reg [⟨some 9, .mv (.c (.int .i64 0)), none, true⟩])
 (.block 4
 (.loop b14_4)))
 r14_5)
def r14_1 : IC := (.seq (.seq (.reg [⟨some 34, .load 2 true (.t 1), none, true⟩,
 ⟨some 35, .callf 40 [(.t 34)], none, true⟩,
 ⟨some 36, .callf 39 [(.t 35)], none, true⟩,
 ⟨some 33, .mv (.t 36), none, true⟩,
 ⟨some 37, .ext 0 (.t 33), none, true⟩,
 ⟨some 38, .ext 1 (.t 33), none, true⟩,
 ⟨some 5, .mv (.t 37), none, true⟩,
 ⟨some 6, .mv (.t 38), none, true⟩])
 (.seq (.reg [⟨some 39, .mv (.t 6), none, true⟩,
 ⟨some 40, .bin .neq (.t 39) (.c (.int .i64 0)), none, true⟩])
 (.cond (.t 40)
 (.seq (.reg [⟨some 2, .mv (.c (.int .i64 30)), none, true⟩])
 .ret)
 .skip)))
 (.seq (.seq (.reg [⟨some 7, .mv (.c (.int .i64 0)), none, true⟩])
 (.block 2
 (.loop b14_2)))
 r14_3))
def i14 : IFun := ⟨(.seq (.reg [⟨some 1, .boxr (.t 0), none, true⟩,
 ⟨some 2, .mv (.c (.int .i64 0)), none, true⟩])
 (.seq (.seq (.reg [⟨some 10, .fadr 0 (.t 1), none, true⟩,
 ⟨some 11, .load 1 false (.t 10), none, true⟩,
 ⟨some 12, .lens (.t 11), none, true⟩,
 ⟨some 13, .bin .gtr (.t 12) (.c (.int .i64 24)), none, true⟩,
 ⟨some 14, .mv (.t 13), none, true⟩,
 ⟨some 15, .fadr 1 (.t 1), (some (14, false)), true⟩,
 ⟨some 16, .load 1 false (.t 15), (some (14, false)), true⟩,
 ⟨some 17, .lens (.t 16), (some (14, false)), true⟩,
 ⟨some 18, .bin .gtr (.t 17) (.c (.int .i64 8)), (some (14, false)), true⟩,
 ⟨some 19, .pick (.t 14) (.c (.bool true)) (.t 18), none, true⟩])
 (.cond (.t 19)
 (.seq (.reg [⟨some 2, .mv (.c (.int .i64 6)), none, true⟩])
 .ret)
 .skip))
 (.seq (.seq (.reg [⟨some 3, .mv (.c (.int .i64 0)), none, true⟩])
 (.block 0
 (.loop b14_0)))
 r14_1))),
 66, [.t 2], 1, [1]⟩
/-- dowel/task.Tails -/
def i15 : IFun := ⟨(.seq (.reg [⟨some 1, .boxr (.t 0), none, true⟩,
 ⟨some 2, .mv (.c .nils), none, true⟩,
 ⟨some 3, .mv (.c (.int .i64 0)), none, true⟩])
 (.seq (.seq (.reg [⟨some 5, .load 2 true (.t 1), none, true⟩,
 ⟨some 6, .callf 29 [(.t 5)], none, true⟩,
 ⟨some 4, .mv (.t 6), none, true⟩])
 (.seq (.reg [⟨some 7, .mv (.t 4), none, true⟩,
 ⟨some 8, .bin .neq (.t 7) (.c (.int .i64 0)), none, true⟩])
 (.cond (.t 8)
 (.seq (.reg [⟨some 9, .mv (.t 4), none, true⟩,
 ⟨some 2, .mv (.c .nils), none, true⟩,
 ⟨some 3, .mv (.t 9), none, true⟩])
 .ret)
 .skip)))
 (.seq (.reg [⟨some 10, .load 2 true (.t 1), none, true⟩,
 ⟨some 11, .callf 42 [(.t 10)], none, true⟩,
 ⟨some 2, .mv (.t 11), none, true⟩,
 ⟨some 3, .mv (.c (.int .i64 0)), none, true⟩])
 .ret))),
 12, [.t 2, .t 3], 1, [1]⟩
/-- dowel/task.Critical -/
def i16 : IFun := ⟨(.seq (.reg [⟨some 1, .boxr (.t 0), none, true⟩,
 ⟨some 2, .mv (.c (.int .i64 0)), none, true⟩,
 ⟨some 3, .alloc [.nils], none, true⟩,
 ⟨some 4, .mv (.c (.int .i64 0)), none, true⟩])
 (.seq (.seq (.reg [⟨some 8, .load 2 true (.t 1), none, true⟩,
 ⟨some 9, .callf 29 [(.t 8)], none, true⟩,
 ⟨some 5, .mv (.t 9), none, true⟩])
 (.seq (.reg [⟨some 10, .mv (.t 5), none, true⟩,
 ⟨some 11, .bin .neq (.t 10) (.c (.int .i64 0)), none, true⟩])
 (.cond (.t 11)
 (.seq (.reg [⟨some 12, .mv (.t 5), none, true⟩,
 ⟨some 2, .mv (.c (.int .i64 0)), none, true⟩,
 ⟨none, .store 1 (.t 3) (.c .nils), none, true⟩,
 ⟨some 4, .mv (.t 12), none, true⟩])
 .ret)
 .skip)))
 (.seq (.seq (.reg [⟨some 13, .fadr 0 (.t 1), none, true⟩,
 ⟨some 14, .load 1 false (.t 13), none, true⟩,
 ⟨some 15, .lens (.t 14), none, true⟩,
 ⟨some 16, .bin .eql (.t 15) (.c (.int .i64 0)), none, true⟩])
 (.cond (.t 16)
 (.seq (.reg [⟨some 2, .mv (.c (.int .i64 0)), none, true⟩,
 ⟨none, .store 1 (.t 3) (.c .nils), none, true⟩,
 ⟨some 4, .mv (.c (.int .i64 0)), none, true⟩])
 .ret)
 .skip))
 (.seq (.reg [⟨some 17, .load 2 true (.t 1), none, true⟩,
 ⟨some 18, .callf 42 [(.t 17)], none, true⟩,
 ⟨some 6, .alloc [.nils], none, true⟩,
 ⟨none, .store 1 (.t 6) (.t 18), none, true⟩])
 (.seq (.reg [⟨some 19, .load 1 false (.t 6), none, true⟩,
 ⟨some 20, .callf 43 [(.t 19)], none, true⟩,
 ⟨some 2, .mv (.t 20), none, true⟩])
 (.seq (.reg [⟨some 7, .alloc [.nilf], none, true⟩])
 (.seq (.reg [⟨some 21, .mkf 44 [(.t 1), (.t 6), (.t 3), (.t 7)], none, true⟩,
 ⟨none, .store 1 (.t 7) (.t 21), none, true⟩])
 (.seq (.reg [⟨some 22, .load 1 false (.t 7), none, true⟩,
 ⟨some 23, .mv (.t 2), none, true⟩,
 ⟨some 24, .callv (.t 22) [(.c (.int .i64 (-1))), (.t 23)], none, true⟩])
 (.seq (.reg [⟨some 25, .mv (.t 2), none, false⟩,
 ⟨some 26, .load 1 false (.t 3), none, true⟩,
 ⟨some 2, .mv (.t 25), none, false⟩,
 ⟨none, .store 1 (.t 3) (.t 26), none, true⟩,
 ⟨some 4, .mv (.c (.int .i64 0)), none, true⟩])
 .ret))))))))),
 27, [.t 2, .cell 3 1 false, .t 4], 1, [1]⟩
/-- dowel/task.Reduce -/
def b17_0 : IC := (.seq (.reg [⟨some 23, .bin .lss (.t 22) (.t 21), none, true⟩])
 (.seq (.cond (.t 23)
 .skip
 (.exit 0))
 (.seq (.block 1
 (.seq (.reg [⟨some 24, .iadr 4 (.t 20) (.t 22), none, true⟩,
 ⟨some 25, .load 4 true (.t 24), none, true⟩,
 ⟨some 8, .alloc [(.str []), (.int .i64 0), (.str []), .nils], none, true⟩,
 ⟨none, .store 4 (.t 8) (.t 25), none, true⟩])
 (.seq (.reg [⟨some 26, .fadr 3 (.t 8), none, true⟩,
 ⟨some 27, .load 1 false (.t 26), none, true⟩,
 ⟨some 28, .callf 48 [(.t 27)], none, true⟩,
 ⟨some 29, .mkf 49 [(.t 8), (.t 5)], none, true⟩,
 ⟨some 30, .callf 47 [(.t 28), (.t 29)], none, true⟩,
 ⟨some 31, .fadr 3 (.t 8), none, true⟩,
 ⟨none, .store 1 (.t 31) (.t 30), none, true⟩])
 (.reg [⟨some 32, .fadr 0 (.t 6), none, true⟩,
 ⟨some 33, .load 1 false (.t 32), none, true⟩,
 ⟨some 34, .load 4 true (.t 8), none, true⟩,
 ⟨some 35, .bsl 4 1 [(.str []), (.int .i64 0), (.str []), .nils] [(0, 4, (.t 34))], none, true⟩,
 ⟨some 36, .app 4 64 (.t 33) (.t 35), none, true⟩,
 ⟨some 37, .fadr 0 (.t 6), none, true⟩,
 ⟨none, .store 1 (.t 37) (.t 36), none, true⟩]))))
 (.reg [⟨some 38, .bin .add (.t 22) (.c (.int .i64 1)), none, true⟩,
 ⟨some 22, .mv (.t 38), none, true⟩]))))
def b17_2 : IC := (.seq (.reg [⟨some 43, .bin .lss (.t 42) (.t 41), none, true⟩])
 (.seq (.cond (.t 43)
 .skip
 (.exit 2))
 (.seq (.block 3
 (.seq (.reg [⟨some 44, .iadr 2 (.t 40) (.t 42), none, true⟩,
 ⟨some 45, .load 2 true (.t 44), none, true⟩,
 ⟨some 10, .alloc [(.str []), .nils], none, true⟩,
 ⟨none, .store 2 (.t 10) (.t 45), none, true⟩])
 (.seq (.reg [⟨some 46, .fadr 1 (.t 10), none, true⟩,
 ⟨some 47, .load 1 false (.t 46), none, true⟩,
 ⟨some 48, .callf 52 [(.t 47)], none, true⟩,
 ⟨some 49, .fadr 1 (.t 10), none, true⟩,
 ⟨none, .store 1 (.t 49) (.t 48), none, true⟩])
 (.reg [⟨some 50, .fadr 1 (.t 6), none, true⟩,
 ⟨some 51, .load 1 false (.t 50), none, true⟩,
 ⟨some 52, .load 2 true (.t 10), none, true⟩,
 ⟨some 53, .bsl 2 1 [(.str []), .nils] [(0, 2, (.t 52))], none, true⟩,
 ⟨some 54, .app 2 40 (.t 51) (.t 53), none, true⟩,
 ⟨some 55, .fadr 1 (.t 6), none, true⟩,
 ⟨none, .store 1 (.t 55) (.t 54), none, true⟩]))))
 (.reg [⟨some 56, .bin .add (.t 42) (.c (.int .i64 1)), none, true⟩,
 ⟨some 42, .mv (.t 56), none, true⟩]))))
def r17_3 : IC := (.seq (.reg [⟨some 57, .load 2 true (.t 6), none, true⟩,
 ⟨none, .store 2 (.t 2) (.t 57), none, true⟩,
 ⟨some 3, .mv (.c (.int .i64 0)), none, true⟩])
 .ret)
def r17_1 : IC := (.seq (.seq (.reg [⟨some 39, .fadr 1 (.t 1), none, true⟩,
 ⟨some 40, .load 1 false (.t 39), none, true⟩,
 ⟨some 41, .lens (.t 40), none, true⟩,
 ⟨some 42, .mv (.c (.int .i64 0)), none, true⟩])
 (.block 2
 (.loop b17_2)))
 r17_3)
def i17 : IFun := ⟨(.seq (.reg [⟨some 1, .boxr (.t 0), none, true⟩,
 ⟨some 2, .alloc [.nils, .nils], none, true⟩,
 ⟨some 3, .mv (.c (.int .i64 0)), none, true⟩])
 (.seq (.seq (.reg [⟨some 11, .load 2 true (.t 1), none, true⟩,
 ⟨some 12, .callf 29 [(.t 11)], none, true⟩,
 ⟨some 4, .mv (.t 12), none, true⟩])
 (.seq (.reg [⟨some 13, .mv (.t 4), none, true⟩,
 ⟨some 14, .bin .neq (.t 13) (.c (.int .i64 0)), none, true⟩])
 (.cond (.t 14)
 (.seq (.reg [⟨some 15, .build [.nils, .nils] [], none, true⟩,
 ⟨some 16, .mv (.t 4), none, true⟩,
 ⟨none, .store 2 (.t 2) (.t 15), none, true⟩,
 ⟨some 3, .mv (.t 16), none, true⟩])
 .ret)
 .skip)))
 (.seq (.reg [⟨some 17, .load 2 true (.t 1), none, true⟩,
 ⟨some 18, .callf 46 [(.t 17)], none, true⟩,
 ⟨some 5, .alloc [.nils], none, true⟩,
 ⟨none, .store 1 (.t 5) (.t 18), none, true⟩])
 (.seq (.reg [⟨some 6, .alloc [.nils, .nils], none, true⟩])
 (.seq (.seq (.reg [⟨some 19, .fadr 0 (.t 1), none, true⟩,
 ⟨some 20, .load 1 false (.t 19), none, true⟩,
 ⟨some 21, .lens (.t 20), none, true⟩,
 ⟨some 22, .mv (.c (.int .i64 0)), none, true⟩])
 (.block 0
 (.loop b17_0)))
 r17_1))))),
 58, [.cell 2 2 true, .t 3], 1, [1]⟩
/-- dowel/dowellaw49.same -/
def b19_0 : IC := (.seq (.seq (.reg [⟨some 11, .mv (.t 5), none, true⟩,
 ⟨some 12, .mv (.t 0), none, true⟩,
 ⟨some 13, .lens (.t 12), none, true⟩,
 ⟨some 14, .bin .lss (.t 11) (.t 13), none, true⟩])
 (.cond (.t 14)
 .skip
 (.exit 0)))
 (.seq (.block 1
 (.seq (.reg [⟨some 17, .mv (.t 0), none, false⟩,
 ⟨some 18, .mv (.t 5), none, false⟩,
 ⟨some 19, .iadr 1 (.t 17) (.t 18), none, false⟩,
 ⟨some 20, .load 1 false (.t 19), none, false⟩,
 ⟨some 21, .mv (.t 1), none, false⟩,
 ⟨some 22, .mv (.t 5), none, false⟩,
 ⟨some 23, .iadr 1 (.t 21) (.t 22), none, false⟩,
 ⟨some 24, .load 1 false (.t 23), none, false⟩,
 ⟨some 25, .bin .neq (.t 20) (.t 24), none, true⟩])
 (.cond (.t 25)
 (.seq (.reg [⟨some 4, .mv (.c (.bool false)), none, true⟩])
 .ret)
 .skip)))
 (.reg [⟨some 15, .mv (.t 5), none, true⟩,
 ⟨some 16, .bin .add (.t 15) (.c (.int .i64 1)), none, true⟩,
 ⟨some 5, .mv (.t 16), none, true⟩])))
def r19_1 : IC := (.seq (.reg [⟨some 4, .mv (.c (.bool true)), none, true⟩])
 .ret)
def i19 : IFun := ⟨(.seq (.reg [⟨some 4, .mv (.c (.bool false)), none, true⟩])
 (.seq (.seq (.reg [⟨some 6, .mv (.t 0), none, true⟩,
 ⟨some 7, .lens (.t 6), none, true⟩,
 ⟨some 8, .mv (.t 1), none, true⟩,
 ⟨some 9, .lens (.t 8), none, true⟩,
 ⟨some 10, .bin .neq (.t 7) (.t 9), none, true⟩])
 (.cond (.t 10)
 (.seq (.reg [⟨some 4, .mv (.c (.bool false)), none, true⟩])
 .ret)
 .skip))
 (.seq (.seq (.reg [⟨some 5, .mv (.c (.int .i64 0)), none, true⟩])
 (.block 0
 (.loop b19_0)))
 r19_1))),
 26, [.t 4], 1, []⟩
/-- dowel/dowellaw49.has -/
def b22_0 : IC := (.seq (.seq (.reg [⟨some 6, .mv (.t 5), none, true⟩,
 ⟨some 7, .mv (.t 0), none, true⟩,
 ⟨some 8, .lens (.t 7), none, true⟩,
 ⟨some 9, .bin .lss (.t 6) (.t 8), none, true⟩])
 (.cond (.t 9)
 .skip
 (.exit 0)))
 (.seq (.block 1
 (.seq (.reg [⟨some 12, .mv (.t 0), none, true⟩,
 ⟨some 13, .mv (.t 5), none, true⟩,
 ⟨some 14, .iadr 1 (.t 12) (.t 13), none, true⟩,
 ⟨some 15, .load 1 false (.t 14), none, true⟩,
 ⟨some 16, .mv (.t 1), none, true⟩,
 ⟨some 17, .bin .eql (.t 15) (.t 16), none, true⟩])
 (.cond (.t 17)
 (.seq (.reg [⟨some 4, .mv (.c (.bool true)), none, true⟩])
 .ret)
 .skip)))
 (.reg [⟨some 10, .mv (.t 5), none, true⟩,
 ⟨some 11, .bin .add (.t 10) (.c (.int .i64 1)), none, true⟩,
 ⟨some 5, .mv (.t 11), none, true⟩])))
def r22_1 : IC := (.seq (.reg [⟨some 4, .mv (.c (.bool false)), none, true⟩])
 .ret)
def i22 : IFun := ⟨(.seq (.reg [⟨some 4, .mv (.c (.bool false)), none, true⟩])
 (.seq (.seq (.reg [⟨some 5, .mv (.c (.int .i64 0)), none, true⟩])
 (.block 0
 (.loop b22_0)))
 r22_1)),
 18, [.t 4], 1, []⟩
/-- dowel/dowellaw49.able -/
def r24_1 : IC := (.reg [⟨some 12, .mv (.t 6), none, true⟩,
 ⟨some 13, .bin .add (.t 12) (.c (.int .i64 1)), none, true⟩,
 ⟨some 6, .mv (.t 13), none, true⟩])
def b24_0 : IC := (.seq (.seq (.reg [⟨some 7, .mv (.t 6), none, true⟩,
 ⟨some 8, .fadr 1 (.t 2), none, true⟩,
 ⟨some 9, .load 1 false (.t 8), none, true⟩,
 ⟨some 10, .lens (.t 9), none, true⟩,
 ⟨some 11, .bin .lss (.t 7) (.t 10), none, true⟩])
 (.cond (.t 11)
 .skip
 (.exit 0)))
 (.seq (.block 1
 (.seq (.reg [⟨some 14, .fadr 1 (.t 2), none, false⟩,
 ⟨some 15, .load 1 false (.t 14), none, false⟩,
 ⟨some 16, .mv (.t 6), none, false⟩,
 ⟨some 17, .iadr 2 (.t 15) (.t 16), none, false⟩,
 ⟨some 18, .load 2 true (.t 17), none, false⟩,
 ⟨some 19, .fadr 0 (.t 2), none, false⟩,
 ⟨some 20, .load 1 false (.t 19), none, false⟩,
 ⟨some 21, .mv (.t 1), none, false⟩,
 ⟨some 22, .iadr 4 (.t 20) (.t 21), none, false⟩,
 ⟨some 23, .fadr 2 (.t 22), none, false⟩,
 ⟨some 24, .load 1 false (.t 23), none, false⟩,
 ⟨some 25, .callf 55 [(.t 18), (.t 24)], none, true⟩])
 (.cond (.t 25)
 (.reg [⟨some 26, .mv (.t 5), none, true⟩,
 ⟨some 27, .mv (.t 6), none, true⟩,
 ⟨some 28, .bsl 1 1 [(.int .i64 0)] [(0, 1, (.t 27))], none, true⟩,
 ⟨some 29, .app 1 8 (.t 26) (.t 28), none, true⟩,
 ⟨some 5, .mv (.t 29), none, true⟩])
 .skip)))
 r24_1))
def r24_2 : IC := (.seq (.reg [⟨some 30, .mv (.t 5), none, true⟩,
 ⟨some 4, .mv (.t 30), none, true⟩])
 .ret)
def i24 : IFun := ⟨(.seq (.reg [⟨some 2, .boxr (.t 0), none, true⟩,
 ⟨some 4, .mv (.c .nils), none, true⟩])
 (.seq (.reg [⟨some 5, .mv (.c .nils), none, true⟩])
 (.seq (.seq (.reg [⟨some 6, .mv (.c (.int .i64 0)), none, true⟩])
 (.block 0
 (.loop b24_0)))
 r24_2))),
 31, [.t 4], 1, [2]⟩
/-- dowel/task.Order -/
def i25 : IFun := ⟨(.seq (.reg [⟨some 1, .boxr (.t 0), none, true⟩,
 ⟨some 2, .mv (.c .nils), none, true⟩,
 ⟨some 3, .mv (.c (.int .i64 0)), none, true⟩])
 (.seq (.seq (.reg [⟨some 5, .load 2 true (.t 1), none, true⟩,
 ⟨some 6, .callf 29 [(.t 5)], none, true⟩,
 ⟨some 4, .mv (.t 6), none, true⟩])
 (.seq (.reg [⟨some 7, .mv (.t 4), none, true⟩,
 ⟨some 8, .bin .neq (.t 7) (.c (.int .i64 0)), none, true⟩])
 (.cond (.t 8)
 (.seq (.reg [⟨some 9, .mv (.t 4), none, true⟩,
 ⟨some 2, .mv (.c .nils), none, true⟩,
 ⟨some 3, .mv (.t 9), none, true⟩])
 .ret)
 .skip)))
 (.seq (.reg [⟨some 10, .load 2 true (.t 1), none, true⟩,
 ⟨some 11, .callf 56 [(.t 10)], none, true⟩,
 ⟨some 2, .mv (.t 11), none, true⟩,
 ⟨some 3, .mv (.c (.int .i64 0)), none, true⟩])
 .ret))),
 12, [.t 2, .t 3], 1, [1]⟩
/-- dowel/task.Before -/
def r26_2 : IC := (.reg [⟨some 35, .bin .add (.t 25) (.c (.int .i64 1)), none, true⟩,
 ⟨some 25, .mv (.t 35), none, true⟩])
def b26_1 : IC := (.seq (.reg [⟨some 26, .bin .lss (.t 25) (.t 24), none, true⟩])
 (.seq (.cond (.t 26)
 .skip
 (.exit 2))
 (.seq (.block 3
 (.seq (.reg [⟨some 27, .mv (.t 25), none, true⟩,
 ⟨some 28, .iadr 1 (.t 23) (.t 25), none, true⟩,
 ⟨some 29, .load 1 false (.t 28), none, true⟩,
 ⟨some 9, .mv (.t 27), none, true⟩,
 ⟨some 10, .mv (.t 29), none, true⟩])
 (.seq (.reg [⟨some 30, .mv (.t 10), none, true⟩])
 (.cond (.t 30)
 (.reg [⟨some 31, .mv (.t 8), none, true⟩,
 ⟨some 32, .mv (.t 9), none, true⟩,
 ⟨some 33, .bsl 1 1 [(.int .i64 0)] [(0, 1, (.t 32))], none, true⟩,
 ⟨some 34, .app 1 8 (.t 31) (.t 33), none, true⟩,
 ⟨some 8, .mv (.t 34), none, true⟩])
 .skip))))
 r26_2)))
def r26_3 : IC := (.reg [⟨some 36, .mv (.t 5), none, true⟩,
 ⟨some 37, .mv (.t 8), none, true⟩,
 ⟨some 38, .bsl 1 1 [.nils] [(0, 1, (.t 37))], none, true⟩,
 ⟨some 39, .app 1 24 (.t 36) (.t 38), none, true⟩,
 ⟨some 5, .mv (.t 39), none, true⟩])
def r26_4 : IC := (.reg [⟨some 40, .bin .add (.t 19) (.c (.int .i64 1)), none, true⟩,
 ⟨some 19, .mv (.t 40), none, true⟩])
def b26_0 : IC := (.seq (.reg [⟨some 20, .bin .lss (.t 19) (.t 18), none, true⟩])
 (.seq (.cond (.t 20)
 .skip
 (.exit 0))
 (.seq (.block 1
 (.seq (.reg [⟨some 21, .iadr 1 (.t 17) (.t 19), none, true⟩,
 ⟨some 22, .load 1 false (.t 21), none, true⟩,
 ⟨some 7, .mv (.t 22), none, true⟩])
 (.seq (.reg [⟨some 8, .mv (.c .nils), none, true⟩])
 (.seq (.seq (.reg [⟨some 23, .mv (.t 7), none, true⟩,
 ⟨some 24, .lens (.t 23), none, true⟩,
 ⟨some 25, .mv (.c (.int .i64 0)), none, true⟩])
 (.block 2
 (.loop b26_1)))
 r26_3))))
 r26_4)))
def r26_5 : IC := (.seq (.reg [⟨some 41, .mv (.t 5), none, true⟩,
 ⟨some 2, .mv (.t 41), none, true⟩,
 ⟨some 3, .mv (.c (.int .i64 0)), none, true⟩])
 .ret)
def i26 : IFun := ⟨(.seq (.reg [⟨some 1, .boxr (.t 0), none, true⟩,
 ⟨some 2, .mv (.c .nils), none, true⟩,
 ⟨some 3, .mv (.c (.int .i64 0)), none, true⟩])
 (.seq (.seq (.reg [⟨some 11, .load 2 true (.t 1), none, true⟩,
 ⟨some 12, .callf 29 [(.t 11)], none, true⟩,
 ⟨some 4, .mv (.t 12), none, true⟩])
 (.seq (.reg [⟨some 13, .mv (.t 4), none, true⟩,
 ⟨some 14, .bin .neq (.t 13) (.c (.int .i64 0)), none, true⟩])
 (.cond (.t 14)
 (.seq (.reg [⟨some 15, .mv (.t 4), none, true⟩,
 ⟨some 2, .mv (.c .nils), none, true⟩,
 ⟨some 3, .mv (.t 15), none, true⟩])
 .ret)
 .skip)))
 (.seq (.reg [⟨some 5, .mv (.c .nils), none, true⟩])
 (.seq (.seq (.reg [⟨some 16, .load 2 true (.t 1), none, true⟩,
 ⟨some 17, .callf 46 [(.t 16)], none, true⟩,
 ⟨some 18, .lens (.t 17), none, true⟩,
 ⟨some 19, .mv (.c (.int .i64 0)), none, true⟩])
 (.block 0
 (.loop b26_0)))
 r26_5)))),
 42, [.t 2, .t 3], 1, [1]⟩
/-- dowel/task.Able -/
def i27 : IFun := ⟨(.seq (.reg [⟨some 2, .boxr (.t 0), none, true⟩,
 ⟨some 4, .mv (.c .nils), none, true⟩,
 ⟨some 5, .mv (.c (.int .i64 0)), none, true⟩])
 (.seq (.seq (.reg [⟨some 7, .load 2 true (.t 2), none, true⟩,
 ⟨some 8, .callf 29 [(.t 7)], none, true⟩,
 ⟨some 6, .mv (.t 8), none, true⟩])
 (.seq (.reg [⟨some 9, .mv (.t 6), none, true⟩,
 ⟨some 10, .bin .neq (.t 9) (.c (.int .i64 0)), none, true⟩])
 (.cond (.t 10)
 (.seq (.reg [⟨some 11, .mv (.t 6), none, true⟩,
 ⟨some 4, .mv (.c .nils), none, true⟩,
 ⟨some 5, .mv (.t 11), none, true⟩])
 .ret)
 .skip)))
 (.seq (.seq (.reg [⟨some 12, .mv (.t 1), none, true⟩,
 ⟨some 13, .bin .lss (.t 12) (.c (.int .i64 0)), none, true⟩,
 ⟨some 14, .mv (.t 13), none, true⟩,
 ⟨some 15, .mv (.t 1), (some (14, false)), true⟩,
 ⟨some 16, .fadr 0 (.t 2), (some (14, false)), true⟩,
 ⟨some 17, .load 1 false (.t 16), (some (14, false)), true⟩,
 ⟨some 18, .lens (.t 17), (some (14, false)), true⟩,
 ⟨some 19, .bin .geq (.t 15) (.t 18), (some (14, false)), true⟩,
 ⟨some 20, .pick (.t 14) (.c (.bool true)) (.t 19), none, true⟩])
 (.cond (.t 20)
 (.seq (.reg [⟨some 4, .mv (.c .nils), none, true⟩,
 ⟨some 5, .mv (.c (.int .i64 2)), none, true⟩])
 .ret)
 .skip))
 (.seq (.reg [⟨some 21, .load 2 true (.t 2), none, false⟩,
 ⟨some 22, .callf 53 [(.t 21)], none, false⟩,
 ⟨some 23, .fadr 0 (.t 2), none, false⟩,
 ⟨some 24, .load 1 false (.t 23), none, false⟩,
 ⟨some 25, .mv (.t 1), none, false⟩,
 ⟨some 26, .iadr 4 (.t 24) (.t 25), none, false⟩,
 ⟨some 27, .fadr 2 (.t 26), none, false⟩,
 ⟨some 28, .load 1 false (.t 27), none, false⟩,
 ⟨some 29, .lk .s .nils false (.t 22) (.t 28), none, true⟩,
 ⟨some 4, .mv (.t 29), none, true⟩,
 ⟨some 5, .mv (.c (.int .i64 0)), none, true⟩])
 .ret)))),
 30, [.t 4, .t 5], 1, [2]⟩
/-- dowel/dowellaw49.before -/
def r28_2 : IC := (.reg [⟨some 47, .bin .add (.t 35) (.c (.int .i64 1)), none, true⟩,
 ⟨some 35, .mv (.t 47), none, true⟩])
def b28_1 : IC := (.seq (.reg [⟨some 36, .bin .lss (.t 35) (.t 34), none, true⟩])
 (.seq (.cond (.t 36)
 .skip
 (.exit 2))
 (.seq (.block 3
 (.seq (.reg [⟨some 37, .iadr 1 (.t 33) (.t 35), none, true⟩,
 ⟨some 38, .load 1 false (.t 37), none, true⟩,
 ⟨some 8, .mv (.t 38), none, true⟩])
 (.seq (.reg [⟨some 39, .mv (.t 5), none, true⟩,
 ⟨some 40, .mv (.t 8), none, true⟩,
 ⟨some 41, .callf 22 [(.t 39), (.t 40)], none, true⟩,
 ⟨some 42, .un .not (.t 41), none, true⟩])
 (.cond (.t 42)
 (.reg [⟨some 43, .mv (.t 5), none, true⟩,
 ⟨some 44, .mv (.t 8), none, true⟩,
 ⟨some 45, .bsl 1 1 [(.int .i64 0)] [(0, 1, (.t 44))], none, true⟩,
 ⟨some 46, .app 1 8 (.t 43) (.t 45), none, true⟩,
 ⟨some 5, .mv (.t 46), none, true⟩])
 .skip))))
 r28_2)))
def r28_3 : IC := (.reg [⟨some 23, .mv (.t 6), none, true⟩,
 ⟨some 24, .bin .add (.t 23) (.c (.int .i64 1)), none, true⟩,
 ⟨some 6, .mv (.t 24), none, true⟩])
def b28_0 : IC := (.seq (.seq (.reg [⟨some 19, .mv (.t 6), none, true⟩,
 ⟨some 20, .mv (.t 5), none, true⟩,
 ⟨some 21, .lens (.t 20), none, true⟩,
 ⟨some 22, .bin .lss (.t 19) (.t 21), none, true⟩])
 (.cond (.t 22)
 .skip
 (.exit 0)))
 (.seq (.block 1
 (.seq (.reg [⟨some 25, .fadr 0 (.t 2), none, false⟩,
 ⟨some 26, .load 1 false (.t 25), none, false⟩,
 ⟨some 27, .mv (.t 5), none, false⟩,
 ⟨some 28, .mv (.t 6), none, false⟩,
 ⟨some 29, .iadr 1 (.t 27) (.t 28), none, false⟩,
 ⟨some 30, .load 1 false (.t 29), none, false⟩,
 ⟨some 31, .iadr 4 (.t 26) (.t 30), none, true⟩,
 ⟨some 32, .fadr 3 (.t 31), none, true⟩,
 ⟨some 33, .load 1 false (.t 32), none, true⟩,
 ⟨some 34, .lens (.t 33), none, true⟩,
 ⟨some 35, .mv (.c (.int .i64 0)), none, false⟩])
 (.block 2
 (.loop b28_1))))
 r28_3))
def r28_6 : IC := (.reg [⟨some 53, .mv (.t 10), none, true⟩,
 ⟨some 54, .bin .add (.t 53) (.c (.int .i64 1)), none, true⟩,
 ⟨some 10, .mv (.t 54), none, true⟩])
def b28_5 : IC := (.seq (.seq (.reg [⟨some 48, .mv (.t 10), none, true⟩,
 ⟨some 49, .fadr 0 (.t 2), none, true⟩,
 ⟨some 50, .load 1 false (.t 49), none, true⟩,
 ⟨some 51, .lens (.t 50), none, true⟩,
 ⟨some 52, .bin .lss (.t 48) (.t 51), none, true⟩])
 (.cond (.t 52)
 .skip
 (.exit 4)))
 (.seq (.block 5
 (.seq (.reg [⟨some 55, .mv (.t 5), none, true⟩,
 ⟨some 56, .mv (.t 10), none, true⟩,
 ⟨some 57, .callf 22 [(.t 55), (.t 56)], none, true⟩])
 (.cond (.t 57)
 (.reg [⟨some 58, .mv (.t 9), none, true⟩,
 ⟨some 59, .mv (.t 10), none, true⟩,
 ⟨some 60, .bsl 1 1 [(.int .i64 0)] [(0, 1, (.t 59))], none, true⟩,
 ⟨some 61, .app 1 8 (.t 58) (.t 60), none, true⟩,
 ⟨some 9, .mv (.t 61), none, true⟩])
 .skip)))
 r28_6))
def r28_7 : IC := (.seq (.reg [⟨some 62, .mv (.t 9), none, true⟩,
 ⟨some 4, .mv (.t 62), none, true⟩])
 .ret)
def r28_4 : IC := (.seq (.reg [⟨some 9, .mv (.c .nils), none, true⟩])
 (.seq (.seq (.reg [⟨some 10, .mv (.c (.int .i64 0)), none, true⟩])
 (.block 4
 (.loop b28_5)))
 r28_7))
def i28 : IFun := ⟨(.seq (.reg [⟨some 2, .boxr (.t 0), none, true⟩,
 ⟨some 4, .mv (.c .nils), none, true⟩])
 (.seq (.reg [⟨some 11, .bsl 1 0 [(.int .i64 0)] [], none, true⟩,
 ⟨some 12, .fadr 0 (.t 2), none, true⟩,
 ⟨some 13, .load 1 false (.t 12), none, true⟩,
 ⟨some 14, .mv (.t 1), none, true⟩,
 ⟨some 15, .iadr 4 (.t 13) (.t 14), none, true⟩,
 ⟨some 16, .fadr 3 (.t 15), none, true⟩,
 ⟨some 17, .load 1 false (.t 16), none, true⟩,
 ⟨some 18, .app 1 8 (.t 11) (.t 17), none, true⟩,
 ⟨some 5, .mv (.t 18), none, true⟩])
 (.seq (.seq (.reg [⟨some 6, .mv (.c (.int .i64 0)), none, true⟩])
 (.block 0
 (.loop b28_0)))
 r28_4))),
 63, [.t 4], 1, [2]⟩
/-- dowel/task.Check -/
def b29_0 : IC := (.seq (.reg [⟨some 24, .bin .lss (.t 23) (.t 22), none, true⟩])
 (.seq (.cond (.t 24)
 .skip
 (.exit 0))
 (.seq (.block 1
 (.seq (.reg [⟨some 25, .mv (.t 23), none, true⟩,
 ⟨some 3, .mv (.t 25), none, true⟩])
 (.seq (.reg [⟨some 26, .load 2 true (.t 1), none, true⟩,
 ⟨some 27, .mv (.t 3), none, true⟩,
 ⟨some 28, .callf 57 [(.t 26), (.t 27)], none, true⟩,
 ⟨some 4, .mv (.t 28), none, true⟩])
 (.seq (.reg [⟨some 29, .mv (.t 4), none, true⟩,
 ⟨some 30, .bin .neq (.t 29) (.c (.int .i64 0)), none, true⟩])
 (.cond (.t 30)
 (.seq (.reg [⟨some 31, .mv (.t 4), none, true⟩,
 ⟨some 2, .mv (.t 31), none, true⟩])
 .ret)
 .skip)))))
 (.reg [⟨some 32, .bin .add (.t 23) (.c (.int .i64 1)), none, true⟩,
 ⟨some 23, .mv (.t 32), none, true⟩]))))
def b29_2 : IC := (.seq (.reg [⟨some 44, .bin .lss (.t 43) (.t 42), none, true⟩])
 (.seq (.cond (.t 44)
 .skip
 (.exit 2))
 (.seq (.block 3
 (.seq (.reg [⟨some 45, .mv (.t 43), none, true⟩,
 ⟨some 5, .mv (.t 45), none, true⟩])
 (.seq (.reg [⟨some 46, .load 2 true (.t 1), none, true⟩,
 ⟨some 47, .mv (.t 5), none, true⟩,
 ⟨some 48, .callf 58 [(.t 46), (.t 47)], none, true⟩,
 ⟨some 6, .mv (.t 48), none, true⟩])
 (.seq (.reg [⟨some 49, .mv (.t 6), none, true⟩,
 ⟨some 50, .bin .neq (.t 49) (.c (.int .i64 0)), none, true⟩])
 (.cond (.t 50)
 (.seq (.reg [⟨some 51, .mv (.t 6), none, true⟩,
 ⟨some 2, .mv (.t 51), none, true⟩])
 .ret)
 .skip)))))
 (.reg [⟨some 52, .bin .add (.t 43) (.c (.int .i64 1)), none, true⟩,
 ⟨some 43, .mv (.t 52), none, true⟩]))))
def b29_4 : IC := (.seq (.reg [⟨some 59, .bin .lss (.t 58) (.t 57), none, true⟩])
 (.seq (.cond (.t 59)
 .skip
 (.exit 4))
 (.seq (.block 5
 (.seq (.reg [⟨some 60, .iadr 4 (.t 56) (.t 58), none, true⟩,
 ⟨some 61, .load 4 true (.t 60), none, true⟩,
 ⟨some 9, .alloc [(.str []), (.int .i64 0), (.str []), .nils], none, true⟩,
 ⟨none, .store 4 (.t 9) (.t 61), none, true⟩])
 (.seq (.reg [⟨some 62, .mv (.t 7), none, true⟩,
 ⟨some 63, .fadr 2 (.t 9), none, true⟩,
 ⟨some 64, .load 1 false (.t 63), none, true⟩,
 ⟨some 65, .lk .s .nils false (.t 62) (.t 64), none, true⟩,
 ⟨some 66, .lens (.t 65), none, true⟩,
 ⟨some 67, .bin .eql (.t 66) (.c (.int .i64 0)), none, true⟩])
 (.cond (.t 67)
 (.seq (.reg [⟨some 2, .mv (.c (.int .i64 10)), none, true⟩])
 .ret)
 .skip))))
 (.reg [⟨some 68, .bin .add (.t 58) (.c (.int .i64 1)), none, true⟩,
 ⟨some 58, .mv (.t 68), none, true⟩]))))
def r29_5 : IC := (.seq (.reg [⟨some 2, .mv (.c (.int .i64 0)), none, true⟩])
 .ret)
def r29_3 : IC := (.seq (.reg [⟨some 53, .load 2 true (.t 1), none, true⟩,
 ⟨some 54, .callf 53 [(.t 53)], none, true⟩,
 ⟨some 7, .mv (.t 54), none, true⟩])
 (.seq (.seq (.reg [⟨some 55, .fadr 0 (.t 1), none, true⟩,
 ⟨some 56, .load 1 false (.t 55), none, true⟩,
 ⟨some 57, .lens (.t 56), none, true⟩,
 ⟨some 58, .mv (.c (.int .i64 0)), none, true⟩])
 (.block 4
 (.loop b29_4)))
 r29_5))
def r29_1 : IC := (.seq (.seq (.reg [⟨some 33, .load 2 true (.t 1), none, false⟩,
 ⟨some 34, .callf 56 [(.t 33)], none, false⟩,
 ⟨some 35, .lens (.t 34), none, false⟩,
 ⟨some 36, .fadr 0 (.t 1), none, false⟩,
 ⟨some 37, .load 1 false (.t 36), none, false⟩,
 ⟨some 38, .lens (.t 37), none, false⟩,
 ⟨some 39, .bin .lss (.t 35) (.t 38), none, true⟩])
 (.cond (.t 39)
 (.seq (.reg [⟨some 2, .mv (.c (.int .i64 30)), none, true⟩])
 .ret)
 .skip))
 (.seq (.seq (.reg [⟨some 40, .fadr 1 (.t 1), none, true⟩,
 ⟨some 41, .load 1 false (.t 40), none, true⟩,
 ⟨some 42, .lens (.t 41), none, true⟩,
 ⟨some 43, .mv (.c (.int .i64 0)), none, true⟩])
 (.block 2
 (.loop b29_2)))
 r29_3))
def i29 : IFun := ⟨(.seq (.reg [⟨some 1, .boxr (.t 0), none, true⟩,
 ⟨some 2, .mv (.c (.int .i64 0)), none, true⟩])
 (.seq (.seq (.reg [⟨some 10, .fadr 0 (.t 1), none, true⟩,
 ⟨some 11, .load 1 false (.t 10), none, true⟩,
 ⟨some 12, .lens (.t 11), none, true⟩,
 ⟨some 13, .bin .gtr (.t 12) (.c (.int .i64 24)), none, true⟩,
 ⟨some 14, .mv (.t 13), none, true⟩,
 ⟨some 15, .fadr 1 (.t 1), (some (14, false)), true⟩,
 ⟨some 16, .load 1 false (.t 15), (some (14, false)), true⟩,
 ⟨some 17, .lens (.t 16), (some (14, false)), true⟩,
 ⟨some 18, .bin .gtr (.t 17) (.c (.int .i64 8)), (some (14, false)), true⟩,
 ⟨some 19, .pick (.t 14) (.c (.bool true)) (.t 18), none, true⟩])
 (.cond (.t 19)
 (.seq (.reg [⟨some 2, .mv (.c (.int .i64 6)), none, true⟩])
 .ret)
 .skip))
 (.seq (.seq (.reg [⟨some 20, .fadr 0 (.t 1), none, true⟩,
 ⟨some 21, .load 1 false (.t 20), none, true⟩,
 ⟨some 22, .lens (.t 21), none, true⟩,
 ⟨some 23, .mv (.c (.int .i64 0)), none, true⟩])
 (.block 0
 (.loop b29_0)))
 r29_1))),
 69, [.t 2], 1, [1]⟩
/-- dowel/dowellaw49.example -/
def i30 : IFun := ⟨(.seq (.reg [⟨some 0, .alloc [.nils, .nils], none, true⟩])
 (.seq (.reg [⟨some 1, .build [(.str []), (.int .i64 0), (.str []), .nils] [(0, 1, (.c (.str [97]))), (1, 1, (.c (.int .i64 3)))], none, true⟩,
 ⟨some 2, .bsl 1 1 [(.int .i64 0)] [(0, 1, (.c (.int .i64 0)))], none, true⟩,
 ⟨some 3, .build [(.str []), (.int .i64 0), (.str []), .nils] [(0, 1, (.c (.str [98]))), (1, 1, (.c (.int .i64 2))), (3, 1, (.t 2))], none, true⟩,
 ⟨some 4, .bsl 1 1 [(.int .i64 0)] [(0, 1, (.c (.int .i64 0)))], none, true⟩,
 ⟨some 5, .build [(.str []), (.int .i64 0), (.str []), .nils] [(0, 1, (.c (.str [99]))), (1, 1, (.c (.int .i64 4))), (3, 1, (.t 4))], none, true⟩,
 ⟨some 6, .bsl 1 3 [(.int .i64 0)] [(0, 1, (.c (.int .i64 0))), (1, 1, (.c (.int .i64 1))), (2, 1, (.c (.int .i64 2)))], none, true⟩,
 ⟨some 7, .build [(.str []), (.int .i64 0), (.str []), .nils] [(0, 1, (.c (.str [100]))), (1, 1, (.c (.int .i64 1))), (3, 1, (.t 6))], none, true⟩,
 ⟨some 8, .bsl 4 4 [(.str []), (.int .i64 0), (.str []), .nils] [(0, 4, (.t 1)), (4, 4, (.t 3)), (8, 4, (.t 5)), (12, 4, (.t 7))], none, true⟩,
 ⟨some 9, .build [(.str []), .nils] [(0, 1, (.c (.str [115])))], none, true⟩,
 ⟨some 10, .bsl 2 1 [(.str []), .nils] [(0, 2, (.t 9))], none, true⟩,
 ⟨some 11, .build [.nils, .nils] [(0, 1, (.t 8)), (1, 1, (.t 10))], none, true⟩,
 ⟨none, .store 2 (.t 0) (.t 11), none, true⟩])
 .ret)),
 12, [.cell 0 2 true], 1, []⟩
/-- dowel/dowellaw49.checkTask -/
def b38_0 : IC := (.seq (.seq (.reg [⟨some 17, .mv (.t 6), none, true⟩,
 ⟨some 18, .mv (.t 1), none, true⟩,
 ⟨some 19, .bin .lss (.t 17) (.t 18), none, true⟩])
 (.cond (.t 19)
 .skip
 (.exit 0)))
 (.seq (.block 1
 (.seq (.reg [⟨some 22, .fadr 0 (.t 2), none, false⟩,
 ⟨some 23, .load 1 false (.t 22), none, false⟩,
 ⟨some 24, .mv (.t 6), none, false⟩,
 ⟨some 25, .iadr 4 (.t 23) (.t 24), none, false⟩,
 ⟨some 26, .fadr 0 (.t 25), none, false⟩,
 ⟨some 27, .load 1 false (.t 26), none, false⟩,
 ⟨some 28, .fadr 0 (.t 5), none, false⟩,
 ⟨some 29, .load 1 false (.t 28), none, false⟩,
 ⟨some 30, .bin .eql (.t 27) (.t 29), none, true⟩])
 (.cond (.t 30)
 (.seq (.reg [⟨some 4, .mv (.c (.int .i64 9)), none, true⟩])
 .ret)
 .skip)))
 (.reg [⟨some 20, .mv (.t 6), none, true⟩,
 ⟨some 21, .bin .add (.t 20) (.c (.int .i64 1)), none, true⟩,
 ⟨some 6, .mv (.t 21), none, true⟩])))
def b38_2 : IC := (.seq (.seq (.reg [⟨some 50, .mv (.t 7), none, true⟩,
 ⟨some 51, .fadr 3 (.t 5), none, true⟩,
 ⟨some 52, .load 1 false (.t 51), none, true⟩,
 ⟨some 53, .lens (.t 52), none, true⟩,
 ⟨some 54, .bin .lss (.t 50) (.t 53), none, true⟩])
 (.cond (.t 54)
 .skip
 (.exit 3)))
 (.seq (.block 4
 (.block 5
 (.seq (.reg [⟨some 58, .fadr 3 (.t 5), none, true⟩,
 ⟨some 59, .load 1 false (.t 58), none, true⟩,
 ⟨some 60, .mv (.t 7), none, false⟩,
 ⟨some 61, .iadr 1 (.t 59) (.t 60), none, true⟩,
 ⟨some 62, .load 1 false (.t 61), none, true⟩,
 ⟨some 63, .bin .lss (.t 62) (.c (.int .i64 0)), none, true⟩,
 ⟨some 64, .mv (.t 63), none, true⟩,
 ⟨some 65, .fadr 3 (.t 5), (some (64, false)), false⟩,
 ⟨some 66, .load 1 false (.t 65), (some (64, false)), false⟩,
 ⟨some 67, .mv (.t 7), (some (64, false)), false⟩,
 ⟨some 68, .iadr 1 (.t 66) (.t 67), (some (64, false)), false⟩,
 ⟨some 69, .load 1 false (.t 68), (some (64, false)), false⟩,
 ⟨some 70, .fadr 0 (.t 2), (some (64, false)), false⟩,
 ⟨some 71, .load 1 false (.t 70), (some (64, false)), false⟩,
 ⟨some 72, .lens (.t 71), (some (64, false)), false⟩,
 ⟨some 73, .bin .geq (.t 69) (.t 72), (some (64, false)), true⟩,
 ⟨some 74, .pick (.t 64) (.c (.bool true)) (.t 73), none, true⟩,
 ⟨some 57, .mv (.t 74), none, true⟩])
 (.cond (.t 57)
 (.seq (.reg [⟨some 4, .mv (.c (.int .i64 2)), none, true⟩])
 .ret)
 (.seq (.reg [⟨some 76, .fadr 3 (.t 5), none, true⟩,
 ⟨some 77, .load 1 false (.t 76), none, true⟩,
 ⟨some 78, .mv (.t 7), none, true⟩,
 ⟨some 79, .iadr 1 (.t 77) (.t 78), none, true⟩,
 ⟨some 80, .load 1 false (.t 79), none, true⟩,
 ⟨some 81, .mv (.t 1), none, true⟩,
 ⟨some 82, .bin .eql (.t 80) (.t 81), none, true⟩,
 ⟨some 75, .mv (.t 82), none, true⟩])
 (.cond (.t 75)
 (.seq (.reg [⟨some 4, .mv (.c (.int .i64 17)), none, true⟩])
 .ret)
 (.seq (.reg [⟨some 84, .mv (.t 7), none, true⟩,
 ⟨some 85, .bin .gtr (.t 84) (.c (.int .i64 0)), none, true⟩,
 ⟨some 86, .mv (.t 85), none, true⟩,
 ⟨some 87, .fadr 3 (.t 5), (some (86, true)), false⟩,
 ⟨some 88, .load 1 false (.t 87), (some (86, true)), false⟩,
 ⟨some 89, .mv (.t 7), (some (86, true)), false⟩,
 ⟨some 90, .iadr 1 (.t 88) (.t 89), (some (86, true)), false⟩,
 ⟨some 91, .load 1 false (.t 90), (some (86, true)), false⟩,
 ⟨some 92, .fadr 3 (.t 5), (some (86, true)), false⟩,
 ⟨some 93, .load 1 false (.t 92), (some (86, true)), false⟩,
 ⟨some 94, .mv (.t 7), (some (86, true)), false⟩,
 ⟨some 95, .bin .sub (.t 94) (.c (.int .i64 1)), (some (86, true)), false⟩,
 ⟨some 96, .iadr 1 (.t 93) (.t 95), (some (86, true)), false⟩,
 ⟨some 97, .load 1 false (.t 96), (some (86, true)), false⟩,
 ⟨some 98, .bin .leq (.t 91) (.t 97), (some (86, true)), true⟩,
 ⟨some 99, .pick (.t 86) (.t 98) (.c (.bool false)), none, true⟩,
 ⟨some 83, .mv (.t 99), none, true⟩])
 (.cond (.t 83)
 (.seq (.reg [⟨some 4, .mv (.c (.int .i64 8)), none, true⟩])
 .ret)
 .skip))))))))
 (.reg [⟨some 55, .mv (.t 7), none, true⟩,
 ⟨some 56, .bin .add (.t 55) (.c (.int .i64 1)), none, true⟩,
 ⟨some 7, .mv (.t 56), none, true⟩])))
def r38_3 : IC := (.seq (.reg [⟨some 4, .mv (.c (.int .i64 0)), none, true⟩])
 .ret)
def r38_1 : IC := (.seq (.block 2
 (.seq (.reg [⟨some 32, .fadr 1 (.t 5), none, true⟩,
 ⟨some 33, .load 1 false (.t 32), none, true⟩,
 ⟨some 34, .bin .lss (.t 33) (.c (.int .i64 1)), none, true⟩,
 ⟨some 35, .mv (.t 34), none, true⟩,
 ⟨some 36, .fadr 1 (.t 5), (some (35, false)), true⟩,
 ⟨some 37, .load 1 false (.t 36), (some (35, false)), true⟩,
 ⟨some 38, .bin .gtr (.t 37) (.c (.int .i64 1048576)), (some (35, false)), true⟩,
 ⟨some 39, .pick (.t 35) (.c (.bool true)) (.t 38), none, true⟩,
 ⟨some 31, .mv (.t 39), none, true⟩])
 (.cond (.t 31)
 (.seq (.reg [⟨some 4, .mv (.c (.int .i64 2)), none, true⟩])
 .ret)
 (.seq (.reg [⟨some 41, .fadr 2 (.t 5), none, true⟩,
 ⟨some 42, .load 1 false (.t 41), none, true⟩,
 ⟨some 43, .bin .neq (.t 42) (.c (.str [])), none, true⟩,
 ⟨some 44, .mv (.t 43), none, true⟩,
 ⟨some 45, .fadr 2 (.t 5), (some (44, true)), true⟩,
 ⟨some 46, .load 1 false (.t 45), (some (44, true)), true⟩,
 ⟨some 47, .callf 59 [(.t 46)], (some (44, true)), true⟩,
 ⟨some 48, .un .not (.t 47), (some (44, true)), true⟩,
 ⟨some 49, .pick (.t 44) (.t 48) (.c (.bool false)), none, true⟩,
 ⟨some 40, .mv (.t 49), none, true⟩])
 (.cond (.t 40)
 (.seq (.reg [⟨some 4, .mv (.c (.int .i64 11)), none, true⟩])
 .ret)
 .skip)))))
 (.seq (.seq (.reg [⟨some 7, .mv (.c (.int .i64 0)), none, true⟩])
 (.block 3
 (.loop b38_2)))
 r38_3))
def i38 : IFun := ⟨(.seq (.reg [⟨some 2, .boxr (.t 0), none, true⟩,
 ⟨some 4, .mv (.c (.int .i64 0)), none, true⟩])
 (.seq (.reg [⟨some 8, .fadr 0 (.t 2), none, true⟩,
 ⟨some 9, .load 1 false (.t 8), none, true⟩,
 ⟨some 10, .mv (.t 1), none, true⟩,
 ⟨some 11, .iadr 4 (.t 9) (.t 10), none, true⟩,
 ⟨some 12, .load 4 true (.t 11), none, true⟩,
 ⟨some 5, .alloc [(.str []), (.int .i64 0), (.str []), .nils], none, true⟩,
 ⟨none, .store 4 (.t 5) (.t 12), none, true⟩])
 (.seq (.seq (.reg [⟨some 13, .fadr 0 (.t 5), none, true⟩,
 ⟨some 14, .load 1 false (.t 13), none, true⟩,
 ⟨some 15, .callf 59 [(.t 14)], none, true⟩,
 ⟨some 16, .un .not (.t 15), none, true⟩])
 (.cond (.t 16)
 (.seq (.reg [⟨some 4, .mv (.c (.int .i64 11)), none, true⟩])
 .ret)
 .skip))
 (.seq (.seq (.reg [⟨some 6, .mv (.c (.int .i64 0)), none, true⟩])
 (.block 0
 (.loop b38_0)))
 r38_1)))),
 100, [.t 4], 1, [2]⟩
/-- dowel/graph.Order -/
def b39_0 : IC := (.seq (.reg [⟨some 29, .bin .lss (.t 28) (.t 27), none, true⟩])
 (.seq (.cond (.t 29)
 .skip
 (.exit 0))
 (.seq (.block 1
 (.seq (.seq (.reg [⟨some 30, .iadr 2 (.t 26) (.t 28), none, true⟩,
 ⟨some 31, .load 2 true (.t 30), none, true⟩,
 ⟨some 8, .alloc [(.int .i64 0), (.int .i64 0)], none, true⟩,
 ⟨none, .store 2 (.t 8) (.t 31), none, true⟩])
 (.frz 8))
 (.reg [⟨some 32, .mv (.t 5), none, true⟩,
 ⟨some 33, .fadr 1 (.t 8), none, true⟩,
 ⟨some 34, .loadr 1 false (.t 33), none, true⟩,
 ⟨some 35, .iadr 1 (.t 32) (.t 34), none, true⟩,
 ⟨some 36, .load 1 false (.t 35), none, true⟩,
 ⟨some 37, .bin .add (.t 36) (.c (.int .i64 1)), none, true⟩,
 ⟨some 38, .iadr 1 (.t 32) (.t 34), none, true⟩,
 ⟨none, .store 1 (.t 38) (.t 37), none, true⟩])))
 (.reg [⟨some 39, .bin .add (.t 28) (.c (.int .i64 1)), none, true⟩,
 ⟨some 28, .mv (.t 39), none, true⟩]))))
def b39_3 : IC := (.seq (.seq (.reg [⟨some 46, .mv (.t 11), none, true⟩,
 ⟨some 47, .fadr 0 (.t 1), none, true⟩,
 ⟨some 48, .load 1 false (.t 47), none, true⟩,
 ⟨some 49, .bin .lss (.t 46) (.t 48), none, true⟩,
 ⟨some 50, .mv (.t 49), none, true⟩,
 ⟨some 51, .mv (.t 6), (some (50, true)), true⟩,
 ⟨some 52, .mv (.t 11), (some (50, true)), true⟩,
 ⟨some 53, .iadr 1 (.t 51) (.t 52), (some (50, true)), true⟩,
 ⟨some 54, .load 1 false (.t 53), (some (50, true)), true⟩,
 ⟨some 55, .mv (.t 54), (some (50, true)), true⟩,
 ⟨some 56, .mv (.t 5), (some (55, false)), true⟩,
 ⟨some 57, .mv (.t 11), (some (55, false)), true⟩,
 ⟨some 58, .iadr 1 (.t 56) (.t 57), (some (55, false)), true⟩,
 ⟨some 59, .load 1 false (.t 58), (some (55, false)), true⟩,
 ⟨some 60, .bin .gtr (.t 59) (.c (.int .i64 0)), (some (55, false)), true⟩,
 ⟨some 61, .pick (.t 55) (.c (.bool true)) (.t 60), (some (50, true)), true⟩,
 ⟨some 62, .pick (.t 50) (.t 61) (.c (.bool false)), none, true⟩])
 (.cond (.t 62)
 .skip
 (.exit 4)))
 (.block 5
 (.reg [⟨some 63, .mv (.t 11), none, true⟩,
 ⟨some 64, .bin .add (.t 63) (.c (.int .i64 1)), none, true⟩,
 ⟨some 11, .mv (.t 64), none, true⟩])))
def b39_5 : IC := (.seq (.reg [⟨some 82, .bin .lss (.t 81) (.t 80), none, true⟩])
 (.seq (.cond (.t 82)
 .skip
 (.exit 6))
 (.seq (.block 7
 (.seq (.reg [⟨some 83, .iadr 1 (.t 79) (.t 81), none, true⟩,
 ⟨some 84, .load 1 false (.t 83), none, true⟩,
 ⟨some 13, .mv (.t 84), none, true⟩])
 (.reg [⟨some 85, .mv (.t 5), none, true⟩,
 ⟨some 86, .mv (.t 13), none, true⟩,
 ⟨some 87, .iadr 1 (.t 85) (.t 86), none, true⟩,
 ⟨some 88, .load 1 false (.t 87), none, true⟩,
 ⟨some 89, .bin .sub (.t 88) (.c (.int .i64 1)), none, true⟩,
 ⟨some 90, .iadr 1 (.t 85) (.t 86), none, true⟩,
 ⟨none, .store 1 (.t 90) (.t 89), none, true⟩])))
 (.reg [⟨some 91, .bin .add (.t 81) (.c (.int .i64 1)), none, true⟩,
 ⟨some 81, .mv (.t 91), none, true⟩]))))
def r39_4 : IC := (.seq (.seq (.reg [⟨some 65, .mv (.t 11), none, true⟩,
 ⟨some 66, .fadr 0 (.t 1), none, true⟩,
 ⟨some 67, .load 1 false (.t 66), none, true⟩,
 ⟨some 68, .bin .eql (.t 65) (.t 67), none, true⟩])
 (.cond (.t 68)
 (.seq (.reg [⟨some 2, .mv (.c .nils), none, true⟩,
 ⟨some 3, .mv (.c (.int .i64 30)), none, true⟩])
 .ret)
 .skip))
 (.seq (.reg [⟨some 69, .mv (.t 6), none, true⟩,
 ⟨some 70, .mv (.t 11), none, true⟩,
 ⟨some 71, .iadr 1 (.t 69) (.t 70), none, true⟩,
 ⟨none, .store 1 (.t 71) (.c (.bool true)), none, true⟩])
 (.seq (.reg [⟨some 72, .mv (.t 10), none, true⟩,
 ⟨some 73, .mv (.t 11), none, true⟩,
 ⟨some 74, .bsl 1 1 [(.int .i64 0)] [(0, 1, (.t 73))], none, true⟩,
 ⟨some 75, .app 1 8 (.t 72) (.t 74), none, true⟩,
 ⟨some 10, .mv (.t 75), none, true⟩])
 (.seq (.reg [⟨some 76, .mv (.t 9), none, true⟩,
 ⟨some 77, .mv (.t 11), none, true⟩,
 ⟨some 78, .iadr 1 (.t 76) (.t 77), none, true⟩,
 ⟨some 79, .load 1 false (.t 78), none, true⟩,
 ⟨some 80, .lens (.t 79), none, true⟩,
 ⟨some 81, .mv (.c (.int .i64 0)), none, true⟩])
 (.block 6
 (.loop b39_5))))))
def r39_6 : IC := (.reg [⟨some 92, .bin .add (.t 44) (.c (.int .i64 1)), none, true⟩,
 ⟨some 44, .mv (.t 92), none, true⟩])
def b39_2 : IC := (.seq (.reg [⟨some 45, .bin .lss (.t 44) (.t 43), none, true⟩])
 (.seq (.cond (.t 45)
 .skip
 (.exit 2))
 (.seq (.block 3
 (.seq (.reg [⟨some 11, .mv (.c (.int .i64 0)), none, true⟩])
 (.seq (.block 4
 (.loop b39_3))
 r39_4)))
 r39_6)))
def r39_7 : IC := (.seq (.reg [⟨some 93, .mv (.t 10), none, true⟩,
 ⟨some 2, .mv (.t 93), none, true⟩,
 ⟨some 3, .mv (.c (.int .i64 0)), none, true⟩])
 .ret)
def r39_1 : IC := (.seq (.reg [⟨some 40, .load 2 true (.t 1), none, true⟩,
 ⟨some 41, .callf 61 [(.t 40)], none, true⟩,
 ⟨some 9, .mv (.t 41), none, true⟩])
 (.seq (.reg [⟨some 10, .mv (.c .nils), none, true⟩])
 (.seq (.seq (.reg [⟨some 42, .fadr 0 (.t 1), none, true⟩,
 ⟨some 43, .load 1 false (.t 42), none, true⟩,
 ⟨some 44, .mv (.c (.int .i64 0)), none, true⟩])
 (.block 2
 (.loop b39_2)))
 r39_7)))
def i39 : IFun := ⟨(.seq (.reg [⟨some 1, .boxr (.t 0), none, true⟩,
 ⟨some 2, .mv (.c .nils), none, true⟩,
 ⟨some 3, .mv (.c (.int .i64 0)), none, true⟩])
 (.seq (.seq (.reg [⟨some 14, .load 2 true (.t 1), none, true⟩,
 ⟨some 15, .callf 60 [(.t 14)], none, true⟩,
 ⟨some 4, .mv (.t 15), none, true⟩])
 (.seq (.reg [⟨some 16, .mv (.t 4), none, true⟩,
 ⟨some 17, .bin .neq (.t 16) (.c (.int .i64 0)), none, true⟩])
 (.cond (.t 17)
 (.seq (.reg [⟨some 18, .mv (.t 4), none, true⟩,
 ⟨some 2, .mv (.c .nils), none, true⟩,
 ⟨some 3, .mv (.t 18), none, true⟩])
 .ret)
 .skip)))
 (.seq (.reg [⟨some 19, .fadr 0 (.t 1), none, false⟩,
 ⟨some 20, .load 1 false (.t 19), none, false⟩,
 ⟨some 21, .mks 1 8 [(.int .i64 0)] (.t 20) (.t 20), none, false⟩,
 ⟨some 22, .fadr 0 (.t 1), none, false⟩,
 ⟨some 23, .load 1 false (.t 22), none, false⟩,
 ⟨some 24, .mks 1 1 [(.bool false)] (.t 23) (.t 23), none, false⟩,
 ⟨some 5, .mv (.t 21), none, false⟩,
 ⟨some 6, .mv (.t 24), none, true⟩])
 (.seq (.seq (.reg [⟨some 25, .fadr 1 (.t 1), none, true⟩,
 ⟨some 26, .load 1 false (.t 25), none, true⟩,
 ⟨some 27, .lens (.t 26), none, true⟩,
 ⟨some 28, .mv (.c (.int .i64 0)), none, true⟩])
 (.block 0
 (.loop b39_0)))
 r39_1)))),
 94, [.t 2, .t 3], 1, [1, 8, 1000033]⟩
/-- dowel/dowellaw49.edges -/
def b40_1 : IC := (.seq (.reg [⟨some 24, .bin .lss (.t 23) (.t 22), none, true⟩])
 (.seq (.cond (.t 24)
 .skip
 (.exit 2))
 (.seq (.block 3
 (.seq (.reg [⟨some 25, .iadr 1 (.t 21) (.t 23), none, true⟩,
 ⟨some 26, .load 1 false (.t 25), none, true⟩,
 ⟨some 6, .mv (.t 26), none, true⟩])
 (.reg [⟨some 27, .mv (.t 3), none, true⟩,
 ⟨some 28, .mv (.t 6), none, true⟩,
 ⟨some 29, .mv (.t 4), none, true⟩,
 ⟨some 30, .build [(.int .i64 0), (.int .i64 0)] [(0, 1, (.t 28)), (1, 1, (.t 29))], none, true⟩,
 ⟨some 31, .bsl 2 1 [(.int .i64 0), (.int .i64 0)] [(0, 2, (.t 30))], none, true⟩,
 ⟨some 32, .app 2 16 (.t 27) (.t 31), none, true⟩,
 ⟨some 3, .mv (.t 32), none, true⟩])))
 (.reg [⟨some 33, .bin .add (.t 23) (.c (.int .i64 1)), none, true⟩,
 ⟨some 23, .mv (.t 33), none, true⟩]))))
def r40_2 : IC := (.reg [⟨some 14, .mv (.t 4), none, true⟩,
 ⟨some 15, .bin .add (.t 14) (.c (.int .i64 1)), none, true⟩,
 ⟨some 4, .mv (.t 15), none, true⟩])
def b40_0 : IC := (.seq (.seq (.reg [⟨some 9, .mv (.t 4), none, true⟩,
 ⟨some 10, .fadr 0 (.t 1), none, true⟩,
 ⟨some 11, .load 1 false (.t 10), none, true⟩,
 ⟨some 12, .lens (.t 11), none, true⟩,
 ⟨some 13, .bin .lss (.t 9) (.t 12), none, true⟩])
 (.cond (.t 13)
 .skip
 (.exit 0)))
 (.seq (.block 1
 (.seq (.reg [⟨some 16, .fadr 0 (.t 1), none, true⟩,
 ⟨some 17, .load 1 false (.t 16), none, true⟩,
 ⟨some 18, .mv (.t 4), none, true⟩,
 ⟨some 19, .iadr 4 (.t 17) (.t 18), none, true⟩,
 ⟨some 20, .fadr 3 (.t 19), none, true⟩,
 ⟨some 21, .load 1 false (.t 20), none, true⟩,
 ⟨some 22, .lens (.t 21), none, true⟩,
 ⟨some 23, .mv (.c (.int .i64 0)), none, true⟩])
 (.block 2
 (.loop b40_1))))
 r40_2))
def r40_3 : IC := (.seq (.reg [⟨some 35, .fadr 0 (.t 1), none, true⟩,
 ⟨some 36, .load 1 false (.t 35), none, true⟩,
 ⟨some 37, .lens (.t 36), none, true⟩,
 ⟨some 38, .mv (.t 3), none, true⟩,
 ⟨some 39, .callf 62 [(.t 37), (.t 38)], none, true⟩,
 ⟨some 34, .mv (.t 39), none, true⟩,
 ⟨some 40, .ext 0 (.t 34), none, true⟩,
 ⟨some 41, .ext 1 (.t 34), none, true⟩,
 ⟨some 7, .alloc [(.int .i64 0), .nils], none, true⟩,
 ⟨none, .store 2 (.t 7) (.t 40), none, true⟩,
 ⟨some 8, .mv (.t 41), none, true⟩])
 (.seq (.reg [⟨some 42, .load 2 true (.t 7), none, true⟩,
 ⟨none, .store 2 (.t 2) (.t 42), none, true⟩])
 .ret))
def i40 : IFun := ⟨(.seq (.reg [⟨some 1, .boxr (.t 0), none, true⟩,
 ⟨some 2, .alloc [(.int .i64 0), .nils], none, true⟩])
 (.seq (.reg [⟨some 3, .mv (.c .nils), none, true⟩])
 (.seq (.seq (.reg [⟨some 4, .mv (.c (.int .i64 0)), none, true⟩])
 (.block 0
 (.loop b40_0)))
 r40_3))),
 43, [.cell 2 2 true], 1, [1]⟩
/-- dowel/dowellaw49.checkStation -/
def b41_0 : IC := (.seq (.seq (.reg [⟨some 17, .mv (.t 6), none, true⟩,
 ⟨some 18, .mv (.t 1), none, true⟩,
 ⟨some 19, .bin .lss (.t 17) (.t 18), none, true⟩])
 (.cond (.t 19)
 .skip
 (.exit 0)))
 (.seq (.block 1
 (.seq (.reg [⟨some 22, .fadr 1 (.t 2), none, false⟩,
 ⟨some 23, .load 1 false (.t 22), none, false⟩,
 ⟨some 24, .mv (.t 6), none, false⟩,
 ⟨some 25, .iadr 2 (.t 23) (.t 24), none, false⟩,
 ⟨some 26, .fadr 0 (.t 25), none, false⟩,
 ⟨some 27, .load 1 false (.t 26), none, false⟩,
 ⟨some 28, .fadr 0 (.t 5), none, false⟩,
 ⟨some 29, .load 1 false (.t 28), none, false⟩,
 ⟨some 30, .bin .eql (.t 27) (.t 29), none, true⟩])
 (.cond (.t 30)
 (.seq (.reg [⟨some 4, .mv (.c (.int .i64 9)), none, true⟩])
 .ret)
 .skip)))
 (.reg [⟨some 20, .mv (.t 6), none, true⟩,
 ⟨some 21, .bin .add (.t 20) (.c (.int .i64 1)), none, true⟩,
 ⟨some 6, .mv (.t 21), none, true⟩])))
def b41_2 : IC := (.seq (.seq (.reg [⟨some 35, .mv (.t 7), none, true⟩,
 ⟨some 36, .fadr 1 (.t 5), none, true⟩,
 ⟨some 37, .load 1 false (.t 36), none, true⟩,
 ⟨some 38, .lens (.t 37), none, true⟩,
 ⟨some 39, .bin .lss (.t 35) (.t 38), none, true⟩])
 (.cond (.t 39)
 .skip
 (.exit 2)))
 (.seq (.block 3
 (.seq (.seq (.reg [⟨some 42, .fadr 1 (.t 5), none, true⟩,
 ⟨some 43, .load 1 false (.t 42), none, true⟩,
 ⟨some 44, .mv (.t 7), none, true⟩,
 ⟨some 45, .iadr 1 (.t 43) (.t 44), none, true⟩,
 ⟨some 46, .load 1 false (.t 45), none, true⟩,
 ⟨some 47, .callf 59 [(.t 46)], none, true⟩,
 ⟨some 48, .un .not (.t 47), none, true⟩])
 (.cond (.t 48)
 (.seq (.reg [⟨some 4, .mv (.c (.int .i64 11)), none, true⟩])
 .ret)
 .skip))
 (.seq (.reg [⟨some 49, .mv (.t 7), none, true⟩,
 ⟨some 50, .bin .gtr (.t 49) (.c (.int .i64 0)), none, true⟩,
 ⟨some 51, .mv (.t 50), none, true⟩,
 ⟨some 52, .fadr 1 (.t 5), (some (51, true)), false⟩,
 ⟨some 53, .load 1 false (.t 52), (some (51, true)), false⟩,
 ⟨some 54, .mv (.t 7), (some (51, true)), false⟩,
 ⟨some 55, .iadr 1 (.t 53) (.t 54), (some (51, true)), false⟩,
 ⟨some 56, .load 1 false (.t 55), (some (51, true)), false⟩,
 ⟨some 57, .fadr 1 (.t 5), (some (51, true)), false⟩,
 ⟨some 58, .load 1 false (.t 57), (some (51, true)), false⟩,
 ⟨some 59, .mv (.t 7), (some (51, true)), false⟩,
 ⟨some 60, .bin .sub (.t 59) (.c (.int .i64 1)), (some (51, true)), false⟩,
 ⟨some 61, .iadr 1 (.t 58) (.t 60), (some (51, true)), false⟩,
 ⟨some 62, .load 1 false (.t 61), (some (51, true)), false⟩,
 ⟨some 63, .bin .leq (.t 56) (.t 62), (some (51, true)), true⟩,
 ⟨some 64, .pick (.t 51) (.t 63) (.c (.bool false)), none, true⟩])
 (.cond (.t 64)
 (.seq (.reg [⟨some 4, .mv (.c (.int .i64 8)), none, true⟩])
 .ret)
 .skip))))
 (.reg [⟨some 40, .mv (.t 7), none, true⟩,
 ⟨some 41, .bin .add (.t 40) (.c (.int .i64 1)), none, true⟩,
 ⟨some 7, .mv (.t 41), none, true⟩])))
def r41_3 : IC := (.seq (.reg [⟨some 4, .mv (.c (.int .i64 0)), none, true⟩])
 .ret)
def r41_1 : IC := (.seq (.seq (.reg [⟨some 31, .fadr 1 (.t 5), none, true⟩,
 ⟨some 32, .load 1 false (.t 31), none, true⟩,
 ⟨some 33, .lens (.t 32), none, true⟩,
 ⟨some 34, .bin .gtr (.t 33) (.c (.int .i64 16)), none, true⟩])
 (.cond (.t 34)
 (.seq (.reg [⟨some 4, .mv (.c (.int .i64 6)), none, true⟩])
 .ret)
 .skip))
 (.seq (.seq (.reg [⟨some 7, .mv (.c (.int .i64 0)), none, true⟩])
 (.block 2
 (.loop b41_2)))
 r41_3))
def i41 : IFun := ⟨(.seq (.reg [⟨some 2, .boxr (.t 0), none, true⟩,
 ⟨some 4, .mv (.c (.int .i64 0)), none, true⟩])
 (.seq (.reg [⟨some 8, .fadr 1 (.t 2), none, true⟩,
 ⟨some 9, .load 1 false (.t 8), none, true⟩,
 ⟨some 10, .mv (.t 1), none, true⟩,
 ⟨some 11, .iadr 2 (.t 9) (.t 10), none, true⟩,
 ⟨some 12, .load 2 true (.t 11), none, true⟩,
 ⟨some 5, .alloc [(.str []), .nils], none, true⟩,
 ⟨none, .store 2 (.t 5) (.t 12), none, true⟩])
 (.seq (.seq (.reg [⟨some 13, .fadr 0 (.t 5), none, true⟩,
 ⟨some 14, .load 1 false (.t 13), none, true⟩,
 ⟨some 15, .callf 59 [(.t 14)], none, true⟩,
 ⟨some 16, .un .not (.t 15), none, true⟩])
 (.cond (.t 16)
 (.seq (.reg [⟨some 4, .mv (.c (.int .i64 11)), none, true⟩])
 .ret)
 .skip))
 (.seq (.seq (.reg [⟨some 6, .mv (.c (.int .i64 0)), none, true⟩])
 (.block 0
 (.loop b41_0)))
 r41_1)))),
 65, [.t 4], 1, [2]⟩
/-- dowel/task.tails -/
def b42_1 : IC := (.seq (.reg [⟨some 43, .bin .lss (.t 42) (.t 41), none, true⟩])
 (.seq (.cond (.t 43)
 .skip
 (.exit 2))
 (.seq (.block 3
 (.seq (.reg [⟨some 44, .iadr 1 (.t 40) (.t 42), none, true⟩,
 ⟨some 45, .load 1 false (.t 44), none, true⟩,
 ⟨some 8, .mv (.t 45), none, true⟩])
 (.reg [⟨some 46, .mv (.t 3), none, false⟩,
 ⟨some 47, .mv (.t 8), none, false⟩,
 ⟨some 48, .mv (.t 3), none, false⟩,
 ⟨some 49, .mv (.t 8), none, false⟩,
 ⟨some 50, .iadr 1 (.t 48) (.t 49), none, false⟩,
 ⟨some 51, .load 1 false (.t 50), none, false⟩,
 ⟨some 52, .mv (.t 3), none, false⟩,
 ⟨some 53, .mv (.t 6), none, false⟩,
 ⟨some 54, .iadr 1 (.t 52) (.t 53), none, false⟩,
 ⟨some 55, .load 1 false (.t 54), none, false⟩,
 ⟨some 56, .maxi (.t 51) (.t 55), none, true⟩,
 ⟨some 57, .iadr 1 (.t 46) (.t 47), none, true⟩,
 ⟨none, .store 1 (.t 57) (.t 56), none, true⟩])))
 (.reg [⟨some 58, .bin .add (.t 42) (.c (.int .i64 1)), none, true⟩,
 ⟨some 42, .mv (.t 58), none, true⟩]))))
def r42_2 : IC := (.reg [⟨some 59, .bin .add (.t 19) (.c (.int .i64 1)), none, true⟩,
 ⟨some 19, .mv (.t 59), none, true⟩])
def b42_0 : IC := (.seq (.reg [⟨some 20, .bin .lss (.t 19) (.t 18), none, true⟩])
 (.seq (.cond (.t 20)
 .skip
 (.exit 0))
 (.seq (.block 1
 (.seq (.reg [⟨some 21, .iadr 1 (.t 17) (.t 19), none, true⟩,
 ⟨some 22, .load 1 false (.t 21), none, true⟩,
 ⟨some 6, .mv (.t 22), none, true⟩])
 (.seq (.reg [⟨some 23, .mv (.t 3), none, false⟩,
 ⟨some 24, .mv (.t 6), none, false⟩,
 ⟨some 25, .iadr 1 (.t 23) (.t 24), none, false⟩,
 ⟨some 26, .load 1 false (.t 25), none, false⟩,
 ⟨some 27, .fadr 0 (.t 1), none, false⟩,
 ⟨some 28, .load 1 false (.t 27), none, false⟩,
 ⟨some 29, .mv (.t 6), none, false⟩,
 ⟨some 30, .iadr 4 (.t 28) (.t 29), none, false⟩,
 ⟨some 31, .fadr 1 (.t 30), none, false⟩,
 ⟨some 32, .load 1 false (.t 31), none, false⟩,
 ⟨some 33, .bin .add (.t 26) (.t 32), none, true⟩,
 ⟨some 34, .iadr 1 (.t 23) (.t 24), none, true⟩,
 ⟨none, .store 1 (.t 34) (.t 33), none, true⟩])
 (.seq (.reg [⟨some 35, .fadr 0 (.t 1), none, true⟩,
 ⟨some 36, .load 1 false (.t 35), none, true⟩,
 ⟨some 37, .mv (.t 6), none, true⟩,
 ⟨some 38, .iadr 4 (.t 36) (.t 37), none, true⟩,
 ⟨some 39, .fadr 3 (.t 38), none, true⟩,
 ⟨some 40, .load 1 false (.t 39), none, true⟩,
 ⟨some 41, .lens (.t 40), none, true⟩,
 ⟨some 42, .mv (.c (.int .i64 0)), none, true⟩])
 (.block 2
 (.loop b42_1))))))
 r42_2)))
def r42_3 : IC := (.seq (.reg [⟨some 60, .mv (.t 3), none, true⟩,
 ⟨some 2, .mv (.t 60), none, true⟩])
 .ret)
def i42 : IFun := ⟨(.seq (.reg [⟨some 1, .boxr (.t 0), none, true⟩,
 ⟨some 2, .mv (.c .nils), none, true⟩])
 (.seq (.reg [⟨some 9, .fadr 0 (.t 1), none, true⟩,
 ⟨some 10, .load 1 false (.t 9), none, true⟩,
 ⟨some 11, .lens (.t 10), none, true⟩,
 ⟨some 12, .mks 1 8 [(.int .i64 0)] (.t 11) (.t 11), none, true⟩,
 ⟨some 3, .mv (.t 12), none, true⟩])
 (.seq (.reg [⟨some 13, .load 2 true (.t 1), none, true⟩,
 ⟨some 14, .callf 56 [(.t 13)], none, true⟩,
 ⟨some 4, .mv (.t 14), none, true⟩])
 (.seq (.reg [⟨some 15, .mv (.t 4), none, true⟩,
 ⟨some 16, .callf 63 [(.t 15)], none, true⟩])
 (.seq (.seq (.reg [⟨some 17, .mv (.t 4), none, true⟩,
 ⟨some 18, .lens (.t 17), none, true⟩,
 ⟨some 19, .mv (.c (.int .i64 0)), none, true⟩])
 (.block 0
 (.loop b42_0)))
 r42_3))))),
 61, [.t 2], 1, [1]⟩
/-- slices.Max[[]int,int] -/
def b43_1 : IC := (.seq (.seq (.reg [⟨some 12, .mv (.t 4), none, true⟩,
 ⟨some 13, .mv (.t 0), none, true⟩,
 ⟨some 14, .lens (.t 13), none, true⟩,
 ⟨some 15, .bin .lss (.t 12) (.t 14), none, true⟩])
 (.cond (.t 15)
 .skip
 (.exit 0)))
 (.seq (.block 1
 (.reg [⟨some 18, .mv (.t 3), none, true⟩,
 ⟨some 19, .mv (.t 0), none, true⟩,
 ⟨some 20, .mv (.t 4), none, true⟩,
 ⟨some 21, .iadr 1 (.t 19) (.t 20), none, true⟩,
 ⟨some 22, .load 1 false (.t 21), none, true⟩,
 ⟨some 23, .maxi (.t 18) (.t 22), none, true⟩,
 ⟨some 3, .mv (.t 23), none, true⟩]))
 (.reg [⟨some 16, .mv (.t 4), none, true⟩,
 ⟨some 17, .bin .add (.t 16) (.c (.int .i64 1)), none, true⟩,
 ⟨some 4, .mv (.t 17), none, true⟩])))
def r43_2 : IC := (.seq (.reg [⟨some 24, .mv (.t 3), none, true⟩,
 ⟨some 2, .mv (.t 24), none, true⟩])
 .ret)
def r43_0 : IC := (.seq (.reg [⟨some 9, .mv (.t 0), none, true⟩,
 ⟨some 10, .iadr 1 (.t 9) (.c (.int .i64 0)), none, true⟩,
 ⟨some 11, .load 1 false (.t 10), none, true⟩,
 ⟨some 3, .mv (.t 11), none, true⟩])
 (.seq (.seq (.reg [⟨some 4, .mv (.c (.int .i64 1)), none, true⟩])
 (.block 0
 (.loop b43_1)))
 r43_2))
def i43 : IFun := ⟨(.seq (.reg [⟨some 2, .mv (.c (.int .i64 0)), none, true⟩])
 (.seq (.seq (.reg [⟨some 5, .mv (.t 0), none, true⟩,
 ⟨some 6, .lens (.t 5), none, true⟩,
 ⟨some 7, .bin .lss (.t 6) (.c (.int .i64 1)), none, true⟩])
 (.cond (.t 7)
 (.reg [⟨some 8, .bad, none, true⟩,
 ⟨none, .bad, none, true⟩])
 .skip))
 r43_0)),
 25, [.t 2], 1, []⟩
/-- dowel/task.Critical$1 -/
def b44_0 : IC := (.seq (.reg [⟨some 14, .bin .lss (.t 13) (.t 12), none, true⟩])
 (.seq (.cond (.t 14)
 .skip
 (.exit 0))
 (.seq (.block 1
 (.seq (.seq (.reg [⟨some 15, .mv (.t 13), none, true⟩,
 ⟨some 16, .iadr 4 (.t 11) (.t 13), none, true⟩,
 ⟨some 17, .load 4 true (.t 16), none, true⟩,
 ⟨some 9, .alloc [(.str []), (.int .i64 0), (.str []), .nils], none, true⟩,
 ⟨some 8, .mv (.t 15), none, true⟩,
 ⟨none, .store 4 (.t 9) (.t 17), none, true⟩])
 (.frz 9))
 (.seq (.reg [⟨some 18, .mv (.t 1), none, true⟩,
 ⟨some 19, .bin .gtr (.t 18) (.c (.int .i64 0)), none, true⟩,
 ⟨some 20, .mv (.t 19), none, true⟩,
 ⟨some 21, .load 1 false (.t 3), (some (20, true)), true⟩,
 ⟨some 22, .mv (.t 8), (some (20, true)), true⟩,
 ⟨some 23, .iadr 1 (.t 21) (.t 22), (some (20, true)), true⟩,
 ⟨some 24, .load 1 false (.t 23), (some (20, true)), true⟩,
 ⟨some 25, .mv (.t 1), (some (20, true)), true⟩,
 ⟨some 26, .bin .eql (.t 24) (.t 25), (some (20, true)), true⟩,
 ⟨some 27, .pick (.t 20) (.t 26) (.c (.bool false)), none, true⟩,
 ⟨some 28, .mv (.t 27), none, true⟩,
 ⟨some 29, .mv (.t 0), (some (28, true)), true⟩,
 ⟨some 30, .bin .lss (.t 29) (.c (.int .i64 0)), (some (28, true)), true⟩,
 ⟨some 31, .mv (.t 30), (some (28, true)), true⟩,
 ⟨some 32, .fadr 3 (.t 9), (some (31, false)), true⟩,
 ⟨some 33, .loadr 1 false (.t 32), (some (31, false)), true⟩,
 ⟨some 34, .mv (.t 0), (some (31, false)), true⟩,
 ⟨some 35, .callf 45 [(.t 33), (.t 34)], (some (31, false)), true⟩,
 ⟨some 36, .pick (.t 31) (.c (.bool true)) (.t 35), (some (28, true)), true⟩,
 ⟨some 37, .pick (.t 28) (.t 36) (.c (.bool false)), none, true⟩])
 (.cond (.t 37)
 (.seq (.reg [⟨some 38, .load 1 false (.t 4), none, true⟩,
 ⟨some 39, .mv (.t 8), none, true⟩,
 ⟨some 40, .bsl 1 1 [(.int .i64 0)] [(0, 1, (.t 39))], none, true⟩,
 ⟨some 41, .app 1 8 (.t 38) (.t 40), none, true⟩,
 ⟨none, .store 1 (.t 4) (.t 41), none, true⟩])
 (.seq (.reg [⟨some 42, .load 1 false (.t 5), none, true⟩,
 ⟨some 43, .mv (.t 8), none, true⟩,
 ⟨some 44, .mv (.t 1), none, true⟩,
 ⟨some 45, .fadr 1 (.t 9), none, true⟩,
 ⟨some 46, .loadr 1 false (.t 45), none, true⟩,
 ⟨some 47, .bin .sub (.t 44) (.t 46), none, true⟩,
 ⟨some 48, .callv (.t 42) [(.t 43), (.t 47)], none, true⟩])
 .ret))
 .skip))))
 (.reg [⟨some 49, .bin .add (.t 13) (.c (.int .i64 1)), none, true⟩,
 ⟨some 13, .mv (.t 49), none, true⟩]))))
def i44 : IFun := ⟨(.seq (.reg [⟨some 10, .fadr 0 (.t 2), none, true⟩,
 ⟨some 11, .load 1 false (.t 10), none, true⟩,
 ⟨some 12, .lens (.t 11), none, true⟩,
 ⟨some 13, .mv (.c (.int .i64 0)), none, true⟩])
 (.block 0
 (.loop b44_0))),
 50, [], 0, [9, 1000045, 1000032]⟩
/-- slices.Contains[[]int,int] -/
def i45 : IFun := ⟨(.seq (.reg [⟨some 4, .mv (.c (.bool false)), none, true⟩])
 (.seq (.reg [⟨some 5, .mv (.t 0), none, true⟩,
 ⟨some 6, .mv (.t 1), none, true⟩,
 ⟨some 7, .callf 64 [(.t 5), (.t 6)], none, true⟩,
 ⟨some 8, .bin .geq (.t 7) (.c (.int .i64 0)), none, true⟩,
 ⟨some 4, .mv (.t 8), none, true⟩])
 .ret)),
 9, [.t 4], 1, []⟩
/-- dowel/task.before -/
def b46_2 : IC := (.seq (.reg [⟨some 51, .bin .lss (.t 50) (.t 49), none, true⟩])
 (.seq (.cond (.t 51)
 .skip
 (.exit 4))
 (.seq (.block 5
 (.seq (.reg [⟨some 52, .mv (.t 50), none, true⟩,
 ⟨some 53, .iadr 1 (.t 48) (.t 50), none, true⟩,
 ⟨some 54, .load 1 false (.t 53), none, true⟩,
 ⟨some 8, .mv (.t 52), none, true⟩,
 ⟨some 9, .mv (.t 54), none, true⟩])
 (.reg [⟨some 55, .mv (.t 3), none, false⟩,
 ⟨some 56, .mv (.t 5), none, false⟩,
 ⟨some 57, .iadr 1 (.t 55) (.t 56), none, false⟩,
 ⟨some 58, .load 1 false (.t 57), none, false⟩,
 ⟨some 59, .mv (.t 8), none, false⟩,
 ⟨some 60, .mv (.t 3), none, false⟩,
 ⟨some 61, .mv (.t 5), none, false⟩,
 ⟨some 62, .iadr 1 (.t 60) (.t 61), none, false⟩,
 ⟨some 63, .load 1 false (.t 62), none, false⟩,
 ⟨some 64, .mv (.t 8), none, false⟩,
 ⟨some 65, .iadr 1 (.t 63) (.t 64), none, false⟩,
 ⟨some 66, .load 1 false (.t 65), none, false⟩,
 ⟨some 67, .mv (.t 66), none, false⟩,
 ⟨some 68, .mv (.t 9), (some (67, false)), false⟩,
 ⟨some 69, .pick (.t 67) (.c (.bool true)) (.t 68), none, false⟩,
 ⟨some 70, .iadr 1 (.t 58) (.t 59), none, true⟩,
 ⟨none, .store 1 (.t 70) (.t 69), none, true⟩])))
 (.reg [⟨some 71, .bin .add (.t 50) (.c (.int .i64 1)), none, true⟩,
 ⟨some 50, .mv (.t 71), none, true⟩]))))
def r46_3 : IC := (.reg [⟨some 72, .bin .add (.t 35) (.c (.int .i64 1)), none, true⟩,
 ⟨some 35, .mv (.t 72), none, true⟩])
def b46_1 : IC := (.seq (.reg [⟨some 36, .bin .lss (.t 35) (.t 34), none, true⟩])
 (.seq (.cond (.t 36)
 .skip
 (.exit 2))
 (.seq (.block 3
 (.seq (.reg [⟨some 37, .iadr 1 (.t 33) (.t 35), none, true⟩,
 ⟨some 38, .load 1 false (.t 37), none, true⟩,
 ⟨some 7, .mv (.t 38), none, true⟩])
 (.seq (.reg [⟨some 39, .mv (.t 3), none, true⟩,
 ⟨some 40, .mv (.t 5), none, true⟩,
 ⟨some 41, .iadr 1 (.t 39) (.t 40), none, true⟩,
 ⟨some 42, .load 1 false (.t 41), none, true⟩,
 ⟨some 43, .mv (.t 7), none, true⟩,
 ⟨some 44, .iadr 1 (.t 42) (.t 43), none, true⟩,
 ⟨none, .store 1 (.t 44) (.c (.bool true)), none, true⟩])
 (.seq (.reg [⟨some 45, .mv (.t 3), none, true⟩,
 ⟨some 46, .mv (.t 7), none, true⟩,
 ⟨some 47, .iadr 1 (.t 45) (.t 46), none, true⟩,
 ⟨some 48, .load 1 false (.t 47), none, true⟩,
 ⟨some 49, .lens (.t 48), none, true⟩,
 ⟨some 50, .mv (.c (.int .i64 0)), none, true⟩])
 (.block 4
 (.loop b46_2))))))
 r46_3)))
def r46_4 : IC := (.reg [⟨some 73, .bin .add (.t 17) (.c (.int .i64 1)), none, true⟩,
 ⟨some 17, .mv (.t 73), none, true⟩])
def b46_0 : IC := (.seq (.reg [⟨some 18, .bin .lss (.t 17) (.t 16), none, true⟩])
 (.seq (.cond (.t 18)
 .skip
 (.exit 0))
 (.seq (.block 1
 (.seq (.reg [⟨some 19, .iadr 1 (.t 15) (.t 17), none, true⟩,
 ⟨some 20, .load 1 false (.t 19), none, true⟩,
 ⟨some 5, .mv (.t 20), none, true⟩])
 (.seq (.reg [⟨some 21, .mv (.t 3), none, true⟩,
 ⟨some 22, .mv (.t 5), none, true⟩,
 ⟨some 23, .fadr 0 (.t 1), none, true⟩,
 ⟨some 24, .load 1 false (.t 23), none, true⟩,
 ⟨some 25, .lens (.t 24), none, true⟩,
 ⟨some 26, .mks 1 1 [(.bool false)] (.t 25) (.t 25), none, true⟩,
 ⟨some 27, .iadr 1 (.t 21) (.t 22), none, true⟩,
 ⟨none, .store 1 (.t 27) (.t 26), none, true⟩])
 (.seq (.reg [⟨some 28, .fadr 0 (.t 1), none, true⟩,
 ⟨some 29, .load 1 false (.t 28), none, true⟩,
 ⟨some 30, .mv (.t 5), none, true⟩,
 ⟨some 31, .iadr 4 (.t 29) (.t 30), none, true⟩,
 ⟨some 32, .fadr 3 (.t 31), none, true⟩,
 ⟨some 33, .load 1 false (.t 32), none, true⟩,
 ⟨some 34, .lens (.t 33), none, true⟩,
 ⟨some 35, .mv (.c (.int .i64 0)), none, true⟩])
 (.block 2
 (.loop b46_1))))))
 r46_4)))
def r46_5 : IC := (.seq (.reg [⟨some 74, .mv (.t 3), none, true⟩,
 ⟨some 2, .mv (.t 74), none, true⟩])
 .ret)
def i46 : IFun := ⟨(.seq (.reg [⟨some 1, .boxr (.t 0), none, true⟩,
 ⟨some 2, .mv (.c .nils), none, true⟩])
 (.seq (.reg [⟨some 10, .fadr 0 (.t 1), none, true⟩,
 ⟨some 11, .load 1 false (.t 10), none, true⟩,
 ⟨some 12, .lens (.t 11), none, true⟩,
 ⟨some 13, .mks 1 24 [.nils] (.t 12) (.t 12), none, true⟩,
 ⟨some 3, .mv (.t 13), none, true⟩])
 (.seq (.seq (.reg [⟨some 14, .load 2 true (.t 1), none, true⟩,
 ⟨some 15, .callf 56 [(.t 14)], none, true⟩,
 ⟨some 16, .lens (.t 15), none, true⟩,
 ⟨some 17, .mv (.c (.int .i64 0)), none, true⟩])
 (.block 0
 (.loop b46_0)))
 r46_5))),
 75, [.t 2], 1, [1]⟩
/-- slices.DeleteFunc[[]int,int] -/
def r47_1 : IC := (.reg [⟨some 20, .mv (.t 6), none, true⟩,
 ⟨some 21, .bin .add (.t 20) (.c (.int .i64 1)), none, true⟩,
 ⟨some 6, .mv (.t 21), none, true⟩])
def b47_0 : IC := (.seq (.seq (.reg [⟨some 16, .mv (.t 6), none, true⟩,
 ⟨some 17, .mv (.t 0), none, true⟩,
 ⟨some 18, .lens (.t 17), none, true⟩,
 ⟨some 19, .bin .lss (.t 16) (.t 18), none, true⟩])
 (.cond (.t 19)
 .skip
 (.exit 0)))
 (.seq (.block 1
 (.seq (.reg [⟨some 22, .mv (.t 0), none, true⟩,
 ⟨some 23, .mv (.t 6), none, true⟩,
 ⟨some 24, .iadr 1 (.t 22) (.t 23), none, true⟩,
 ⟨some 25, .load 1 false (.t 24), none, true⟩,
 ⟨some 7, .mv (.t 25), none, true⟩])
 (.seq (.reg [⟨some 26, .mv (.t 1), none, true⟩,
 ⟨some 27, .mv (.t 7), none, true⟩,
 ⟨some 28, .callv (.t 26) [(.t 27)], none, true⟩,
 ⟨some 29, .un .not (.t 28), none, true⟩])
 (.cond (.t 29)
 (.seq (.reg [⟨some 30, .mv (.t 0), none, true⟩,
 ⟨some 31, .mv (.t 5), none, true⟩,
 ⟨some 32, .mv (.t 7), none, true⟩,
 ⟨some 33, .iadr 1 (.t 30) (.t 31), none, true⟩,
 ⟨none, .store 1 (.t 33) (.t 32), none, true⟩])
 (.reg [⟨some 34, .mv (.t 5), none, true⟩,
 ⟨some 35, .bin .add (.t 34) (.c (.int .i64 1)), none, true⟩,
 ⟨some 5, .mv (.t 35), none, true⟩]))
 .skip))))
 r47_1))
def r47_2 : IC := (.seq (.reg [⟨some 36, .mv (.t 0), none, true⟩,
 ⟨some 37, .mv (.t 5), none, true⟩,
 ⟨some 38, .slc 1 (.t 36) (some (.t 37)) none none, none, true⟩,
 ⟨none, .clr 1 [(.int .i64 0)] (.t 38), none, true⟩])
 (.seq (.reg [⟨some 39, .mv (.t 0), none, true⟩,
 ⟨some 40, .mv (.t 5), none, true⟩,
 ⟨some 41, .slc 1 (.t 39) none (some (.t 40)) none, none, true⟩,
 ⟨some 4, .mv (.t 41), none, true⟩])
 .ret))
def i47 : IFun := ⟨(.seq (.reg [⟨some 4, .mv (.c .nils), none, true⟩])
 (.seq (.reg [⟨some 8, .mv (.t 0), none, true⟩,
 ⟨some 9, .mv (.t 1), none, true⟩,
 ⟨some 10, .callf 65 [(.t 8), (.t 9)], none, true⟩,
 ⟨some 5, .mv (.t 10), none, true⟩])
 (.seq (.seq (.reg [⟨some 11, .mv (.t 5), none, true⟩,
 ⟨some 12, .bin .eql (.t 11) (.c (.int .i64 (-1))), none, true⟩])
 (.cond (.t 12)
 (.seq (.reg [⟨some 13, .mv (.t 0), none, true⟩,
 ⟨some 4, .mv (.t 13), none, true⟩])
 .ret)
 .skip))
 (.seq (.seq (.reg [⟨some 14, .mv (.t 5), none, true⟩,
 ⟨some 15, .bin .add (.t 14) (.c (.int .i64 1)), none, true⟩,
 ⟨some 6, .mv (.t 15), none, true⟩])
 (.block 0
 (.loop b47_0)))
 r47_2)))),
 42, [.t 4], 0, []⟩
/-- slices.Clone[[]int,int] -/
def i48 : IFun := ⟨(.seq (.reg [⟨some 2, .mv (.c .nils), none, true⟩])
 (.seq (.seq (.reg [⟨some 3, .mv (.t 0), none, true⟩,
 ⟨some 4, .eq .slice false (.t 3) (.c .nils), none, true⟩])
 (.cond (.t 4)
 (.seq (.reg [⟨some 2, .mv (.c .nils), none, true⟩])
 .ret)
 .skip))
 (.seq (.reg [⟨some 5, .bsl 1 0 [(.int .i64 0)] [], none, true⟩,
 ⟨some 6, .mv (.t 0), none, true⟩,
 ⟨some 7, .app 1 8 (.t 5) (.t 6), none, true⟩,
 ⟨some 2, .mv (.t 7), none, true⟩])
 .ret))),
 8, [.t 2], 2, []⟩
/-- dowel/task.Reduce$1 -/
def i49 : IFun := ⟨(.seq (.reg [⟨some 3, .box (.t 0), none, true⟩,
 ⟨some 4, .mv (.c (.bool false)), none, true⟩])
 (.seq (.reg [⟨some 5, .fadr 3 (.t 1), none, true⟩,
 ⟨some 6, .load 1 false (.t 5), none, true⟩,
 ⟨some 7, .mkf 51 [(.t 2), (.t 3)], none, true⟩,
 ⟨some 8, .callf 50 [(.t 6), (.t 7)], none, true⟩,
 ⟨some 4, .mv (.t 8), none, true⟩])
 .ret)),
 9, [.t 4], 0, []⟩
/-- slices.ContainsFunc[[]int,int] -/
def i50 : IFun := ⟨(.seq (.reg [⟨some 4, .mv (.c (.bool false)), none, true⟩])
 (.seq (.reg [⟨some 5, .mv (.t 0), none, true⟩,
 ⟨some 6, .mv (.t 1), none, true⟩,
 ⟨some 7, .callf 65 [(.t 5), (.t 6)], none, true⟩,
 ⟨some 8, .bin .geq (.t 7) (.c (.int .i64 0)), none, true⟩,
 ⟨some 4, .mv (.t 8), none, true⟩])
 .ret)),
 9, [.t 4], 1, []⟩
/-- dowel/task.Reduce$1$1 -/
def i51 : IFun := ⟨(.seq (.reg [⟨some 4, .mv (.c (.bool false)), none, true⟩])
 (.seq (.reg [⟨some 5, .load 1 false (.t 1), none, false⟩,
 ⟨some 6, .mv (.t 0), none, false⟩,
 ⟨some 7, .iadr 1 (.t 5) (.t 6), none, false⟩,
 ⟨some 8, .load 1 false (.t 7), none, false⟩,
 ⟨some 9, .load 1 false (.t 2), none, false⟩,
 ⟨some 10, .iadr 1 (.t 8) (.t 9), none, true⟩,
 ⟨some 11, .load 1 false (.t 10), none, true⟩,
 ⟨some 4, .mv (.t 11), none, true⟩])
 .ret)),
 12, [.t 4], 1, []⟩
/-- slices.Clone[[]string,string] -/
def i52 : IFun := ⟨(.seq (.reg [⟨some 2, .mv (.c .nils), none, true⟩])
 (.seq (.seq (.reg [⟨some 3, .mv (.t 0), none, true⟩,
 ⟨some 4, .eq .slice false (.t 3) (.c .nils), none, true⟩])
 (.cond (.t 4)
 (.seq (.reg [⟨some 2, .mv (.c .nils), none, true⟩])
 .ret)
 .skip))
 (.seq (.reg [⟨some 5, .bsl 1 0 [(.str [])] [], none, true⟩,
 ⟨some 6, .mv (.t 0), none, true⟩,
 ⟨some 7, .app 1 16 (.t 5) (.t 6), none, true⟩,
 ⟨some 2, .mv (.t 7), none, true⟩])
 .ret))),
 8, [.t 2], 2, []⟩
/-- dowel/task.tools -/
def b53_1 : IC := (.seq (.reg [⟨some 27, .bin .lss (.t 26) (.t 25), none, true⟩])
 (.seq (.cond (.t 27)
 .skip
 (.exit 2))
 (.seq (.block 3
 (.seq (.reg [⟨some 28, .iadr 1 (.t 24) (.t 26), none, true⟩,
 ⟨some 29, .load 1 false (.t 28), none, true⟩,
 ⟨some 7, .mv (.t 29), none, true⟩])
 (.reg [⟨some 30, .mv (.t 3), none, true⟩,
 ⟨some 31, .mv (.t 7), none, true⟩,
 ⟨some 32, .mv (.t 3), none, true⟩,
 ⟨some 33, .mv (.t 7), none, true⟩,
 ⟨some 34, .lk .s .nils false (.t 32) (.t 33), none, true⟩,
 ⟨some 35, .mv (.t 4), none, true⟩,
 ⟨some 36, .bsl 1 1 [(.int .i64 0)] [(0, 1, (.t 35))], none, true⟩,
 ⟨some 37, .app 1 8 (.t 34) (.t 36), none, true⟩,
 ⟨none, .mup .s (.t 30) (.t 31) (.t 37), none, true⟩])))
 (.reg [⟨some 38, .bin .add (.t 26) (.c (.int .i64 1)), none, true⟩,
 ⟨some 26, .mv (.t 38), none, true⟩]))))
def r53_2 : IC := (.reg [⟨some 39, .bin .add (.t 12) (.c (.int .i64 1)), none, true⟩,
 ⟨some 12, .mv (.t 39), none, true⟩])
def b53_0 : IC := (.seq (.reg [⟨some 13, .bin .lss (.t 12) (.t 11), none, true⟩])
 (.seq (.cond (.t 13)
 .skip
 (.exit 0))
 (.seq (.block 1
 (.seq (.reg [⟨some 14, .mv (.t 12), none, true⟩,
 ⟨some 15, .iadr 2 (.t 10) (.t 12), none, true⟩,
 ⟨some 16, .load 2 true (.t 15), none, true⟩,
 ⟨some 5, .alloc [(.str []), .nils], none, true⟩,
 ⟨some 4, .mv (.t 14), none, true⟩,
 ⟨none, .store 2 (.t 5) (.t 16), none, true⟩])
 (.seq (.reg [⟨some 17, .mv (.t 3), none, true⟩,
 ⟨some 18, .mv (.t 3), none, true⟩,
 ⟨some 19, .lk .s .nils false (.t 18) (.c (.str [])), none, true⟩,
 ⟨some 20, .mv (.t 4), none, true⟩,
 ⟨some 21, .bsl 1 1 [(.int .i64 0)] [(0, 1, (.t 20))], none, true⟩,
 ⟨some 22, .app 1 8 (.t 19) (.t 21), none, true⟩,
 ⟨none, .mup .s (.t 17) (.c (.str [])) (.t 22), none, true⟩])
 (.seq (.reg [⟨some 23, .fadr 1 (.t 5), none, true⟩,
 ⟨some 24, .load 1 false (.t 23), none, true⟩,
 ⟨some 25, .lens (.t 24), none, true⟩,
 ⟨some 26, .mv (.c (.int .i64 0)), none, true⟩])
 (.block 2
 (.loop b53_1))))))
 r53_2)))
def r53_3 : IC := (.seq (.reg [⟨some 40, .mv (.t 3), none, true⟩,
 ⟨some 2, .mv (.t 40), none, true⟩])
 .ret)
def i53 : IFun := ⟨(.seq (.reg [⟨some 1, .boxr (.t 0), none, true⟩,
 ⟨some 2, .mv (.c .nilm), none, true⟩])
 (.seq (.reg [⟨some 8, .mkm, none, true⟩,
 ⟨some 3, .mv (.t 8), none, true⟩])
 (.seq (.seq (.reg [⟨some 9, .fadr 1 (.t 1), none, true⟩,
 ⟨some 10, .load 1 false (.t 9), none, true⟩,
 ⟨some 11, .lens (.t 10), none, true⟩,
 ⟨some 12, .mv (.c (.int .i64 0)), none, true⟩])
 (.block 0
 (.loop b53_0)))
 r53_3))),
 41, [.t 2], 2, [1]⟩
/-- dowel/dowellaw49.tool -/
def b55_0 : IC := (.seq (.seq (.reg [⟨some 6, .mv (.t 5), none, true⟩,
 ⟨some 7, .fadr 1 (.t 2), none, true⟩,
 ⟨some 8, .load 1 false (.t 7), none, true⟩,
 ⟨some 9, .lens (.t 8), none, true⟩,
 ⟨some 10, .bin .lss (.t 6) (.t 9), none, true⟩])
 (.cond (.t 10)
 .skip
 (.exit 0)))
 (.seq (.block 1
 (.seq (.reg [⟨some 13, .fadr 1 (.t 2), none, true⟩,
 ⟨some 14, .load 1 false (.t 13), none, true⟩,
 ⟨some 15, .mv (.t 5), none, true⟩,
 ⟨some 16, .iadr 1 (.t 14) (.t 15), none, true⟩,
 ⟨some 17, .load 1 false (.t 16), none, true⟩,
 ⟨some 18, .mv (.t 1), none, true⟩,
 ⟨some 19, .bin .eql (.t 17) (.t 18), none, true⟩])
 (.cond (.t 19)
 (.seq (.reg [⟨some 4, .mv (.c (.bool true)), none, true⟩])
 .ret)
 .skip)))
 (.reg [⟨some 11, .mv (.t 5), none, true⟩,
 ⟨some 12, .bin .add (.t 11) (.c (.int .i64 1)), none, true⟩,
 ⟨some 5, .mv (.t 12), none, true⟩])))
def r55_1 : IC := (.seq (.reg [⟨some 20, .mv (.t 1), none, true⟩,
 ⟨some 21, .bin .eql (.t 20) (.c (.str [])), none, true⟩,
 ⟨some 4, .mv (.t 21), none, true⟩])
 .ret)
def i55 : IFun := ⟨(.seq (.reg [⟨some 2, .boxr (.t 0), none, true⟩,
 ⟨some 4, .mv (.c (.bool false)), none, true⟩])
 (.seq (.seq (.reg [⟨some 5, .mv (.c (.int .i64 0)), none, true⟩])
 (.block 0
 (.loop b55_0)))
 r55_1)),
 22, [.t 4], 1, [2]⟩
/-- dowel/task.order -/
def b56_1 : IC := (.seq (.seq (.reg [⟨some 10, .mv (.t 5), none, true⟩,
 ⟨some 11, .load 1 false (.t 3), none, true⟩,
 ⟨some 12, .lens (.t 11), none, true⟩,
 ⟨some 13, .bin .lss (.t 10) (.t 12), none, true⟩,
 ⟨some 14, .mv (.t 13), none, true⟩,
 ⟨some 15, .load 1 false (.t 3), (some (14, true)), true⟩,
 ⟨some 16, .mv (.t 5), (some (14, true)), true⟩,
 ⟨some 17, .iadr 1 (.t 15) (.t 16), (some (14, true)), true⟩,
 ⟨some 18, .load 1 false (.t 17), (some (14, true)), true⟩,
 ⟨some 19, .mv (.t 18), (some (14, true)), true⟩,
 ⟨some 20, .fadr 0 (.t 1), (some (19, false)), true⟩,
 ⟨some 21, .load 1 false (.t 20), (some (19, false)), true⟩,
 ⟨some 22, .mv (.t 5), (some (19, false)), true⟩,
 ⟨some 23, .iadr 4 (.t 21) (.t 22), (some (19, false)), true⟩,
 ⟨some 24, .fadr 3 (.t 23), (some (19, false)), true⟩,
 ⟨some 25, .load 1 false (.t 24), (some (19, false)), true⟩,
 ⟨some 26, .mkf 66 [(.t 3)], (some (19, false)), true⟩,
 ⟨some 27, .callf 50 [(.t 25), (.t 26)], (some (19, false)), true⟩,
 ⟨some 28, .pick (.t 19) (.c (.bool true)) (.t 27), (some (14, true)), true⟩,
 ⟨some 29, .pick (.t 14) (.t 28) (.c (.bool false)), none, true⟩])
 (.cond (.t 29)
 .skip
 (.exit 2)))
 (.block 3
 (.reg [⟨some 30, .mv (.t 5), none, true⟩,
 ⟨some 31, .bin .add (.t 30) (.c (.int .i64 1)), none, true⟩,
 ⟨some 5, .mv (.t 31), none, true⟩])))
def r56_2 : IC := (.seq (.seq (.reg [⟨some 32, .mv (.t 5), none, true⟩,
 ⟨some 33, .load 1 false (.t 3), none, true⟩,
 ⟨some 34, .lens (.t 33), none, true⟩,
 ⟨some 35, .bin .eql (.t 32) (.t 34), none, true⟩])
 (.cond (.t 35)
 (.seq (.reg [⟨some 36, .mv (.t 4), none, true⟩,
 ⟨some 2, .mv (.t 36), none, true⟩])
 .ret)
 .skip))
 (.seq (.reg [⟨some 37, .load 1 false (.t 3), none, true⟩,
 ⟨some 38, .mv (.t 5), none, true⟩,
 ⟨some 39, .iadr 1 (.t 37) (.t 38), none, true⟩,
 ⟨none, .store 1 (.t 39) (.c (.bool true)), none, true⟩])
 (.reg [⟨some 40, .mv (.t 4), none, true⟩,
 ⟨some 41, .mv (.t 5), none, true⟩,
 ⟨some 42, .bsl 1 1 [(.int .i64 0)] [(0, 1, (.t 41))], none, true⟩,
 ⟨some 43, .app 1 8 (.t 40) (.t 42), none, true⟩,
 ⟨some 4, .mv (.t 43), none, true⟩])))
def b56_0 : IC := (.block 1
 (.seq (.reg [⟨some 5, .mv (.c (.int .i64 0)), none, true⟩])
 (.seq (.block 2
 (.loop b56_1))
 r56_2)))
def i56 : IFun := ⟨(.seq (.reg [⟨some 1, .boxr (.t 0), none, true⟩,
 ⟨some 2, .mv (.c .nils), none, true⟩])
 (.seq (.reg [⟨some 6, .fadr 0 (.t 1), none, true⟩,
 ⟨some 7, .load 1 false (.t 6), none, true⟩,
 ⟨some 8, .lens (.t 7), none, true⟩,
 ⟨some 9, .mks 1 1 [(.bool false)] (.t 8) (.t 8), none, true⟩,
 ⟨some 3, .alloc [.nils], none, true⟩,
 ⟨none, .store 1 (.t 3) (.t 9), none, true⟩])
 (.seq (.reg [⟨some 4, .mv (.c .nils), none, true⟩])
 (.block 0
 (.loop b56_0))))),
 44, [.t 2], 2, [1]⟩
/-- dowel/task.task -/
def b57_0 : IC := (.seq (.reg [⟨some 48, .bin .lss (.t 47) (.t 46), none, true⟩])
 (.seq (.cond (.t 48)
 .skip
 (.exit 1))
 (.seq (.block 2
 (.seq (.reg [⟨some 49, .mv (.t 47), none, true⟩,
 ⟨some 50, .iadr 1 (.t 45) (.t 47), none, true⟩,
 ⟨some 51, .load 1 false (.t 50), none, true⟩,
 ⟨some 6, .mv (.t 49), none, true⟩,
 ⟨some 7, .mv (.t 51), none, true⟩])
 (.block 3
 (.seq (.reg [⟨some 53, .mv (.t 7), none, true⟩,
 ⟨some 54, .bin .lss (.t 53) (.c (.int .i64 0)), none, true⟩,
 ⟨some 55, .mv (.t 54), none, true⟩,
 ⟨some 56, .mv (.t 7), (some (55, false)), true⟩,
 ⟨some 57, .fadr 0 (.t 2), (some (55, false)), true⟩,
 ⟨some 58, .load 1 false (.t 57), (some (55, false)), true⟩,
 ⟨some 59, .lens (.t 58), (some (55, false)), true⟩,
 ⟨some 60, .bin .geq (.t 56) (.t 59), (some (55, false)), true⟩,
 ⟨some 61, .pick (.t 55) (.c (.bool true)) (.t 60), none, true⟩,
 ⟨some 52, .mv (.t 61), none, true⟩])
 (.cond (.t 52)
 (.seq (.reg [⟨some 4, .mv (.c (.int .i64 2)), none, true⟩])
 .ret)
 (.seq (.reg [⟨some 63, .mv (.t 7), none, true⟩,
 ⟨some 64, .mv (.t 1), none, true⟩,
 ⟨some 65, .bin .eql (.t 63) (.t 64), none, true⟩,
 ⟨some 62, .mv (.t 65), none, true⟩])
 (.cond (.t 62)
 (.seq (.reg [⟨some 4, .mv (.c (.int .i64 17)), none, true⟩])
 .ret)
 (.seq (.reg [⟨some 67, .mv (.t 6), none, true⟩,
 ⟨some 68, .bin .gtr (.t 67) (.c (.int .i64 0)), none, true⟩,
 ⟨some 69, .mv (.t 68), none, true⟩,
 ⟨some 70, .fadr 3 (.t 5), (some (69, true)), true⟩,
 ⟨some 71, .load 1 false (.t 70), (some (69, true)), true⟩,
 ⟨some 72, .mv (.t 6), (some (69, true)), true⟩,
 ⟨some 73, .bin .sub (.t 72) (.c (.int .i64 1)), (some (69, true)), true⟩,
 ⟨some 74, .iadr 1 (.t 71) (.t 73), (some (69, true)), true⟩,
 ⟨some 75, .load 1 false (.t 74), (some (69, true)), true⟩,
 ⟨some 76, .mv (.t 7), (some (69, true)), true⟩,
 ⟨some 77, .bin .geq (.t 75) (.t 76), (some (69, true)), true⟩,
 ⟨some 78, .pick (.t 69) (.t 77) (.c (.bool false)), none, true⟩,
 ⟨some 66, .mv (.t 78), none, true⟩])
 (.cond (.t 66)
 (.seq (.reg [⟨some 4, .mv (.c (.int .i64 8)), none, true⟩])
 .ret)
 .skip)))))))))
 (.reg [⟨some 79, .bin .add (.t 47) (.c (.int .i64 1)), none, true⟩,
 ⟨some 47, .mv (.t 79), none, true⟩]))))
def r57_1 : IC := (.seq (.reg [⟨some 4, .mv (.c (.int .i64 0)), none, true⟩])
 .ret)
def i57 : IFun := ⟨(.seq (.reg [⟨some 2, .boxr (.t 0), none, true⟩,
 ⟨some 4, .mv (.c (.int .i64 0)), none, true⟩])
 (.seq (.reg [⟨some 8, .fadr 0 (.t 2), none, true⟩,
 ⟨some 9, .load 1 false (.t 8), none, true⟩,
 ⟨some 10, .mv (.t 1), none, true⟩,
 ⟨some 11, .iadr 4 (.t 9) (.t 10), none, true⟩,
 ⟨some 12, .load 4 true (.t 11), none, true⟩,
 ⟨some 5, .alloc [(.str []), (.int .i64 0), (.str []), .nils], none, true⟩,
 ⟨none, .store 4 (.t 5) (.t 12), none, true⟩])
 (.seq (.block 0
 (.seq (.reg [⟨some 14, .fadr 0 (.t 5), none, true⟩,
 ⟨some 15, .load 1 false (.t 14), none, true⟩,
 ⟨some 16, .callf 67 [(.t 15)], none, true⟩,
 ⟨some 17, .un .not (.t 16), none, true⟩,
 ⟨some 13, .mv (.t 17), none, true⟩])
 (.cond (.t 13)
 (.seq (.reg [⟨some 4, .mv (.c (.int .i64 11)), none, true⟩])
 .ret)
 (.seq (.reg [⟨some 19, .fadr 0 (.t 2), none, true⟩,
 ⟨some 20, .load 1 false (.t 19), none, true⟩,
 ⟨some 21, .mv (.t 1), none, true⟩,
 ⟨some 22, .slc 4 (.t 20) none (some (.t 21)) none, none, true⟩,
 ⟨some 23, .mkf 69 [(.t 5)], none, true⟩,
 ⟨some 24, .callf 68 [(.t 22), (.t 23)], none, true⟩,
 ⟨some 18, .mv (.t 24), none, true⟩])
 (.cond (.t 18)
 (.seq (.reg [⟨some 4, .mv (.c (.int .i64 9)), none, true⟩])
 .ret)
 (.seq (.reg [⟨some 26, .fadr 1 (.t 5), none, true⟩,
 ⟨some 27, .load 1 false (.t 26), none, true⟩,
 ⟨some 28, .bin .lss (.t 27) (.c (.int .i64 1)), none, true⟩,
 ⟨some 29, .mv (.t 28), none, true⟩,
 ⟨some 30, .fadr 1 (.t 5), (some (29, false)), true⟩,
 ⟨some 31, .load 1 false (.t 30), (some (29, false)), true⟩,
 ⟨some 32, .bin .gtr (.t 31) (.c (.int .i64 1048576)), (some (29, false)), true⟩,
 ⟨some 33, .pick (.t 29) (.c (.bool true)) (.t 32), none, true⟩,
 ⟨some 25, .mv (.t 33), none, true⟩])
 (.cond (.t 25)
 (.seq (.reg [⟨some 4, .mv (.c (.int .i64 2)), none, true⟩])
 .ret)
 (.seq (.reg [⟨some 35, .fadr 2 (.t 5), none, true⟩,
 ⟨some 36, .load 1 false (.t 35), none, true⟩,
 ⟨some 37, .bin .neq (.t 36) (.c (.str [])), none, true⟩,
 ⟨some 38, .mv (.t 37), none, true⟩,
 ⟨some 39, .fadr 2 (.t 5), (some (38, true)), true⟩,
 ⟨some 40, .load 1 false (.t 39), (some (38, true)), true⟩,
 ⟨some 41, .callf 67 [(.t 40)], (some (38, true)), true⟩,
 ⟨some 42, .un .not (.t 41), (some (38, true)), true⟩,
 ⟨some 43, .pick (.t 38) (.t 42) (.c (.bool false)), none, true⟩,
 ⟨some 34, .mv (.t 43), none, true⟩])
 (.cond (.t 34)
 (.seq (.reg [⟨some 4, .mv (.c (.int .i64 11)), none, true⟩])
 .ret)
 .skip)))))))))
 (.seq (.seq (.reg [⟨some 44, .fadr 3 (.t 5), none, true⟩,
 ⟨some 45, .load 1 false (.t 44), none, true⟩,
 ⟨some 46, .lens (.t 45), none, true⟩,
 ⟨some 47, .mv (.c (.int .i64 0)), none, true⟩])
 (.block 1
 (.loop b57_0)))
 r57_1)))),
 80, [.t 4], 1, [2]⟩
/-- dowel/task.station -/
def b58_0 : IC := (.seq (.reg [⟨some 34, .bin .lss (.t 33) (.t 32), none, true⟩])
 (.seq (.cond (.t 34)
 .skip
 (.exit 1))
 (.seq (.block 2
 (.seq (.reg [⟨some 35, .mv (.t 33), none, true⟩,
 ⟨some 36, .iadr 1 (.t 31) (.t 33), none, true⟩,
 ⟨some 37, .load 1 false (.t 36), none, true⟩,
 ⟨some 6, .mv (.t 35), none, true⟩,
 ⟨some 7, .mv (.t 37), none, true⟩])
 (.seq (.seq (.reg [⟨some 38, .mv (.t 7), none, true⟩,
 ⟨some 39, .callf 67 [(.t 38)], none, true⟩,
 ⟨some 40, .un .not (.t 39), none, true⟩])
 (.cond (.t 40)
 (.seq (.reg [⟨some 4, .mv (.c (.int .i64 11)), none, true⟩])
 .ret)
 .skip))
 (.seq (.reg [⟨some 41, .mv (.t 6), none, true⟩,
 ⟨some 42, .bin .gtr (.t 41) (.c (.int .i64 0)), none, true⟩,
 ⟨some 43, .mv (.t 42), none, true⟩,
 ⟨some 44, .fadr 1 (.t 5), (some (43, true)), true⟩,
 ⟨some 45, .load 1 false (.t 44), (some (43, true)), true⟩,
 ⟨some 46, .mv (.t 6), (some (43, true)), true⟩,
 ⟨some 47, .bin .sub (.t 46) (.c (.int .i64 1)), (some (43, true)), true⟩,
 ⟨some 48, .iadr 1 (.t 45) (.t 47), (some (43, true)), true⟩,
 ⟨some 49, .load 1 false (.t 48), (some (43, true)), true⟩,
 ⟨some 50, .mv (.t 7), (some (43, true)), true⟩,
 ⟨some 51, .bin .geq (.t 49) (.t 50), (some (43, true)), true⟩,
 ⟨some 52, .pick (.t 43) (.t 51) (.c (.bool false)), none, true⟩])
 (.cond (.t 52)
 (.seq (.reg [⟨some 4, .mv (.c (.int .i64 8)), none, true⟩])
 .ret)
 .skip)))))
 (.reg [⟨some 53, .bin .add (.t 33) (.c (.int .i64 1)), none, true⟩,
 ⟨some 33, .mv (.t 53), none, true⟩]))))
def r58_1 : IC := (.seq (.reg [⟨some 4, .mv (.c (.int .i64 0)), none, true⟩])
 .ret)
def i58 : IFun := ⟨(.seq (.reg [⟨some 2, .boxr (.t 0), none, true⟩,
 ⟨some 4, .mv (.c (.int .i64 0)), none, true⟩])
 (.seq (.reg [⟨some 8, .fadr 1 (.t 2), none, true⟩,
 ⟨some 9, .load 1 false (.t 8), none, true⟩,
 ⟨some 10, .mv (.t 1), none, true⟩,
 ⟨some 11, .iadr 2 (.t 9) (.t 10), none, true⟩,
 ⟨some 12, .load 2 true (.t 11), none, true⟩,
 ⟨some 5, .alloc [(.str []), .nils], none, true⟩,
 ⟨none, .store 2 (.t 5) (.t 12), none, true⟩])
 (.seq (.block 0
 (.seq (.reg [⟨some 14, .fadr 0 (.t 5), none, true⟩,
 ⟨some 15, .load 1 false (.t 14), none, true⟩,
 ⟨some 16, .callf 67 [(.t 15)], none, true⟩,
 ⟨some 17, .un .not (.t 16), none, true⟩,
 ⟨some 13, .mv (.t 17), none, true⟩])
 (.cond (.t 13)
 (.seq (.reg [⟨some 4, .mv (.c (.int .i64 11)), none, true⟩])
 .ret)
 (.seq (.reg [⟨some 19, .fadr 1 (.t 2), none, true⟩,
 ⟨some 20, .load 1 false (.t 19), none, true⟩,
 ⟨some 21, .mv (.t 1), none, true⟩,
 ⟨some 22, .slc 2 (.t 20) none (some (.t 21)) none, none, true⟩,
 ⟨some 23, .mkf 71 [(.t 5)], none, true⟩,
 ⟨some 24, .callf 70 [(.t 22), (.t 23)], none, true⟩,
 ⟨some 18, .mv (.t 24), none, true⟩])
 (.cond (.t 18)
 (.seq (.reg [⟨some 4, .mv (.c (.int .i64 9)), none, true⟩])
 .ret)
 (.seq (.reg [⟨some 26, .fadr 1 (.t 5), none, true⟩,
 ⟨some 27, .load 1 false (.t 26), none, true⟩,
 ⟨some 28, .lens (.t 27), none, true⟩,
 ⟨some 29, .bin .gtr (.t 28) (.c (.int .i64 16)), none, true⟩,
 ⟨some 25, .mv (.t 29), none, true⟩])
 (.cond (.t 25)
 (.seq (.reg [⟨some 4, .mv (.c (.int .i64 6)), none, true⟩])
 .ret)
 .skip)))))))
 (.seq (.seq (.reg [⟨some 30, .fadr 1 (.t 5), none, true⟩,
 ⟨some 31, .load 1 false (.t 30), none, true⟩,
 ⟨some 32, .lens (.t 31), none, true⟩,
 ⟨some 33, .mv (.c (.int .i64 0)), none, true⟩])
 (.block 1
 (.loop b58_0)))
 r58_1)))),
 54, [.t 4], 1, [2]⟩
/-- dowel/dowellaw49.name -/
def b59_0 : IC := (.seq (.seq (.reg [⟨some 4, .mv (.t 3), none, true⟩,
 ⟨some 5, .mv (.t 0), none, true⟩,
 ⟨some 6, .lent (.t 5), none, true⟩,
 ⟨some 7, .bin .lss (.t 4) (.t 6), none, true⟩])
 (.cond (.t 7)
 .skip
 (.exit 0)))
 (.seq (.block 1
 (.seq (.reg [⟨some 10, .mv (.t 0), none, true⟩,
 ⟨some 11, .mv (.t 3), none, true⟩,
 ⟨some 12, .sidx (.t 10) (.t 11), none, true⟩,
 ⟨some 13, .bin .lss (.t 12) (.c (.int .u8 33)), none, true⟩,
 ⟨some 14, .mv (.t 13), none, true⟩,
 ⟨some 15, .mv (.t 0), (some (14, false)), true⟩,
 ⟨some 16, .mv (.t 3), (some (14, false)), true⟩,
 ⟨some 17, .sidx (.t 15) (.t 16), (some (14, false)), true⟩,
 ⟨some 18, .bin .gtr (.t 17) (.c (.int .u8 126)), (some (14, false)), true⟩,
 ⟨some 19, .pick (.t 14) (.c (.bool true)) (.t 18), none, true⟩])
 (.cond (.t 19)
 (.seq (.reg [⟨some 2, .mv (.c (.bool false)), none, true⟩])
 .ret)
 .skip)))
 (.reg [⟨some 8, .mv (.t 3), none, true⟩,
 ⟨some 9, .bin .add (.t 8) (.c (.int .i64 1)), none, true⟩,
 ⟨some 3, .mv (.t 9), none, true⟩])))
def r59_1 : IC := (.seq (.reg [⟨some 20, .mv (.t 0), none, true⟩,
 ⟨some 21, .lent (.t 20), none, true⟩,
 ⟨some 22, .bin .geq (.t 21) (.c (.int .i64 1)), none, true⟩,
 ⟨some 23, .mv (.t 22), none, true⟩,
 ⟨some 24, .mv (.t 0), (some (23, true)), true⟩,
 ⟨some 25, .lent (.t 24), (some (23, true)), true⟩,
 ⟨some 26, .bin .leq (.t 25) (.c (.int .i64 40)), (some (23, true)), true⟩,
 ⟨some 27, .pick (.t 23) (.t 26) (.c (.bool false)), none, true⟩,
 ⟨some 2, .mv (.t 27), none, true⟩])
 .ret)
def i59 : IFun := ⟨(.seq (.reg [⟨some 2, .mv (.c (.bool false)), none, true⟩])
 (.seq (.seq (.reg [⟨some 3, .mv (.c (.int .i64 0)), none, true⟩])
 (.block 0
 (.loop b59_0)))
 r59_1)),
 28, [.t 2], 1, []⟩
/-- dowel/graph.Check -/
def b60_0 : IC := (.seq (.reg [⟨some 29, .bin .lss (.t 28) (.t 27), none, true⟩])
 (.seq (.cond (.t 29)
 .skip
 (.exit 1))
 (.seq (.block 2
 (.seq (.seq (.reg [⟨some 30, .iadr 2 (.t 26) (.t 28), none, true⟩,
 ⟨some 31, .load 2 true (.t 30), none, true⟩,
 ⟨some 4, .alloc [(.int .i64 0), (.int .i64 0)], none, true⟩,
 ⟨none, .store 2 (.t 4) (.t 31), none, true⟩])
 (.frz 4))
 (.seq (.reg [⟨some 32, .fadr 0 (.t 1), none, true⟩,
 ⟨some 33, .load 1 false (.t 32), none, true⟩,
 ⟨some 34, .fadr 0 (.t 4), none, true⟩,
 ⟨some 35, .loadr 1 false (.t 34), none, true⟩,
 ⟨some 36, .callf 72 [(.t 33), (.t 35)], none, true⟩,
 ⟨some 37, .mv (.t 36), none, true⟩,
 ⟨some 38, .fadr 0 (.t 1), (some (37, false)), true⟩,
 ⟨some 39, .load 1 false (.t 38), (some (37, false)), true⟩,
 ⟨some 40, .fadr 1 (.t 4), (some (37, false)), true⟩,
 ⟨some 41, .loadr 1 false (.t 40), (some (37, false)), true⟩,
 ⟨some 42, .callf 72 [(.t 39), (.t 41)], (some (37, false)), true⟩,
 ⟨some 43, .pick (.t 37) (.c (.bool true)) (.t 42), none, true⟩])
 (.cond (.t 43)
 (.seq (.reg [⟨some 2, .mv (.c (.int .i64 2)), none, true⟩])
 .ret)
 .skip))))
 (.reg [⟨some 44, .bin .add (.t 28) (.c (.int .i64 1)), none, true⟩,
 ⟨some 28, .mv (.t 44), none, true⟩]))))
def b60_2 : IC := (.seq (.seq (.reg [⟨some 45, .mv (.t 5), none, true⟩,
 ⟨some 46, .fadr 1 (.t 1), none, true⟩,
 ⟨some 47, .load 1 false (.t 46), none, true⟩,
 ⟨some 48, .lens (.t 47), none, true⟩,
 ⟨some 49, .bin .lss (.t 45) (.t 48), none, true⟩])
 (.cond (.t 49)
 .skip
 (.exit 3)))
 (.seq (.block 4
 (.seq (.reg [⟨some 52, .fadr 1 (.t 1), none, false⟩,
 ⟨some 53, .load 1 false (.t 52), none, false⟩,
 ⟨some 54, .mv (.t 5), none, false⟩,
 ⟨some 55, .bin .sub (.t 54) (.c (.int .i64 1)), none, false⟩,
 ⟨some 56, .iadr 2 (.t 53) (.t 55), none, false⟩,
 ⟨some 57, .load 2 true (.t 56), none, false⟩,
 ⟨some 58, .fadr 1 (.t 1), none, false⟩,
 ⟨some 59, .load 1 false (.t 58), none, false⟩,
 ⟨some 60, .mv (.t 5), none, false⟩,
 ⟨some 61, .iadr 2 (.t 59) (.t 60), none, false⟩,
 ⟨some 62, .load 2 true (.t 61), none, false⟩,
 ⟨some 63, .callf 73 [(.t 57), (.t 62)], none, true⟩,
 ⟨some 64, .bin .geq (.t 63) (.c (.int .i64 0)), none, true⟩])
 (.cond (.t 64)
 (.seq (.reg [⟨some 2, .mv (.c (.int .i64 8)), none, true⟩])
 .ret)
 .skip)))
 (.reg [⟨some 50, .mv (.t 5), none, true⟩,
 ⟨some 51, .bin .add (.t 50) (.c (.int .i64 1)), none, true⟩,
 ⟨some 5, .mv (.t 51), none, true⟩])))
def r60_3 : IC := (.seq (.reg [⟨some 2, .mv (.c (.int .i64 0)), none, true⟩])
 .ret)
def r60_1 : IC := (.seq (.seq (.reg [⟨some 5, .mv (.c (.int .i64 1)), none, true⟩])
 (.block 3
 (.loop b60_2)))
 r60_3)
def i60 : IFun := ⟨(.seq (.reg [⟨some 1, .boxr (.t 0), none, true⟩,
 ⟨some 2, .mv (.c (.int .i64 0)), none, true⟩])
 (.seq (.block 0
 (.seq (.reg [⟨some 7, .fadr 0 (.t 1), none, true⟩,
 ⟨some 8, .load 1 false (.t 7), none, true⟩,
 ⟨some 9, .bin .lss (.t 8) (.c (.int .i64 0)), none, true⟩,
 ⟨some 10, .mv (.t 9), none, true⟩,
 ⟨some 11, .fadr 0 (.t 1), (some (10, false)), true⟩,
 ⟨some 12, .load 1 false (.t 11), (some (10, false)), true⟩,
 ⟨some 13, .bin .gtr (.t 12) (.c (.int .i64 64)), (some (10, false)), true⟩,
 ⟨some 14, .pick (.t 10) (.c (.bool true)) (.t 13), none, true⟩,
 ⟨some 6, .mv (.t 14), none, true⟩])
 (.cond (.t 6)
 (.seq (.reg [⟨some 2, .mv (.c (.int .i64 2)), none, true⟩])
 .ret)
 (.seq (.reg [⟨some 16, .fadr 1 (.t 1), none, true⟩,
 ⟨some 17, .load 1 false (.t 16), none, true⟩,
 ⟨some 18, .lens (.t 17), none, true⟩,
 ⟨some 19, .fadr 0 (.t 1), none, true⟩,
 ⟨some 20, .load 1 false (.t 19), none, true⟩,
 ⟨some 21, .fadr 0 (.t 1), none, true⟩,
 ⟨some 22, .load 1 false (.t 21), none, true⟩,
 ⟨some 23, .bin .mul (.t 20) (.t 22), none, true⟩,
 ⟨some 24, .bin .gtr (.t 18) (.t 23), none, true⟩,
 ⟨some 15, .mv (.t 24), none, true⟩])
 (.cond (.t 15)
 (.seq (.reg [⟨some 2, .mv (.c (.int .i64 6)), none, true⟩])
 .ret)
 .skip)))))
 (.seq (.seq (.reg [⟨some 25, .fadr 1 (.t 1), none, true⟩,
 ⟨some 26, .load 1 false (.t 25), none, true⟩,
 ⟨some 27, .lens (.t 26), none, true⟩,
 ⟨some 28, .mv (.c (.int .i64 0)), none, true⟩])
 (.block 1
 (.loop b60_0)))
 r60_1))),
 65, [.t 2], 1, [1, 4, 1000040, 1000034]⟩
/-- dowel/graph.next -/
def b61_0 : IC := (.seq (.reg [⟨some 13, .bin .lss (.t 12) (.t 11), none, true⟩])
 (.seq (.cond (.t 13)
 .skip
 (.exit 0))
 (.seq (.block 1
 (.seq (.seq (.reg [⟨some 14, .iadr 2 (.t 10) (.t 12), none, true⟩,
 ⟨some 15, .load 2 true (.t 14), none, true⟩,
 ⟨some 5, .alloc [(.int .i64 0), (.int .i64 0)], none, true⟩,
 ⟨none, .store 2 (.t 5) (.t 15), none, true⟩])
 (.frz 5))
 (.reg [⟨some 16, .mv (.t 3), none, false⟩,
 ⟨some 17, .fadr 0 (.t 5), none, false⟩,
 ⟨some 18, .loadr 1 false (.t 17), none, false⟩,
 ⟨some 19, .mv (.t 3), none, false⟩,
 ⟨some 20, .fadr 0 (.t 5), none, false⟩,
 ⟨some 21, .loadr 1 false (.t 20), none, false⟩,
 ⟨some 22, .iadr 1 (.t 19) (.t 21), none, false⟩,
 ⟨some 23, .load 1 false (.t 22), none, false⟩,
 ⟨some 24, .fadr 1 (.t 5), none, false⟩,
 ⟨some 25, .loadr 1 false (.t 24), none, false⟩,
 ⟨some 26, .bsl 1 1 [(.int .i64 0)] [(0, 1, (.t 25))], none, false⟩,
 ⟨some 27, .app 1 8 (.t 23) (.t 26), none, true⟩,
 ⟨some 28, .iadr 1 (.t 16) (.t 18), none, true⟩,
 ⟨none, .store 1 (.t 28) (.t 27), none, true⟩])))
 (.reg [⟨some 29, .bin .add (.t 12) (.c (.int .i64 1)), none, true⟩,
 ⟨some 12, .mv (.t 29), none, true⟩]))))
def r61_1 : IC := (.seq (.reg [⟨some 30, .mv (.t 3), none, true⟩,
 ⟨some 2, .mv (.t 30), none, true⟩])
 .ret)
def i61 : IFun := ⟨(.seq (.reg [⟨some 1, .boxr (.t 0), none, true⟩,
 ⟨some 2, .mv (.c .nils), none, true⟩])
 (.seq (.reg [⟨some 6, .fadr 0 (.t 1), none, true⟩,
 ⟨some 7, .load 1 false (.t 6), none, true⟩,
 ⟨some 8, .mks 1 24 [.nils] (.t 7) (.t 7), none, true⟩,
 ⟨some 3, .mv (.t 8), none, true⟩])
 (.seq (.seq (.reg [⟨some 9, .fadr 1 (.t 1), none, true⟩,
 ⟨some 10, .load 1 false (.t 9), none, true⟩,
 ⟨some 11, .lens (.t 10), none, true⟩,
 ⟨some 12, .mv (.c (.int .i64 0)), none, true⟩])
 (.block 0
 (.loop b61_0)))
 r61_1))),
 31, [.t 2], 1, [1, 5, 1000024, 1000020, 1000017]⟩
/-- dowel/graph.Make -/
def b62_0 : IC := (.seq (.reg [⟨some 19, .bin .lss (.t 18) (.t 17), none, true⟩])
 (.seq (.cond (.t 19)
 .skip
 (.exit 0))
 (.seq (.block 1
 (.seq (.seq (.reg [⟨some 20, .iadr 2 (.t 16) (.t 18), none, true⟩,
 ⟨some 21, .load 2 true (.t 20), none, true⟩,
 ⟨some 7, .alloc [(.int .i64 0), (.int .i64 0)], none, true⟩,
 ⟨none, .store 2 (.t 7) (.t 21), none, true⟩])
 (.frz 7))
 (.seq (.reg [⟨some 22, .mv (.t 0), none, true⟩,
 ⟨some 23, .fadr 0 (.t 7), none, true⟩,
 ⟨some 24, .loadr 1 false (.t 23), none, true⟩,
 ⟨some 25, .callf 72 [(.t 22), (.t 24)], none, true⟩,
 ⟨some 26, .mv (.t 25), none, true⟩,
 ⟨some 27, .mv (.t 0), (some (26, false)), true⟩,
 ⟨some 28, .fadr 1 (.t 7), (some (26, false)), true⟩,
 ⟨some 29, .loadr 1 false (.t 28), (some (26, false)), true⟩,
 ⟨some 30, .callf 72 [(.t 27), (.t 29)], (some (26, false)), true⟩,
 ⟨some 31, .pick (.t 26) (.c (.bool true)) (.t 30), none, true⟩])
 (.cond (.t 31)
 (.seq (.reg [⟨some 32, .build [(.int .i64 0), .nils] [], none, true⟩,
 ⟨none, .store 2 (.t 4) (.t 32), none, true⟩,
 ⟨some 5, .mv (.c (.int .i64 2)), none, true⟩])
 .ret)
 .skip))))
 (.reg [⟨some 33, .bin .add (.t 18) (.c (.int .i64 1)), none, true⟩,
 ⟨some 18, .mv (.t 33), none, true⟩]))))
def r62_1 : IC := (.seq (.reg [⟨some 34, .mv (.t 1), none, true⟩,
 ⟨some 35, .callf 74 [(.t 34)], none, true⟩,
 ⟨some 8, .mv (.t 35), none, true⟩])
 (.seq (.reg [⟨some 36, .mv (.t 8), none, true⟩,
 ⟨some 37, .callf 75 [(.t 36), (.c (.fn 73 []))], none, true⟩])
 (.seq (.reg [⟨some 38, .mv (.t 0), none, true⟩,
 ⟨some 39, .mv (.t 8), none, true⟩,
 ⟨some 40, .callf 76 [(.t 39)], none, true⟩,
 ⟨some 41, .build [(.int .i64 0), .nils] [(0, 1, (.t 38)), (1, 1, (.t 40))], none, true⟩,
 ⟨none, .store 2 (.t 4) (.t 41), none, true⟩,
 ⟨some 5, .mv (.c (.int .i64 0)), none, true⟩])
 .ret)))
def i62 : IFun := ⟨(.seq (.reg [⟨some 4, .alloc [(.int .i64 0), .nils], none, true⟩,
 ⟨some 5, .mv (.c (.int .i64 0)), none, true⟩])
 (.seq (.seq (.reg [⟨some 9, .mv (.t 0), none, true⟩,
 ⟨some 10, .bin .lss (.t 9) (.c (.int .i64 0)), none, true⟩,
 ⟨some 11, .mv (.t 10), none, true⟩,
 ⟨some 12, .mv (.t 0), (some (11, false)), true⟩,
 ⟨some 13, .bin .gtr (.t 12) (.c (.int .i64 64)), (some (11, false)), true⟩,
 ⟨some 14, .pick (.t 11) (.c (.bool true)) (.t 13), none, true⟩])
 (.cond (.t 14)
 (.seq (.reg [⟨some 15, .build [(.int .i64 0), .nils] [], none, true⟩,
 ⟨none, .store 2 (.t 4) (.t 15), none, true⟩,
 ⟨some 5, .mv (.c (.int .i64 2)), none, true⟩])
 .ret)
 .skip))
 (.seq (.seq (.reg [⟨some 16, .mv (.t 1), none, true⟩,
 ⟨some 17, .lens (.t 16), none, true⟩,
 ⟨some 18, .mv (.c (.int .i64 0)), none, true⟩])
 (.block 0
 (.loop b62_0)))
 r62_1))),
 42, [.cell 4 2 true, .t 5], 0, [7, 1000028, 1000023]⟩
/-- slices.Reverse[[]int,int] -/
def b63_0 : IC := (.seq (.seq (.reg [⟨some 7, .mv (.t 2), none, true⟩,
 ⟨some 8, .mv (.t 3), none, true⟩,
 ⟨some 9, .bin .lss (.t 7) (.t 8), none, true⟩])
 (.cond (.t 9)
 .skip
 (.exit 0)))
 (.seq (.block 1
 (.reg [⟨some 14, .mv (.t 0), none, false⟩,
 ⟨some 15, .mv (.t 2), none, false⟩,
 ⟨some 16, .mv (.t 0), none, false⟩,
 ⟨some 17, .mv (.t 3), none, false⟩,
 ⟨some 18, .mv (.t 0), none, false⟩,
 ⟨some 19, .mv (.t 3), none, false⟩,
 ⟨some 20, .iadr 1 (.t 18) (.t 19), none, false⟩,
 ⟨some 21, .load 1 false (.t 20), none, false⟩,
 ⟨some 22, .mv (.t 0), none, false⟩,
 ⟨some 23, .mv (.t 2), none, false⟩,
 ⟨some 24, .iadr 1 (.t 22) (.t 23), none, false⟩,
 ⟨some 25, .load 1 false (.t 24), none, false⟩,
 ⟨some 26, .iadr 1 (.t 14) (.t 15), none, true⟩,
 ⟨none, .store 1 (.t 26) (.t 21), none, true⟩,
 ⟨some 27, .iadr 1 (.t 16) (.t 17), none, true⟩,
 ⟨none, .store 1 (.t 27) (.t 25), none, true⟩]))
 (.reg [⟨some 10, .mv (.t 2), none, true⟩,
 ⟨some 11, .bin .add (.t 10) (.c (.int .i64 1)), none, true⟩,
 ⟨some 12, .mv (.t 3), none, true⟩,
 ⟨some 13, .bin .sub (.t 12) (.c (.int .i64 1)), none, true⟩,
 ⟨some 2, .mv (.t 11), none, true⟩,
 ⟨some 3, .mv (.t 13), none, true⟩])))
def i63 : IFun := ⟨(.seq (.reg [⟨some 4, .mv (.t 0), none, true⟩,
 ⟨some 5, .lens (.t 4), none, true⟩,
 ⟨some 6, .bin .sub (.t 5) (.c (.int .i64 1)), none, true⟩,
 ⟨some 2, .mv (.c (.int .i64 0)), none, true⟩,
 ⟨some 3, .mv (.t 6), none, true⟩])
 (.block 0
 (.loop b63_0))),
 28, [], 0, []⟩
/-- slices.Index[[]int,int] -/
def b64_0 : IC := (.seq (.reg [⟨some 9, .bin .lss (.t 8) (.t 7), none, true⟩])
 (.seq (.cond (.t 9)
 .skip
 (.exit 0))
 (.seq (.block 1
 (.seq (.reg [⟨some 10, .mv (.t 8), none, true⟩,
 ⟨some 5, .mv (.t 10), none, true⟩])
 (.seq (.reg [⟨some 11, .mv (.t 1), none, true⟩,
 ⟨some 12, .mv (.t 0), none, true⟩,
 ⟨some 13, .mv (.t 5), none, true⟩,
 ⟨some 14, .iadr 1 (.t 12) (.t 13), none, true⟩,
 ⟨some 15, .load 1 false (.t 14), none, true⟩,
 ⟨some 16, .bin .eql (.t 11) (.t 15), none, true⟩])
 (.cond (.t 16)
 (.seq (.reg [⟨some 17, .mv (.t 5), none, true⟩,
 ⟨some 4, .mv (.t 17), none, true⟩])
 .ret)
 .skip))))
 (.reg [⟨some 18, .bin .add (.t 8) (.c (.int .i64 1)), none, true⟩,
 ⟨some 8, .mv (.t 18), none, true⟩]))))
def r64_1 : IC := (.seq (.reg [⟨some 4, .mv (.c (.int .i64 (-1))), none, true⟩])
 .ret)
def i64 : IFun := ⟨(.seq (.reg [⟨some 4, .mv (.c (.int .i64 0)), none, true⟩])
 (.seq (.seq (.reg [⟨some 6, .mv (.t 0), none, true⟩,
 ⟨some 7, .lens (.t 6), none, true⟩,
 ⟨some 8, .mv (.c (.int .i64 0)), none, true⟩])
 (.block 0
 (.loop b64_0)))
 r64_1)),
 19, [.t 4], 1, []⟩
/-- slices.IndexFunc[[]int,int] -/
def b65_0 : IC := (.seq (.reg [⟨some 9, .bin .lss (.t 8) (.t 7), none, true⟩])
 (.seq (.cond (.t 9)
 .skip
 (.exit 0))
 (.seq (.block 1
 (.seq (.reg [⟨some 10, .mv (.t 8), none, true⟩,
 ⟨some 5, .mv (.t 10), none, true⟩])
 (.seq (.reg [⟨some 11, .mv (.t 1), none, true⟩,
 ⟨some 12, .mv (.t 0), none, true⟩,
 ⟨some 13, .mv (.t 5), none, true⟩,
 ⟨some 14, .iadr 1 (.t 12) (.t 13), none, true⟩,
 ⟨some 15, .load 1 false (.t 14), none, true⟩,
 ⟨some 16, .callv (.t 11) [(.t 15)], none, true⟩])
 (.cond (.t 16)
 (.seq (.reg [⟨some 17, .mv (.t 5), none, true⟩,
 ⟨some 4, .mv (.t 17), none, true⟩])
 .ret)
 .skip))))
 (.reg [⟨some 18, .bin .add (.t 8) (.c (.int .i64 1)), none, true⟩,
 ⟨some 8, .mv (.t 18), none, true⟩]))))
def r65_1 : IC := (.seq (.reg [⟨some 4, .mv (.c (.int .i64 (-1))), none, true⟩])
 .ret)
def i65 : IFun := ⟨(.seq (.reg [⟨some 4, .mv (.c (.int .i64 0)), none, true⟩])
 (.seq (.seq (.reg [⟨some 6, .mv (.t 0), none, true⟩,
 ⟨some 7, .lens (.t 6), none, true⟩,
 ⟨some 8, .mv (.c (.int .i64 0)), none, true⟩])
 (.block 0
 (.loop b65_0)))
 r65_1)),
 19, [.t 4], 1, []⟩
/-- dowel/task.order$1 -/
def i66 : IFun := ⟨(.seq (.reg [⟨some 3, .mv (.c (.bool false)), none, true⟩])
 (.seq (.reg [⟨some 4, .load 1 false (.t 1), none, true⟩,
 ⟨some 5, .mv (.t 0), none, true⟩,
 ⟨some 6, .iadr 1 (.t 4) (.t 5), none, true⟩,
 ⟨some 7, .load 1 false (.t 6), none, true⟩,
 ⟨some 8, .un .not (.t 7), none, true⟩,
 ⟨some 3, .mv (.t 8), none, true⟩])
 .ret)),
 9, [.t 3], 1, []⟩
/-- dowel/task.name -/
def i67 : IFun := ⟨(.seq (.reg [⟨some 2, .mv (.c (.bool false)), none, true⟩])
 (.seq (.reg [⟨some 3, .mv (.t 0), none, true⟩,
 ⟨some 4, .lent (.t 3), none, true⟩,
 ⟨some 5, .bin .gtr (.t 4) (.c (.int .i64 0)), none, true⟩,
 ⟨some 6, .mv (.t 5), none, true⟩,
 ⟨some 7, .mv (.t 0), (some (6, true)), true⟩,
 ⟨some 8, .lent (.t 7), (some (6, true)), true⟩,
 ⟨some 9, .bin .leq (.t 8) (.c (.int .i64 40)), (some (6, true)), true⟩,
 ⟨some 10, .pick (.t 6) (.t 9) (.c (.bool false)), none, true⟩,
 ⟨some 11, .mv (.t 10), none, true⟩,
 ⟨some 12, .mv (.t 0), (some (11, true)), true⟩,
 ⟨some 13, .callf 77 [(.t 12), (.c (.fn 78 []))], (some (11, true)), true⟩,
 ⟨some 14, .un .not (.t 13), (some (11, true)), true⟩,
 ⟨some 15, .pick (.t 11) (.t 14) (.c (.bool false)), none, true⟩,
 ⟨some 2, .mv (.t 15), none, true⟩])
 .ret)),
 16, [.t 2], 1, []⟩
/-- slices.ContainsFunc[[]dowel/task.Task,dowel/task.Task] -/
def i68 : IFun := ⟨(.seq (.reg [⟨some 4, .mv (.c (.bool false)), none, true⟩])
 (.seq (.reg [⟨some 5, .mv (.t 0), none, true⟩,
 ⟨some 6, .mv (.t 1), none, true⟩,
 ⟨some 7, .callf 79 [(.t 5), (.t 6)], none, true⟩,
 ⟨some 8, .bin .geq (.t 7) (.c (.int .i64 0)), none, true⟩,
 ⟨some 4, .mv (.t 8), none, true⟩])
 .ret)),
 9, [.t 4], 1, []⟩
/-- dowel/task.task$1 -/
def i69 : IFun := ⟨(.seq (.reg [⟨some 2, .boxr (.t 0), none, true⟩,
 ⟨some 3, .mv (.c (.bool false)), none, true⟩])
 (.seq (.reg [⟨some 4, .fadr 0 (.t 2), none, true⟩,
 ⟨some 5, .load 1 false (.t 4), none, true⟩,
 ⟨some 6, .fadr 0 (.t 1), none, true⟩,
 ⟨some 7, .load 1 false (.t 6), none, true⟩,
 ⟨some 8, .bin .eql (.t 5) (.t 7), none, true⟩,
 ⟨some 3, .mv (.t 8), none, true⟩])
 .ret)),
 9, [.t 3], 1, [2]⟩
/-- slices.ContainsFunc[[]dowel/task.Station,dowel/task.Station] -/
def i70 : IFun := ⟨(.seq (.reg [⟨some 4, .mv (.c (.bool false)), none, true⟩])
 (.seq (.reg [⟨some 5, .mv (.t 0), none, true⟩,
 ⟨some 6, .mv (.t 1), none, true⟩,
 ⟨some 7, .callf 80 [(.t 5), (.t 6)], none, true⟩,
 ⟨some 8, .bin .geq (.t 7) (.c (.int .i64 0)), none, true⟩,
 ⟨some 4, .mv (.t 8), none, true⟩])
 .ret)),
 9, [.t 4], 1, []⟩
/-- dowel/task.station$1 -/
def i71 : IFun := ⟨(.seq (.reg [⟨some 2, .boxr (.t 0), none, true⟩,
 ⟨some 3, .mv (.c (.bool false)), none, true⟩])
 (.seq (.reg [⟨some 4, .fadr 0 (.t 2), none, true⟩,
 ⟨some 5, .load 1 false (.t 4), none, true⟩,
 ⟨some 6, .fadr 0 (.t 1), none, true⟩,
 ⟨some 7, .load 1 false (.t 6), none, true⟩,
 ⟨some 8, .bin .eql (.t 5) (.t 7), none, true⟩,
 ⟨some 3, .mv (.t 8), none, true⟩])
 .ret)),
 9, [.t 3], 1, [2]⟩
/-- dowel/graph.beyond -/
def i72 : IFun := ⟨(.seq (.reg [⟨some 4, .mv (.c (.bool false)), none, true⟩])
 (.seq (.reg [⟨some 5, .mv (.t 1), none, true⟩,
 ⟨some 6, .bin .lss (.t 5) (.c (.int .i64 0)), none, true⟩,
 ⟨some 7, .mv (.t 6), none, true⟩,
 ⟨some 8, .mv (.t 1), (some (7, false)), true⟩,
 ⟨some 9, .mv (.t 0), (some (7, false)), true⟩,
 ⟨some 10, .bin .geq (.t 8) (.t 9), (some (7, false)), true⟩,
 ⟨some 11, .pick (.t 7) (.c (.bool true)) (.t 10), none, true⟩,
 ⟨some 4, .mv (.t 11), none, true⟩])
 .ret)),
 12, [.t 4], 1, []⟩
/-- dowel/graph.order -/
def i73 : IFun := ⟨(.seq (.reg [⟨some 2, .boxr (.t 0), none, true⟩,
 ⟨some 3, .boxr (.t 1), none, true⟩,
 ⟨some 4, .mv (.c (.int .i64 0)), none, true⟩])
 (.seq (.reg [⟨some 5, .fadr 0 (.t 2), none, false⟩,
 ⟨some 6, .load 1 false (.t 5), none, false⟩,
 ⟨some 7, .fadr 0 (.t 3), none, false⟩,
 ⟨some 8, .load 1 false (.t 7), none, false⟩,
 ⟨some 9, .callf 82 [(.t 6), (.t 8)], none, false⟩,
 ⟨some 10, .fadr 1 (.t 2), none, false⟩,
 ⟨some 11, .load 1 false (.t 10), none, false⟩,
 ⟨some 12, .fadr 1 (.t 3), none, false⟩,
 ⟨some 13, .load 1 false (.t 12), none, false⟩,
 ⟨some 14, .callf 82 [(.t 11), (.t 13)], none, true⟩,
 ⟨some 15, .bsl 1 2 [(.int .i64 0)] [(0, 1, (.t 9)), (1, 1, (.t 14))], none, true⟩,
 ⟨some 16, .callf 81 [(.t 15)], none, true⟩,
 ⟨some 4, .mv (.t 16), none, true⟩])
 .ret)),
 17, [.t 4], 1, [2, 3]⟩
/-- slices.Clone[[]dowel/graph.Edge,dowel/graph.Edge] -/
def i74 : IFun := ⟨(.seq (.reg [⟨some 2, .mv (.c .nils), none, true⟩])
 (.seq (.seq (.reg [⟨some 3, .mv (.t 0), none, true⟩,
 ⟨some 4, .eq .slice false (.t 3) (.c .nils), none, true⟩])
 (.cond (.t 4)
 (.seq (.reg [⟨some 2, .mv (.c .nils), none, true⟩])
 .ret)
 .skip))
 (.seq (.reg [⟨some 5, .bsl 2 0 [(.int .i64 0), (.int .i64 0)] [], none, true⟩,
 ⟨some 6, .mv (.t 0), none, true⟩,
 ⟨some 7, .app 2 16 (.t 5) (.t 6), none, true⟩,
 ⟨some 2, .mv (.t 7), none, true⟩])
 .ret))),
 8, [.t 2], 2, []⟩
/-- slices.SortFunc[[]dowel/graph.Edge,dowel/graph.Edge] -/
def i75 : IFun := ⟨(.seq (.reg [⟨some 5, .mv (.t 0), none, true⟩,
 ⟨some 6, .lens (.t 5), none, true⟩,
 ⟨some 4, .mv (.t 6), none, true⟩])
 (.reg [⟨some 7, .mv (.t 0), none, true⟩,
 ⟨some 8, .mv (.t 4), none, true⟩,
 ⟨some 9, .mv (.t 4), none, true⟩,
 ⟨some 10, .conv .u64 (.t 9), none, true⟩,
 ⟨some 11, .callf 84 [(.t 10)], none, true⟩,
 ⟨some 12, .mv (.t 1), none, true⟩,
 ⟨some 13, .callf 83 [(.t 7), (.c (.int .i64 0)), (.t 8), (.t 11), (.t 12)], none, true⟩])),
 14, [], 0, []⟩
/-- slices.Compact[[]dowel/graph.Edge,dowel/graph.Edge] -/
def r76_2 : IC := (.reg [⟨some 33, .mv (.t 5), none, true⟩,
 ⟨some 34, .bin .add (.t 33) (.c (.int .i64 1)), none, true⟩,
 ⟨some 5, .mv (.t 34), none, true⟩])
def b76_1 : IC := (.seq (.seq (.reg [⟨some 29, .mv (.t 5), none, true⟩,
 ⟨some 30, .mv (.t 4), none, true⟩,
 ⟨some 31, .lens (.t 30), none, true⟩,
 ⟨some 32, .bin .lss (.t 29) (.t 31), none, true⟩])
 (.cond (.t 32)
 .skip
 (.exit 2)))
 (.seq (.block 3
 (.seq (.reg [⟨some 35, .mv (.t 4), none, false⟩,
 ⟨some 36, .mv (.t 5), none, false⟩,
 ⟨some 37, .iadr 2 (.t 35) (.t 36), none, false⟩,
 ⟨some 38, .load 2 true (.t 37), none, false⟩,
 ⟨some 39, .mv (.t 4), none, false⟩,
 ⟨some 40, .mv (.t 5), none, false⟩,
 ⟨some 41, .bin .sub (.t 40) (.c (.int .i64 1)), none, false⟩,
 ⟨some 42, .iadr 2 (.t 39) (.t 41), none, false⟩,
 ⟨some 43, .load 2 true (.t 42), none, false⟩,
 ⟨some 44, .eq (.flat [.i, .i]) true (.t 38) (.t 43), none, true⟩])
 (.cond (.t 44)
 (.seq (.reg [⟨some 45, .mv (.t 0), none, true⟩,
 ⟨some 46, .mv (.t 3), none, true⟩,
 ⟨some 47, .mv (.t 4), none, true⟩,
 ⟨some 48, .mv (.t 5), none, true⟩,
 ⟨some 49, .iadr 2 (.t 47) (.t 48), none, true⟩,
 ⟨some 50, .load 2 true (.t 49), none, true⟩,
 ⟨some 51, .iadr 2 (.t 45) (.t 46), none, true⟩,
 ⟨none, .store 2 (.t 51) (.t 50), none, true⟩])
 (.reg [⟨some 52, .mv (.t 3), none, true⟩,
 ⟨some 53, .bin .add (.t 52) (.c (.int .i64 1)), none, true⟩,
 ⟨some 3, .mv (.t 53), none, true⟩]))
 .skip)))
 r76_2))
def r76_3 : IC := (.seq (.reg [⟨some 54, .mv (.t 0), none, true⟩,
 ⟨some 55, .mv (.t 3), none, true⟩,
 ⟨some 56, .slc 2 (.t 54) (some (.t 55)) none none, none, true⟩,
 ⟨none, .clr 2 [(.int .i64 0), (.int .i64 0)] (.t 56), none, true⟩])
 (.seq (.reg [⟨some 57, .mv (.t 0), none, true⟩,
 ⟨some 58, .mv (.t 3), none, true⟩,
 ⟨some 59, .slc 2 (.t 57) none (some (.t 58)) none, none, true⟩,
 ⟨some 2, .mv (.t 59), none, true⟩])
 .ret))
def r76_4 : IC := (.reg [⟨some 14, .mv (.t 3), none, true⟩,
 ⟨some 15, .bin .add (.t 14) (.c (.int .i64 1)), none, true⟩,
 ⟨some 3, .mv (.t 15), none, true⟩])
def b76_0 : IC := (.seq (.seq (.reg [⟨some 10, .mv (.t 3), none, true⟩,
 ⟨some 11, .mv (.t 0), none, true⟩,
 ⟨some 12, .lens (.t 11), none, true⟩,
 ⟨some 13, .bin .lss (.t 10) (.t 12), none, true⟩])
 (.cond (.t 13)
 .skip
 (.exit 0)))
 (.seq (.block 1
 (.seq (.reg [⟨some 16, .mv (.t 0), none, false⟩,
 ⟨some 17, .mv (.t 3), none, false⟩,
 ⟨some 18, .iadr 2 (.t 16) (.t 17), none, false⟩,
 ⟨some 19, .load 2 true (.t 18), none, false⟩,
 ⟨some 20, .mv (.t 0), none, false⟩,
 ⟨some 21, .mv (.t 3), none, false⟩,
 ⟨some 22, .bin .sub (.t 21) (.c (.int .i64 1)), none, false⟩,
 ⟨some 23, .iadr 2 (.t 20) (.t 22), none, false⟩,
 ⟨some 24, .load 2 true (.t 23), none, false⟩,
 ⟨some 25, .eq (.flat [.i, .i]) false (.t 19) (.t 24), none, true⟩])
 (.cond (.t 25)
 (.seq (.reg [⟨some 26, .mv (.t 0), none, true⟩,
 ⟨some 27, .mv (.t 3), none, true⟩,
 ⟨some 28, .slc 2 (.t 26) (some (.t 27)) none none, none, true⟩,
 ⟨some 4, .mv (.t 28), none, true⟩])
 (.seq (.seq (.reg [⟨some 5, .mv (.c (.int .i64 1)), none, true⟩])
 (.block 2
 (.loop b76_1)))
 r76_3))
 .skip)))
 r76_4))
def r76_5 : IC := (.seq (.reg [⟨some 60, .mv (.t 0), none, true⟩,
 ⟨some 2, .mv (.t 60), none, true⟩])
 .ret)
def i76 : IFun := ⟨(.seq (.reg [⟨some 2, .mv (.c .nils), none, true⟩])
 (.seq (.seq (.reg [⟨some 6, .mv (.t 0), none, true⟩,
 ⟨some 7, .lens (.t 6), none, true⟩,
 ⟨some 8, .bin .lss (.t 7) (.c (.int .i64 2)), none, true⟩])
 (.cond (.t 8)
 (.seq (.reg [⟨some 9, .mv (.t 0), none, true⟩,
 ⟨some 2, .mv (.t 9), none, true⟩])
 .ret)
 .skip))
 (.seq (.seq (.reg [⟨some 3, .mv (.c (.int .i64 1)), none, true⟩])
 (.block 0
 (.loop b76_0)))
 r76_5))),
 61, [.t 2], 0, []⟩
/-- strings.ContainsFunc -/
def i77 : IFun := ⟨(.seq (.reg [⟨some 4, .mv (.c (.bool false)), none, true⟩])
 (.seq (.reg [⟨some 5, .mv (.t 0), none, true⟩,
 ⟨some 6, .mv (.t 1), none, true⟩,
 ⟨some 7, .callf 85 [(.t 5), (.t 6)], none, true⟩,
 ⟨some 8, .bin .geq (.t 7) (.c (.int .i64 0)), none, true⟩,
 ⟨some 4, .mv (.t 8), none, true⟩])
 .ret)),
 9, [.t 4], 1, []⟩
/-- dowel/task.name$1 -/
def i78 : IFun := ⟨(.seq (.reg [⟨some 2, .mv (.c (.bool false)), none, true⟩])
 (.seq (.reg [⟨some 3, .mv (.t 0), none, true⟩,
 ⟨some 4, .bin .lss (.t 3) (.c (.int .i32 33)), none, true⟩,
 ⟨some 5, .mv (.t 4), none, true⟩,
 ⟨some 6, .mv (.t 0), (some (5, false)), true⟩,
 ⟨some 7, .bin .gtr (.t 6) (.c (.int .i32 126)), (some (5, false)), true⟩,
 ⟨some 8, .pick (.t 5) (.c (.bool true)) (.t 7), none, true⟩,
 ⟨some 2, .mv (.t 8), none, true⟩])
 .ret)),
 9, [.t 2], 1, []⟩
/-- slices.IndexFunc[[]dowel/task.Task,dowel/task.Task] -/
def b79_0 : IC := (.seq (.reg [⟨some 9, .bin .lss (.t 8) (.t 7), none, true⟩])
 (.seq (.cond (.t 9)
 .skip
 (.exit 0))
 (.seq (.block 1
 (.seq (.reg [⟨some 10, .mv (.t 8), none, true⟩,
 ⟨some 5, .mv (.t 10), none, true⟩])
 (.seq (.reg [⟨some 11, .mv (.t 1), none, true⟩,
 ⟨some 12, .mv (.t 0), none, true⟩,
 ⟨some 13, .mv (.t 5), none, true⟩,
 ⟨some 14, .iadr 4 (.t 12) (.t 13), none, true⟩,
 ⟨some 15, .load 4 true (.t 14), none, true⟩,
 ⟨some 16, .callv (.t 11) [(.t 15)], none, true⟩])
 (.cond (.t 16)
 (.seq (.reg [⟨some 17, .mv (.t 5), none, true⟩,
 ⟨some 4, .mv (.t 17), none, true⟩])
 .ret)
 .skip))))
 (.reg [⟨some 18, .bin .add (.t 8) (.c (.int .i64 1)), none, true⟩,
 ⟨some 8, .mv (.t 18), none, true⟩]))))
def r79_1 : IC := (.seq (.reg [⟨some 4, .mv (.c (.int .i64 (-1))), none, true⟩])
 .ret)
def i79 : IFun := ⟨(.seq (.reg [⟨some 4, .mv (.c (.int .i64 0)), none, true⟩])
 (.seq (.seq (.reg [⟨some 6, .mv (.t 0), none, true⟩,
 ⟨some 7, .lens (.t 6), none, true⟩,
 ⟨some 8, .mv (.c (.int .i64 0)), none, true⟩])
 (.block 0
 (.loop b79_0)))
 r79_1)),
 19, [.t 4], 1, []⟩
/-- slices.IndexFunc[[]dowel/task.Station,dowel/task.Station] -/
def b80_0 : IC := (.seq (.reg [⟨some 9, .bin .lss (.t 8) (.t 7), none, true⟩])
 (.seq (.cond (.t 9)
 .skip
 (.exit 0))
 (.seq (.block 1
 (.seq (.reg [⟨some 10, .mv (.t 8), none, true⟩,
 ⟨some 5, .mv (.t 10), none, true⟩])
 (.seq (.reg [⟨some 11, .mv (.t 1), none, true⟩,
 ⟨some 12, .mv (.t 0), none, true⟩,
 ⟨some 13, .mv (.t 5), none, true⟩,
 ⟨some 14, .iadr 2 (.t 12) (.t 13), none, true⟩,
 ⟨some 15, .load 2 true (.t 14), none, true⟩,
 ⟨some 16, .callv (.t 11) [(.t 15)], none, true⟩])
 (.cond (.t 16)
 (.seq (.reg [⟨some 17, .mv (.t 5), none, true⟩,
 ⟨some 4, .mv (.t 17), none, true⟩])
 .ret)
 .skip))))
 (.reg [⟨some 18, .bin .add (.t 8) (.c (.int .i64 1)), none, true⟩,
 ⟨some 8, .mv (.t 18), none, true⟩]))))
def r80_1 : IC := (.seq (.reg [⟨some 4, .mv (.c (.int .i64 (-1))), none, true⟩])
 .ret)
def i80 : IFun := ⟨(.seq (.reg [⟨some 4, .mv (.c (.int .i64 0)), none, true⟩])
 (.seq (.seq (.reg [⟨some 6, .mv (.t 0), none, true⟩,
 ⟨some 7, .lens (.t 6), none, true⟩,
 ⟨some 8, .mv (.c (.int .i64 0)), none, true⟩])
 (.block 0
 (.loop b80_0)))
 r80_1)),
 19, [.t 4], 1, []⟩
/-- cmp.Or[int] -/
def b81_0 : IC := (.seq (.reg [⟨some 9, .bin .lss (.t 8) (.t 7), none, true⟩])
 (.seq (.cond (.t 9)
 .skip
 (.exit 0))
 (.seq (.block 1
 (.seq (.reg [⟨some 10, .iadr 1 (.t 6) (.t 8), none, true⟩,
 ⟨some 11, .load 1 false (.t 10), none, true⟩,
 ⟨some 5, .mv (.t 11), none, true⟩])
 (.seq (.reg [⟨some 12, .mv (.t 5), none, true⟩,
 ⟨some 13, .mv (.t 3), none, true⟩,
 ⟨some 14, .bin .neq (.t 12) (.t 13), none, true⟩])
 (.cond (.t 14)
 (.seq (.reg [⟨some 15, .mv (.t 5), none, true⟩,
 ⟨some 2, .mv (.t 15), none, true⟩])
 .ret)
 .skip))))
 (.reg [⟨some 16, .bin .add (.t 8) (.c (.int .i64 1)), none, true⟩,
 ⟨some 8, .mv (.t 16), none, true⟩]))))
def r81_1 : IC := (.seq (.reg [⟨some 17, .mv (.t 3), none, true⟩,
 ⟨some 2, .mv (.t 17), none, true⟩])
 .ret)
def i81 : IFun := ⟨(.seq (.reg [⟨some 2, .mv (.c (.int .i64 0)), none, true⟩])
 (.seq (.reg [⟨some 3, .mv (.c (.int .i64 0)), none, true⟩])
 (.seq (.seq (.reg [⟨some 6, .mv (.t 0), none, true⟩,
 ⟨some 7, .lens (.t 6), none, true⟩,
 ⟨some 8, .mv (.c (.int .i64 0)), none, true⟩])
 (.block 0
 (.loop b81_0)))
 r81_1))),
 18, [.t 2], 1, []⟩
/-- cmp.Compare[int] -/
def i82 : IFun := ⟨(.seq (.reg [⟨some 4, .mv (.c (.int .i64 0)), none, true⟩])
 (.seq (.reg [⟨some 7, .mv (.t 0), none, true⟩,
 ⟨some 8, .callf 86 [(.t 7)], none, true⟩,
 ⟨some 5, .mv (.t 8), none, true⟩])
 (.seq (.reg [⟨some 9, .mv (.t 1), none, true⟩,
 ⟨some 10, .callf 86 [(.t 9)], none, true⟩,
 ⟨some 6, .mv (.t 10), none, true⟩])
 (.seq (.seq (.reg [⟨some 11, .mv (.t 5), none, true⟩])
 (.cond (.t 11)
 (.seq (.seq (.reg [⟨some 12, .mv (.t 6), none, true⟩])
 (.cond (.t 12)
 (.seq (.reg [⟨some 4, .mv (.c (.int .i64 0)), none, true⟩])
 .ret)
 .skip))
 (.seq (.reg [⟨some 4, .mv (.c (.int .i64 (-1))), none, true⟩])
 .ret))
 .skip))
 (.seq (.seq (.reg [⟨some 13, .mv (.t 6), none, true⟩])
 (.cond (.t 13)
 (.seq (.reg [⟨some 4, .mv (.c (.int .i64 1)), none, true⟩])
 .ret)
 .skip))
 (.seq (.seq (.reg [⟨some 14, .mv (.t 0), none, true⟩,
 ⟨some 15, .mv (.t 1), none, true⟩,
 ⟨some 16, .bin .lss (.t 14) (.t 15), none, true⟩])
 (.cond (.t 16)
 (.seq (.reg [⟨some 4, .mv (.c (.int .i64 (-1))), none, true⟩])
 .ret)
 .skip))
 (.seq (.seq (.reg [⟨some 17, .mv (.t 0), none, true⟩,
 ⟨some 18, .mv (.t 1), none, true⟩,
 ⟨some 19, .bin .gtr (.t 17) (.t 18), none, true⟩])
 (.cond (.t 19)
 (.seq (.reg [⟨some 4, .mv (.c (.int .i64 1)), none, true⟩])
 .ret)
 .skip))
 (.seq (.reg [⟨some 4, .mv (.c (.int .i64 0)), none, true⟩])
 .ret)))))))),
 20, [.t 4], 1, []⟩
/-- slices.pdqsortCmpFunc[dowel/graph.Edge] -/
def r83_3 : IC := (.seq (.seq (.reg [⟨some 81, .mv (.t 1), none, true⟩,
 ⟨some 82, .bin .gtr (.t 81) (.c (.int .i64 0)), none, true⟩,
 ⟨some 83, .mv (.t 82), none, true⟩,
 ⟨some 84, .mv (.t 4), (some (83, true)), false⟩,
 ⟨some 85, .mv (.t 0), (some (83, true)), false⟩,
 ⟨some 86, .mv (.t 1), (some (83, true)), false⟩,
 ⟨some 87, .bin .sub (.t 86) (.c (.int .i64 1)), (some (83, true)), false⟩,
 ⟨some 88, .iadr 2 (.t 85) (.t 87), (some (83, true)), false⟩,
 ⟨some 89, .load 2 true (.t 88), (some (83, true)), false⟩,
 ⟨some 90, .mv (.t 0), (some (83, true)), false⟩,
 ⟨some 91, .mv (.t 13), (some (83, true)), false⟩,
 ⟨some 92, .iadr 2 (.t 90) (.t 91), (some (83, true)), false⟩,
 ⟨some 93, .load 2 true (.t 92), (some (83, true)), false⟩,
 ⟨some 94, .callv (.t 84) [(.t 89), (.t 93)], (some (83, true)), true⟩,
 ⟨some 95, .bin .lss (.t 94) (.c (.int .i64 0)), (some (83, true)), true⟩,
 ⟨some 96, .un .not (.t 95), (some (83, true)), true⟩,
 ⟨some 97, .pick (.t 83) (.t 96) (.c (.bool false)), none, true⟩])
 (.cond (.t 97)
 (.seq (.reg [⟨some 98, .mv (.t 0), none, true⟩,
 ⟨some 99, .mv (.t 1), none, true⟩,
 ⟨some 100, .mv (.t 2), none, true⟩,
 ⟨some 101, .mv (.t 13), none, true⟩,
 ⟨some 102, .mv (.t 4), none, true⟩,
 ⟨some 103, .callf 93 [(.t 98), (.t 99), (.t 100), (.t 101), (.t 102)], none, true⟩,
 ⟨some 15, .mv (.t 103), none, true⟩])
 (.seq (.reg [⟨some 104, .mv (.t 15), none, true⟩,
 ⟨some 1, .mv (.t 104), none, true⟩])
 (.exit 1)))
 .skip))
 (.seq (.reg [⟨some 106, .mv (.t 0), none, true⟩,
 ⟨some 107, .mv (.t 1), none, true⟩,
 ⟨some 108, .mv (.t 2), none, true⟩,
 ⟨some 109, .mv (.t 13), none, true⟩,
 ⟨some 110, .mv (.t 4), none, true⟩,
 ⟨some 111, .callf 94 [(.t 106), (.t 107), (.t 108), (.t 109), (.t 110)], none, true⟩,
 ⟨some 105, .mv (.t 111), none, true⟩,
 ⟨some 112, .ext 0 (.t 105), none, true⟩,
 ⟨some 113, .ext 1 (.t 105), none, true⟩,
 ⟨some 16, .mv (.t 112), none, true⟩,
 ⟨some 17, .mv (.t 113), none, true⟩])
 (.seq (.reg [⟨some 114, .mv (.t 17), none, true⟩,
 ⟨some 11, .mv (.t 114), none, true⟩])
 (.seq (.reg [⟨some 115, .mv (.t 16), none, true⟩,
 ⟨some 116, .mv (.t 1), none, true⟩,
 ⟨some 117, .bin .sub (.t 115) (.t 116), none, true⟩,
 ⟨some 118, .mv (.t 2), none, true⟩,
 ⟨some 119, .mv (.t 16), none, true⟩,
 ⟨some 120, .bin .sub (.t 118) (.t 119), none, true⟩,
 ⟨some 18, .mv (.t 117), none, true⟩,
 ⟨some 19, .mv (.t 120), none, true⟩])
 (.seq (.reg [⟨some 121, .mv (.t 12), none, true⟩,
 ⟨some 122, .bin .quo (.t 121) (.c (.int .i64 8)), none, true⟩,
 ⟨some 20, .mv (.t 122), none, true⟩])
 (.seq (.reg [⟨some 123, .mv (.t 18), none, true⟩,
 ⟨some 124, .mv (.t 19), none, true⟩,
 ⟨some 125, .bin .lss (.t 123) (.t 124), none, true⟩])
 (.cond (.t 125)
 (.seq (.reg [⟨some 126, .mv (.t 18), none, true⟩,
 ⟨some 127, .mv (.t 20), none, true⟩,
 ⟨some 128, .bin .geq (.t 126) (.t 127), none, true⟩,
 ⟨some 10, .mv (.t 128), none, true⟩])
 (.seq (.reg [⟨some 129, .mv (.t 0), none, true⟩,
 ⟨some 130, .mv (.t 1), none, true⟩,
 ⟨some 131, .mv (.t 16), none, true⟩,
 ⟨some 132, .mv (.t 3), none, true⟩,
 ⟨some 133, .mv (.t 4), none, true⟩,
 ⟨some 134, .callf 83 [(.t 129), (.t 130), (.t 131), (.t 132), (.t 133)], none, true⟩])
 (.reg [⟨some 135, .mv (.t 16), none, true⟩,
 ⟨some 136, .bin .add (.t 135) (.c (.int .i64 1)), none, true⟩,
 ⟨some 1, .mv (.t 136), none, true⟩])))
 (.seq (.reg [⟨some 137, .mv (.t 19), none, true⟩,
 ⟨some 138, .mv (.t 20), none, true⟩,
 ⟨some 139, .bin .geq (.t 137) (.t 138), none, true⟩,
 ⟨some 10, .mv (.t 139), none, true⟩])
 (.seq (.reg [⟨some 140, .mv (.t 0), none, true⟩,
 ⟨some 141, .mv (.t 16), none, true⟩,
 ⟨some 142, .bin .add (.t 141) (.c (.int .i64 1)), none, true⟩,
 ⟨some 143, .mv (.t 2), none, true⟩,
 ⟨some 144, .mv (.t 3), none, true⟩,
 ⟨some 145, .mv (.t 4), none, true⟩,
 ⟨some 146, .callf 83 [(.t 140), (.t 142), (.t 143), (.t 144), (.t 145)], none, true⟩])
 (.reg [⟨some 147, .mv (.t 16), none, true⟩,
 ⟨some 2, .mv (.t 147), none, true⟩]))))))))))
def r83_2 : IC := (.seq (.seq (.reg [⟨some 68, .mv (.t 10), none, true⟩,
 ⟨some 69, .mv (.t 68), none, true⟩,
 ⟨some 70, .mv (.t 11), (some (69, true)), true⟩,
 ⟨some 71, .pick (.t 69) (.t 70) (.c (.bool false)), none, true⟩,
 ⟨some 72, .mv (.t 71), none, true⟩,
 ⟨some 73, .mv (.t 14), (some (72, true)), true⟩,
 ⟨some 74, .bin .eql (.t 73) (.c (.int .i64 1)), (some (72, true)), true⟩,
 ⟨some 75, .pick (.t 72) (.t 74) (.c (.bool false)), none, true⟩])
 (.cond (.t 75)
 (.seq (.reg [⟨some 76, .mv (.t 0), none, true⟩,
 ⟨some 77, .mv (.t 1), none, true⟩,
 ⟨some 78, .mv (.t 2), none, true⟩,
 ⟨some 79, .mv (.t 4), none, true⟩,
 ⟨some 80, .callf 92 [(.t 76), (.t 77), (.t 78), (.t 79)], none, true⟩])
 (.cond (.t 80)
 .ret
 .skip))
 .skip))
 r83_3)
def r83_1 : IC := (.seq (.reg [⟨some 48, .mv (.t 0), none, true⟩,
 ⟨some 49, .mv (.t 1), none, true⟩,
 ⟨some 50, .mv (.t 2), none, true⟩,
 ⟨some 51, .mv (.t 4), none, true⟩,
 ⟨some 52, .callf 90 [(.t 48), (.t 49), (.t 50), (.t 51)], none, true⟩,
 ⟨some 47, .mv (.t 52), none, true⟩,
 ⟨some 53, .ext 0 (.t 47), none, true⟩,
 ⟨some 54, .ext 1 (.t 47), none, true⟩,
 ⟨some 13, .mv (.t 53), none, true⟩,
 ⟨some 14, .mv (.t 54), none, true⟩])
 (.seq (.seq (.reg [⟨some 55, .mv (.t 14), none, true⟩,
 ⟨some 56, .bin .eql (.t 55) (.c (.int .i64 2)), none, true⟩])
 (.cond (.t 56)
 (.seq (.reg [⟨some 57, .mv (.t 0), none, true⟩,
 ⟨some 58, .mv (.t 1), none, true⟩,
 ⟨some 59, .mv (.t 2), none, true⟩,
 ⟨some 60, .mv (.t 4), none, true⟩,
 ⟨some 61, .callf 91 [(.t 57), (.t 58), (.t 59), (.t 60)], none, true⟩])
 (.seq (.reg [⟨some 62, .mv (.t 2), none, true⟩,
 ⟨some 63, .bin .sub (.t 62) (.c (.int .i64 1)), none, true⟩,
 ⟨some 64, .mv (.t 13), none, true⟩,
 ⟨some 65, .mv (.t 1), none, true⟩,
 ⟨some 66, .bin .sub (.t 64) (.t 65), none, true⟩,
 ⟨some 67, .bin .sub (.t 63) (.t 66), none, true⟩,
 ⟨some 13, .mv (.t 67), none, true⟩])
 (.reg [⟨some 14, .mv (.c (.int .i64 1)), none, true⟩])))
 .skip))
 r83_2))
def b83_0 : IC := (.block 1
 (.seq (.reg [⟨some 21, .mv (.t 2), none, true⟩,
 ⟨some 22, .mv (.t 1), none, true⟩,
 ⟨some 23, .bin .sub (.t 21) (.t 22), none, true⟩,
 ⟨some 12, .mv (.t 23), none, true⟩])
 (.seq (.seq (.reg [⟨some 24, .mv (.t 12), none, true⟩,
 ⟨some 25, .bin .leq (.t 24) (.c (.int .i64 12)), none, true⟩])
 (.cond (.t 25)
 (.seq (.reg [⟨some 26, .mv (.t 0), none, true⟩,
 ⟨some 27, .mv (.t 1), none, true⟩,
 ⟨some 28, .mv (.t 2), none, true⟩,
 ⟨some 29, .mv (.t 4), none, true⟩,
 ⟨some 30, .callf 87 [(.t 26), (.t 27), (.t 28), (.t 29)], none, true⟩])
 .ret)
 .skip))
 (.seq (.seq (.reg [⟨some 31, .mv (.t 3), none, true⟩,
 ⟨some 32, .bin .eql (.t 31) (.c (.int .i64 0)), none, true⟩])
 (.cond (.t 32)
 (.seq (.reg [⟨some 33, .mv (.t 0), none, true⟩,
 ⟨some 34, .mv (.t 1), none, true⟩,
 ⟨some 35, .mv (.t 2), none, true⟩,
 ⟨some 36, .mv (.t 4), none, true⟩,
 ⟨some 37, .callf 88 [(.t 33), (.t 34), (.t 35), (.t 36)], none, true⟩])
 .ret)
 .skip))
 (.seq (.seq (.reg [⟨some 38, .mv (.t 10), none, true⟩,
 ⟨some 39, .un .not (.t 38), none, true⟩])
 (.cond (.t 39)
 (.seq (.reg [⟨some 40, .mv (.t 0), none, true⟩,
 ⟨some 41, .mv (.t 1), none, true⟩,
 ⟨some 42, .mv (.t 2), none, true⟩,
 ⟨some 43, .mv (.t 4), none, true⟩,
 ⟨some 44, .callf 89 [(.t 40), (.t 41), (.t 42), (.t 43)], none, true⟩])
 (.reg [⟨some 45, .mv (.t 3), none, true⟩,
 ⟨some 46, .bin .sub (.t 45) (.c (.int .i64 1)), none, true⟩,
 ⟨some 3, .mv (.t 46), none, true⟩]))
 .skip))
 r83_1)))))
def i83 : IFun := ⟨(.seq (.reg [⟨some 10, .mv (.c (.bool true)), none, true⟩])
 (.seq (.reg [⟨some 11, .mv (.c (.bool true)), none, true⟩])
 (.block 0
 (.loop b83_0)))),
 148, [], 0, []⟩
/-- math/bits.Len -/
def i84 : IFun := ⟨(.seq (.reg [⟨some 2, .mv (.c (.int .i64 0)), none, true⟩])
 (.seq (.cond (.c (.bool false))
 (.seq (.reg [⟨some 3, .mv (.t 0), none, true⟩,
 ⟨some 4, .conv .u32 (.t 3), none, true⟩,
 ⟨some 5, .callf 95 [(.t 4)], none, true⟩,
 ⟨some 2, .mv (.t 5), none, true⟩])
 .ret)
 .skip)
 (.seq (.reg [⟨some 6, .mv (.t 0), none, true⟩,
 ⟨some 7, .callf 96 [(.t 6)], none, true⟩,
 ⟨some 2, .mv (.t 7), none, true⟩])
 .ret))),
 8, [.t 2], 1, []⟩
/-- strings.IndexFunc -/
def i85 : IFun := ⟨(.seq (.reg [⟨some 4, .mv (.c (.int .i64 0)), none, true⟩])
 (.seq (.reg [⟨some 5, .mv (.t 0), none, true⟩,
 ⟨some 6, .mv (.t 1), none, true⟩,
 ⟨some 7, .callf 97 [(.t 5), (.t 6), (.c (.bool true))], none, true⟩,
 ⟨some 4, .mv (.t 7), none, true⟩])
 .ret)),
 8, [.t 4], 1, []⟩
/-- cmp.isNaN[int] -/
def i86 : IFun := ⟨(.seq (.reg [⟨some 2, .mv (.c (.bool false)), none, true⟩])
 (.seq (.reg [⟨some 3, .mv (.t 0), none, true⟩,
 ⟨some 4, .mv (.t 0), none, true⟩,
 ⟨some 5, .bin .neq (.t 3) (.t 4), none, true⟩,
 ⟨some 2, .mv (.t 5), none, true⟩])
 .ret)),
 6, [.t 2], 1, []⟩
/-- slices.insertionSortCmpFunc[dowel/graph.Edge] -/
def b87_1 : IC := (.seq (.seq (.reg [⟨some 18, .mv (.t 9), none, true⟩,
 ⟨some 19, .mv (.t 1), none, true⟩,
 ⟨some 20, .bin .gtr (.t 18) (.t 19), none, true⟩,
 ⟨some 21, .mv (.t 20), none, true⟩,
 ⟨some 22, .mv (.t 3), (some (21, true)), false⟩,
 ⟨some 23, .mv (.t 0), (some (21, true)), false⟩,
 ⟨some 24, .mv (.t 9), (some (21, true)), false⟩,
 ⟨some 25, .iadr 2 (.t 23) (.t 24), (some (21, true)), false⟩,
 ⟨some 26, .load 2 true (.t 25), (some (21, true)), false⟩,
 ⟨some 27, .mv (.t 0), (some (21, true)), false⟩,
 ⟨some 28, .mv (.t 9), (some (21, true)), false⟩,
 ⟨some 29, .bin .sub (.t 28) (.c (.int .i64 1)), (some (21, true)), false⟩,
 ⟨some 30, .iadr 2 (.t 27) (.t 29), (some (21, true)), false⟩,
 ⟨some 31, .load 2 true (.t 30), (some (21, true)), false⟩,
 ⟨some 32, .callv (.t 22) [(.t 26), (.t 31)], (some (21, true)), true⟩,
 ⟨some 33, .bin .lss (.t 32) (.c (.int .i64 0)), (some (21, true)), true⟩,
 ⟨some 34, .pick (.t 21) (.t 33) (.c (.bool false)), none, true⟩])
 (.cond (.t 34)
 .skip
 (.exit 2)))
 (.seq (.block 3
 (.reg [⟨some 37, .mv (.t 0), none, false⟩,
 ⟨some 38, .mv (.t 9), none, false⟩,
 ⟨some 39, .mv (.t 0), none, false⟩,
 ⟨some 40, .mv (.t 9), none, false⟩,
 ⟨some 41, .bin .sub (.t 40) (.c (.int .i64 1)), none, false⟩,
 ⟨some 42, .mv (.t 0), none, false⟩,
 ⟨some 43, .mv (.t 9), none, false⟩,
 ⟨some 44, .bin .sub (.t 43) (.c (.int .i64 1)), none, false⟩,
 ⟨some 45, .iadr 2 (.t 42) (.t 44), none, false⟩,
 ⟨some 46, .load 2 true (.t 45), none, false⟩,
 ⟨some 47, .mv (.t 0), none, false⟩,
 ⟨some 48, .mv (.t 9), none, false⟩,
 ⟨some 49, .iadr 2 (.t 47) (.t 48), none, false⟩,
 ⟨some 50, .load 2 true (.t 49), none, false⟩,
 ⟨some 51, .iadr 2 (.t 37) (.t 38), none, true⟩,
 ⟨none, .store 2 (.t 51) (.t 46), none, true⟩,
 ⟨some 52, .iadr 2 (.t 39) (.t 41), none, true⟩,
 ⟨none, .store 2 (.t 52) (.t 50), none, true⟩]))
 (.reg [⟨some 35, .mv (.t 9), none, true⟩,
 ⟨some 36, .bin .sub (.t 35) (.c (.int .i64 1)), none, true⟩,
 ⟨some 9, .mv (.t 36), none, true⟩])))
def r87_2 : IC := (.reg [⟨some 15, .mv (.t 8), none, true⟩,
 ⟨some 16, .bin .add (.t 15) (.c (.int .i64 1)), none, true⟩,
 ⟨some 8, .mv (.t 16), none, true⟩])
def b87_0 : IC := (.seq (.seq (.reg [⟨some 12, .mv (.t 8), none, true⟩,
 ⟨some 13, .mv (.t 2), none, true⟩,
 ⟨some 14, .bin .lss (.t 12) (.t 13), none, true⟩])
 (.cond (.t 14)
 .skip
 (.exit 0)))
 (.seq (.block 1
 (.seq (.reg [⟨some 17, .mv (.t 8), none, true⟩,
 ⟨some 9, .mv (.t 17), none, true⟩])
 (.block 2
 (.loop b87_1))))
 r87_2))
def i87 : IFun := ⟨(.seq (.reg [⟨some 10, .mv (.t 1), none, true⟩,
 ⟨some 11, .bin .add (.t 10) (.c (.int .i64 1)), none, true⟩,
 ⟨some 8, .mv (.t 11), none, true⟩])
 (.block 0
 (.loop b87_0))),
 53, [], 0, []⟩
/-- slices.heapSortCmpFunc[dowel/graph.Edge] -/
def b88_0 : IC := (.seq (.seq (.reg [⟨some 20, .mv (.t 11), none, true⟩,
 ⟨some 21, .bin .geq (.t 20) (.c (.int .i64 0)), none, true⟩])
 (.cond (.t 21)
 .skip
 (.exit 0)))
 (.seq (.block 1
 (.reg [⟨some 24, .mv (.t 0), none, true⟩,
 ⟨some 25, .mv (.t 11), none, true⟩,
 ⟨some 26, .mv (.t 10), none, true⟩,
 ⟨some 27, .mv (.t 8), none, true⟩,
 ⟨some 28, .mv (.t 3), none, true⟩,
 ⟨some 29, .callf 98 [(.t 24), (.t 25), (.t 26), (.t 27), (.t 28)], none, true⟩]))
 (.reg [⟨some 22, .mv (.t 11), none, true⟩,
 ⟨some 23, .bin .sub (.t 22) (.c (.int .i64 1)), none, true⟩,
 ⟨some 11, .mv (.t 23), none, true⟩])))
def b88_2 : IC := (.seq (.seq (.reg [⟨some 32, .mv (.t 12), none, true⟩,
 ⟨some 33, .bin .geq (.t 32) (.c (.int .i64 0)), none, true⟩])
 (.cond (.t 33)
 .skip
 (.exit 2)))
 (.seq (.block 3
 (.seq (.reg [⟨some 36, .mv (.t 0), none, false⟩,
 ⟨some 37, .mv (.t 8), none, false⟩,
 ⟨some 38, .mv (.t 0), none, false⟩,
 ⟨some 39, .mv (.t 8), none, false⟩,
 ⟨some 40, .mv (.t 12), none, false⟩,
 ⟨some 41, .bin .add (.t 39) (.t 40), none, false⟩,
 ⟨some 42, .mv (.t 0), none, false⟩,
 ⟨some 43, .mv (.t 8), none, false⟩,
 ⟨some 44, .mv (.t 12), none, false⟩,
 ⟨some 45, .bin .add (.t 43) (.t 44), none, false⟩,
 ⟨some 46, .iadr 2 (.t 42) (.t 45), none, false⟩,
 ⟨some 47, .load 2 true (.t 46), none, false⟩,
 ⟨some 48, .mv (.t 0), none, false⟩,
 ⟨some 49, .mv (.t 8), none, false⟩,
 ⟨some 50, .iadr 2 (.t 48) (.t 49), none, false⟩,
 ⟨some 51, .load 2 true (.t 50), none, false⟩,
 ⟨some 52, .iadr 2 (.t 36) (.t 37), none, true⟩,
 ⟨none, .store 2 (.t 52) (.t 47), none, true⟩,
 ⟨some 53, .iadr 2 (.t 38) (.t 41), none, true⟩,
 ⟨none, .store 2 (.t 53) (.t 51), none, true⟩])
 (.reg [⟨some 54, .mv (.t 0), none, true⟩,
 ⟨some 55, .mv (.t 9), none, true⟩,
 ⟨some 56, .mv (.t 12), none, true⟩,
 ⟨some 57, .mv (.t 8), none, true⟩,
 ⟨some 58, .mv (.t 3), none, true⟩,
 ⟨some 59, .callf 98 [(.t 54), (.t 55), (.t 56), (.t 57), (.t 58)], none, true⟩])))
 (.reg [⟨some 34, .mv (.t 12), none, true⟩,
 ⟨some 35, .bin .sub (.t 34) (.c (.int .i64 1)), none, true⟩,
 ⟨some 12, .mv (.t 35), none, true⟩])))
def r88_1 : IC := (.seq (.reg [⟨some 30, .mv (.t 10), none, true⟩,
 ⟨some 31, .bin .sub (.t 30) (.c (.int .i64 1)), none, true⟩,
 ⟨some 12, .mv (.t 31), none, true⟩])
 (.block 2
 (.loop b88_2)))
def i88 : IFun := ⟨(.seq (.reg [⟨some 13, .mv (.t 1), none, true⟩,
 ⟨some 8, .mv (.t 13), none, true⟩])
 (.seq (.reg [⟨some 9, .mv (.c (.int .i64 0)), none, true⟩])
 (.seq (.reg [⟨some 14, .mv (.t 2), none, true⟩,
 ⟨some 15, .mv (.t 1), none, true⟩,
 ⟨some 16, .bin .sub (.t 14) (.t 15), none, true⟩,
 ⟨some 10, .mv (.t 16), none, true⟩])
 (.seq (.seq (.reg [⟨some 17, .mv (.t 10), none, true⟩,
 ⟨some 18, .bin .sub (.t 17) (.c (.int .i64 1)), none, true⟩,
 ⟨some 19, .bin .quo (.t 18) (.c (.int .i64 2)), none, true⟩,
 ⟨some 11, .mv (.t 19), none, true⟩])
 (.block 0
 (.loop b88_0)))
 r88_1)))),
 60, [], 0, []⟩
end Go.Proofs.Ytoommmeapdkopaa.E
