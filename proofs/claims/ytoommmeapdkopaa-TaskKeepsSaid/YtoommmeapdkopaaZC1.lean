/- The interpreter code of the functions that the statement reaches, printed out of the translation; the tie proves that it is the loaded program. No conditions. -/
import Derived.Test.YtoommmeapdkopaaE33
set_option maxRecDepth 20000
namespace Go.Proofs.Ytoommmeapdkopaa.E
open Go Go.Eng
abbrev o1 (d : Nat) (x : IOp) : IOper := ⟨some d, x, none, true⟩
abbrev o2 (x : IOp) : IOper := ⟨none, x, none, true⟩
abbrev o3 (d : Nat) (x : IOp) : IOper := ⟨some d, x, none, false⟩
abbrev o4 (d : Nat) (x : IOp) (j : Nat) (b : Bool) : IOper := ⟨some d, x, some (j, b), true⟩
def b8_1 : IC := (.seq (.reg [o1 173 (.bin .lss (.t 172) (.t 171))])
 (.seq (.cond (.t 173)
 .skip
 (.exit 2))
 (.seq (.block 3
 (.seq (.reg [o1 174 (.iadr 1 (.t 170) (.t 172)),
 o1 175 (.load 1 false (.t 174)),
 o1 21 (.mv (.t 175))])
 (.seq (.reg [o1 176 (.mv (.t 17)),
 o1 177 (.mv (.t 19)),
 o1 178 (.slc 1 (.t 176) none (some (.t 177)) none),
 o1 179 (.mv (.t 21)),
 o1 180 (.callf 22 [(.t 178), (.t 179)]),
 o1 181 (.un .not (.t 180))])
 (.cond (.t 181)
 (.seq (.reg [o1 2 (.mv (.c (.bool false)))])
 .ret)
 .skip))))
 (.reg [o1 182 (.bin .add (.t 172) (.c (.int .i64 1))),
 o1 172 (.mv (.t 182))]))))
def r8_2 : IC := (.reg [o1 136 (.mv (.t 19)),
 o1 137 (.bin .add (.t 136) (.c (.int .i64 1))),
 o1 19 (.mv (.t 137))])
def b8_0 : IC := (.seq (.seq (.reg [o1 132 (.mv (.t 19)),
 o1 133 (.mv (.t 17)),
 o1 134 (.lens (.t 133)),
 o1 135 (.bin .lss (.t 132) (.t 134))])
 (.cond (.t 135)
 .skip
 (.exit 0)))
 (.seq (.block 1
 (.seq (.seq (.reg [o1 138 (.mv (.t 17)),
 o1 139 (.mv (.t 19)),
 o1 140 (.iadr 1 (.t 138) (.t 139)),
 o1 141 (.load 1 false (.t 140)),
 o1 142 (.bin .lss (.t 141) (.c (.int .i64 0))),
 o1 143 (.mv (.t 142)),
 o4 144 (.mv (.t 17)) 143 false,
 o4 145 (.mv (.t 19)) 143 false,
 o4 146 (.iadr 1 (.t 144) (.t 145)) 143 false,
 o4 147 (.load 1 false (.t 146)) 143 false,
 ⟨some 148, .mv (.t 7), (some (143, false)), false⟩,
 ⟨some 149, .lens (.t 148), (some (143, false)), false⟩,
 o4 150 (.bin .geq (.t 147) (.t 149)) 143 false,
 o1 151 (.pick (.t 143) (.c (.bool true)) (.t 150)),
 o1 152 (.mv (.t 151)),
 ⟨some 153, .mv (.t 7), (some (152, false)), false⟩,
 ⟨some 154, .mv (.t 19), (some (152, false)), false⟩,
 ⟨some 155, .iadr 1 (.t 153) (.t 154), (some (152, false)), false⟩,
 ⟨some 156, .load 1 false (.t 155), (some (152, false)), false⟩,
 ⟨some 157, .mv (.t 9), (some (152, false)), false⟩,
 ⟨some 158, .mv (.t 19), (some (152, false)), false⟩,
 ⟨some 159, .iadr 1 (.t 157) (.t 158), (some (152, false)), false⟩,
 ⟨some 160, .load 1 false (.t 159), (some (152, false)), false⟩,
 o4 161 (.callf 19 [(.t 156), (.t 160)]) 152 false,
 o4 162 (.un .not (.t 161)) 152 false,
 o1 163 (.pick (.t 152) (.c (.bool true)) (.t 162))])
 (.cond (.t 163)
 (.seq (.reg [o1 2 (.mv (.c (.bool false)))])
 .ret)
 .skip))
 (.seq (.reg [o1 164 (.mv (.t 7)),
 o1 165 (.mv (.t 17)),
 o1 166 (.mv (.t 19)),
 o1 167 (.iadr 1 (.t 165) (.t 166)),
 o1 168 (.load 1 false (.t 167)),
 o1 169 (.iadr 1 (.t 164) (.t 168)),
 o1 170 (.load 1 false (.t 169)),
 o1 171 (.lens (.t 170)),
 o1 172 (.mv (.c (.int .i64 0)))])
 (.block 2
 (.loop b8_1)))))
 r8_2))
def r8_3 : IC := (.seq (.reg [o1 2 (.mv (.c (.bool true)))])
 .ret)
def i8 : IFun := ⟨(.seq (.reg [o1 1 (.boxr (.t 0)),
 o1 2 (.mv (.c (.bool false)))])
 (.seq (.seq (.reg [o1 22 (.callf 10 []),
 o1 23 (.un .not (.t 22)),
 o1 24 (.mv (.t 23)),
 o4 25 (.load 2 true (.t 1)) 24 false,
 o4 26 (.callf 11 [(.t 25)]) 24 false,
 o4 27 (.un .not (.t 26)) 24 false,
 o1 28 (.pick (.t 24) (.c (.bool true)) (.t 27)),
 o1 29 (.mv (.t 28)),
 o4 30 (.load 2 true (.t 1)) 29 false,
 o4 31 (.callf 14 [(.t 30)]) 29 false,
 o4 32 (.bin .neq (.t 31) (.c (.int .i64 0))) 29 false,
 o1 33 (.pick (.t 29) (.c (.bool true)) (.t 32))])
 (.cond (.t 33)
 (.seq (.reg [o1 34 (.callf 10 []),
 o1 2 (.mv (.t 34))])
 .ret)
 .skip))
 (.seq (.seq (.reg [o1 36 (.load 2 true (.t 1)),
 o1 37 (.callf 17 [(.t 36)]),
 o1 35 (.mv (.t 37)),
 o1 38 (.ext 0 (.t 35)),
 o1 39 (.ext 1 (.t 35)),
 o1 3 (.alloc [.nils, .nils]),
 o2 (.store 2 (.t 3) (.t 38)),
 o1 4 (.mv (.t 39))])
 (.frz 3))
 (.seq (.seq (.reg [o1 41 (.loadr 2 true (.t 3)),
 o1 42 (.callf 17 [(.t 41)]),
 o1 40 (.mv (.t 42)),
 o1 43 (.ext 0 (.t 40)),
 o1 44 (.ext 1 (.t 40)),
 o1 5 (.alloc [.nils, .nils]),
 o2 (.store 2 (.t 5) (.t 43)),
 o1 6 (.mv (.t 44))])
 (.frz 5))
 (.seq (.reg [o1 46 (.load 2 true (.t 1)),
 o1 47 (.callf 26 [(.t 46)]),
 o1 45 (.mv (.t 47)),
 o1 48 (.ext 0 (.t 45)),
 o1 49 (.ext 1 (.t 45)),
 o1 7 (.mv (.t 48)),
 o1 8 (.mv (.t 49))])
 (.seq (.reg [o1 51 (.loadr 2 true (.t 3)),
 o1 52 (.callf 26 [(.t 51)]),
 o1 50 (.mv (.t 52)),
 o1 53 (.ext 0 (.t 50)),
 o1 54 (.ext 1 (.t 50)),
 o1 9 (.mv (.t 53)),
 o1 10 (.mv (.t 54))])
 (.seq (.reg [o1 56 (.load 2 true (.t 1)),
 o1 57 (.callf 16 [(.t 56)]),
 o1 55 (.mv (.t 57)),
 o1 58 (.ext 0 (.t 55)),
 o1 59 (.ext 1 (.t 55)),
 o1 60 (.ext 2 (.t 55)),
 o1 11 (.mv (.t 58)),
 o1 12 (.mv (.t 59)),
 o1 13 (.mv (.t 60))])
 (.seq (.reg [o1 62 (.loadr 2 true (.t 3)),
 o1 63 (.callf 16 [(.t 62)]),
 o1 61 (.mv (.t 63)),
 o1 64 (.ext 0 (.t 61)),
 o1 65 (.ext 1 (.t 61)),
 o1 66 (.ext 2 (.t 61)),
 o1 14 (.mv (.t 64)),
 o1 15 (.mv (.t 65)),
 o1 16 (.mv (.t 66))])
 (.seq (.reg [o1 68 (.load 2 true (.t 1)),
 o1 69 (.callf 25 [(.t 68)]),
 o1 67 (.mv (.t 69)),
 o1 70 (.ext 0 (.t 67)),
 o1 71 (.ext 1 (.t 67)),
 o1 17 (.mv (.t 70)),
 o1 18 (.mv (.t 71))])
 (.seq (.seq (.reg [o1 72 (.mv (.t 4)),
 o1 73 (.bin .neq (.t 72) (.c (.int .i64 0))),
 o1 74 (.mv (.t 73)),
 o4 75 (.mv (.t 6)) 74 false,
 o4 76 (.bin .neq (.t 75) (.c (.int .i64 0))) 74 false,
 o1 77 (.pick (.t 74) (.c (.bool true)) (.t 76)),
 o1 78 (.mv (.t 77)),
 o4 79 (.mv (.t 8)) 78 false,
 o4 80 (.bin .neq (.t 79) (.c (.int .i64 0))) 78 false,
 o1 81 (.pick (.t 78) (.c (.bool true)) (.t 80)),
 o1 82 (.mv (.t 81)),
 o4 83 (.mv (.t 10)) 82 false,
 o4 84 (.bin .neq (.t 83) (.c (.int .i64 0))) 82 false,
 o1 85 (.pick (.t 82) (.c (.bool true)) (.t 84)),
 o1 86 (.mv (.t 85)),
 o4 87 (.mv (.t 13)) 86 false,
 o4 88 (.bin .neq (.t 87) (.c (.int .i64 0))) 86 false,
 o1 89 (.pick (.t 86) (.c (.bool true)) (.t 88)),
 o1 90 (.mv (.t 89)),
 o4 91 (.mv (.t 16)) 90 false,
 o4 92 (.bin .neq (.t 91) (.c (.int .i64 0))) 90 false,
 o1 93 (.pick (.t 90) (.c (.bool true)) (.t 92)),
 o1 94 (.mv (.t 93)),
 o4 95 (.mv (.t 18)) 94 false,
 o4 96 (.bin .neq (.t 95) (.c (.int .i64 0))) 94 false,
 o1 97 (.pick (.t 94) (.c (.bool true)) (.t 96)),
 o1 98 (.mv (.t 97)),
 o4 99 (.mv (.t 11)) 98 false,
 o4 100 (.mv (.t 14)) 98 false,
 o4 101 (.bin .neq (.t 99) (.t 100)) 98 false,
 o1 102 (.pick (.t 98) (.c (.bool true)) (.t 101)),
 o1 103 (.mv (.t 102)),
 o4 104 (.loadr 2 true (.t 3)) 103 false,
 o4 105 (.loadr 2 true (.t 5)) 103 false,
 o4 106 (.callf 12 [(.t 104), (.t 105)]) 103 false,
 o4 107 (.un .not (.t 106)) 103 false,
 o1 108 (.pick (.t 103) (.c (.bool true)) (.t 107)),
 o1 109 (.mv (.t 108)),
 o4 110 (.mv (.t 7)) 109 false,
 o4 111 (.lens (.t 110)) 109 false,
 o4 112 (.mv (.t 9)) 109 false,
 o4 113 (.lens (.t 112)) 109 false,
 o4 114 (.bin .neq (.t 111) (.t 113)) 109 false,
 o1 115 (.pick (.t 109) (.c (.bool true)) (.t 114)),
 o1 116 (.mv (.t 115)),
 o4 117 (.mv (.t 7)) 116 false,
 o4 118 (.lens (.t 117)) 116 false,
 o4 119 (.fadr 0 (.t 1)) 116 false,
 o4 120 (.load 1 false (.t 119)) 116 false,
 o4 121 (.lens (.t 120)) 116 false,
 o4 122 (.bin .neq (.t 118) (.t 121)) 116 false,
 o1 123 (.pick (.t 116) (.c (.bool true)) (.t 122)),
 o1 124 (.mv (.t 123)),
 o4 125 (.mv (.t 17)) 124 false,
 o4 126 (.lens (.t 125)) 124 false,
 o4 127 (.fadr 0 (.t 1)) 124 false,
 o4 128 (.load 1 false (.t 127)) 124 false,
 o4 129 (.lens (.t 128)) 124 false,
 o4 130 (.bin .neq (.t 126) (.t 129)) 124 false,
 o1 131 (.pick (.t 124) (.c (.bool true)) (.t 130))])
 (.cond (.t 131)
 (.seq (.reg [o1 2 (.mv (.c (.bool false)))])
 .ret)
 .skip))
 (.seq (.seq (.reg [o1 19 (.mv (.c (.int .i64 0)))])
 (.block 0
 (.loop b8_0)))
 r8_3))))))))))),
 183, [.t 2], 1, [1, 3, 1000003, 5, 1000005]⟩
def i10 : IFun := ⟨(.seq (.reg [o1 0 (.mv (.c (.bool false)))])
 (.seq (.seq (.reg [o1 11 (.callf 30 []),
 o1 1 (.alloc [.nils, .nils]),
 o2 (.store 2 (.t 1) (.t 11))])
 (.frz 1))
 (.seq (.reg [o1 13 (.loadr 2 true (.t 1)),
 o1 14 (.callf 25 [(.t 13)]),
 o1 12 (.mv (.t 14)),
 o1 15 (.ext 0 (.t 12)),
 o1 16 (.ext 1 (.t 12)),
 o1 2 (.mv (.t 15)),
 o1 3 (.mv (.t 16))])
 (.seq (.reg [o1 18 (.loadr 2 true (.t 1)),
 o1 19 (.callf 15 [(.t 18)]),
 o1 17 (.mv (.t 19)),
 o1 20 (.ext 0 (.t 17)),
 o1 21 (.ext 1 (.t 17)),
 o1 4 (.mv (.t 20)),
 o1 5 (.mv (.t 21))])
 (.seq (.reg [o1 23 (.loadr 2 true (.t 1)),
 o1 24 (.callf 16 [(.t 23)]),
 o1 22 (.mv (.t 24)),
 o1 25 (.ext 0 (.t 22)),
 o1 26 (.ext 1 (.t 22)),
 o1 27 (.ext 2 (.t 22)),
 o1 6 (.mv (.t 25)),
 o1 7 (.mv (.t 26)),
 o1 8 (.mv (.t 27))])
 (.seq (.seq (.reg [o1 29 (.loadr 2 true (.t 1)),
 o1 30 (.callf 17 [(.t 29)]),
 o1 28 (.mv (.t 30)),
 o1 31 (.ext 0 (.t 28)),
 o1 32 (.ext 1 (.t 28)),
 o1 9 (.alloc [.nils, .nils]),
 o2 (.store 2 (.t 9) (.t 31)),
 o1 10 (.mv (.t 32))])
 (.frz 9))
 (.seq (.reg [o1 33 (.mv (.t 3)),
 o1 34 (.bin .eql (.t 33) (.c (.int .i64 0))),
 o1 35 (.mv (.t 34)),
 o4 36 (.mv (.t 2)) 35 true,
 o4 37 (.bsl 1 4 [(.int .i64 0)] [(0, 1, (.c (.int .i64 0))), (1, 1, (.c (.int .i64 1))), (2, 1, (.c (.int .i64 2))), (3, 1, (.c (.int .i64 3)))]) 35 true,
 o4 38 (.callf 19 [(.t 36), (.t 37)]) 35 true,
 o1 39 (.pick (.t 35) (.t 38) (.c (.bool false))),
 o1 40 (.mv (.t 39)),
 o4 41 (.mv (.t 5)) 40 true,
 o4 42 (.bin .eql (.t 41) (.c (.int .i64 0))) 40 true,
 o1 43 (.pick (.t 40) (.t 42) (.c (.bool false))),
 o1 44 (.mv (.t 43)),
 o4 45 (.mv (.t 4)) 44 true,
 o4 46 (.bsl 1 4 [(.int .i64 0)] [(0, 1, (.c (.int .i64 8))), (1, 1, (.c (.int .i64 3))), (2, 1, (.c (.int .i64 5))), (3, 1, (.c (.int .i64 1)))]) 44 true,
 o4 47 (.callf 19 [(.t 45), (.t 46)]) 44 true,
 o1 48 (.pick (.t 44) (.t 47) (.c (.bool false))),
 o1 49 (.mv (.t 48)),
 o4 50 (.mv (.t 8)) 49 true,
 o4 51 (.bin .eql (.t 50) (.c (.int .i64 0))) 49 true,
 o1 52 (.pick (.t 49) (.t 51) (.c (.bool false))),
 o1 53 (.mv (.t 52)),
 o4 54 (.mv (.t 6)) 53 true,
 o4 55 (.bin .eql (.t 54) (.c (.int .i64 8))) 53 true,
 o1 56 (.pick (.t 53) (.t 55) (.c (.bool false))),
 o1 57 (.mv (.t 56)),
 o4 58 (.mv (.t 7)) 57 true,
 o4 59 (.bsl 1 3 [(.int .i64 0)] [(0, 1, (.c (.int .i64 0))), (1, 1, (.c (.int .i64 2))), (2, 1, (.c (.int .i64 3)))]) 57 true,
 o4 60 (.callf 19 [(.t 58), (.t 59)]) 57 true,
 o1 61 (.pick (.t 57) (.t 60) (.c (.bool false))),
 o1 62 (.mv (.t 61)),
 o4 63 (.mv (.t 10)) 62 true,
 o4 64 (.bin .eql (.t 63) (.c (.int .i64 0))) 62 true,
 o1 65 (.pick (.t 62) (.t 64) (.c (.bool false))),
 o1 66 (.mv (.t 65)),
 o4 67 (.fadr 0 (.t 9)) 66 true,
 o4 68 (.loadr 1 false (.t 67)) 66 true,
 o4 69 (.lens (.t 68)) 66 true,
 o4 70 (.bin .eql (.t 69) (.c (.int .i64 4))) 66 true,
 o1 71 (.pick (.t 66) (.t 70) (.c (.bool false))),
 o1 72 (.mv (.t 71)),
 o4 73 (.fadr 0 (.t 9)) 72 true,
 o4 74 (.loadr 1 false (.t 73)) 72 true,
 o4 75 (.iadr 4 (.t 74) (.c (.int .i64 3))) 72 true,
 o4 76 (.fadr 3 (.t 75)) 72 true,
 o4 77 (.load 1 false (.t 76)) 72 true,
 o4 78 (.bsl 1 2 [(.int .i64 0)] [(0, 1, (.c (.int .i64 1))), (1, 1, (.c (.int .i64 2)))]) 72 true,
 o4 79 (.callf 19 [(.t 77), (.t 78)]) 72 true,
 o1 80 (.pick (.t 72) (.t 79) (.c (.bool false))),
 o1 0 (.mv (.t 80))])
 .ret))))))),
 81, [.t 0], 1, [1, 1000001, 9, 1000073, 1000067]⟩
def b11_0 : IC := (.seq (.seq (.reg [o1 16 (.mv (.t 3)),
 o1 17 (.fadr 0 (.t 1)),
 o1 18 (.load 1 false (.t 17)),
 o1 19 (.lens (.t 18)),
 o1 20 (.bin .lss (.t 16) (.t 19))])
 (.cond (.t 20)
 .skip
 (.exit 0)))
 (.seq (.block 1
 (.seq (.reg [o1 23 (.fadr 0 (.t 1)),
 o1 24 (.load 1 false (.t 23)),
 o1 25 (.mv (.t 3)),
 o1 26 (.iadr 4 (.t 24) (.t 25)),
 o1 27 (.fadr 3 (.t 26)),
 o1 28 (.load 1 false (.t 27)),
 o1 29 (.lens (.t 28)),
 o1 30 (.bin .gtr (.t 29) (.c (.int .i64 10))),
 o1 31 (.mv (.t 30)),
 o4 32 (.fadr 0 (.t 1)) 31 false,
 o4 33 (.load 1 false (.t 32)) 31 false,
 o4 34 (.mv (.t 3)) 31 false,
 o4 35 (.iadr 4 (.t 33) (.t 34)) 31 false,
 o4 36 (.fadr 0 (.t 35)) 31 false,
 o4 37 (.load 1 false (.t 36)) 31 false,
 o4 38 (.lent (.t 37)) 31 false,
 o4 39 (.bin .gtr (.t 38) (.c (.int .i64 50))) 31 false,
 o1 40 (.pick (.t 31) (.c (.bool true)) (.t 39)),
 o1 41 (.mv (.t 40)),
 o4 42 (.fadr 0 (.t 1)) 41 false,
 o4 43 (.load 1 false (.t 42)) 41 false,
 o4 44 (.mv (.t 3)) 41 false,
 o4 45 (.iadr 4 (.t 43) (.t 44)) 41 false,
 o4 46 (.fadr 2 (.t 45)) 41 false,
 o4 47 (.load 1 false (.t 46)) 41 false,
 o4 48 (.lent (.t 47)) 41 false,
 o4 49 (.bin .gtr (.t 48) (.c (.int .i64 50))) 41 false,
 o1 50 (.pick (.t 41) (.c (.bool true)) (.t 49))])
 (.cond (.t 50)
 (.seq (.reg [o1 2 (.mv (.c (.bool false)))])
 .ret)
 .skip)))
 (.reg [o1 21 (.mv (.t 3)),
 o1 22 (.bin .add (.t 21) (.c (.int .i64 1))),
 o1 3 (.mv (.t 22))])))
def b11_3 : IC := (.seq (.seq (.reg [o1 76 (.mv (.t 5)),
 o1 77 (.fadr 1 (.t 1)),
 o1 78 (.load 1 false (.t 77)),
 o1 79 (.mv (.t 4)),
 o1 80 (.iadr 2 (.t 78) (.t 79)),
 o1 81 (.fadr 1 (.t 80)),
 o1 82 (.load 1 false (.t 81)),
 o1 83 (.lens (.t 82)),
 o1 84 (.bin .lss (.t 76) (.t 83))])
 (.cond (.t 84)
 .skip
 (.exit 4)))
 (.seq (.block 5
 (.seq (.reg [o1 87 (.fadr 1 (.t 1)),
 o1 88 (.load 1 false (.t 87)),
 o1 89 (.mv (.t 4)),
 o1 90 (.iadr 2 (.t 88) (.t 89)),
 o1 91 (.fadr 1 (.t 90)),
 o1 92 (.load 1 false (.t 91)),
 o1 93 (.mv (.t 5)),
 o1 94 (.iadr 1 (.t 92) (.t 93)),
 o1 95 (.load 1 false (.t 94)),
 o1 96 (.lent (.t 95)),
 o1 97 (.bin .gtr (.t 96) (.c (.int .i64 50)))])
 (.cond (.t 97)
 (.seq (.reg [o1 2 (.mv (.c (.bool false)))])
 .ret)
 .skip)))
 (.reg [o1 85 (.mv (.t 5)),
 o1 86 (.bin .add (.t 85) (.c (.int .i64 1))),
 o1 5 (.mv (.t 86))])))
def r11_4 : IC := (.reg [o1 56 (.mv (.t 4)),
 o1 57 (.bin .add (.t 56) (.c (.int .i64 1))),
 o1 4 (.mv (.t 57))])
def b11_2 : IC := (.seq (.seq (.reg [o1 51 (.mv (.t 4)),
 o1 52 (.fadr 1 (.t 1)),
 o1 53 (.load 1 false (.t 52)),
 o1 54 (.lens (.t 53)),
 o1 55 (.bin .lss (.t 51) (.t 54))])
 (.cond (.t 55)
 .skip
 (.exit 2)))
 (.seq (.block 3
 (.seq (.seq (.reg [o1 58 (.fadr 1 (.t 1)),
 o1 59 (.load 1 false (.t 58)),
 o1 60 (.mv (.t 4)),
 o1 61 (.iadr 2 (.t 59) (.t 60)),
 o1 62 (.fadr 1 (.t 61)),
 o1 63 (.load 1 false (.t 62)),
 o1 64 (.lens (.t 63)),
 o1 65 (.bin .gtr (.t 64) (.c (.int .i64 5))),
 o1 66 (.mv (.t 65)),
 o4 67 (.fadr 1 (.t 1)) 66 false,
 o4 68 (.load 1 false (.t 67)) 66 false,
 o4 69 (.mv (.t 4)) 66 false,
 o4 70 (.iadr 2 (.t 68) (.t 69)) 66 false,
 o4 71 (.fadr 0 (.t 70)) 66 false,
 o4 72 (.load 1 false (.t 71)) 66 false,
 o4 73 (.lent (.t 72)) 66 false,
 o4 74 (.bin .gtr (.t 73) (.c (.int .i64 50))) 66 false,
 o1 75 (.pick (.t 66) (.c (.bool true)) (.t 74))])
 (.cond (.t 75)
 (.seq (.reg [o1 2 (.mv (.c (.bool false)))])
 .ret)
 .skip))
 (.seq (.reg [o1 5 (.mv (.c (.int .i64 0)))])
 (.block 4
 (.loop b11_3)))))
 r11_4))
def r11_5 : IC := (.seq (.reg [o1 2 (.mv (.c (.bool true)))])
 .ret)
def r11_1 : IC := (.seq (.seq (.reg [o1 4 (.mv (.c (.int .i64 0)))])
 (.block 2
 (.loop b11_2)))
 r11_5)
def i11 : IFun := ⟨(.seq (.reg [o1 1 (.boxr (.t 0)),
 o1 2 (.mv (.c (.bool false)))])
 (.seq (.seq (.reg [o1 6 (.fadr 0 (.t 1)),
 o1 7 (.load 1 false (.t 6)),
 o1 8 (.lens (.t 7)),
 o1 9 (.bin .gtr (.t 8) (.c (.int .i64 8))),
 o1 10 (.mv (.t 9)),
 o4 11 (.fadr 1 (.t 1)) 10 false,
 o4 12 (.load 1 false (.t 11)) 10 false,
 o4 13 (.lens (.t 12)) 10 false,
 o4 14 (.bin .gtr (.t 13) (.c (.int .i64 4))) 10 false,
 o1 15 (.pick (.t 10) (.c (.bool true)) (.t 14))])
 (.cond (.t 15)
 (.seq (.reg [o1 2 (.mv (.c (.bool false)))])
 .ret)
 .skip))
 (.seq (.seq (.reg [o1 3 (.mv (.c (.int .i64 0)))])
 (.block 0
 (.loop b11_0)))
 r11_1))),
 98, [.t 2], 1, [1]⟩
def i12 : IFun := ⟨(.seq (.reg [o1 2 (.boxr (.t 0)),
 o1 3 (.boxr (.t 1)),
 o1 4 (.mv (.c (.bool false)))])
 (.seq (.reg [o1 6 (.fadr 0 (.t 2)),
 o1 7 (.load 1 false (.t 6)),
 o1 8 (.fadr 0 (.t 3)),
 o1 9 (.load 1 false (.t 8)),
 o1 10 (.callf 31 [(.t 7), (.t 9), (.c (.fn 32 []))]),
 o1 5 (.mv (.t 10))])
 (.seq (.reg [o1 11 (.mv (.t 5)),
 o1 12 (.mv (.t 11)),
 o4 13 (.fadr 1 (.t 2)) 12 true,
 o4 14 (.load 1 false (.t 13)) 12 true,
 o4 15 (.fadr 1 (.t 3)) 12 true,
 o4 16 (.load 1 false (.t 15)) 12 true,
 o4 17 (.callf 34 [(.t 14), (.t 16), (.c (.fn 35 []))]) 12 true,
 o1 18 (.pick (.t 12) (.t 17) (.c (.bool false))),
 o1 4 (.mv (.t 18))])
 .ret))),
 19, [.t 4], 1, [2, 3]⟩
def b14_0 : IC := (.seq (.seq (.reg [o1 20 (.mv (.t 3)),
 o1 21 (.fadr 0 (.t 1)),
 o1 22 (.load 1 false (.t 21)),
 o1 23 (.lens (.t 22)),
 o1 24 (.bin .lss (.t 20) (.t 23))])
 (.cond (.t 24)
 .skip
 (.exit 0)))
 (.seq (.block 1
 (.seq (.reg [o1 27 (.load 2 true (.t 1)),
 o1 28 (.mv (.t 3)),
 o1 29 (.callf 38 [(.t 27), (.t 28)]),
 o1 4 (.mv (.t 29))])
 (.seq (.reg [o1 30 (.mv (.t 4)),
 o1 31 (.bin .neq (.t 30) (.c (.int .i64 0)))])
 (.cond (.t 31)
 (.seq (.reg [o1 32 (.mv (.t 4)),
 o1 2 (.mv (.t 32))])
 .ret)
 .skip))))
 (.reg [o1 25 (.mv (.t 3)),
 o1 26 (.bin .add (.t 25) (.c (.int .i64 1))),
 o1 3 (.mv (.t 26))])))
def b14_2 : IC := (.seq (.seq (.reg [o1 41 (.mv (.t 7)),
 o1 42 (.fadr 1 (.t 1)),
 o1 43 (.load 1 false (.t 42)),
 o1 44 (.lens (.t 43)),
 o1 45 (.bin .lss (.t 41) (.t 44))])
 (.cond (.t 45)
 .skip
 (.exit 2)))
 (.seq (.block 3
 (.seq (.reg [o1 48 (.load 2 true (.t 1)),
 o1 49 (.mv (.t 7)),
 o1 50 (.callf 41 [(.t 48), (.t 49)]),
 o1 8 (.mv (.t 50))])
 (.seq (.reg [o1 51 (.mv (.t 8)),
 o1 52 (.bin .neq (.t 51) (.c (.int .i64 0)))])
 (.cond (.t 52)
 (.seq (.reg [o1 53 (.mv (.t 8)),
 o1 2 (.mv (.t 53))])
 .ret)
 .skip))))
 (.reg [o1 46 (.mv (.t 7)),
 o1 47 (.bin .add (.t 46) (.c (.int .i64 1))),
 o1 7 (.mv (.t 47))])))
def b14_4 : IC := (.seq (.seq (.reg [o1 54 (.mv (.t 9)),
 o1 55 (.fadr 0 (.t 1)),
 o1 56 (.load 1 false (.t 55)),
 o1 57 (.lens (.t 56)),
 o1 58 (.bin .lss (.t 54) (.t 57))])
 (.cond (.t 58)
 .skip
 (.exit 4)))
 (.seq (.block 5
 (.seq (.reg [o1 61 (.load 2 true (.t 1)),
 o1 62 (.mv (.t 9)),
 o1 63 (.callf 24 [(.t 61), (.t 62)]),
 o1 64 (.lens (.t 63)),
 o1 65 (.bin .eql (.t 64) (.c (.int .i64 0)))])
 (.cond (.t 65)
 (.seq (.reg [o1 2 (.mv (.c (.int .i64 10)))])
 .ret)
 .skip)))
 (.reg [o1 59 (.mv (.t 9)),
 o1 60 (.bin .add (.t 59) (.c (.int .i64 1))),
 o1 9 (.mv (.t 60))])))
def r14_5 : IC := (.seq (.reg [o1 2 (.mv (.c (.int .i64 0)))])
 .ret)
def r14_3 : IC := (.seq (.seq (.reg [o1 9 (.mv (.c (.int .i64 0)))])
 (.block 4
 (.loop b14_4)))
 r14_5)
def r14_1 : IC := (.seq (.seq (.reg [o1 34 (.load 2 true (.t 1)),
 o1 35 (.callf 40 [(.t 34)]),
 o1 36 (.callf 39 [(.t 35)]),
 o1 33 (.mv (.t 36)),
 o1 37 (.ext 0 (.t 33)),
 o1 38 (.ext 1 (.t 33)),
 o1 5 (.mv (.t 37)),
 o1 6 (.mv (.t 38))])
 (.seq (.reg [o1 39 (.mv (.t 6)),
 o1 40 (.bin .neq (.t 39) (.c (.int .i64 0)))])
 (.cond (.t 40)
 (.seq (.reg [o1 2 (.mv (.c (.int .i64 30)))])
 .ret)
 .skip)))
 (.seq (.seq (.reg [o1 7 (.mv (.c (.int .i64 0)))])
 (.block 2
 (.loop b14_2)))
 r14_3))
def i14 : IFun := ⟨(.seq (.reg [o1 1 (.boxr (.t 0)),
 o1 2 (.mv (.c (.int .i64 0)))])
 (.seq (.seq (.reg [o1 10 (.fadr 0 (.t 1)),
 o1 11 (.load 1 false (.t 10)),
 o1 12 (.lens (.t 11)),
 o1 13 (.bin .gtr (.t 12) (.c (.int .i64 24))),
 o1 14 (.mv (.t 13)),
 o4 15 (.fadr 1 (.t 1)) 14 false,
 o4 16 (.load 1 false (.t 15)) 14 false,
 o4 17 (.lens (.t 16)) 14 false,
 o4 18 (.bin .gtr (.t 17) (.c (.int .i64 8))) 14 false,
 o1 19 (.pick (.t 14) (.c (.bool true)) (.t 18))])
 (.cond (.t 19)
 (.seq (.reg [o1 2 (.mv (.c (.int .i64 6)))])
 .ret)
 .skip))
 (.seq (.seq (.reg [o1 3 (.mv (.c (.int .i64 0)))])
 (.block 0
 (.loop b14_0)))
 r14_1))),
 66, [.t 2], 1, [1]⟩
def i15 : IFun := ⟨(.seq (.reg [o1 1 (.boxr (.t 0)),
 o1 2 (.mv (.c .nils)),
 o1 3 (.mv (.c (.int .i64 0)))])
 (.seq (.seq (.reg [o1 5 (.load 2 true (.t 1)),
 o1 6 (.callf 29 [(.t 5)]),
 o1 4 (.mv (.t 6))])
 (.seq (.reg [o1 7 (.mv (.t 4)),
 o1 8 (.bin .neq (.t 7) (.c (.int .i64 0)))])
 (.cond (.t 8)
 (.seq (.reg [o1 9 (.mv (.t 4)),
 o1 2 (.mv (.c .nils)),
 o1 3 (.mv (.t 9))])
 .ret)
 .skip)))
 (.seq (.reg [o1 10 (.load 2 true (.t 1)),
 o1 11 (.callf 42 [(.t 10)]),
 o1 2 (.mv (.t 11)),
 o1 3 (.mv (.c (.int .i64 0)))])
 .ret))),
 12, [.t 2, .t 3], 1, [1]⟩
def i16 : IFun := ⟨(.seq (.reg [o1 1 (.boxr (.t 0)),
 o1 2 (.mv (.c (.int .i64 0))),
 o1 3 (.alloc [.nils]),
 o1 4 (.mv (.c (.int .i64 0)))])
 (.seq (.seq (.reg [o1 8 (.load 2 true (.t 1)),
 o1 9 (.callf 29 [(.t 8)]),
 o1 5 (.mv (.t 9))])
 (.seq (.reg [o1 10 (.mv (.t 5)),
 o1 11 (.bin .neq (.t 10) (.c (.int .i64 0)))])
 (.cond (.t 11)
 (.seq (.reg [o1 12 (.mv (.t 5)),
 o1 2 (.mv (.c (.int .i64 0))),
 o2 (.store 1 (.t 3) (.c .nils)),
 o1 4 (.mv (.t 12))])
 .ret)
 .skip)))
 (.seq (.seq (.reg [o1 13 (.fadr 0 (.t 1)),
 o1 14 (.load 1 false (.t 13)),
 o1 15 (.lens (.t 14)),
 o1 16 (.bin .eql (.t 15) (.c (.int .i64 0)))])
 (.cond (.t 16)
 (.seq (.reg [o1 2 (.mv (.c (.int .i64 0))),
 o2 (.store 1 (.t 3) (.c .nils)),
 o1 4 (.mv (.c (.int .i64 0)))])
 .ret)
 .skip))
 (.seq (.reg [o1 17 (.load 2 true (.t 1)),
 o1 18 (.callf 42 [(.t 17)]),
 o1 6 (.alloc [.nils]),
 o2 (.store 1 (.t 6) (.t 18))])
 (.seq (.reg [o1 19 (.load 1 false (.t 6)),
 o1 20 (.callf 43 [(.t 19)]),
 o1 2 (.mv (.t 20))])
 (.seq (.reg [o1 7 (.alloc [.nilf])])
 (.seq (.reg [o1 21 (.mkf 44 [(.t 1), (.t 6), (.t 3), (.t 7)]),
 o2 (.store 1 (.t 7) (.t 21))])
 (.seq (.reg [o1 22 (.load 1 false (.t 7)),
 o1 23 (.mv (.t 2)),
 o1 24 (.callv (.t 22) [(.c (.int .i64 (-1))), (.t 23)])])
 (.seq (.reg [o3 25 (.mv (.t 2)),
 o1 26 (.load 1 false (.t 3)),
 o3 2 (.mv (.t 25)),
 o2 (.store 1 (.t 3) (.t 26)),
 o1 4 (.mv (.c (.int .i64 0)))])
 .ret))))))))),
 27, [.t 2, .cell 3 1 false, .t 4], 1, [1]⟩
def b17_0 : IC := (.seq (.reg [o1 23 (.bin .lss (.t 22) (.t 21))])
 (.seq (.cond (.t 23)
 .skip
 (.exit 0))
 (.seq (.block 1
 (.seq (.reg [o1 24 (.iadr 4 (.t 20) (.t 22)),
 o1 25 (.load 4 true (.t 24)),
 o1 8 (.alloc [(.str []), (.int .i64 0), (.str []), .nils]),
 o2 (.store 4 (.t 8) (.t 25))])
 (.seq (.reg [o1 26 (.fadr 3 (.t 8)),
 o1 27 (.load 1 false (.t 26)),
 o1 28 (.callf 48 [(.t 27)]),
 o1 29 (.mkf 49 [(.t 8), (.t 5)]),
 o1 30 (.callf 47 [(.t 28), (.t 29)]),
 o1 31 (.fadr 3 (.t 8)),
 o2 (.store 1 (.t 31) (.t 30))])
 (.reg [o1 32 (.fadr 0 (.t 6)),
 o1 33 (.load 1 false (.t 32)),
 o1 34 (.load 4 true (.t 8)),
 o1 35 (.bsl 4 1 [(.str []), (.int .i64 0), (.str []), .nils] [(0, 4, (.t 34))]),
 o1 36 (.app 4 64 (.t 33) (.t 35)),
 o1 37 (.fadr 0 (.t 6)),
 o2 (.store 1 (.t 37) (.t 36))]))))
 (.reg [o1 38 (.bin .add (.t 22) (.c (.int .i64 1))),
 o1 22 (.mv (.t 38))]))))
def b17_2 : IC := (.seq (.reg [o1 43 (.bin .lss (.t 42) (.t 41))])
 (.seq (.cond (.t 43)
 .skip
 (.exit 2))
 (.seq (.block 3
 (.seq (.reg [o1 44 (.iadr 2 (.t 40) (.t 42)),
 o1 45 (.load 2 true (.t 44)),
 o1 10 (.alloc [(.str []), .nils]),
 o2 (.store 2 (.t 10) (.t 45))])
 (.seq (.reg [o1 46 (.fadr 1 (.t 10)),
 o1 47 (.load 1 false (.t 46)),
 o1 48 (.callf 52 [(.t 47)]),
 o1 49 (.fadr 1 (.t 10)),
 o2 (.store 1 (.t 49) (.t 48))])
 (.reg [o1 50 (.fadr 1 (.t 6)),
 o1 51 (.load 1 false (.t 50)),
 o1 52 (.load 2 true (.t 10)),
 o1 53 (.bsl 2 1 [(.str []), .nils] [(0, 2, (.t 52))]),
 o1 54 (.app 2 40 (.t 51) (.t 53)),
 o1 55 (.fadr 1 (.t 6)),
 o2 (.store 1 (.t 55) (.t 54))]))))
 (.reg [o1 56 (.bin .add (.t 42) (.c (.int .i64 1))),
 o1 42 (.mv (.t 56))]))))
def r17_3 : IC := (.seq (.reg [o1 57 (.load 2 true (.t 6)),
 o2 (.store 2 (.t 2) (.t 57)),
 o1 3 (.mv (.c (.int .i64 0)))])
 .ret)
def r17_1 : IC := (.seq (.seq (.reg [o1 39 (.fadr 1 (.t 1)),
 o1 40 (.load 1 false (.t 39)),
 o1 41 (.lens (.t 40)),
 o1 42 (.mv (.c (.int .i64 0)))])
 (.block 2
 (.loop b17_2)))
 r17_3)
def i17 : IFun := ⟨(.seq (.reg [o1 1 (.boxr (.t 0)),
 o1 2 (.alloc [.nils, .nils]),
 o1 3 (.mv (.c (.int .i64 0)))])
 (.seq (.seq (.reg [o1 11 (.load 2 true (.t 1)),
 o1 12 (.callf 29 [(.t 11)]),
 o1 4 (.mv (.t 12))])
 (.seq (.reg [o1 13 (.mv (.t 4)),
 o1 14 (.bin .neq (.t 13) (.c (.int .i64 0)))])
 (.cond (.t 14)
 (.seq (.reg [o1 15 (.build [.nils, .nils] []),
 o1 16 (.mv (.t 4)),
 o2 (.store 2 (.t 2) (.t 15)),
 o1 3 (.mv (.t 16))])
 .ret)
 .skip)))
 (.seq (.reg [o1 17 (.load 2 true (.t 1)),
 o1 18 (.callf 46 [(.t 17)]),
 o1 5 (.alloc [.nils]),
 o2 (.store 1 (.t 5) (.t 18))])
 (.seq (.reg [o1 6 (.alloc [.nils, .nils])])
 (.seq (.seq (.reg [o1 19 (.fadr 0 (.t 1)),
 o1 20 (.load 1 false (.t 19)),
 o1 21 (.lens (.t 20)),
 o1 22 (.mv (.c (.int .i64 0)))])
 (.block 0
 (.loop b17_0)))
 r17_1))))),
 58, [.cell 2 2 true, .t 3], 1, [1]⟩
def b19_0 : IC := (.seq (.seq (.reg [o1 11 (.mv (.t 5)),
 o1 12 (.mv (.t 0)),
 o1 13 (.lens (.t 12)),
 o1 14 (.bin .lss (.t 11) (.t 13))])
 (.cond (.t 14)
 .skip
 (.exit 0)))
 (.seq (.block 1
 (.seq (.reg [o3 17 (.mv (.t 0)),
 o3 18 (.mv (.t 5)),
 o3 19 (.iadr 1 (.t 17) (.t 18)),
 o3 20 (.load 1 false (.t 19)),
 o3 21 (.mv (.t 1)),
 o3 22 (.mv (.t 5)),
 o3 23 (.iadr 1 (.t 21) (.t 22)),
 o3 24 (.load 1 false (.t 23)),
 o1 25 (.bin .neq (.t 20) (.t 24))])
 (.cond (.t 25)
 (.seq (.reg [o1 4 (.mv (.c (.bool false)))])
 .ret)
 .skip)))
 (.reg [o1 15 (.mv (.t 5)),
 o1 16 (.bin .add (.t 15) (.c (.int .i64 1))),
 o1 5 (.mv (.t 16))])))
def r19_1 : IC := (.seq (.reg [o1 4 (.mv (.c (.bool true)))])
 .ret)
def i19 : IFun := ⟨(.seq (.reg [o1 4 (.mv (.c (.bool false)))])
 (.seq (.seq (.reg [o1 6 (.mv (.t 0)),
 o1 7 (.lens (.t 6)),
 o1 8 (.mv (.t 1)),
 o1 9 (.lens (.t 8)),
 o1 10 (.bin .neq (.t 7) (.t 9))])
 (.cond (.t 10)
 (.seq (.reg [o1 4 (.mv (.c (.bool false)))])
 .ret)
 .skip))
 (.seq (.seq (.reg [o1 5 (.mv (.c (.int .i64 0)))])
 (.block 0
 (.loop b19_0)))
 r19_1))),
 26, [.t 4], 1, []⟩
def b22_0 : IC := (.seq (.seq (.reg [o1 6 (.mv (.t 5)),
 o1 7 (.mv (.t 0)),
 o1 8 (.lens (.t 7)),
 o1 9 (.bin .lss (.t 6) (.t 8))])
 (.cond (.t 9)
 .skip
 (.exit 0)))
 (.seq (.block 1
 (.seq (.reg [o1 12 (.mv (.t 0)),
 o1 13 (.mv (.t 5)),
 o1 14 (.iadr 1 (.t 12) (.t 13)),
 o1 15 (.load 1 false (.t 14)),
 o1 16 (.mv (.t 1)),
 o1 17 (.bin .eql (.t 15) (.t 16))])
 (.cond (.t 17)
 (.seq (.reg [o1 4 (.mv (.c (.bool true)))])
 .ret)
 .skip)))
 (.reg [o1 10 (.mv (.t 5)),
 o1 11 (.bin .add (.t 10) (.c (.int .i64 1))),
 o1 5 (.mv (.t 11))])))
def r22_1 : IC := (.seq (.reg [o1 4 (.mv (.c (.bool false)))])
 .ret)
def i22 : IFun := ⟨(.seq (.reg [o1 4 (.mv (.c (.bool false)))])
 (.seq (.seq (.reg [o1 5 (.mv (.c (.int .i64 0)))])
 (.block 0
 (.loop b22_0)))
 r22_1)),
 18, [.t 4], 1, []⟩
def r24_1 : IC := (.reg [o1 12 (.mv (.t 6)),
 o1 13 (.bin .add (.t 12) (.c (.int .i64 1))),
 o1 6 (.mv (.t 13))])
def b24_0 : IC := (.seq (.seq (.reg [o1 7 (.mv (.t 6)),
 o1 8 (.fadr 1 (.t 2)),
 o1 9 (.load 1 false (.t 8)),
 o1 10 (.lens (.t 9)),
 o1 11 (.bin .lss (.t 7) (.t 10))])
 (.cond (.t 11)
 .skip
 (.exit 0)))
 (.seq (.block 1
 (.seq (.reg [o3 14 (.fadr 1 (.t 2)),
 o3 15 (.load 1 false (.t 14)),
 o3 16 (.mv (.t 6)),
 o3 17 (.iadr 2 (.t 15) (.t 16)),
 o3 18 (.load 2 true (.t 17)),
 o3 19 (.fadr 0 (.t 2)),
 o3 20 (.load 1 false (.t 19)),
 o3 21 (.mv (.t 1)),
 o3 22 (.iadr 4 (.t 20) (.t 21)),
 o3 23 (.fadr 2 (.t 22)),
 o3 24 (.load 1 false (.t 23)),
 o1 25 (.callf 55 [(.t 18), (.t 24)])])
 (.cond (.t 25)
 (.reg [o1 26 (.mv (.t 5)),
 o1 27 (.mv (.t 6)),
 o1 28 (.bsl 1 1 [(.int .i64 0)] [(0, 1, (.t 27))]),
 o1 29 (.app 1 8 (.t 26) (.t 28)),
 o1 5 (.mv (.t 29))])
 .skip)))
 r24_1))
def r24_2 : IC := (.seq (.reg [o1 30 (.mv (.t 5)),
 o1 4 (.mv (.t 30))])
 .ret)
def i24 : IFun := ⟨(.seq (.reg [o1 2 (.boxr (.t 0)),
 o1 4 (.mv (.c .nils))])
 (.seq (.reg [o1 5 (.mv (.c .nils))])
 (.seq (.seq (.reg [o1 6 (.mv (.c (.int .i64 0)))])
 (.block 0
 (.loop b24_0)))
 r24_2))),
 31, [.t 4], 1, [2]⟩
def i25 : IFun := ⟨(.seq (.reg [o1 1 (.boxr (.t 0)),
 o1 2 (.mv (.c .nils)),
 o1 3 (.mv (.c (.int .i64 0)))])
 (.seq (.seq (.reg [o1 5 (.load 2 true (.t 1)),
 o1 6 (.callf 29 [(.t 5)]),
 o1 4 (.mv (.t 6))])
 (.seq (.reg [o1 7 (.mv (.t 4)),
 o1 8 (.bin .neq (.t 7) (.c (.int .i64 0)))])
 (.cond (.t 8)
 (.seq (.reg [o1 9 (.mv (.t 4)),
 o1 2 (.mv (.c .nils)),
 o1 3 (.mv (.t 9))])
 .ret)
 .skip)))
 (.seq (.reg [o1 10 (.load 2 true (.t 1)),
 o1 11 (.callf 56 [(.t 10)]),
 o1 2 (.mv (.t 11)),
 o1 3 (.mv (.c (.int .i64 0)))])
 .ret))),
 12, [.t 2, .t 3], 1, [1]⟩
def r26_2 : IC := (.reg [o1 35 (.bin .add (.t 25) (.c (.int .i64 1))),
 o1 25 (.mv (.t 35))])
def b26_1 : IC := (.seq (.reg [o1 26 (.bin .lss (.t 25) (.t 24))])
 (.seq (.cond (.t 26)
 .skip
 (.exit 2))
 (.seq (.block 3
 (.seq (.reg [o1 27 (.mv (.t 25)),
 o1 28 (.iadr 1 (.t 23) (.t 25)),
 o1 29 (.load 1 false (.t 28)),
 o1 9 (.mv (.t 27)),
 o1 10 (.mv (.t 29))])
 (.seq (.reg [o1 30 (.mv (.t 10))])
 (.cond (.t 30)
 (.reg [o1 31 (.mv (.t 8)),
 o1 32 (.mv (.t 9)),
 o1 33 (.bsl 1 1 [(.int .i64 0)] [(0, 1, (.t 32))]),
 o1 34 (.app 1 8 (.t 31) (.t 33)),
 o1 8 (.mv (.t 34))])
 .skip))))
 r26_2)))
def r26_3 : IC := (.reg [o1 36 (.mv (.t 5)),
 o1 37 (.mv (.t 8)),
 o1 38 (.bsl 1 1 [.nils] [(0, 1, (.t 37))]),
 o1 39 (.app 1 24 (.t 36) (.t 38)),
 o1 5 (.mv (.t 39))])
def r26_4 : IC := (.reg [o1 40 (.bin .add (.t 19) (.c (.int .i64 1))),
 o1 19 (.mv (.t 40))])
def b26_0 : IC := (.seq (.reg [o1 20 (.bin .lss (.t 19) (.t 18))])
 (.seq (.cond (.t 20)
 .skip
 (.exit 0))
 (.seq (.block 1
 (.seq (.reg [o1 21 (.iadr 1 (.t 17) (.t 19)),
 o1 22 (.load 1 false (.t 21)),
 o1 7 (.mv (.t 22))])
 (.seq (.reg [o1 8 (.mv (.c .nils))])
 (.seq (.seq (.reg [o1 23 (.mv (.t 7)),
 o1 24 (.lens (.t 23)),
 o1 25 (.mv (.c (.int .i64 0)))])
 (.block 2
 (.loop b26_1)))
 r26_3))))
 r26_4)))
def r26_5 : IC := (.seq (.reg [o1 41 (.mv (.t 5)),
 o1 2 (.mv (.t 41)),
 o1 3 (.mv (.c (.int .i64 0)))])
 .ret)
def i26 : IFun := ⟨(.seq (.reg [o1 1 (.boxr (.t 0)),
 o1 2 (.mv (.c .nils)),
 o1 3 (.mv (.c (.int .i64 0)))])
 (.seq (.seq (.reg [o1 11 (.load 2 true (.t 1)),
 o1 12 (.callf 29 [(.t 11)]),
 o1 4 (.mv (.t 12))])
 (.seq (.reg [o1 13 (.mv (.t 4)),
 o1 14 (.bin .neq (.t 13) (.c (.int .i64 0)))])
 (.cond (.t 14)
 (.seq (.reg [o1 15 (.mv (.t 4)),
 o1 2 (.mv (.c .nils)),
 o1 3 (.mv (.t 15))])
 .ret)
 .skip)))
 (.seq (.reg [o1 5 (.mv (.c .nils))])
 (.seq (.seq (.reg [o1 16 (.load 2 true (.t 1)),
 o1 17 (.callf 46 [(.t 16)]),
 o1 18 (.lens (.t 17)),
 o1 19 (.mv (.c (.int .i64 0)))])
 (.block 0
 (.loop b26_0)))
 r26_5)))),
 42, [.t 2, .t 3], 1, [1]⟩
def b29_0 : IC := (.seq (.reg [o1 24 (.bin .lss (.t 23) (.t 22))])
 (.seq (.cond (.t 24)
 .skip
 (.exit 0))
 (.seq (.block 1
 (.seq (.reg [o1 25 (.mv (.t 23)),
 o1 3 (.mv (.t 25))])
 (.seq (.reg [o1 26 (.load 2 true (.t 1)),
 o1 27 (.mv (.t 3)),
 o1 28 (.callf 57 [(.t 26), (.t 27)]),
 o1 4 (.mv (.t 28))])
 (.seq (.reg [o1 29 (.mv (.t 4)),
 o1 30 (.bin .neq (.t 29) (.c (.int .i64 0)))])
 (.cond (.t 30)
 (.seq (.reg [o1 31 (.mv (.t 4)),
 o1 2 (.mv (.t 31))])
 .ret)
 .skip)))))
 (.reg [o1 32 (.bin .add (.t 23) (.c (.int .i64 1))),
 o1 23 (.mv (.t 32))]))))
def b29_2 : IC := (.seq (.reg [o1 44 (.bin .lss (.t 43) (.t 42))])
 (.seq (.cond (.t 44)
 .skip
 (.exit 2))
 (.seq (.block 3
 (.seq (.reg [o1 45 (.mv (.t 43)),
 o1 5 (.mv (.t 45))])
 (.seq (.reg [o1 46 (.load 2 true (.t 1)),
 o1 47 (.mv (.t 5)),
 o1 48 (.callf 58 [(.t 46), (.t 47)]),
 o1 6 (.mv (.t 48))])
 (.seq (.reg [o1 49 (.mv (.t 6)),
 o1 50 (.bin .neq (.t 49) (.c (.int .i64 0)))])
 (.cond (.t 50)
 (.seq (.reg [o1 51 (.mv (.t 6)),
 o1 2 (.mv (.t 51))])
 .ret)
 .skip)))))
 (.reg [o1 52 (.bin .add (.t 43) (.c (.int .i64 1))),
 o1 43 (.mv (.t 52))]))))
def b29_4 : IC := (.seq (.reg [o1 59 (.bin .lss (.t 58) (.t 57))])
 (.seq (.cond (.t 59)
 .skip
 (.exit 4))
 (.seq (.block 5
 (.seq (.reg [o1 60 (.iadr 4 (.t 56) (.t 58)),
 o1 61 (.load 4 true (.t 60)),
 o1 9 (.alloc [(.str []), (.int .i64 0), (.str []), .nils]),
 o2 (.store 4 (.t 9) (.t 61))])
 (.seq (.reg [o1 62 (.mv (.t 7)),
 o1 63 (.fadr 2 (.t 9)),
 o1 64 (.load 1 false (.t 63)),
 o1 65 (.lk .s .nils false (.t 62) (.t 64)),
 o1 66 (.lens (.t 65)),
 o1 67 (.bin .eql (.t 66) (.c (.int .i64 0)))])
 (.cond (.t 67)
 (.seq (.reg [o1 2 (.mv (.c (.int .i64 10)))])
 .ret)
 .skip))))
 (.reg [o1 68 (.bin .add (.t 58) (.c (.int .i64 1))),
 o1 58 (.mv (.t 68))]))))
def r29_5 : IC := (.seq (.reg [o1 2 (.mv (.c (.int .i64 0)))])
 .ret)
def r29_3 : IC := (.seq (.reg [o1 53 (.load 2 true (.t 1)),
 o1 54 (.callf 53 [(.t 53)]),
 o1 7 (.mv (.t 54))])
 (.seq (.seq (.reg [o1 55 (.fadr 0 (.t 1)),
 o1 56 (.load 1 false (.t 55)),
 o1 57 (.lens (.t 56)),
 o1 58 (.mv (.c (.int .i64 0)))])
 (.block 4
 (.loop b29_4)))
 r29_5))
def r29_1 : IC := (.seq (.seq (.reg [o3 33 (.load 2 true (.t 1)),
 o3 34 (.callf 56 [(.t 33)]),
 o3 35 (.lens (.t 34)),
 o3 36 (.fadr 0 (.t 1)),
 o3 37 (.load 1 false (.t 36)),
 o3 38 (.lens (.t 37)),
 o1 39 (.bin .lss (.t 35) (.t 38))])
 (.cond (.t 39)
 (.seq (.reg [o1 2 (.mv (.c (.int .i64 30)))])
 .ret)
 .skip))
 (.seq (.seq (.reg [o1 40 (.fadr 1 (.t 1)),
 o1 41 (.load 1 false (.t 40)),
 o1 42 (.lens (.t 41)),
 o1 43 (.mv (.c (.int .i64 0)))])
 (.block 2
 (.loop b29_2)))
 r29_3))
def i29 : IFun := ⟨(.seq (.reg [o1 1 (.boxr (.t 0)),
 o1 2 (.mv (.c (.int .i64 0)))])
 (.seq (.seq (.reg [o1 10 (.fadr 0 (.t 1)),
 o1 11 (.load 1 false (.t 10)),
 o1 12 (.lens (.t 11)),
 o1 13 (.bin .gtr (.t 12) (.c (.int .i64 24))),
 o1 14 (.mv (.t 13)),
 o4 15 (.fadr 1 (.t 1)) 14 false,
 o4 16 (.load 1 false (.t 15)) 14 false,
 o4 17 (.lens (.t 16)) 14 false,
 o4 18 (.bin .gtr (.t 17) (.c (.int .i64 8))) 14 false,
 o1 19 (.pick (.t 14) (.c (.bool true)) (.t 18))])
 (.cond (.t 19)
 (.seq (.reg [o1 2 (.mv (.c (.int .i64 6)))])
 .ret)
 .skip))
 (.seq (.seq (.reg [o1 20 (.fadr 0 (.t 1)),
 o1 21 (.load 1 false (.t 20)),
 o1 22 (.lens (.t 21)),
 o1 23 (.mv (.c (.int .i64 0)))])
 (.block 0
 (.loop b29_0)))
 r29_1))),
 69, [.t 2], 1, [1]⟩
def i30 : IFun := ⟨(.seq (.reg [o1 0 (.alloc [.nils, .nils])])
 (.seq (.reg [o1 1 (.build [(.str []), (.int .i64 0), (.str []), .nils] [(0, 1, (.c (.str [97]))), (1, 1, (.c (.int .i64 3)))]),
 o1 2 (.bsl 1 1 [(.int .i64 0)] [(0, 1, (.c (.int .i64 0)))]),
 o1 3 (.build [(.str []), (.int .i64 0), (.str []), .nils] [(0, 1, (.c (.str [98]))), (1, 1, (.c (.int .i64 2))), (3, 1, (.t 2))]),
 o1 4 (.bsl 1 1 [(.int .i64 0)] [(0, 1, (.c (.int .i64 0)))]),
 o1 5 (.build [(.str []), (.int .i64 0), (.str []), .nils] [(0, 1, (.c (.str [99]))), (1, 1, (.c (.int .i64 4))), (3, 1, (.t 4))]),
 o1 6 (.bsl 1 3 [(.int .i64 0)] [(0, 1, (.c (.int .i64 0))), (1, 1, (.c (.int .i64 1))), (2, 1, (.c (.int .i64 2)))]),
 o1 7 (.build [(.str []), (.int .i64 0), (.str []), .nils] [(0, 1, (.c (.str [100]))), (1, 1, (.c (.int .i64 1))), (3, 1, (.t 6))]),
 o1 8 (.bsl 4 4 [(.str []), (.int .i64 0), (.str []), .nils] [(0, 4, (.t 1)), (4, 4, (.t 3)), (8, 4, (.t 5)), (12, 4, (.t 7))]),
 o1 9 (.build [(.str []), .nils] [(0, 1, (.c (.str [115])))]),
 o1 10 (.bsl 2 1 [(.str []), .nils] [(0, 2, (.t 9))]),
 o1 11 (.build [.nils, .nils] [(0, 1, (.t 8)), (1, 1, (.t 10))]),
 o2 (.store 2 (.t 0) (.t 11))])
 .ret)),
 12, [.cell 0 2 true], 1, []⟩
def b31_0 : IC := (.seq (.reg [o1 18 (.bin .lss (.t 17) (.t 16))])
 (.seq (.cond (.t 18)
 .skip
 (.exit 0))
 (.seq (.block 1
 (.seq (.reg [o1 19 (.mv (.t 17)),
 o1 20 (.iadr 4 (.t 15) (.t 17)),
 o1 21 (.load 4 true (.t 20)),
 o1 8 (.alloc [(.str []), (.int .i64 0), (.str []), .nils]),
 o1 7 (.mv (.t 19)),
 o2 (.store 4 (.t 8) (.t 21))])
 (.seq (.reg [o1 22 (.mv (.t 1)),
 o1 23 (.mv (.t 7)),
 o1 24 (.iadr 4 (.t 22) (.t 23)),
 o1 25 (.load 4 true (.t 24)),
 o1 9 (.alloc [(.str []), (.int .i64 0), (.str []), .nils]),
 o2 (.store 4 (.t 9) (.t 25))])
 (.seq (.reg [o1 26 (.mv (.t 2)),
 o1 27 (.load 4 true (.t 8)),
 o1 28 (.load 4 true (.t 9)),
 o1 29 (.callv (.t 26) [(.t 27), (.t 28)]),
 o1 30 (.un .not (.t 29))])
 (.cond (.t 30)
 (.seq (.reg [o1 6 (.mv (.c (.bool false)))])
 .ret)
 .skip)))))
 (.reg [o1 31 (.bin .add (.t 17) (.c (.int .i64 1))),
 o1 17 (.mv (.t 31))]))))
def r31_1 : IC := (.seq (.reg [o1 6 (.mv (.c (.bool true)))])
 .ret)
def i31 : IFun := ⟨(.seq (.reg [o1 6 (.mv (.c (.bool false)))])
 (.seq (.seq (.reg [o1 10 (.mv (.t 0)),
 o1 11 (.lens (.t 10)),
 o1 12 (.mv (.t 1)),
 o1 13 (.lens (.t 12)),
 o1 14 (.bin .neq (.t 11) (.t 13))])
 (.cond (.t 14)
 (.seq (.reg [o1 6 (.mv (.c (.bool false)))])
 .ret)
 .skip))
 (.seq (.seq (.reg [o1 15 (.mv (.t 0)),
 o1 16 (.lens (.t 15)),
 o1 17 (.mv (.c (.int .i64 0)))])
 (.block 0
 (.loop b31_0)))
 r31_1))),
 32, [.t 6], 1, []⟩
def i32 : IFun := ⟨(.seq (.reg [o1 2 (.boxr (.t 0)),
 o1 3 (.boxr (.t 1)),
 o1 4 (.mv (.c (.bool false)))])
 (.seq (.reg [o1 5 (.fadr 0 (.t 2)),
 o1 6 (.load 1 false (.t 5)),
 o1 7 (.fadr 0 (.t 3)),
 o1 8 (.load 1 false (.t 7)),
 o1 9 (.bin .eql (.t 6) (.t 8)),
 o1 10 (.mv (.t 9)),
 o4 11 (.fadr 1 (.t 2)) 10 true,
 o4 12 (.load 1 false (.t 11)) 10 true,
 o4 13 (.fadr 1 (.t 3)) 10 true,
 o4 14 (.load 1 false (.t 13)) 10 true,
 o4 15 (.bin .eql (.t 12) (.t 14)) 10 true,
 o1 16 (.pick (.t 10) (.t 15) (.c (.bool false))),
 o1 17 (.mv (.t 16)),
 o4 18 (.fadr 2 (.t 2)) 17 true,
 o4 19 (.load 1 false (.t 18)) 17 true,
 o4 20 (.fadr 2 (.t 3)) 17 true,
 o4 21 (.load 1 false (.t 20)) 17 true,
 o4 22 (.bin .eql (.t 19) (.t 21)) 17 true,
 o1 23 (.pick (.t 17) (.t 22) (.c (.bool false))),
 o1 24 (.mv (.t 23)),
 o4 25 (.fadr 3 (.t 2)) 24 true,
 o4 26 (.load 1 false (.t 25)) 24 true,
 o4 27 (.fadr 3 (.t 3)) 24 true,
 o4 28 (.load 1 false (.t 27)) 24 true,
 o4 29 (.callf 33 [(.t 26), (.t 28)]) 24 true,
 o1 30 (.pick (.t 24) (.t 29) (.c (.bool false))),
 o1 4 (.mv (.t 30))])
 .ret)),
 31, [.t 4], 1, [2, 3]⟩
def b33_0 : IC := (.seq (.reg [o1 14 (.bin .lss (.t 13) (.t 12))])
 (.seq (.cond (.t 14)
 .skip
 (.exit 0))
 (.seq (.block 1
 (.seq (.reg [o1 15 (.mv (.t 13)),
 o1 5 (.mv (.t 15))])
 (.seq (.reg [o3 16 (.mv (.t 0)),
 o3 17 (.mv (.t 5)),
 o3 18 (.iadr 1 (.t 16) (.t 17)),
 o3 19 (.load 1 false (.t 18)),
 o3 20 (.mv (.t 1)),
 o3 21 (.mv (.t 5)),
 o3 22 (.iadr 1 (.t 20) (.t 21)),
 o3 23 (.load 1 false (.t 22)),
 o1 24 (.bin .neq (.t 19) (.t 23))])
 (.cond (.t 24)
 (.seq (.reg [o1 4 (.mv (.c (.bool false)))])
 .ret)
 .skip))))
 (.reg [o1 25 (.bin .add (.t 13) (.c (.int .i64 1))),
 o1 13 (.mv (.t 25))]))))
def r33_1 : IC := (.seq (.reg [o1 4 (.mv (.c (.bool true)))])
 .ret)
def i33 : IFun := ⟨(.seq (.reg [o1 4 (.mv (.c (.bool false)))])
 (.seq (.seq (.reg [o1 6 (.mv (.t 0)),
 o1 7 (.lens (.t 6)),
 o1 8 (.mv (.t 1)),
 o1 9 (.lens (.t 8)),
 o1 10 (.bin .neq (.t 7) (.t 9))])
 (.cond (.t 10)
 (.seq (.reg [o1 4 (.mv (.c (.bool false)))])
 .ret)
 .skip))
 (.seq (.seq (.reg [o1 11 (.mv (.t 0)),
 o1 12 (.lens (.t 11)),
 o1 13 (.mv (.c (.int .i64 0)))])
 (.block 0
 (.loop b33_0)))
 r33_1))),
 26, [.t 4], 1, []⟩
def b34_0 : IC := (.seq (.reg [o1 18 (.bin .lss (.t 17) (.t 16))])
 (.seq (.cond (.t 18)
 .skip
 (.exit 0))
 (.seq (.block 1
 (.seq (.reg [o1 19 (.mv (.t 17)),
 o1 20 (.iadr 2 (.t 15) (.t 17)),
 o1 21 (.load 2 true (.t 20)),
 o1 8 (.alloc [(.str []), .nils]),
 o1 7 (.mv (.t 19)),
 o2 (.store 2 (.t 8) (.t 21))])
 (.seq (.reg [o1 22 (.mv (.t 1)),
 o1 23 (.mv (.t 7)),
 o1 24 (.iadr 2 (.t 22) (.t 23)),
 o1 25 (.load 2 true (.t 24)),
 o1 9 (.alloc [(.str []), .nils]),
 o2 (.store 2 (.t 9) (.t 25))])
 (.seq (.reg [o1 26 (.mv (.t 2)),
 o1 27 (.load 2 true (.t 8)),
 o1 28 (.load 2 true (.t 9)),
 o1 29 (.callv (.t 26) [(.t 27), (.t 28)]),
 o1 30 (.un .not (.t 29))])
 (.cond (.t 30)
 (.seq (.reg [o1 6 (.mv (.c (.bool false)))])
 .ret)
 .skip)))))
 (.reg [o1 31 (.bin .add (.t 17) (.c (.int .i64 1))),
 o1 17 (.mv (.t 31))]))))
def r34_1 : IC := (.seq (.reg [o1 6 (.mv (.c (.bool true)))])
 .ret)
def i34 : IFun := ⟨(.seq (.reg [o1 6 (.mv (.c (.bool false)))])
 (.seq (.seq (.reg [o1 10 (.mv (.t 0)),
 o1 11 (.lens (.t 10)),
 o1 12 (.mv (.t 1)),
 o1 13 (.lens (.t 12)),
 o1 14 (.bin .neq (.t 11) (.t 13))])
 (.cond (.t 14)
 (.seq (.reg [o1 6 (.mv (.c (.bool false)))])
 .ret)
 .skip))
 (.seq (.seq (.reg [o1 15 (.mv (.t 0)),
 o1 16 (.lens (.t 15)),
 o1 17 (.mv (.c (.int .i64 0)))])
 (.block 0
 (.loop b34_0)))
 r34_1))),
 32, [.t 6], 1, []⟩
def i35 : IFun := ⟨(.seq (.reg [o1 2 (.boxr (.t 0)),
 o1 3 (.boxr (.t 1)),
 o1 4 (.mv (.c (.bool false)))])
 (.seq (.reg [o1 5 (.fadr 0 (.t 2)),
 o1 6 (.load 1 false (.t 5)),
 o1 7 (.fadr 0 (.t 3)),
 o1 8 (.load 1 false (.t 7)),
 o1 9 (.bin .eql (.t 6) (.t 8)),
 o1 10 (.mv (.t 9)),
 o4 11 (.fadr 1 (.t 2)) 10 true,
 o4 12 (.load 1 false (.t 11)) 10 true,
 o4 13 (.fadr 1 (.t 3)) 10 true,
 o4 14 (.load 1 false (.t 13)) 10 true,
 o4 15 (.callf 36 [(.t 12), (.t 14)]) 10 true,
 o1 16 (.pick (.t 10) (.t 15) (.c (.bool false))),
 o1 4 (.mv (.t 16))])
 .ret)),
 17, [.t 4], 1, [2, 3]⟩
def b36_0 : IC := (.seq (.reg [o1 14 (.bin .lss (.t 13) (.t 12))])
 (.seq (.cond (.t 14)
 .skip
 (.exit 0))
 (.seq (.block 1
 (.seq (.reg [o1 15 (.mv (.t 13)),
 o1 5 (.mv (.t 15))])
 (.seq (.reg [o3 16 (.mv (.t 0)),
 o3 17 (.mv (.t 5)),
 o3 18 (.iadr 1 (.t 16) (.t 17)),
 o3 19 (.load 1 false (.t 18)),
 o3 20 (.mv (.t 1)),
 o3 21 (.mv (.t 5)),
 o3 22 (.iadr 1 (.t 20) (.t 21)),
 o3 23 (.load 1 false (.t 22)),
 o1 24 (.bin .neq (.t 19) (.t 23))])
 (.cond (.t 24)
 (.seq (.reg [o1 4 (.mv (.c (.bool false)))])
 .ret)
 .skip))))
 (.reg [o1 25 (.bin .add (.t 13) (.c (.int .i64 1))),
 o1 13 (.mv (.t 25))]))))
def r36_1 : IC := (.seq (.reg [o1 4 (.mv (.c (.bool true)))])
 .ret)
def i36 : IFun := ⟨(.seq (.reg [o1 4 (.mv (.c (.bool false)))])
 (.seq (.seq (.reg [o1 6 (.mv (.t 0)),
 o1 7 (.lens (.t 6)),
 o1 8 (.mv (.t 1)),
 o1 9 (.lens (.t 8)),
 o1 10 (.bin .neq (.t 7) (.t 9))])
 (.cond (.t 10)
 (.seq (.reg [o1 4 (.mv (.c (.bool false)))])
 .ret)
 .skip))
 (.seq (.seq (.reg [o1 11 (.mv (.t 0)),
 o1 12 (.lens (.t 11)),
 o1 13 (.mv (.c (.int .i64 0)))])
 (.block 0
 (.loop b36_0)))
 r36_1))),
 26, [.t 4], 1, []⟩
def b38_0 : IC := (.seq (.seq (.reg [o1 17 (.mv (.t 6)),
 o1 18 (.mv (.t 1)),
 o1 19 (.bin .lss (.t 17) (.t 18))])
 (.cond (.t 19)
 .skip
 (.exit 0)))
 (.seq (.block 1
 (.seq (.reg [o3 22 (.fadr 0 (.t 2)),
 o3 23 (.load 1 false (.t 22)),
 o3 24 (.mv (.t 6)),
 o3 25 (.iadr 4 (.t 23) (.t 24)),
 o3 26 (.fadr 0 (.t 25)),
 o3 27 (.load 1 false (.t 26)),
 o3 28 (.fadr 0 (.t 5)),
 o3 29 (.load 1 false (.t 28)),
 o1 30 (.bin .eql (.t 27) (.t 29))])
 (.cond (.t 30)
 (.seq (.reg [o1 4 (.mv (.c (.int .i64 9)))])
 .ret)
 .skip)))
 (.reg [o1 20 (.mv (.t 6)),
 o1 21 (.bin .add (.t 20) (.c (.int .i64 1))),
 o1 6 (.mv (.t 21))])))
def b38_2 : IC := (.seq (.seq (.reg [o1 50 (.mv (.t 7)),
 o1 51 (.fadr 3 (.t 5)),
 o1 52 (.load 1 false (.t 51)),
 o1 53 (.lens (.t 52)),
 o1 54 (.bin .lss (.t 50) (.t 53))])
 (.cond (.t 54)
 .skip
 (.exit 3)))
 (.seq (.block 4
 (.block 5
 (.seq (.reg [o1 58 (.fadr 3 (.t 5)),
 o1 59 (.load 1 false (.t 58)),
 o3 60 (.mv (.t 7)),
 o1 61 (.iadr 1 (.t 59) (.t 60)),
 o1 62 (.load 1 false (.t 61)),
 o1 63 (.bin .lss (.t 62) (.c (.int .i64 0))),
 o1 64 (.mv (.t 63)),
 ⟨some 65, .fadr 3 (.t 5), (some (64, false)), false⟩,
 ⟨some 66, .load 1 false (.t 65), (some (64, false)), false⟩,
 ⟨some 67, .mv (.t 7), (some (64, false)), false⟩,
 ⟨some 68, .iadr 1 (.t 66) (.t 67), (some (64, false)), false⟩,
 ⟨some 69, .load 1 false (.t 68), (some (64, false)), false⟩,
 ⟨some 70, .fadr 0 (.t 2), (some (64, false)), false⟩,
 ⟨some 71, .load 1 false (.t 70), (some (64, false)), false⟩,
 ⟨some 72, .lens (.t 71), (some (64, false)), false⟩,
 o4 73 (.bin .geq (.t 69) (.t 72)) 64 false,
 o1 74 (.pick (.t 64) (.c (.bool true)) (.t 73)),
 o1 57 (.mv (.t 74))])
 (.cond (.t 57)
 (.seq (.reg [o1 4 (.mv (.c (.int .i64 2)))])
 .ret)
 (.seq (.reg [o1 76 (.fadr 3 (.t 5)),
 o1 77 (.load 1 false (.t 76)),
 o1 78 (.mv (.t 7)),
 o1 79 (.iadr 1 (.t 77) (.t 78)),
 o1 80 (.load 1 false (.t 79)),
 o1 81 (.mv (.t 1)),
 o1 82 (.bin .eql (.t 80) (.t 81)),
 o1 75 (.mv (.t 82))])
 (.cond (.t 75)
 (.seq (.reg [o1 4 (.mv (.c (.int .i64 17)))])
 .ret)
 (.seq (.reg [o1 84 (.mv (.t 7)),
 o1 85 (.bin .gtr (.t 84) (.c (.int .i64 0))),
 o1 86 (.mv (.t 85)),
 ⟨some 87, .fadr 3 (.t 5), (some (86, true)), false⟩,
 ⟨some 88, .load 1 false (.t 87), (some (86, true)), false⟩,
 ⟨some 89, .mv (.t 7), (some (86, true)), false⟩,
 ⟨some 90, .iadr 1 (.t 88) (.t 89), (some (86, true)), false⟩,
 ⟨some 91, .load 1 false (.t 90), (some (86, true)), false⟩,
 ⟨some 92, .fadr 3 (.t 5), (some (86, true)), false⟩,
 ⟨some 93, .load 1 false (.t 92), (some (86, true)), false⟩,
 ⟨some 94, .mv (.t 7), (some (86, true)), false⟩,
 ⟨some 95, .bin .sub (.t 94) (.c (.int .i64 1)), (some (86, true)), false⟩,
 ⟨some 96, .iadr 1 (.t 93) (.t 95), (some (86, true)), false⟩,
 ⟨some 97, .load 1 false (.t 96), (some (86, true)), false⟩,
 o4 98 (.bin .leq (.t 91) (.t 97)) 86 true,
 o1 99 (.pick (.t 86) (.t 98) (.c (.bool false))),
 o1 83 (.mv (.t 99))])
 (.cond (.t 83)
 (.seq (.reg [o1 4 (.mv (.c (.int .i64 8)))])
 .ret)
 .skip))))))))
 (.reg [o1 55 (.mv (.t 7)),
 o1 56 (.bin .add (.t 55) (.c (.int .i64 1))),
 o1 7 (.mv (.t 56))])))
def r38_3 : IC := (.seq (.reg [o1 4 (.mv (.c (.int .i64 0)))])
 .ret)
def r38_1 : IC := (.seq (.block 2
 (.seq (.reg [o1 32 (.fadr 1 (.t 5)),
 o1 33 (.load 1 false (.t 32)),
 o1 34 (.bin .lss (.t 33) (.c (.int .i64 1))),
 o1 35 (.mv (.t 34)),
 o4 36 (.fadr 1 (.t 5)) 35 false,
 o4 37 (.load 1 false (.t 36)) 35 false,
 o4 38 (.bin .gtr (.t 37) (.c (.int .i64 1048576))) 35 false,
 o1 39 (.pick (.t 35) (.c (.bool true)) (.t 38)),
 o1 31 (.mv (.t 39))])
 (.cond (.t 31)
 (.seq (.reg [o1 4 (.mv (.c (.int .i64 2)))])
 .ret)
 (.seq (.reg [o1 41 (.fadr 2 (.t 5)),
 o1 42 (.load 1 false (.t 41)),
 o1 43 (.bin .neq (.t 42) (.c (.str []))),
 o1 44 (.mv (.t 43)),
 o4 45 (.fadr 2 (.t 5)) 44 true,
 o4 46 (.load 1 false (.t 45)) 44 true,
 o4 47 (.callf 59 [(.t 46)]) 44 true,
 o4 48 (.un .not (.t 47)) 44 true,
 o1 49 (.pick (.t 44) (.t 48) (.c (.bool false))),
 o1 40 (.mv (.t 49))])
 (.cond (.t 40)
 (.seq (.reg [o1 4 (.mv (.c (.int .i64 11)))])
 .ret)
 .skip)))))
 (.seq (.seq (.reg [o1 7 (.mv (.c (.int .i64 0)))])
 (.block 3
 (.loop b38_2)))
 r38_3))
def i38 : IFun := ⟨(.seq (.reg [o1 2 (.boxr (.t 0)),
 o1 4 (.mv (.c (.int .i64 0)))])
 (.seq (.reg [o1 8 (.fadr 0 (.t 2)),
 o1 9 (.load 1 false (.t 8)),
 o1 10 (.mv (.t 1)),
 o1 11 (.iadr 4 (.t 9) (.t 10)),
 o1 12 (.load 4 true (.t 11)),
 o1 5 (.alloc [(.str []), (.int .i64 0), (.str []), .nils]),
 o2 (.store 4 (.t 5) (.t 12))])
 (.seq (.seq (.reg [o1 13 (.fadr 0 (.t 5)),
 o1 14 (.load 1 false (.t 13)),
 o1 15 (.callf 59 [(.t 14)]),
 o1 16 (.un .not (.t 15))])
 (.cond (.t 16)
 (.seq (.reg [o1 4 (.mv (.c (.int .i64 11)))])
 .ret)
 .skip))
 (.seq (.seq (.reg [o1 6 (.mv (.c (.int .i64 0)))])
 (.block 0
 (.loop b38_0)))
 r38_1)))),
 100, [.t 4], 1, [2]⟩
def b39_0 : IC := (.seq (.reg [o1 29 (.bin .lss (.t 28) (.t 27))])
 (.seq (.cond (.t 29)
 .skip
 (.exit 0))
 (.seq (.block 1
 (.seq (.seq (.reg [o1 30 (.iadr 2 (.t 26) (.t 28)),
 o1 31 (.load 2 true (.t 30)),
 o1 8 (.alloc [(.int .i64 0), (.int .i64 0)]),
 o2 (.store 2 (.t 8) (.t 31))])
 (.frz 8))
 (.reg [o1 32 (.mv (.t 5)),
 o1 33 (.fadr 1 (.t 8)),
 o1 34 (.loadr 1 false (.t 33)),
 o1 35 (.iadr 1 (.t 32) (.t 34)),
 o1 36 (.load 1 false (.t 35)),
 o1 37 (.bin .add (.t 36) (.c (.int .i64 1))),
 o1 38 (.iadr 1 (.t 32) (.t 34)),
 o2 (.store 1 (.t 38) (.t 37))])))
 (.reg [o1 39 (.bin .add (.t 28) (.c (.int .i64 1))),
 o1 28 (.mv (.t 39))]))))
def b39_3 : IC := (.seq (.seq (.reg [o1 46 (.mv (.t 11)),
 o1 47 (.fadr 0 (.t 1)),
 o1 48 (.load 1 false (.t 47)),
 o1 49 (.bin .lss (.t 46) (.t 48)),
 o1 50 (.mv (.t 49)),
 o4 51 (.mv (.t 6)) 50 true,
 o4 52 (.mv (.t 11)) 50 true,
 o4 53 (.iadr 1 (.t 51) (.t 52)) 50 true,
 o4 54 (.load 1 false (.t 53)) 50 true,
 o4 55 (.mv (.t 54)) 50 true,
 o4 56 (.mv (.t 5)) 55 false,
 o4 57 (.mv (.t 11)) 55 false,
 o4 58 (.iadr 1 (.t 56) (.t 57)) 55 false,
 o4 59 (.load 1 false (.t 58)) 55 false,
 o4 60 (.bin .gtr (.t 59) (.c (.int .i64 0))) 55 false,
 o4 61 (.pick (.t 55) (.c (.bool true)) (.t 60)) 50 true,
 o1 62 (.pick (.t 50) (.t 61) (.c (.bool false)))])
 (.cond (.t 62)
 .skip
 (.exit 4)))
 (.block 5
 (.reg [o1 63 (.mv (.t 11)),
 o1 64 (.bin .add (.t 63) (.c (.int .i64 1))),
 o1 11 (.mv (.t 64))])))
def b39_5 : IC := (.seq (.reg [o1 82 (.bin .lss (.t 81) (.t 80))])
 (.seq (.cond (.t 82)
 .skip
 (.exit 6))
 (.seq (.block 7
 (.seq (.reg [o1 83 (.iadr 1 (.t 79) (.t 81)),
 o1 84 (.load 1 false (.t 83)),
 o1 13 (.mv (.t 84))])
 (.reg [o1 85 (.mv (.t 5)),
 o1 86 (.mv (.t 13)),
 o1 87 (.iadr 1 (.t 85) (.t 86)),
 o1 88 (.load 1 false (.t 87)),
 o1 89 (.bin .sub (.t 88) (.c (.int .i64 1))),
 o1 90 (.iadr 1 (.t 85) (.t 86)),
 o2 (.store 1 (.t 90) (.t 89))])))
 (.reg [o1 91 (.bin .add (.t 81) (.c (.int .i64 1))),
 o1 81 (.mv (.t 91))]))))
def r39_4 : IC := (.seq (.seq (.reg [o1 65 (.mv (.t 11)),
 o1 66 (.fadr 0 (.t 1)),
 o1 67 (.load 1 false (.t 66)),
 o1 68 (.bin .eql (.t 65) (.t 67))])
 (.cond (.t 68)
 (.seq (.reg [o1 2 (.mv (.c .nils)),
 o1 3 (.mv (.c (.int .i64 30)))])
 .ret)
 .skip))
 (.seq (.reg [o1 69 (.mv (.t 6)),
 o1 70 (.mv (.t 11)),
 o1 71 (.iadr 1 (.t 69) (.t 70)),
 o2 (.store 1 (.t 71) (.c (.bool true)))])
 (.seq (.reg [o1 72 (.mv (.t 10)),
 o1 73 (.mv (.t 11)),
 o1 74 (.bsl 1 1 [(.int .i64 0)] [(0, 1, (.t 73))]),
 o1 75 (.app 1 8 (.t 72) (.t 74)),
 o1 10 (.mv (.t 75))])
 (.seq (.reg [o1 76 (.mv (.t 9)),
 o1 77 (.mv (.t 11)),
 o1 78 (.iadr 1 (.t 76) (.t 77)),
 o1 79 (.load 1 false (.t 78)),
 o1 80 (.lens (.t 79)),
 o1 81 (.mv (.c (.int .i64 0)))])
 (.block 6
 (.loop b39_5))))))
def r39_6 : IC := (.reg [o1 92 (.bin .add (.t 44) (.c (.int .i64 1))),
 o1 44 (.mv (.t 92))])
def b39_2 : IC := (.seq (.reg [o1 45 (.bin .lss (.t 44) (.t 43))])
 (.seq (.cond (.t 45)
 .skip
 (.exit 2))
 (.seq (.block 3
 (.seq (.reg [o1 11 (.mv (.c (.int .i64 0)))])
 (.seq (.block 4
 (.loop b39_3))
 r39_4)))
 r39_6)))
def r39_7 : IC := (.seq (.reg [o1 93 (.mv (.t 10)),
 o1 2 (.mv (.t 93)),
 o1 3 (.mv (.c (.int .i64 0)))])
 .ret)
def r39_1 : IC := (.seq (.reg [o1 40 (.load 2 true (.t 1)),
 o1 41 (.callf 61 [(.t 40)]),
 o1 9 (.mv (.t 41))])
 (.seq (.reg [o1 10 (.mv (.c .nils))])
 (.seq (.seq (.reg [o1 42 (.fadr 0 (.t 1)),
 o1 43 (.load 1 false (.t 42)),
 o1 44 (.mv (.c (.int .i64 0)))])
 (.block 2
 (.loop b39_2)))
 r39_7)))
def i39 : IFun := ⟨(.seq (.reg [o1 1 (.boxr (.t 0)),
 o1 2 (.mv (.c .nils)),
 o1 3 (.mv (.c (.int .i64 0)))])
 (.seq (.seq (.reg [o1 14 (.load 2 true (.t 1)),
 o1 15 (.callf 60 [(.t 14)]),
 o1 4 (.mv (.t 15))])
 (.seq (.reg [o1 16 (.mv (.t 4)),
 o1 17 (.bin .neq (.t 16) (.c (.int .i64 0)))])
 (.cond (.t 17)
 (.seq (.reg [o1 18 (.mv (.t 4)),
 o1 2 (.mv (.c .nils)),
 o1 3 (.mv (.t 18))])
 .ret)
 .skip)))
 (.seq (.reg [o3 19 (.fadr 0 (.t 1)),
 o3 20 (.load 1 false (.t 19)),
 o3 21 (.mks 1 8 [(.int .i64 0)] (.t 20) (.t 20)),
 o3 22 (.fadr 0 (.t 1)),
 o3 23 (.load 1 false (.t 22)),
 o3 24 (.mks 1 1 [(.bool false)] (.t 23) (.t 23)),
 o3 5 (.mv (.t 21)),
 o1 6 (.mv (.t 24))])
 (.seq (.seq (.reg [o1 25 (.fadr 1 (.t 1)),
 o1 26 (.load 1 false (.t 25)),
 o1 27 (.lens (.t 26)),
 o1 28 (.mv (.c (.int .i64 0)))])
 (.block 0
 (.loop b39_0)))
 r39_1)))),
 94, [.t 2, .t 3], 1, [1, 8, 1000033]⟩
def b40_1 : IC := (.seq (.reg [o1 24 (.bin .lss (.t 23) (.t 22))])
 (.seq (.cond (.t 24)
 .skip
 (.exit 2))
 (.seq (.block 3
 (.seq (.reg [o1 25 (.iadr 1 (.t 21) (.t 23)),
 o1 26 (.load 1 false (.t 25)),
 o1 6 (.mv (.t 26))])
 (.reg [o1 27 (.mv (.t 3)),
 o1 28 (.mv (.t 6)),
 o1 29 (.mv (.t 4)),
 o1 30 (.build [(.int .i64 0), (.int .i64 0)] [(0, 1, (.t 28)), (1, 1, (.t 29))]),
 o1 31 (.bsl 2 1 [(.int .i64 0), (.int .i64 0)] [(0, 2, (.t 30))]),
 o1 32 (.app 2 16 (.t 27) (.t 31)),
 o1 3 (.mv (.t 32))])))
 (.reg [o1 33 (.bin .add (.t 23) (.c (.int .i64 1))),
 o1 23 (.mv (.t 33))]))))
def r40_2 : IC := (.reg [o1 14 (.mv (.t 4)),
 o1 15 (.bin .add (.t 14) (.c (.int .i64 1))),
 o1 4 (.mv (.t 15))])
def b40_0 : IC := (.seq (.seq (.reg [o1 9 (.mv (.t 4)),
 o1 10 (.fadr 0 (.t 1)),
 o1 11 (.load 1 false (.t 10)),
 o1 12 (.lens (.t 11)),
 o1 13 (.bin .lss (.t 9) (.t 12))])
 (.cond (.t 13)
 .skip
 (.exit 0)))
 (.seq (.block 1
 (.seq (.reg [o1 16 (.fadr 0 (.t 1)),
 o1 17 (.load 1 false (.t 16)),
 o1 18 (.mv (.t 4)),
 o1 19 (.iadr 4 (.t 17) (.t 18)),
 o1 20 (.fadr 3 (.t 19)),
 o1 21 (.load 1 false (.t 20)),
 o1 22 (.lens (.t 21)),
 o1 23 (.mv (.c (.int .i64 0)))])
 (.block 2
 (.loop b40_1))))
 r40_2))
def r40_3 : IC := (.seq (.reg [o1 35 (.fadr 0 (.t 1)),
 o1 36 (.load 1 false (.t 35)),
 o1 37 (.lens (.t 36)),
 o1 38 (.mv (.t 3)),
 o1 39 (.callf 62 [(.t 37), (.t 38)]),
 o1 34 (.mv (.t 39)),
 o1 40 (.ext 0 (.t 34)),
 o1 41 (.ext 1 (.t 34)),
 o1 7 (.alloc [(.int .i64 0), .nils]),
 o2 (.store 2 (.t 7) (.t 40)),
 o1 8 (.mv (.t 41))])
 (.seq (.reg [o1 42 (.load 2 true (.t 7)),
 o2 (.store 2 (.t 2) (.t 42))])
 .ret))
def i40 : IFun := ⟨(.seq (.reg [o1 1 (.boxr (.t 0)),
 o1 2 (.alloc [(.int .i64 0), .nils])])
 (.seq (.reg [o1 3 (.mv (.c .nils))])
 (.seq (.seq (.reg [o1 4 (.mv (.c (.int .i64 0)))])
 (.block 0
 (.loop b40_0)))
 r40_3))),
 43, [.cell 2 2 true], 1, [1]⟩
def b41_0 : IC := (.seq (.seq (.reg [o1 17 (.mv (.t 6)),
 o1 18 (.mv (.t 1)),
 o1 19 (.bin .lss (.t 17) (.t 18))])
 (.cond (.t 19)
 .skip
 (.exit 0)))
 (.seq (.block 1
 (.seq (.reg [o3 22 (.fadr 1 (.t 2)),
 o3 23 (.load 1 false (.t 22)),
 o3 24 (.mv (.t 6)),
 o3 25 (.iadr 2 (.t 23) (.t 24)),
 o3 26 (.fadr 0 (.t 25)),
 o3 27 (.load 1 false (.t 26)),
 o3 28 (.fadr 0 (.t 5)),
 o3 29 (.load 1 false (.t 28)),
 o1 30 (.bin .eql (.t 27) (.t 29))])
 (.cond (.t 30)
 (.seq (.reg [o1 4 (.mv (.c (.int .i64 9)))])
 .ret)
 .skip)))
 (.reg [o1 20 (.mv (.t 6)),
 o1 21 (.bin .add (.t 20) (.c (.int .i64 1))),
 o1 6 (.mv (.t 21))])))
def b41_2 : IC := (.seq (.seq (.reg [o1 35 (.mv (.t 7)),
 o1 36 (.fadr 1 (.t 5)),
 o1 37 (.load 1 false (.t 36)),
 o1 38 (.lens (.t 37)),
 o1 39 (.bin .lss (.t 35) (.t 38))])
 (.cond (.t 39)
 .skip
 (.exit 2)))
 (.seq (.block 3
 (.seq (.seq (.reg [o1 42 (.fadr 1 (.t 5)),
 o1 43 (.load 1 false (.t 42)),
 o1 44 (.mv (.t 7)),
 o1 45 (.iadr 1 (.t 43) (.t 44)),
 o1 46 (.load 1 false (.t 45)),
 o1 47 (.callf 59 [(.t 46)]),
 o1 48 (.un .not (.t 47))])
 (.cond (.t 48)
 (.seq (.reg [o1 4 (.mv (.c (.int .i64 11)))])
 .ret)
 .skip))
 (.seq (.reg [o1 49 (.mv (.t 7)),
 o1 50 (.bin .gtr (.t 49) (.c (.int .i64 0))),
 o1 51 (.mv (.t 50)),
 ⟨some 52, .fadr 1 (.t 5), (some (51, true)), false⟩,
 ⟨some 53, .load 1 false (.t 52), (some (51, true)), false⟩,
 ⟨some 54, .mv (.t 7), (some (51, true)), false⟩,
 ⟨some 55, .iadr 1 (.t 53) (.t 54), (some (51, true)), false⟩,
 ⟨some 56, .load 1 false (.t 55), (some (51, true)), false⟩,
 ⟨some 57, .fadr 1 (.t 5), (some (51, true)), false⟩,
 ⟨some 58, .load 1 false (.t 57), (some (51, true)), false⟩,
 ⟨some 59, .mv (.t 7), (some (51, true)), false⟩,
 ⟨some 60, .bin .sub (.t 59) (.c (.int .i64 1)), (some (51, true)), false⟩,
 ⟨some 61, .iadr 1 (.t 58) (.t 60), (some (51, true)), false⟩,
 ⟨some 62, .load 1 false (.t 61), (some (51, true)), false⟩,
 o4 63 (.bin .leq (.t 56) (.t 62)) 51 true,
 o1 64 (.pick (.t 51) (.t 63) (.c (.bool false)))])
 (.cond (.t 64)
 (.seq (.reg [o1 4 (.mv (.c (.int .i64 8)))])
 .ret)
 .skip))))
 (.reg [o1 40 (.mv (.t 7)),
 o1 41 (.bin .add (.t 40) (.c (.int .i64 1))),
 o1 7 (.mv (.t 41))])))
def r41_3 : IC := (.seq (.reg [o1 4 (.mv (.c (.int .i64 0)))])
 .ret)
def r41_1 : IC := (.seq (.seq (.reg [o1 31 (.fadr 1 (.t 5)),
 o1 32 (.load 1 false (.t 31)),
 o1 33 (.lens (.t 32)),
 o1 34 (.bin .gtr (.t 33) (.c (.int .i64 16)))])
 (.cond (.t 34)
 (.seq (.reg [o1 4 (.mv (.c (.int .i64 6)))])
 .ret)
 .skip))
 (.seq (.seq (.reg [o1 7 (.mv (.c (.int .i64 0)))])
 (.block 2
 (.loop b41_2)))
 r41_3))
def i41 : IFun := ⟨(.seq (.reg [o1 2 (.boxr (.t 0)),
 o1 4 (.mv (.c (.int .i64 0)))])
 (.seq (.reg [o1 8 (.fadr 1 (.t 2)),
 o1 9 (.load 1 false (.t 8)),
 o1 10 (.mv (.t 1)),
 o1 11 (.iadr 2 (.t 9) (.t 10)),
 o1 12 (.load 2 true (.t 11)),
 o1 5 (.alloc [(.str []), .nils]),
 o2 (.store 2 (.t 5) (.t 12))])
 (.seq (.seq (.reg [o1 13 (.fadr 0 (.t 5)),
 o1 14 (.load 1 false (.t 13)),
 o1 15 (.callf 59 [(.t 14)]),
 o1 16 (.un .not (.t 15))])
 (.cond (.t 16)
 (.seq (.reg [o1 4 (.mv (.c (.int .i64 11)))])
 .ret)
 .skip))
 (.seq (.seq (.reg [o1 6 (.mv (.c (.int .i64 0)))])
 (.block 0
 (.loop b41_0)))
 r41_1)))),
 65, [.t 4], 1, [2]⟩
def b42_1 : IC := (.seq (.reg [o1 43 (.bin .lss (.t 42) (.t 41))])
 (.seq (.cond (.t 43)
 .skip
 (.exit 2))
 (.seq (.block 3
 (.seq (.reg [o1 44 (.iadr 1 (.t 40) (.t 42)),
 o1 45 (.load 1 false (.t 44)),
 o1 8 (.mv (.t 45))])
 (.reg [o3 46 (.mv (.t 3)),
 o3 47 (.mv (.t 8)),
 o3 48 (.mv (.t 3)),
 o3 49 (.mv (.t 8)),
 o3 50 (.iadr 1 (.t 48) (.t 49)),
 o3 51 (.load 1 false (.t 50)),
 o3 52 (.mv (.t 3)),
 o3 53 (.mv (.t 6)),
 o3 54 (.iadr 1 (.t 52) (.t 53)),
 o3 55 (.load 1 false (.t 54)),
 o1 56 (.maxi (.t 51) (.t 55)),
 o1 57 (.iadr 1 (.t 46) (.t 47)),
 o2 (.store 1 (.t 57) (.t 56))])))
 (.reg [o1 58 (.bin .add (.t 42) (.c (.int .i64 1))),
 o1 42 (.mv (.t 58))]))))
def r42_2 : IC := (.reg [o1 59 (.bin .add (.t 19) (.c (.int .i64 1))),
 o1 19 (.mv (.t 59))])
def b42_0 : IC := (.seq (.reg [o1 20 (.bin .lss (.t 19) (.t 18))])
 (.seq (.cond (.t 20)
 .skip
 (.exit 0))
 (.seq (.block 1
 (.seq (.reg [o1 21 (.iadr 1 (.t 17) (.t 19)),
 o1 22 (.load 1 false (.t 21)),
 o1 6 (.mv (.t 22))])
 (.seq (.reg [o3 23 (.mv (.t 3)),
 o3 24 (.mv (.t 6)),
 o3 25 (.iadr 1 (.t 23) (.t 24)),
 o3 26 (.load 1 false (.t 25)),
 o3 27 (.fadr 0 (.t 1)),
 o3 28 (.load 1 false (.t 27)),
 o3 29 (.mv (.t 6)),
 o3 30 (.iadr 4 (.t 28) (.t 29)),
 o3 31 (.fadr 1 (.t 30)),
 o3 32 (.load 1 false (.t 31)),
 o1 33 (.bin .add (.t 26) (.t 32)),
 o1 34 (.iadr 1 (.t 23) (.t 24)),
 o2 (.store 1 (.t 34) (.t 33))])
 (.seq (.reg [o1 35 (.fadr 0 (.t 1)),
 o1 36 (.load 1 false (.t 35)),
 o1 37 (.mv (.t 6)),
 o1 38 (.iadr 4 (.t 36) (.t 37)),
 o1 39 (.fadr 3 (.t 38)),
 o1 40 (.load 1 false (.t 39)),
 o1 41 (.lens (.t 40)),
 o1 42 (.mv (.c (.int .i64 0)))])
 (.block 2
 (.loop b42_1))))))
 r42_2)))
def r42_3 : IC := (.seq (.reg [o1 60 (.mv (.t 3)),
 o1 2 (.mv (.t 60))])
 .ret)
def i42 : IFun := ⟨(.seq (.reg [o1 1 (.boxr (.t 0)),
 o1 2 (.mv (.c .nils))])
 (.seq (.reg [o1 9 (.fadr 0 (.t 1)),
 o1 10 (.load 1 false (.t 9)),
 o1 11 (.lens (.t 10)),
 o1 12 (.mks 1 8 [(.int .i64 0)] (.t 11) (.t 11)),
 o1 3 (.mv (.t 12))])
 (.seq (.reg [o1 13 (.load 2 true (.t 1)),
 o1 14 (.callf 56 [(.t 13)]),
 o1 4 (.mv (.t 14))])
 (.seq (.reg [o1 15 (.mv (.t 4)),
 o1 16 (.callf 63 [(.t 15)])])
 (.seq (.seq (.reg [o1 17 (.mv (.t 4)),
 o1 18 (.lens (.t 17)),
 o1 19 (.mv (.c (.int .i64 0)))])
 (.block 0
 (.loop b42_0)))
 r42_3))))),
 61, [.t 2], 1, [1]⟩
def b43_1 : IC := (.seq (.seq (.reg [o1 12 (.mv (.t 4)),
 o1 13 (.mv (.t 0)),
 o1 14 (.lens (.t 13)),
 o1 15 (.bin .lss (.t 12) (.t 14))])
 (.cond (.t 15)
 .skip
 (.exit 0)))
 (.seq (.block 1
 (.reg [o1 18 (.mv (.t 3)),
 o1 19 (.mv (.t 0)),
 o1 20 (.mv (.t 4)),
 o1 21 (.iadr 1 (.t 19) (.t 20)),
 o1 22 (.load 1 false (.t 21)),
 o1 23 (.maxi (.t 18) (.t 22)),
 o1 3 (.mv (.t 23))]))
 (.reg [o1 16 (.mv (.t 4)),
 o1 17 (.bin .add (.t 16) (.c (.int .i64 1))),
 o1 4 (.mv (.t 17))])))
def r43_2 : IC := (.seq (.reg [o1 24 (.mv (.t 3)),
 o1 2 (.mv (.t 24))])
 .ret)
def r43_0 : IC := (.seq (.reg [o1 9 (.mv (.t 0)),
 o1 10 (.iadr 1 (.t 9) (.c (.int .i64 0))),
 o1 11 (.load 1 false (.t 10)),
 o1 3 (.mv (.t 11))])
 (.seq (.seq (.reg [o1 4 (.mv (.c (.int .i64 1)))])
 (.block 0
 (.loop b43_1)))
 r43_2))
def i43 : IFun := ⟨(.seq (.reg [o1 2 (.mv (.c (.int .i64 0)))])
 (.seq (.seq (.reg [o1 5 (.mv (.t 0)),
 o1 6 (.lens (.t 5)),
 o1 7 (.bin .lss (.t 6) (.c (.int .i64 1)))])
 (.cond (.t 7)
 (.reg [o1 8 (.bad),
 o2 (.bad)])
 .skip))
 r43_0)),
 25, [.t 2], 1, []⟩
def b44_0 : IC := (.seq (.reg [o1 14 (.bin .lss (.t 13) (.t 12))])
 (.seq (.cond (.t 14)
 .skip
 (.exit 0))
 (.seq (.block 1
 (.seq (.seq (.reg [o1 15 (.mv (.t 13)),
 o1 16 (.iadr 4 (.t 11) (.t 13)),
 o1 17 (.load 4 true (.t 16)),
 o1 9 (.alloc [(.str []), (.int .i64 0), (.str []), .nils]),
 o1 8 (.mv (.t 15)),
 o2 (.store 4 (.t 9) (.t 17))])
 (.frz 9))
 (.seq (.reg [o1 18 (.mv (.t 1)),
 o1 19 (.bin .gtr (.t 18) (.c (.int .i64 0))),
 o1 20 (.mv (.t 19)),
 o4 21 (.load 1 false (.t 3)) 20 true,
 o4 22 (.mv (.t 8)) 20 true,
 o4 23 (.iadr 1 (.t 21) (.t 22)) 20 true,
 o4 24 (.load 1 false (.t 23)) 20 true,
 o4 25 (.mv (.t 1)) 20 true,
 o4 26 (.bin .eql (.t 24) (.t 25)) 20 true,
 o1 27 (.pick (.t 20) (.t 26) (.c (.bool false))),
 o1 28 (.mv (.t 27)),
 o4 29 (.mv (.t 0)) 28 true,
 o4 30 (.bin .lss (.t 29) (.c (.int .i64 0))) 28 true,
 o4 31 (.mv (.t 30)) 28 true,
 o4 32 (.fadr 3 (.t 9)) 31 false,
 o4 33 (.loadr 1 false (.t 32)) 31 false,
 o4 34 (.mv (.t 0)) 31 false,
 o4 35 (.callf 45 [(.t 33), (.t 34)]) 31 false,
 o4 36 (.pick (.t 31) (.c (.bool true)) (.t 35)) 28 true,
 o1 37 (.pick (.t 28) (.t 36) (.c (.bool false)))])
 (.cond (.t 37)
 (.seq (.reg [o1 38 (.load 1 false (.t 4)),
 o1 39 (.mv (.t 8)),
 o1 40 (.bsl 1 1 [(.int .i64 0)] [(0, 1, (.t 39))]),
 o1 41 (.app 1 8 (.t 38) (.t 40)),
 o2 (.store 1 (.t 4) (.t 41))])
 (.seq (.reg [o1 42 (.load 1 false (.t 5)),
 o1 43 (.mv (.t 8)),
 o1 44 (.mv (.t 1)),
 o1 45 (.fadr 1 (.t 9)),
 o1 46 (.loadr 1 false (.t 45)),
 o1 47 (.bin .sub (.t 44) (.t 46)),
 o1 48 (.callv (.t 42) [(.t 43), (.t 47)])])
 .ret))
 .skip))))
 (.reg [o1 49 (.bin .add (.t 13) (.c (.int .i64 1))),
 o1 13 (.mv (.t 49))]))))
def i44 : IFun := ⟨(.seq (.reg [o1 10 (.fadr 0 (.t 2)),
 o1 11 (.load 1 false (.t 10)),
 o1 12 (.lens (.t 11)),
 o1 13 (.mv (.c (.int .i64 0)))])
 (.block 0
 (.loop b44_0))),
 50, [], 0, [9, 1000045, 1000032]⟩
def i45 : IFun := ⟨(.seq (.reg [o1 4 (.mv (.c (.bool false)))])
 (.seq (.reg [o1 5 (.mv (.t 0)),
 o1 6 (.mv (.t 1)),
 o1 7 (.callf 64 [(.t 5), (.t 6)]),
 o1 8 (.bin .geq (.t 7) (.c (.int .i64 0))),
 o1 4 (.mv (.t 8))])
 .ret)),
 9, [.t 4], 1, []⟩
def b46_2 : IC := (.seq (.reg [o1 51 (.bin .lss (.t 50) (.t 49))])
 (.seq (.cond (.t 51)
 .skip
 (.exit 4))
 (.seq (.block 5
 (.seq (.reg [o1 52 (.mv (.t 50)),
 o1 53 (.iadr 1 (.t 48) (.t 50)),
 o1 54 (.load 1 false (.t 53)),
 o1 8 (.mv (.t 52)),
 o1 9 (.mv (.t 54))])
 (.reg [o3 55 (.mv (.t 3)),
 o3 56 (.mv (.t 5)),
 o3 57 (.iadr 1 (.t 55) (.t 56)),
 o3 58 (.load 1 false (.t 57)),
 o3 59 (.mv (.t 8)),
 o3 60 (.mv (.t 3)),
 o3 61 (.mv (.t 5)),
 o3 62 (.iadr 1 (.t 60) (.t 61)),
 o3 63 (.load 1 false (.t 62)),
 o3 64 (.mv (.t 8)),
 o3 65 (.iadr 1 (.t 63) (.t 64)),
 o3 66 (.load 1 false (.t 65)),
 o3 67 (.mv (.t 66)),
 ⟨some 68, .mv (.t 9), (some (67, false)), false⟩,
 o3 69 (.pick (.t 67) (.c (.bool true)) (.t 68)),
 o1 70 (.iadr 1 (.t 58) (.t 59)),
 o2 (.store 1 (.t 70) (.t 69))])))
 (.reg [o1 71 (.bin .add (.t 50) (.c (.int .i64 1))),
 o1 50 (.mv (.t 71))]))))
def r46_3 : IC := (.reg [o1 72 (.bin .add (.t 35) (.c (.int .i64 1))),
 o1 35 (.mv (.t 72))])
def b46_1 : IC := (.seq (.reg [o1 36 (.bin .lss (.t 35) (.t 34))])
 (.seq (.cond (.t 36)
 .skip
 (.exit 2))
 (.seq (.block 3
 (.seq (.reg [o1 37 (.iadr 1 (.t 33) (.t 35)),
 o1 38 (.load 1 false (.t 37)),
 o1 7 (.mv (.t 38))])
 (.seq (.reg [o1 39 (.mv (.t 3)),
 o1 40 (.mv (.t 5)),
 o1 41 (.iadr 1 (.t 39) (.t 40)),
 o1 42 (.load 1 false (.t 41)),
 o1 43 (.mv (.t 7)),
 o1 44 (.iadr 1 (.t 42) (.t 43)),
 o2 (.store 1 (.t 44) (.c (.bool true)))])
 (.seq (.reg [o1 45 (.mv (.t 3)),
 o1 46 (.mv (.t 7)),
 o1 47 (.iadr 1 (.t 45) (.t 46)),
 o1 48 (.load 1 false (.t 47)),
 o1 49 (.lens (.t 48)),
 o1 50 (.mv (.c (.int .i64 0)))])
 (.block 4
 (.loop b46_2))))))
 r46_3)))
def r46_4 : IC := (.reg [o1 73 (.bin .add (.t 17) (.c (.int .i64 1))),
 o1 17 (.mv (.t 73))])
def b46_0 : IC := (.seq (.reg [o1 18 (.bin .lss (.t 17) (.t 16))])
 (.seq (.cond (.t 18)
 .skip
 (.exit 0))
 (.seq (.block 1
 (.seq (.reg [o1 19 (.iadr 1 (.t 15) (.t 17)),
 o1 20 (.load 1 false (.t 19)),
 o1 5 (.mv (.t 20))])
 (.seq (.reg [o1 21 (.mv (.t 3)),
 o1 22 (.mv (.t 5)),
 o1 23 (.fadr 0 (.t 1)),
 o1 24 (.load 1 false (.t 23)),
 o1 25 (.lens (.t 24)),
 o1 26 (.mks 1 1 [(.bool false)] (.t 25) (.t 25)),
 o1 27 (.iadr 1 (.t 21) (.t 22)),
 o2 (.store 1 (.t 27) (.t 26))])
 (.seq (.reg [o1 28 (.fadr 0 (.t 1)),
 o1 29 (.load 1 false (.t 28)),
 o1 30 (.mv (.t 5)),
 o1 31 (.iadr 4 (.t 29) (.t 30)),
 o1 32 (.fadr 3 (.t 31)),
 o1 33 (.load 1 false (.t 32)),
 o1 34 (.lens (.t 33)),
 o1 35 (.mv (.c (.int .i64 0)))])
 (.block 2
 (.loop b46_1))))))
 r46_4)))
def r46_5 : IC := (.seq (.reg [o1 74 (.mv (.t 3)),
 o1 2 (.mv (.t 74))])
 .ret)
def i46 : IFun := ⟨(.seq (.reg [o1 1 (.boxr (.t 0)),
 o1 2 (.mv (.c .nils))])
 (.seq (.reg [o1 10 (.fadr 0 (.t 1)),
 o1 11 (.load 1 false (.t 10)),
 o1 12 (.lens (.t 11)),
 o1 13 (.mks 1 24 [.nils] (.t 12) (.t 12)),
 o1 3 (.mv (.t 13))])
 (.seq (.seq (.reg [o1 14 (.load 2 true (.t 1)),
 o1 15 (.callf 56 [(.t 14)]),
 o1 16 (.lens (.t 15)),
 o1 17 (.mv (.c (.int .i64 0)))])
 (.block 0
 (.loop b46_0)))
 r46_5))),
 75, [.t 2], 1, [1]⟩
def r47_1 : IC := (.reg [o1 20 (.mv (.t 6)),
 o1 21 (.bin .add (.t 20) (.c (.int .i64 1))),
 o1 6 (.mv (.t 21))])
def b47_0 : IC := (.seq (.seq (.reg [o1 16 (.mv (.t 6)),
 o1 17 (.mv (.t 0)),
 o1 18 (.lens (.t 17)),
 o1 19 (.bin .lss (.t 16) (.t 18))])
 (.cond (.t 19)
 .skip
 (.exit 0)))
 (.seq (.block 1
 (.seq (.reg [o1 22 (.mv (.t 0)),
 o1 23 (.mv (.t 6)),
 o1 24 (.iadr 1 (.t 22) (.t 23)),
 o1 25 (.load 1 false (.t 24)),
 o1 7 (.mv (.t 25))])
 (.seq (.reg [o1 26 (.mv (.t 1)),
 o1 27 (.mv (.t 7)),
 o1 28 (.callv (.t 26) [(.t 27)]),
 o1 29 (.un .not (.t 28))])
 (.cond (.t 29)
 (.seq (.reg [o1 30 (.mv (.t 0)),
 o1 31 (.mv (.t 5)),
 o1 32 (.mv (.t 7)),
 o1 33 (.iadr 1 (.t 30) (.t 31)),
 o2 (.store 1 (.t 33) (.t 32))])
 (.reg [o1 34 (.mv (.t 5)),
 o1 35 (.bin .add (.t 34) (.c (.int .i64 1))),
 o1 5 (.mv (.t 35))]))
 .skip))))
 r47_1))
def r47_2 : IC := (.seq (.reg [o1 36 (.mv (.t 0)),
 o1 37 (.mv (.t 5)),
 o1 38 (.slc 1 (.t 36) (some (.t 37)) none none),
 o2 (.clr 1 [(.int .i64 0)] (.t 38))])
 (.seq (.reg [o1 39 (.mv (.t 0)),
 o1 40 (.mv (.t 5)),
 o1 41 (.slc 1 (.t 39) none (some (.t 40)) none),
 o1 4 (.mv (.t 41))])
 .ret))
def i47 : IFun := ⟨(.seq (.reg [o1 4 (.mv (.c .nils))])
 (.seq (.reg [o1 8 (.mv (.t 0)),
 o1 9 (.mv (.t 1)),
 o1 10 (.callf 65 [(.t 8), (.t 9)]),
 o1 5 (.mv (.t 10))])
 (.seq (.seq (.reg [o1 11 (.mv (.t 5)),
 o1 12 (.bin .eql (.t 11) (.c (.int .i64 (-1))))])
 (.cond (.t 12)
 (.seq (.reg [o1 13 (.mv (.t 0)),
 o1 4 (.mv (.t 13))])
 .ret)
 .skip))
 (.seq (.seq (.reg [o1 14 (.mv (.t 5)),
 o1 15 (.bin .add (.t 14) (.c (.int .i64 1))),
 o1 6 (.mv (.t 15))])
 (.block 0
 (.loop b47_0)))
 r47_2)))),
 42, [.t 4], 0, []⟩
def i48 : IFun := ⟨(.seq (.reg [o1 2 (.mv (.c .nils))])
 (.seq (.seq (.reg [o1 3 (.mv (.t 0)),
 o1 4 (.eq .slice false (.t 3) (.c .nils))])
 (.cond (.t 4)
 (.seq (.reg [o1 2 (.mv (.c .nils))])
 .ret)
 .skip))
 (.seq (.reg [o1 5 (.bsl 1 0 [(.int .i64 0)] []),
 o1 6 (.mv (.t 0)),
 o1 7 (.app 1 8 (.t 5) (.t 6)),
 o1 2 (.mv (.t 7))])
 .ret))),
 8, [.t 2], 2, []⟩
def i49 : IFun := ⟨(.seq (.reg [o1 3 (.box (.t 0)),
 o1 4 (.mv (.c (.bool false)))])
 (.seq (.reg [o1 5 (.fadr 3 (.t 1)),
 o1 6 (.load 1 false (.t 5)),
 o1 7 (.mkf 51 [(.t 2), (.t 3)]),
 o1 8 (.callf 50 [(.t 6), (.t 7)]),
 o1 4 (.mv (.t 8))])
 .ret)),
 9, [.t 4], 0, []⟩
def i50 : IFun := ⟨(.seq (.reg [o1 4 (.mv (.c (.bool false)))])
 (.seq (.reg [o1 5 (.mv (.t 0)),
 o1 6 (.mv (.t 1)),
 o1 7 (.callf 65 [(.t 5), (.t 6)]),
 o1 8 (.bin .geq (.t 7) (.c (.int .i64 0))),
 o1 4 (.mv (.t 8))])
 .ret)),
 9, [.t 4], 1, []⟩
def i51 : IFun := ⟨(.seq (.reg [o1 4 (.mv (.c (.bool false)))])
 (.seq (.reg [o3 5 (.load 1 false (.t 1)),
 o3 6 (.mv (.t 0)),
 o3 7 (.iadr 1 (.t 5) (.t 6)),
 o3 8 (.load 1 false (.t 7)),
 o3 9 (.load 1 false (.t 2)),
 o1 10 (.iadr 1 (.t 8) (.t 9)),
 o1 11 (.load 1 false (.t 10)),
 o1 4 (.mv (.t 11))])
 .ret)),
 12, [.t 4], 1, []⟩
def i52 : IFun := ⟨(.seq (.reg [o1 2 (.mv (.c .nils))])
 (.seq (.seq (.reg [o1 3 (.mv (.t 0)),
 o1 4 (.eq .slice false (.t 3) (.c .nils))])
 (.cond (.t 4)
 (.seq (.reg [o1 2 (.mv (.c .nils))])
 .ret)
 .skip))
 (.seq (.reg [o1 5 (.bsl 1 0 [(.str [])] []),
 o1 6 (.mv (.t 0)),
 o1 7 (.app 1 16 (.t 5) (.t 6)),
 o1 2 (.mv (.t 7))])
 .ret))),
 8, [.t 2], 2, []⟩
def b53_1 : IC := (.seq (.reg [o1 27 (.bin .lss (.t 26) (.t 25))])
 (.seq (.cond (.t 27)
 .skip
 (.exit 2))
 (.seq (.block 3
 (.seq (.reg [o1 28 (.iadr 1 (.t 24) (.t 26)),
 o1 29 (.load 1 false (.t 28)),
 o1 7 (.mv (.t 29))])
 (.reg [o1 30 (.mv (.t 3)),
 o1 31 (.mv (.t 7)),
 o1 32 (.mv (.t 3)),
 o1 33 (.mv (.t 7)),
 o1 34 (.lk .s .nils false (.t 32) (.t 33)),
 o1 35 (.mv (.t 4)),
 o1 36 (.bsl 1 1 [(.int .i64 0)] [(0, 1, (.t 35))]),
 o1 37 (.app 1 8 (.t 34) (.t 36)),
 o2 (.mup .s (.t 30) (.t 31) (.t 37))])))
 (.reg [o1 38 (.bin .add (.t 26) (.c (.int .i64 1))),
 o1 26 (.mv (.t 38))]))))
def r53_2 : IC := (.reg [o1 39 (.bin .add (.t 12) (.c (.int .i64 1))),
 o1 12 (.mv (.t 39))])
def b53_0 : IC := (.seq (.reg [o1 13 (.bin .lss (.t 12) (.t 11))])
 (.seq (.cond (.t 13)
 .skip
 (.exit 0))
 (.seq (.block 1
 (.seq (.reg [o1 14 (.mv (.t 12)),
 o1 15 (.iadr 2 (.t 10) (.t 12)),
 o1 16 (.load 2 true (.t 15)),
 o1 5 (.alloc [(.str []), .nils]),
 o1 4 (.mv (.t 14)),
 o2 (.store 2 (.t 5) (.t 16))])
 (.seq (.reg [o1 17 (.mv (.t 3)),
 o1 18 (.mv (.t 3)),
 o1 19 (.lk .s .nils false (.t 18) (.c (.str []))),
 o1 20 (.mv (.t 4)),
 o1 21 (.bsl 1 1 [(.int .i64 0)] [(0, 1, (.t 20))]),
 o1 22 (.app 1 8 (.t 19) (.t 21)),
 o2 (.mup .s (.t 17) (.c (.str [])) (.t 22))])
 (.seq (.reg [o1 23 (.fadr 1 (.t 5)),
 o1 24 (.load 1 false (.t 23)),
 o1 25 (.lens (.t 24)),
 o1 26 (.mv (.c (.int .i64 0)))])
 (.block 2
 (.loop b53_1))))))
 r53_2)))
def r53_3 : IC := (.seq (.reg [o1 40 (.mv (.t 3)),
 o1 2 (.mv (.t 40))])
 .ret)
def i53 : IFun := ⟨(.seq (.reg [o1 1 (.boxr (.t 0)),
 o1 2 (.mv (.c .nilm))])
 (.seq (.reg [o1 8 (.mkm),
 o1 3 (.mv (.t 8))])
 (.seq (.seq (.reg [o1 9 (.fadr 1 (.t 1)),
 o1 10 (.load 1 false (.t 9)),
 o1 11 (.lens (.t 10)),
 o1 12 (.mv (.c (.int .i64 0)))])
 (.block 0
 (.loop b53_0)))
 r53_3))),
 41, [.t 2], 2, [1]⟩
def b55_0 : IC := (.seq (.seq (.reg [o1 6 (.mv (.t 5)),
 o1 7 (.fadr 1 (.t 2)),
 o1 8 (.load 1 false (.t 7)),
 o1 9 (.lens (.t 8)),
 o1 10 (.bin .lss (.t 6) (.t 9))])
 (.cond (.t 10)
 .skip
 (.exit 0)))
 (.seq (.block 1
 (.seq (.reg [o1 13 (.fadr 1 (.t 2)),
 o1 14 (.load 1 false (.t 13)),
 o1 15 (.mv (.t 5)),
 o1 16 (.iadr 1 (.t 14) (.t 15)),
 o1 17 (.load 1 false (.t 16)),
 o1 18 (.mv (.t 1)),
 o1 19 (.bin .eql (.t 17) (.t 18))])
 (.cond (.t 19)
 (.seq (.reg [o1 4 (.mv (.c (.bool true)))])
 .ret)
 .skip)))
 (.reg [o1 11 (.mv (.t 5)),
 o1 12 (.bin .add (.t 11) (.c (.int .i64 1))),
 o1 5 (.mv (.t 12))])))
def r55_1 : IC := (.seq (.reg [o1 20 (.mv (.t 1)),
 o1 21 (.bin .eql (.t 20) (.c (.str []))),
 o1 4 (.mv (.t 21))])
 .ret)
def i55 : IFun := ⟨(.seq (.reg [o1 2 (.boxr (.t 0)),
 o1 4 (.mv (.c (.bool false)))])
 (.seq (.seq (.reg [o1 5 (.mv (.c (.int .i64 0)))])
 (.block 0
 (.loop b55_0)))
 r55_1)),
 22, [.t 4], 1, [2]⟩
def b56_1 : IC := (.seq (.seq (.reg [o1 10 (.mv (.t 5)),
 o1 11 (.load 1 false (.t 3)),
 o1 12 (.lens (.t 11)),
 o1 13 (.bin .lss (.t 10) (.t 12)),
 o1 14 (.mv (.t 13)),
 o4 15 (.load 1 false (.t 3)) 14 true,
 o4 16 (.mv (.t 5)) 14 true,
 o4 17 (.iadr 1 (.t 15) (.t 16)) 14 true,
 o4 18 (.load 1 false (.t 17)) 14 true,
 o4 19 (.mv (.t 18)) 14 true,
 o4 20 (.fadr 0 (.t 1)) 19 false,
 o4 21 (.load 1 false (.t 20)) 19 false,
 o4 22 (.mv (.t 5)) 19 false,
 o4 23 (.iadr 4 (.t 21) (.t 22)) 19 false,
 o4 24 (.fadr 3 (.t 23)) 19 false,
 o4 25 (.load 1 false (.t 24)) 19 false,
 o4 26 (.mkf 66 [(.t 3)]) 19 false,
 o4 27 (.callf 50 [(.t 25), (.t 26)]) 19 false,
 o4 28 (.pick (.t 19) (.c (.bool true)) (.t 27)) 14 true,
 o1 29 (.pick (.t 14) (.t 28) (.c (.bool false)))])
 (.cond (.t 29)
 .skip
 (.exit 2)))
 (.block 3
 (.reg [o1 30 (.mv (.t 5)),
 o1 31 (.bin .add (.t 30) (.c (.int .i64 1))),
 o1 5 (.mv (.t 31))])))
def r56_2 : IC := (.seq (.seq (.reg [o1 32 (.mv (.t 5)),
 o1 33 (.load 1 false (.t 3)),
 o1 34 (.lens (.t 33)),
 o1 35 (.bin .eql (.t 32) (.t 34))])
 (.cond (.t 35)
 (.seq (.reg [o1 36 (.mv (.t 4)),
 o1 2 (.mv (.t 36))])
 .ret)
 .skip))
 (.seq (.reg [o1 37 (.load 1 false (.t 3)),
 o1 38 (.mv (.t 5)),
 o1 39 (.iadr 1 (.t 37) (.t 38)),
 o2 (.store 1 (.t 39) (.c (.bool true)))])
 (.reg [o1 40 (.mv (.t 4)),
 o1 41 (.mv (.t 5)),
 o1 42 (.bsl 1 1 [(.int .i64 0)] [(0, 1, (.t 41))]),
 o1 43 (.app 1 8 (.t 40) (.t 42)),
 o1 4 (.mv (.t 43))])))
def b56_0 : IC := (.block 1
 (.seq (.reg [o1 5 (.mv (.c (.int .i64 0)))])
 (.seq (.block 2
 (.loop b56_1))
 r56_2)))
def i56 : IFun := ⟨(.seq (.reg [o1 1 (.boxr (.t 0)),
 o1 2 (.mv (.c .nils))])
 (.seq (.reg [o1 6 (.fadr 0 (.t 1)),
 o1 7 (.load 1 false (.t 6)),
 o1 8 (.lens (.t 7)),
 o1 9 (.mks 1 1 [(.bool false)] (.t 8) (.t 8)),
 o1 3 (.alloc [.nils]),
 o2 (.store 1 (.t 3) (.t 9))])
 (.seq (.reg [o1 4 (.mv (.c .nils))])
 (.block 0
 (.loop b56_0))))),
 44, [.t 2], 2, [1]⟩
def b57_0 : IC := (.seq (.reg [o1 48 (.bin .lss (.t 47) (.t 46))])
 (.seq (.cond (.t 48)
 .skip
 (.exit 1))
 (.seq (.block 2
 (.seq (.reg [o1 49 (.mv (.t 47)),
 o1 50 (.iadr 1 (.t 45) (.t 47)),
 o1 51 (.load 1 false (.t 50)),
 o1 6 (.mv (.t 49)),
 o1 7 (.mv (.t 51))])
 (.block 3
 (.seq (.reg [o1 53 (.mv (.t 7)),
 o1 54 (.bin .lss (.t 53) (.c (.int .i64 0))),
 o1 55 (.mv (.t 54)),
 o4 56 (.mv (.t 7)) 55 false,
 o4 57 (.fadr 0 (.t 2)) 55 false,
 o4 58 (.load 1 false (.t 57)) 55 false,
 o4 59 (.lens (.t 58)) 55 false,
 o4 60 (.bin .geq (.t 56) (.t 59)) 55 false,
 o1 61 (.pick (.t 55) (.c (.bool true)) (.t 60)),
 o1 52 (.mv (.t 61))])
 (.cond (.t 52)
 (.seq (.reg [o1 4 (.mv (.c (.int .i64 2)))])
 .ret)
 (.seq (.reg [o1 63 (.mv (.t 7)),
 o1 64 (.mv (.t 1)),
 o1 65 (.bin .eql (.t 63) (.t 64)),
 o1 62 (.mv (.t 65))])
 (.cond (.t 62)
 (.seq (.reg [o1 4 (.mv (.c (.int .i64 17)))])
 .ret)
 (.seq (.reg [o1 67 (.mv (.t 6)),
 o1 68 (.bin .gtr (.t 67) (.c (.int .i64 0))),
 o1 69 (.mv (.t 68)),
 o4 70 (.fadr 3 (.t 5)) 69 true,
 o4 71 (.load 1 false (.t 70)) 69 true,
 o4 72 (.mv (.t 6)) 69 true,
 o4 73 (.bin .sub (.t 72) (.c (.int .i64 1))) 69 true,
 o4 74 (.iadr 1 (.t 71) (.t 73)) 69 true,
 o4 75 (.load 1 false (.t 74)) 69 true,
 o4 76 (.mv (.t 7)) 69 true,
 o4 77 (.bin .geq (.t 75) (.t 76)) 69 true,
 o1 78 (.pick (.t 69) (.t 77) (.c (.bool false))),
 o1 66 (.mv (.t 78))])
 (.cond (.t 66)
 (.seq (.reg [o1 4 (.mv (.c (.int .i64 8)))])
 .ret)
 .skip)))))))))
 (.reg [o1 79 (.bin .add (.t 47) (.c (.int .i64 1))),
 o1 47 (.mv (.t 79))]))))
def r57_1 : IC := (.seq (.reg [o1 4 (.mv (.c (.int .i64 0)))])
 .ret)
def i57 : IFun := ⟨(.seq (.reg [o1 2 (.boxr (.t 0)),
 o1 4 (.mv (.c (.int .i64 0)))])
 (.seq (.reg [o1 8 (.fadr 0 (.t 2)),
 o1 9 (.load 1 false (.t 8)),
 o1 10 (.mv (.t 1)),
 o1 11 (.iadr 4 (.t 9) (.t 10)),
 o1 12 (.load 4 true (.t 11)),
 o1 5 (.alloc [(.str []), (.int .i64 0), (.str []), .nils]),
 o2 (.store 4 (.t 5) (.t 12))])
 (.seq (.block 0
 (.seq (.reg [o1 14 (.fadr 0 (.t 5)),
 o1 15 (.load 1 false (.t 14)),
 o1 16 (.callf 67 [(.t 15)]),
 o1 17 (.un .not (.t 16)),
 o1 13 (.mv (.t 17))])
 (.cond (.t 13)
 (.seq (.reg [o1 4 (.mv (.c (.int .i64 11)))])
 .ret)
 (.seq (.reg [o1 19 (.fadr 0 (.t 2)),
 o1 20 (.load 1 false (.t 19)),
 o1 21 (.mv (.t 1)),
 o1 22 (.slc 4 (.t 20) none (some (.t 21)) none),
 o1 23 (.mkf 69 [(.t 5)]),
 o1 24 (.callf 68 [(.t 22), (.t 23)]),
 o1 18 (.mv (.t 24))])
 (.cond (.t 18)
 (.seq (.reg [o1 4 (.mv (.c (.int .i64 9)))])
 .ret)
 (.seq (.reg [o1 26 (.fadr 1 (.t 5)),
 o1 27 (.load 1 false (.t 26)),
 o1 28 (.bin .lss (.t 27) (.c (.int .i64 1))),
 o1 29 (.mv (.t 28)),
 o4 30 (.fadr 1 (.t 5)) 29 false,
 o4 31 (.load 1 false (.t 30)) 29 false,
 o4 32 (.bin .gtr (.t 31) (.c (.int .i64 1048576))) 29 false,
 o1 33 (.pick (.t 29) (.c (.bool true)) (.t 32)),
 o1 25 (.mv (.t 33))])
 (.cond (.t 25)
 (.seq (.reg [o1 4 (.mv (.c (.int .i64 2)))])
 .ret)
 (.seq (.reg [o1 35 (.fadr 2 (.t 5)),
 o1 36 (.load 1 false (.t 35)),
 o1 37 (.bin .neq (.t 36) (.c (.str []))),
 o1 38 (.mv (.t 37)),
 o4 39 (.fadr 2 (.t 5)) 38 true,
 o4 40 (.load 1 false (.t 39)) 38 true,
 o4 41 (.callf 67 [(.t 40)]) 38 true,
 o4 42 (.un .not (.t 41)) 38 true,
 o1 43 (.pick (.t 38) (.t 42) (.c (.bool false))),
 o1 34 (.mv (.t 43))])
 (.cond (.t 34)
 (.seq (.reg [o1 4 (.mv (.c (.int .i64 11)))])
 .ret)
 .skip)))))))))
 (.seq (.seq (.reg [o1 44 (.fadr 3 (.t 5)),
 o1 45 (.load 1 false (.t 44)),
 o1 46 (.lens (.t 45)),
 o1 47 (.mv (.c (.int .i64 0)))])
 (.block 1
 (.loop b57_0)))
 r57_1)))),
 80, [.t 4], 1, [2]⟩
def b58_0 : IC := (.seq (.reg [o1 34 (.bin .lss (.t 33) (.t 32))])
 (.seq (.cond (.t 34)
 .skip
 (.exit 1))
 (.seq (.block 2
 (.seq (.reg [o1 35 (.mv (.t 33)),
 o1 36 (.iadr 1 (.t 31) (.t 33)),
 o1 37 (.load 1 false (.t 36)),
 o1 6 (.mv (.t 35)),
 o1 7 (.mv (.t 37))])
 (.seq (.seq (.reg [o1 38 (.mv (.t 7)),
 o1 39 (.callf 67 [(.t 38)]),
 o1 40 (.un .not (.t 39))])
 (.cond (.t 40)
 (.seq (.reg [o1 4 (.mv (.c (.int .i64 11)))])
 .ret)
 .skip))
 (.seq (.reg [o1 41 (.mv (.t 6)),
 o1 42 (.bin .gtr (.t 41) (.c (.int .i64 0))),
 o1 43 (.mv (.t 42)),
 o4 44 (.fadr 1 (.t 5)) 43 true,
 o4 45 (.load 1 false (.t 44)) 43 true,
 o4 46 (.mv (.t 6)) 43 true,
 o4 47 (.bin .sub (.t 46) (.c (.int .i64 1))) 43 true,
 o4 48 (.iadr 1 (.t 45) (.t 47)) 43 true,
 o4 49 (.load 1 false (.t 48)) 43 true,
 o4 50 (.mv (.t 7)) 43 true,
 o4 51 (.bin .geq (.t 49) (.t 50)) 43 true,
 o1 52 (.pick (.t 43) (.t 51) (.c (.bool false)))])
 (.cond (.t 52)
 (.seq (.reg [o1 4 (.mv (.c (.int .i64 8)))])
 .ret)
 .skip)))))
 (.reg [o1 53 (.bin .add (.t 33) (.c (.int .i64 1))),
 o1 33 (.mv (.t 53))]))))
def r58_1 : IC := (.seq (.reg [o1 4 (.mv (.c (.int .i64 0)))])
 .ret)
def i58 : IFun := ⟨(.seq (.reg [o1 2 (.boxr (.t 0)),
 o1 4 (.mv (.c (.int .i64 0)))])
 (.seq (.reg [o1 8 (.fadr 1 (.t 2)),
 o1 9 (.load 1 false (.t 8)),
 o1 10 (.mv (.t 1)),
 o1 11 (.iadr 2 (.t 9) (.t 10)),
 o1 12 (.load 2 true (.t 11)),
 o1 5 (.alloc [(.str []), .nils]),
 o2 (.store 2 (.t 5) (.t 12))])
 (.seq (.block 0
 (.seq (.reg [o1 14 (.fadr 0 (.t 5)),
 o1 15 (.load 1 false (.t 14)),
 o1 16 (.callf 67 [(.t 15)]),
 o1 17 (.un .not (.t 16)),
 o1 13 (.mv (.t 17))])
 (.cond (.t 13)
 (.seq (.reg [o1 4 (.mv (.c (.int .i64 11)))])
 .ret)
 (.seq (.reg [o1 19 (.fadr 1 (.t 2)),
 o1 20 (.load 1 false (.t 19)),
 o1 21 (.mv (.t 1)),
 o1 22 (.slc 2 (.t 20) none (some (.t 21)) none),
 o1 23 (.mkf 71 [(.t 5)]),
 o1 24 (.callf 70 [(.t 22), (.t 23)]),
 o1 18 (.mv (.t 24))])
 (.cond (.t 18)
 (.seq (.reg [o1 4 (.mv (.c (.int .i64 9)))])
 .ret)
 (.seq (.reg [o1 26 (.fadr 1 (.t 5)),
 o1 27 (.load 1 false (.t 26)),
 o1 28 (.lens (.t 27)),
 o1 29 (.bin .gtr (.t 28) (.c (.int .i64 16))),
 o1 25 (.mv (.t 29))])
 (.cond (.t 25)
 (.seq (.reg [o1 4 (.mv (.c (.int .i64 6)))])
 .ret)
 .skip)))))))
 (.seq (.seq (.reg [o1 30 (.fadr 1 (.t 5)),
 o1 31 (.load 1 false (.t 30)),
 o1 32 (.lens (.t 31)),
 o1 33 (.mv (.c (.int .i64 0)))])
 (.block 1
 (.loop b58_0)))
 r58_1)))),
 54, [.t 4], 1, [2]⟩
def b59_0 : IC := (.seq (.seq (.reg [o1 4 (.mv (.t 3)),
 o1 5 (.mv (.t 0)),
 o1 6 (.lent (.t 5)),
 o1 7 (.bin .lss (.t 4) (.t 6))])
 (.cond (.t 7)
 .skip
 (.exit 0)))
 (.seq (.block 1
 (.seq (.reg [o1 10 (.mv (.t 0)),
 o1 11 (.mv (.t 3)),
 o1 12 (.sidx (.t 10) (.t 11)),
 o1 13 (.bin .lss (.t 12) (.c (.int .u8 33))),
 o1 14 (.mv (.t 13)),
 o4 15 (.mv (.t 0)) 14 false,
 o4 16 (.mv (.t 3)) 14 false,
 o4 17 (.sidx (.t 15) (.t 16)) 14 false,
 o4 18 (.bin .gtr (.t 17) (.c (.int .u8 126))) 14 false,
 o1 19 (.pick (.t 14) (.c (.bool true)) (.t 18))])
 (.cond (.t 19)
 (.seq (.reg [o1 2 (.mv (.c (.bool false)))])
 .ret)
 .skip)))
 (.reg [o1 8 (.mv (.t 3)),
 o1 9 (.bin .add (.t 8) (.c (.int .i64 1))),
 o1 3 (.mv (.t 9))])))
def r59_1 : IC := (.seq (.reg [o1 20 (.mv (.t 0)),
 o1 21 (.lent (.t 20)),
 o1 22 (.bin .geq (.t 21) (.c (.int .i64 1))),
 o1 23 (.mv (.t 22)),
 o4 24 (.mv (.t 0)) 23 true,
 o4 25 (.lent (.t 24)) 23 true,
 o4 26 (.bin .leq (.t 25) (.c (.int .i64 40))) 23 true,
 o1 27 (.pick (.t 23) (.t 26) (.c (.bool false))),
 o1 2 (.mv (.t 27))])
 .ret)
def i59 : IFun := ⟨(.seq (.reg [o1 2 (.mv (.c (.bool false)))])
 (.seq (.seq (.reg [o1 3 (.mv (.c (.int .i64 0)))])
 (.block 0
 (.loop b59_0)))
 r59_1)),
 28, [.t 2], 1, []⟩
def b60_0 : IC := (.seq (.reg [o1 29 (.bin .lss (.t 28) (.t 27))])
 (.seq (.cond (.t 29)
 .skip
 (.exit 1))
 (.seq (.block 2
 (.seq (.seq (.reg [o1 30 (.iadr 2 (.t 26) (.t 28)),
 o1 31 (.load 2 true (.t 30)),
 o1 4 (.alloc [(.int .i64 0), (.int .i64 0)]),
 o2 (.store 2 (.t 4) (.t 31))])
 (.frz 4))
 (.seq (.reg [o1 32 (.fadr 0 (.t 1)),
 o1 33 (.load 1 false (.t 32)),
 o1 34 (.fadr 0 (.t 4)),
 o1 35 (.loadr 1 false (.t 34)),
 o1 36 (.callf 72 [(.t 33), (.t 35)]),
 o1 37 (.mv (.t 36)),
 o4 38 (.fadr 0 (.t 1)) 37 false,
 o4 39 (.load 1 false (.t 38)) 37 false,
 o4 40 (.fadr 1 (.t 4)) 37 false,
 o4 41 (.loadr 1 false (.t 40)) 37 false,
 o4 42 (.callf 72 [(.t 39), (.t 41)]) 37 false,
 o1 43 (.pick (.t 37) (.c (.bool true)) (.t 42))])
 (.cond (.t 43)
 (.seq (.reg [o1 2 (.mv (.c (.int .i64 2)))])
 .ret)
 .skip))))
 (.reg [o1 44 (.bin .add (.t 28) (.c (.int .i64 1))),
 o1 28 (.mv (.t 44))]))))
def b60_2 : IC := (.seq (.seq (.reg [o1 45 (.mv (.t 5)),
 o1 46 (.fadr 1 (.t 1)),
 o1 47 (.load 1 false (.t 46)),
 o1 48 (.lens (.t 47)),
 o1 49 (.bin .lss (.t 45) (.t 48))])
 (.cond (.t 49)
 .skip
 (.exit 3)))
 (.seq (.block 4
 (.seq (.reg [o3 52 (.fadr 1 (.t 1)),
 o3 53 (.load 1 false (.t 52)),
 o3 54 (.mv (.t 5)),
 o3 55 (.bin .sub (.t 54) (.c (.int .i64 1))),
 o3 56 (.iadr 2 (.t 53) (.t 55)),
 o3 57 (.load 2 true (.t 56)),
 o3 58 (.fadr 1 (.t 1)),
 o3 59 (.load 1 false (.t 58)),
 o3 60 (.mv (.t 5)),
 o3 61 (.iadr 2 (.t 59) (.t 60)),
 o3 62 (.load 2 true (.t 61)),
 o1 63 (.callf 73 [(.t 57), (.t 62)]),
 o1 64 (.bin .geq (.t 63) (.c (.int .i64 0)))])
 (.cond (.t 64)
 (.seq (.reg [o1 2 (.mv (.c (.int .i64 8)))])
 .ret)
 .skip)))
 (.reg [o1 50 (.mv (.t 5)),
 o1 51 (.bin .add (.t 50) (.c (.int .i64 1))),
 o1 5 (.mv (.t 51))])))
def r60_3 : IC := (.seq (.reg [o1 2 (.mv (.c (.int .i64 0)))])
 .ret)
def r60_1 : IC := (.seq (.seq (.reg [o1 5 (.mv (.c (.int .i64 1)))])
 (.block 3
 (.loop b60_2)))
 r60_3)
def i60 : IFun := ⟨(.seq (.reg [o1 1 (.boxr (.t 0)),
 o1 2 (.mv (.c (.int .i64 0)))])
 (.seq (.block 0
 (.seq (.reg [o1 7 (.fadr 0 (.t 1)),
 o1 8 (.load 1 false (.t 7)),
 o1 9 (.bin .lss (.t 8) (.c (.int .i64 0))),
 o1 10 (.mv (.t 9)),
 o4 11 (.fadr 0 (.t 1)) 10 false,
 o4 12 (.load 1 false (.t 11)) 10 false,
 o4 13 (.bin .gtr (.t 12) (.c (.int .i64 64))) 10 false,
 o1 14 (.pick (.t 10) (.c (.bool true)) (.t 13)),
 o1 6 (.mv (.t 14))])
 (.cond (.t 6)
 (.seq (.reg [o1 2 (.mv (.c (.int .i64 2)))])
 .ret)
 (.seq (.reg [o1 16 (.fadr 1 (.t 1)),
 o1 17 (.load 1 false (.t 16)),
 o1 18 (.lens (.t 17)),
 o1 19 (.fadr 0 (.t 1)),
 o1 20 (.load 1 false (.t 19)),
 o1 21 (.fadr 0 (.t 1)),
 o1 22 (.load 1 false (.t 21)),
 o1 23 (.bin .mul (.t 20) (.t 22)),
 o1 24 (.bin .gtr (.t 18) (.t 23)),
 o1 15 (.mv (.t 24))])
 (.cond (.t 15)
 (.seq (.reg [o1 2 (.mv (.c (.int .i64 6)))])
 .ret)
 .skip)))))
 (.seq (.seq (.reg [o1 25 (.fadr 1 (.t 1)),
 o1 26 (.load 1 false (.t 25)),
 o1 27 (.lens (.t 26)),
 o1 28 (.mv (.c (.int .i64 0)))])
 (.block 1
 (.loop b60_0)))
 r60_1))),
 65, [.t 2], 1, [1, 4, 1000040, 1000034]⟩
def b61_0 : IC := (.seq (.reg [o1 13 (.bin .lss (.t 12) (.t 11))])
 (.seq (.cond (.t 13)
 .skip
 (.exit 0))
 (.seq (.block 1
 (.seq (.seq (.reg [o1 14 (.iadr 2 (.t 10) (.t 12)),
 o1 15 (.load 2 true (.t 14)),
 o1 5 (.alloc [(.int .i64 0), (.int .i64 0)]),
 o2 (.store 2 (.t 5) (.t 15))])
 (.frz 5))
 (.reg [o3 16 (.mv (.t 3)),
 o3 17 (.fadr 0 (.t 5)),
 o3 18 (.loadr 1 false (.t 17)),
 o3 19 (.mv (.t 3)),
 o3 20 (.fadr 0 (.t 5)),
 o3 21 (.loadr 1 false (.t 20)),
 o3 22 (.iadr 1 (.t 19) (.t 21)),
 o3 23 (.load 1 false (.t 22)),
 o3 24 (.fadr 1 (.t 5)),
 o3 25 (.loadr 1 false (.t 24)),
 o3 26 (.bsl 1 1 [(.int .i64 0)] [(0, 1, (.t 25))]),
 o1 27 (.app 1 8 (.t 23) (.t 26)),
 o1 28 (.iadr 1 (.t 16) (.t 18)),
 o2 (.store 1 (.t 28) (.t 27))])))
 (.reg [o1 29 (.bin .add (.t 12) (.c (.int .i64 1))),
 o1 12 (.mv (.t 29))]))))
def r61_1 : IC := (.seq (.reg [o1 30 (.mv (.t 3)),
 o1 2 (.mv (.t 30))])
 .ret)
def i61 : IFun := ⟨(.seq (.reg [o1 1 (.boxr (.t 0)),
 o1 2 (.mv (.c .nils))])
 (.seq (.reg [o1 6 (.fadr 0 (.t 1)),
 o1 7 (.load 1 false (.t 6)),
 o1 8 (.mks 1 24 [.nils] (.t 7) (.t 7)),
 o1 3 (.mv (.t 8))])
 (.seq (.seq (.reg [o1 9 (.fadr 1 (.t 1)),
 o1 10 (.load 1 false (.t 9)),
 o1 11 (.lens (.t 10)),
 o1 12 (.mv (.c (.int .i64 0)))])
 (.block 0
 (.loop b61_0)))
 r61_1))),
 31, [.t 2], 1, [1, 5, 1000024, 1000020, 1000017]⟩
def b62_0 : IC := (.seq (.reg [o1 19 (.bin .lss (.t 18) (.t 17))])
 (.seq (.cond (.t 19)
 .skip
 (.exit 0))
 (.seq (.block 1
 (.seq (.seq (.reg [o1 20 (.iadr 2 (.t 16) (.t 18)),
 o1 21 (.load 2 true (.t 20)),
 o1 7 (.alloc [(.int .i64 0), (.int .i64 0)]),
 o2 (.store 2 (.t 7) (.t 21))])
 (.frz 7))
 (.seq (.reg [o1 22 (.mv (.t 0)),
 o1 23 (.fadr 0 (.t 7)),
 o1 24 (.loadr 1 false (.t 23)),
 o1 25 (.callf 72 [(.t 22), (.t 24)]),
 o1 26 (.mv (.t 25)),
 o4 27 (.mv (.t 0)) 26 false,
 o4 28 (.fadr 1 (.t 7)) 26 false,
 o4 29 (.loadr 1 false (.t 28)) 26 false,
 o4 30 (.callf 72 [(.t 27), (.t 29)]) 26 false,
 o1 31 (.pick (.t 26) (.c (.bool true)) (.t 30))])
 (.cond (.t 31)
 (.seq (.reg [o1 32 (.build [(.int .i64 0), .nils] []),
 o2 (.store 2 (.t 4) (.t 32)),
 o1 5 (.mv (.c (.int .i64 2)))])
 .ret)
 .skip))))
 (.reg [o1 33 (.bin .add (.t 18) (.c (.int .i64 1))),
 o1 18 (.mv (.t 33))]))))
def r62_1 : IC := (.seq (.reg [o1 34 (.mv (.t 1)),
 o1 35 (.callf 74 [(.t 34)]),
 o1 8 (.mv (.t 35))])
 (.seq (.reg [o1 36 (.mv (.t 8)),
 o1 37 (.callf 75 [(.t 36), (.c (.fn 73 []))])])
 (.seq (.reg [o1 38 (.mv (.t 0)),
 o1 39 (.mv (.t 8)),
 o1 40 (.callf 76 [(.t 39)]),
 o1 41 (.build [(.int .i64 0), .nils] [(0, 1, (.t 38)), (1, 1, (.t 40))]),
 o2 (.store 2 (.t 4) (.t 41)),
 o1 5 (.mv (.c (.int .i64 0)))])
 .ret)))
def i62 : IFun := ⟨(.seq (.reg [o1 4 (.alloc [(.int .i64 0), .nils]),
 o1 5 (.mv (.c (.int .i64 0)))])
 (.seq (.seq (.reg [o1 9 (.mv (.t 0)),
 o1 10 (.bin .lss (.t 9) (.c (.int .i64 0))),
 o1 11 (.mv (.t 10)),
 o4 12 (.mv (.t 0)) 11 false,
 o4 13 (.bin .gtr (.t 12) (.c (.int .i64 64))) 11 false,
 o1 14 (.pick (.t 11) (.c (.bool true)) (.t 13))])
 (.cond (.t 14)
 (.seq (.reg [o1 15 (.build [(.int .i64 0), .nils] []),
 o2 (.store 2 (.t 4) (.t 15)),
 o1 5 (.mv (.c (.int .i64 2)))])
 .ret)
 .skip))
 (.seq (.seq (.reg [o1 16 (.mv (.t 1)),
 o1 17 (.lens (.t 16)),
 o1 18 (.mv (.c (.int .i64 0)))])
 (.block 0
 (.loop b62_0)))
 r62_1))),
 42, [.cell 4 2 true, .t 5], 0, [7, 1000028, 1000023]⟩
def b63_0 : IC := (.seq (.seq (.reg [o1 7 (.mv (.t 2)),
 o1 8 (.mv (.t 3)),
 o1 9 (.bin .lss (.t 7) (.t 8))])
 (.cond (.t 9)
 .skip
 (.exit 0)))
 (.seq (.block 1
 (.reg [o3 14 (.mv (.t 0)),
 o3 15 (.mv (.t 2)),
 o3 16 (.mv (.t 0)),
 o3 17 (.mv (.t 3)),
 o3 18 (.mv (.t 0)),
 o3 19 (.mv (.t 3)),
 o3 20 (.iadr 1 (.t 18) (.t 19)),
 o3 21 (.load 1 false (.t 20)),
 o3 22 (.mv (.t 0)),
 o3 23 (.mv (.t 2)),
 o3 24 (.iadr 1 (.t 22) (.t 23)),
 o3 25 (.load 1 false (.t 24)),
 o1 26 (.iadr 1 (.t 14) (.t 15)),
 o2 (.store 1 (.t 26) (.t 21)),
 o1 27 (.iadr 1 (.t 16) (.t 17)),
 o2 (.store 1 (.t 27) (.t 25))]))
 (.reg [o1 10 (.mv (.t 2)),
 o1 11 (.bin .add (.t 10) (.c (.int .i64 1))),
 o1 12 (.mv (.t 3)),
 o1 13 (.bin .sub (.t 12) (.c (.int .i64 1))),
 o1 2 (.mv (.t 11)),
 o1 3 (.mv (.t 13))])))
def i63 : IFun := ⟨(.seq (.reg [o1 4 (.mv (.t 0)),
 o1 5 (.lens (.t 4)),
 o1 6 (.bin .sub (.t 5) (.c (.int .i64 1))),
 o1 2 (.mv (.c (.int .i64 0))),
 o1 3 (.mv (.t 6))])
 (.block 0
 (.loop b63_0))),
 28, [], 0, []⟩
def b64_0 : IC := (.seq (.reg [o1 9 (.bin .lss (.t 8) (.t 7))])
 (.seq (.cond (.t 9)
 .skip
 (.exit 0))
 (.seq (.block 1
 (.seq (.reg [o1 10 (.mv (.t 8)),
 o1 5 (.mv (.t 10))])
 (.seq (.reg [o1 11 (.mv (.t 1)),
 o1 12 (.mv (.t 0)),
 o1 13 (.mv (.t 5)),
 o1 14 (.iadr 1 (.t 12) (.t 13)),
 o1 15 (.load 1 false (.t 14)),
 o1 16 (.bin .eql (.t 11) (.t 15))])
 (.cond (.t 16)
 (.seq (.reg [o1 17 (.mv (.t 5)),
 o1 4 (.mv (.t 17))])
 .ret)
 .skip))))
 (.reg [o1 18 (.bin .add (.t 8) (.c (.int .i64 1))),
 o1 8 (.mv (.t 18))]))))
def r64_1 : IC := (.seq (.reg [o1 4 (.mv (.c (.int .i64 (-1))))])
 .ret)
def i64 : IFun := ⟨(.seq (.reg [o1 4 (.mv (.c (.int .i64 0)))])
 (.seq (.seq (.reg [o1 6 (.mv (.t 0)),
 o1 7 (.lens (.t 6)),
 o1 8 (.mv (.c (.int .i64 0)))])
 (.block 0
 (.loop b64_0)))
 r64_1)),
 19, [.t 4], 1, []⟩
def b65_0 : IC := (.seq (.reg [o1 9 (.bin .lss (.t 8) (.t 7))])
 (.seq (.cond (.t 9)
 .skip
 (.exit 0))
 (.seq (.block 1
 (.seq (.reg [o1 10 (.mv (.t 8)),
 o1 5 (.mv (.t 10))])
 (.seq (.reg [o1 11 (.mv (.t 1)),
 o1 12 (.mv (.t 0)),
 o1 13 (.mv (.t 5)),
 o1 14 (.iadr 1 (.t 12) (.t 13)),
 o1 15 (.load 1 false (.t 14)),
 o1 16 (.callv (.t 11) [(.t 15)])])
 (.cond (.t 16)
 (.seq (.reg [o1 17 (.mv (.t 5)),
 o1 4 (.mv (.t 17))])
 .ret)
 .skip))))
 (.reg [o1 18 (.bin .add (.t 8) (.c (.int .i64 1))),
 o1 8 (.mv (.t 18))]))))
def r65_1 : IC := (.seq (.reg [o1 4 (.mv (.c (.int .i64 (-1))))])
 .ret)
def i65 : IFun := ⟨(.seq (.reg [o1 4 (.mv (.c (.int .i64 0)))])
 (.seq (.seq (.reg [o1 6 (.mv (.t 0)),
 o1 7 (.lens (.t 6)),
 o1 8 (.mv (.c (.int .i64 0)))])
 (.block 0
 (.loop b65_0)))
 r65_1)),
 19, [.t 4], 1, []⟩
def i66 : IFun := ⟨(.seq (.reg [o1 3 (.mv (.c (.bool false)))])
 (.seq (.reg [o1 4 (.load 1 false (.t 1)),
 o1 5 (.mv (.t 0)),
 o1 6 (.iadr 1 (.t 4) (.t 5)),
 o1 7 (.load 1 false (.t 6)),
 o1 8 (.un .not (.t 7)),
 o1 3 (.mv (.t 8))])
 .ret)),
 9, [.t 3], 1, []⟩
def i67 : IFun := ⟨(.seq (.reg [o1 2 (.mv (.c (.bool false)))])
 (.seq (.reg [o1 3 (.mv (.t 0)),
 o1 4 (.lent (.t 3)),
 o1 5 (.bin .gtr (.t 4) (.c (.int .i64 0))),
 o1 6 (.mv (.t 5)),
 o4 7 (.mv (.t 0)) 6 true,
 o4 8 (.lent (.t 7)) 6 true,
 o4 9 (.bin .leq (.t 8) (.c (.int .i64 40))) 6 true,
 o1 10 (.pick (.t 6) (.t 9) (.c (.bool false))),
 o1 11 (.mv (.t 10)),
 o4 12 (.mv (.t 0)) 11 true,
 o4 13 (.callf 77 [(.t 12), (.c (.fn 78 []))]) 11 true,
 o4 14 (.un .not (.t 13)) 11 true,
 o1 15 (.pick (.t 11) (.t 14) (.c (.bool false))),
 o1 2 (.mv (.t 15))])
 .ret)),
 16, [.t 2], 1, []⟩
def i68 : IFun := ⟨(.seq (.reg [o1 4 (.mv (.c (.bool false)))])
 (.seq (.reg [o1 5 (.mv (.t 0)),
 o1 6 (.mv (.t 1)),
 o1 7 (.callf 79 [(.t 5), (.t 6)]),
 o1 8 (.bin .geq (.t 7) (.c (.int .i64 0))),
 o1 4 (.mv (.t 8))])
 .ret)),
 9, [.t 4], 1, []⟩
def i69 : IFun := ⟨(.seq (.reg [o1 2 (.boxr (.t 0)),
 o1 3 (.mv (.c (.bool false)))])
 (.seq (.reg [o1 4 (.fadr 0 (.t 2)),
 o1 5 (.load 1 false (.t 4)),
 o1 6 (.fadr 0 (.t 1)),
 o1 7 (.load 1 false (.t 6)),
 o1 8 (.bin .eql (.t 5) (.t 7)),
 o1 3 (.mv (.t 8))])
 .ret)),
 9, [.t 3], 1, [2]⟩
def i70 : IFun := ⟨(.seq (.reg [o1 4 (.mv (.c (.bool false)))])
 (.seq (.reg [o1 5 (.mv (.t 0)),
 o1 6 (.mv (.t 1)),
 o1 7 (.callf 80 [(.t 5), (.t 6)]),
 o1 8 (.bin .geq (.t 7) (.c (.int .i64 0))),
 o1 4 (.mv (.t 8))])
 .ret)),
 9, [.t 4], 1, []⟩
def i71 : IFun := ⟨(.seq (.reg [o1 2 (.boxr (.t 0)),
 o1 3 (.mv (.c (.bool false)))])
 (.seq (.reg [o1 4 (.fadr 0 (.t 2)),
 o1 5 (.load 1 false (.t 4)),
 o1 6 (.fadr 0 (.t 1)),
 o1 7 (.load 1 false (.t 6)),
 o1 8 (.bin .eql (.t 5) (.t 7)),
 o1 3 (.mv (.t 8))])
 .ret)),
 9, [.t 3], 1, [2]⟩
def i72 : IFun := ⟨(.seq (.reg [o1 4 (.mv (.c (.bool false)))])
 (.seq (.reg [o1 5 (.mv (.t 1)),
 o1 6 (.bin .lss (.t 5) (.c (.int .i64 0))),
 o1 7 (.mv (.t 6)),
 o4 8 (.mv (.t 1)) 7 false,
 o4 9 (.mv (.t 0)) 7 false,
 o4 10 (.bin .geq (.t 8) (.t 9)) 7 false,
 o1 11 (.pick (.t 7) (.c (.bool true)) (.t 10)),
 o1 4 (.mv (.t 11))])
 .ret)),
 12, [.t 4], 1, []⟩
def i73 : IFun := ⟨(.seq (.reg [o1 2 (.boxr (.t 0)),
 o1 3 (.boxr (.t 1)),
 o1 4 (.mv (.c (.int .i64 0)))])
 (.seq (.reg [o3 5 (.fadr 0 (.t 2)),
 o3 6 (.load 1 false (.t 5)),
 o3 7 (.fadr 0 (.t 3)),
 o3 8 (.load 1 false (.t 7)),
 o3 9 (.callf 82 [(.t 6), (.t 8)]),
 o3 10 (.fadr 1 (.t 2)),
 o3 11 (.load 1 false (.t 10)),
 o3 12 (.fadr 1 (.t 3)),
 o3 13 (.load 1 false (.t 12)),
 o1 14 (.callf 82 [(.t 11), (.t 13)]),
 o1 15 (.bsl 1 2 [(.int .i64 0)] [(0, 1, (.t 9)), (1, 1, (.t 14))]),
 o1 16 (.callf 81 [(.t 15)]),
 o1 4 (.mv (.t 16))])
 .ret)),
 17, [.t 4], 1, [2, 3]⟩
def i74 : IFun := ⟨(.seq (.reg [o1 2 (.mv (.c .nils))])
 (.seq (.seq (.reg [o1 3 (.mv (.t 0)),
 o1 4 (.eq .slice false (.t 3) (.c .nils))])
 (.cond (.t 4)
 (.seq (.reg [o1 2 (.mv (.c .nils))])
 .ret)
 .skip))
 (.seq (.reg [o1 5 (.bsl 2 0 [(.int .i64 0), (.int .i64 0)] []),
 o1 6 (.mv (.t 0)),
 o1 7 (.app 2 16 (.t 5) (.t 6)),
 o1 2 (.mv (.t 7))])
 .ret))),
 8, [.t 2], 2, []⟩
def i75 : IFun := ⟨(.seq (.reg [o1 5 (.mv (.t 0)),
 o1 6 (.lens (.t 5)),
 o1 4 (.mv (.t 6))])
 (.reg [o1 7 (.mv (.t 0)),
 o1 8 (.mv (.t 4)),
 o1 9 (.mv (.t 4)),
 o1 10 (.conv .u64 (.t 9)),
 o1 11 (.callf 84 [(.t 10)]),
 o1 12 (.mv (.t 1)),
 o1 13 (.callf 83 [(.t 7), (.c (.int .i64 0)), (.t 8), (.t 11), (.t 12)])])),
 14, [], 0, []⟩
def r76_2 : IC := (.reg [o1 33 (.mv (.t 5)),
 o1 34 (.bin .add (.t 33) (.c (.int .i64 1))),
 o1 5 (.mv (.t 34))])
def b76_1 : IC := (.seq (.seq (.reg [o1 29 (.mv (.t 5)),
 o1 30 (.mv (.t 4)),
 o1 31 (.lens (.t 30)),
 o1 32 (.bin .lss (.t 29) (.t 31))])
 (.cond (.t 32)
 .skip
 (.exit 2)))
 (.seq (.block 3
 (.seq (.reg [o3 35 (.mv (.t 4)),
 o3 36 (.mv (.t 5)),
 o3 37 (.iadr 2 (.t 35) (.t 36)),
 o3 38 (.load 2 true (.t 37)),
 o3 39 (.mv (.t 4)),
 o3 40 (.mv (.t 5)),
 o3 41 (.bin .sub (.t 40) (.c (.int .i64 1))),
 o3 42 (.iadr 2 (.t 39) (.t 41)),
 o3 43 (.load 2 true (.t 42)),
 o1 44 (.eq (.flat [.i, .i]) true (.t 38) (.t 43))])
 (.cond (.t 44)
 (.seq (.reg [o1 45 (.mv (.t 0)),
 o1 46 (.mv (.t 3)),
 o1 47 (.mv (.t 4)),
 o1 48 (.mv (.t 5)),
 o1 49 (.iadr 2 (.t 47) (.t 48)),
 o1 50 (.load 2 true (.t 49)),
 o1 51 (.iadr 2 (.t 45) (.t 46)),
 o2 (.store 2 (.t 51) (.t 50))])
 (.reg [o1 52 (.mv (.t 3)),
 o1 53 (.bin .add (.t 52) (.c (.int .i64 1))),
 o1 3 (.mv (.t 53))]))
 .skip)))
 r76_2))
def r76_3 : IC := (.seq (.reg [o1 54 (.mv (.t 0)),
 o1 55 (.mv (.t 3)),
 o1 56 (.slc 2 (.t 54) (some (.t 55)) none none),
 o2 (.clr 2 [(.int .i64 0), (.int .i64 0)] (.t 56))])
 (.seq (.reg [o1 57 (.mv (.t 0)),
 o1 58 (.mv (.t 3)),
 o1 59 (.slc 2 (.t 57) none (some (.t 58)) none),
 o1 2 (.mv (.t 59))])
 .ret))
def r76_4 : IC := (.reg [o1 14 (.mv (.t 3)),
 o1 15 (.bin .add (.t 14) (.c (.int .i64 1))),
 o1 3 (.mv (.t 15))])
def b76_0 : IC := (.seq (.seq (.reg [o1 10 (.mv (.t 3)),
 o1 11 (.mv (.t 0)),
 o1 12 (.lens (.t 11)),
 o1 13 (.bin .lss (.t 10) (.t 12))])
 (.cond (.t 13)
 .skip
 (.exit 0)))
 (.seq (.block 1
 (.seq (.reg [o3 16 (.mv (.t 0)),
 o3 17 (.mv (.t 3)),
 o3 18 (.iadr 2 (.t 16) (.t 17)),
 o3 19 (.load 2 true (.t 18)),
 o3 20 (.mv (.t 0)),
 o3 21 (.mv (.t 3)),
 o3 22 (.bin .sub (.t 21) (.c (.int .i64 1))),
 o3 23 (.iadr 2 (.t 20) (.t 22)),
 o3 24 (.load 2 true (.t 23)),
 o1 25 (.eq (.flat [.i, .i]) false (.t 19) (.t 24))])
 (.cond (.t 25)
 (.seq (.reg [o1 26 (.mv (.t 0)),
 o1 27 (.mv (.t 3)),
 o1 28 (.slc 2 (.t 26) (some (.t 27)) none none),
 o1 4 (.mv (.t 28))])
 (.seq (.seq (.reg [o1 5 (.mv (.c (.int .i64 1)))])
 (.block 2
 (.loop b76_1)))
 r76_3))
 .skip)))
 r76_4))
def r76_5 : IC := (.seq (.reg [o1 60 (.mv (.t 0)),
 o1 2 (.mv (.t 60))])
 .ret)
def i76 : IFun := ⟨(.seq (.reg [o1 2 (.mv (.c .nils))])
 (.seq (.seq (.reg [o1 6 (.mv (.t 0)),
 o1 7 (.lens (.t 6)),
 o1 8 (.bin .lss (.t 7) (.c (.int .i64 2)))])
 (.cond (.t 8)
 (.seq (.reg [o1 9 (.mv (.t 0)),
 o1 2 (.mv (.t 9))])
 .ret)
 .skip))
 (.seq (.seq (.reg [o1 3 (.mv (.c (.int .i64 1)))])
 (.block 0
 (.loop b76_0)))
 r76_5))),
 61, [.t 2], 0, []⟩
def i77 : IFun := ⟨(.seq (.reg [o1 4 (.mv (.c (.bool false)))])
 (.seq (.reg [o1 5 (.mv (.t 0)),
 o1 6 (.mv (.t 1)),
 o1 7 (.callf 85 [(.t 5), (.t 6)]),
 o1 8 (.bin .geq (.t 7) (.c (.int .i64 0))),
 o1 4 (.mv (.t 8))])
 .ret)),
 9, [.t 4], 1, []⟩
def i78 : IFun := ⟨(.seq (.reg [o1 2 (.mv (.c (.bool false)))])
 (.seq (.reg [o1 3 (.mv (.t 0)),
 o1 4 (.bin .lss (.t 3) (.c (.int .i32 33))),
 o1 5 (.mv (.t 4)),
 o4 6 (.mv (.t 0)) 5 false,
 o4 7 (.bin .gtr (.t 6) (.c (.int .i32 126))) 5 false,
 o1 8 (.pick (.t 5) (.c (.bool true)) (.t 7)),
 o1 2 (.mv (.t 8))])
 .ret)),
 9, [.t 2], 1, []⟩
def b79_0 : IC := (.seq (.reg [o1 9 (.bin .lss (.t 8) (.t 7))])
 (.seq (.cond (.t 9)
 .skip
 (.exit 0))
 (.seq (.block 1
 (.seq (.reg [o1 10 (.mv (.t 8)),
 o1 5 (.mv (.t 10))])
 (.seq (.reg [o1 11 (.mv (.t 1)),
 o1 12 (.mv (.t 0)),
 o1 13 (.mv (.t 5)),
 o1 14 (.iadr 4 (.t 12) (.t 13)),
 o1 15 (.load 4 true (.t 14)),
 o1 16 (.callv (.t 11) [(.t 15)])])
 (.cond (.t 16)
 (.seq (.reg [o1 17 (.mv (.t 5)),
 o1 4 (.mv (.t 17))])
 .ret)
 .skip))))
 (.reg [o1 18 (.bin .add (.t 8) (.c (.int .i64 1))),
 o1 8 (.mv (.t 18))]))))
def r79_1 : IC := (.seq (.reg [o1 4 (.mv (.c (.int .i64 (-1))))])
 .ret)
def i79 : IFun := ⟨(.seq (.reg [o1 4 (.mv (.c (.int .i64 0)))])
 (.seq (.seq (.reg [o1 6 (.mv (.t 0)),
 o1 7 (.lens (.t 6)),
 o1 8 (.mv (.c (.int .i64 0)))])
 (.block 0
 (.loop b79_0)))
 r79_1)),
 19, [.t 4], 1, []⟩
def b80_0 : IC := (.seq (.reg [o1 9 (.bin .lss (.t 8) (.t 7))])
 (.seq (.cond (.t 9)
 .skip
 (.exit 0))
 (.seq (.block 1
 (.seq (.reg [o1 10 (.mv (.t 8)),
 o1 5 (.mv (.t 10))])
 (.seq (.reg [o1 11 (.mv (.t 1)),
 o1 12 (.mv (.t 0)),
 o1 13 (.mv (.t 5)),
 o1 14 (.iadr 2 (.t 12) (.t 13)),
 o1 15 (.load 2 true (.t 14)),
 o1 16 (.callv (.t 11) [(.t 15)])])
 (.cond (.t 16)
 (.seq (.reg [o1 17 (.mv (.t 5)),
 o1 4 (.mv (.t 17))])
 .ret)
 .skip))))
 (.reg [o1 18 (.bin .add (.t 8) (.c (.int .i64 1))),
 o1 8 (.mv (.t 18))]))))
def r80_1 : IC := (.seq (.reg [o1 4 (.mv (.c (.int .i64 (-1))))])
 .ret)
def i80 : IFun := ⟨(.seq (.reg [o1 4 (.mv (.c (.int .i64 0)))])
 (.seq (.seq (.reg [o1 6 (.mv (.t 0)),
 o1 7 (.lens (.t 6)),
 o1 8 (.mv (.c (.int .i64 0)))])
 (.block 0
 (.loop b80_0)))
 r80_1)),
 19, [.t 4], 1, []⟩
def b81_0 : IC := (.seq (.reg [o1 9 (.bin .lss (.t 8) (.t 7))])
 (.seq (.cond (.t 9)
 .skip
 (.exit 0))
 (.seq (.block 1
 (.seq (.reg [o1 10 (.iadr 1 (.t 6) (.t 8)),
 o1 11 (.load 1 false (.t 10)),
 o1 5 (.mv (.t 11))])
 (.seq (.reg [o1 12 (.mv (.t 5)),
 o1 13 (.mv (.t 3)),
 o1 14 (.bin .neq (.t 12) (.t 13))])
 (.cond (.t 14)
 (.seq (.reg [o1 15 (.mv (.t 5)),
 o1 2 (.mv (.t 15))])
 .ret)
 .skip))))
 (.reg [o1 16 (.bin .add (.t 8) (.c (.int .i64 1))),
 o1 8 (.mv (.t 16))]))))
def r81_1 : IC := (.seq (.reg [o1 17 (.mv (.t 3)),
 o1 2 (.mv (.t 17))])
 .ret)
def i81 : IFun := ⟨(.seq (.reg [o1 2 (.mv (.c (.int .i64 0)))])
 (.seq (.reg [o1 3 (.mv (.c (.int .i64 0)))])
 (.seq (.seq (.reg [o1 6 (.mv (.t 0)),
 o1 7 (.lens (.t 6)),
 o1 8 (.mv (.c (.int .i64 0)))])
 (.block 0
 (.loop b81_0)))
 r81_1))),
 18, [.t 2], 1, []⟩
def i82 : IFun := ⟨(.seq (.reg [o1 4 (.mv (.c (.int .i64 0)))])
 (.seq (.reg [o1 7 (.mv (.t 0)),
 o1 8 (.callf 86 [(.t 7)]),
 o1 5 (.mv (.t 8))])
 (.seq (.reg [o1 9 (.mv (.t 1)),
 o1 10 (.callf 86 [(.t 9)]),
 o1 6 (.mv (.t 10))])
 (.seq (.seq (.reg [o1 11 (.mv (.t 5))])
 (.cond (.t 11)
 (.seq (.seq (.reg [o1 12 (.mv (.t 6))])
 (.cond (.t 12)
 (.seq (.reg [o1 4 (.mv (.c (.int .i64 0)))])
 .ret)
 .skip))
 (.seq (.reg [o1 4 (.mv (.c (.int .i64 (-1))))])
 .ret))
 .skip))
 (.seq (.seq (.reg [o1 13 (.mv (.t 6))])
 (.cond (.t 13)
 (.seq (.reg [o1 4 (.mv (.c (.int .i64 1)))])
 .ret)
 .skip))
 (.seq (.seq (.reg [o1 14 (.mv (.t 0)),
 o1 15 (.mv (.t 1)),
 o1 16 (.bin .lss (.t 14) (.t 15))])
 (.cond (.t 16)
 (.seq (.reg [o1 4 (.mv (.c (.int .i64 (-1))))])
 .ret)
 .skip))
 (.seq (.seq (.reg [o1 17 (.mv (.t 0)),
 o1 18 (.mv (.t 1)),
 o1 19 (.bin .gtr (.t 17) (.t 18))])
 (.cond (.t 19)
 (.seq (.reg [o1 4 (.mv (.c (.int .i64 1)))])
 .ret)
 .skip))
 (.seq (.reg [o1 4 (.mv (.c (.int .i64 0)))])
 .ret)))))))),
 20, [.t 4], 1, []⟩
def r83_3 : IC := (.seq (.seq (.reg [o1 81 (.mv (.t 1)),
 o1 82 (.bin .gtr (.t 81) (.c (.int .i64 0))),
 o1 83 (.mv (.t 82)),
 ⟨some 84, .mv (.t 4), (some (83, true)), false⟩,
 ⟨some 85, .mv (.t 0), (some (83, true)), false⟩,
 ⟨some 86, .mv (.t 1), (some (83, true)), false⟩,
 ⟨some 87, .bin .sub (.t 86) (.c (.int .i64 1)), (some (83, true)), false⟩,
 ⟨some 88, .iadr 2 (.t 85) (.t 87), (some (83, true)), false⟩,
 ⟨some 89, .load 2 true (.t 88), (some (83, true)), false⟩,
 ⟨some 90, .mv (.t 0), (some (83, true)), false⟩,
 ⟨some 91, .mv (.t 13), (some (83, true)), false⟩,
 ⟨some 92, .iadr 2 (.t 90) (.t 91), (some (83, true)), false⟩,
 ⟨some 93, .load 2 true (.t 92), (some (83, true)), false⟩,
 o4 94 (.callv (.t 84) [(.t 89), (.t 93)]) 83 true,
 o4 95 (.bin .lss (.t 94) (.c (.int .i64 0))) 83 true,
 o4 96 (.un .not (.t 95)) 83 true,
 o1 97 (.pick (.t 83) (.t 96) (.c (.bool false)))])
 (.cond (.t 97)
 (.seq (.reg [o1 98 (.mv (.t 0)),
 o1 99 (.mv (.t 1)),
 o1 100 (.mv (.t 2)),
 o1 101 (.mv (.t 13)),
 o1 102 (.mv (.t 4)),
 o1 103 (.callf 93 [(.t 98), (.t 99), (.t 100), (.t 101), (.t 102)]),
 o1 15 (.mv (.t 103))])
 (.seq (.reg [o1 104 (.mv (.t 15)),
 o1 1 (.mv (.t 104))])
 (.exit 1)))
 .skip))
 (.seq (.reg [o1 106 (.mv (.t 0)),
 o1 107 (.mv (.t 1)),
 o1 108 (.mv (.t 2)),
 o1 109 (.mv (.t 13)),
 o1 110 (.mv (.t 4)),
 o1 111 (.callf 94 [(.t 106), (.t 107), (.t 108), (.t 109), (.t 110)]),
 o1 105 (.mv (.t 111)),
 o1 112 (.ext 0 (.t 105)),
 o1 113 (.ext 1 (.t 105)),
 o1 16 (.mv (.t 112)),
 o1 17 (.mv (.t 113))])
 (.seq (.reg [o1 114 (.mv (.t 17)),
 o1 11 (.mv (.t 114))])
 (.seq (.reg [o1 115 (.mv (.t 16)),
 o1 116 (.mv (.t 1)),
 o1 117 (.bin .sub (.t 115) (.t 116)),
 o1 118 (.mv (.t 2)),
 o1 119 (.mv (.t 16)),
 o1 120 (.bin .sub (.t 118) (.t 119)),
 o1 18 (.mv (.t 117)),
 o1 19 (.mv (.t 120))])
 (.seq (.reg [o1 121 (.mv (.t 12)),
 o1 122 (.bin .quo (.t 121) (.c (.int .i64 8))),
 o1 20 (.mv (.t 122))])
 (.seq (.reg [o1 123 (.mv (.t 18)),
 o1 124 (.mv (.t 19)),
 o1 125 (.bin .lss (.t 123) (.t 124))])
 (.cond (.t 125)
 (.seq (.reg [o1 126 (.mv (.t 18)),
 o1 127 (.mv (.t 20)),
 o1 128 (.bin .geq (.t 126) (.t 127)),
 o1 10 (.mv (.t 128))])
 (.seq (.reg [o1 129 (.mv (.t 0)),
 o1 130 (.mv (.t 1)),
 o1 131 (.mv (.t 16)),
 o1 132 (.mv (.t 3)),
 o1 133 (.mv (.t 4)),
 o1 134 (.callf 83 [(.t 129), (.t 130), (.t 131), (.t 132), (.t 133)])])
 (.reg [o1 135 (.mv (.t 16)),
 o1 136 (.bin .add (.t 135) (.c (.int .i64 1))),
 o1 1 (.mv (.t 136))])))
 (.seq (.reg [o1 137 (.mv (.t 19)),
 o1 138 (.mv (.t 20)),
 o1 139 (.bin .geq (.t 137) (.t 138)),
 o1 10 (.mv (.t 139))])
 (.seq (.reg [o1 140 (.mv (.t 0)),
 o1 141 (.mv (.t 16)),
 o1 142 (.bin .add (.t 141) (.c (.int .i64 1))),
 o1 143 (.mv (.t 2)),
 o1 144 (.mv (.t 3)),
 o1 145 (.mv (.t 4)),
 o1 146 (.callf 83 [(.t 140), (.t 142), (.t 143), (.t 144), (.t 145)])])
 (.reg [o1 147 (.mv (.t 16)),
 o1 2 (.mv (.t 147))]))))))))))
def r83_2 : IC := (.seq (.seq (.reg [o1 68 (.mv (.t 10)),
 o1 69 (.mv (.t 68)),
 o4 70 (.mv (.t 11)) 69 true,
 o1 71 (.pick (.t 69) (.t 70) (.c (.bool false))),
 o1 72 (.mv (.t 71)),
 o4 73 (.mv (.t 14)) 72 true,
 o4 74 (.bin .eql (.t 73) (.c (.int .i64 1))) 72 true,
 o1 75 (.pick (.t 72) (.t 74) (.c (.bool false)))])
 (.cond (.t 75)
 (.seq (.reg [o1 76 (.mv (.t 0)),
 o1 77 (.mv (.t 1)),
 o1 78 (.mv (.t 2)),
 o1 79 (.mv (.t 4)),
 o1 80 (.callf 92 [(.t 76), (.t 77), (.t 78), (.t 79)])])
 (.cond (.t 80)
 .ret
 .skip))
 .skip))
 r83_3)
def r83_1 : IC := (.seq (.reg [o1 48 (.mv (.t 0)),
 o1 49 (.mv (.t 1)),
 o1 50 (.mv (.t 2)),
 o1 51 (.mv (.t 4)),
 o1 52 (.callf 90 [(.t 48), (.t 49), (.t 50), (.t 51)]),
 o1 47 (.mv (.t 52)),
 o1 53 (.ext 0 (.t 47)),
 o1 54 (.ext 1 (.t 47)),
 o1 13 (.mv (.t 53)),
 o1 14 (.mv (.t 54))])
 (.seq (.seq (.reg [o1 55 (.mv (.t 14)),
 o1 56 (.bin .eql (.t 55) (.c (.int .i64 2)))])
 (.cond (.t 56)
 (.seq (.reg [o1 57 (.mv (.t 0)),
 o1 58 (.mv (.t 1)),
 o1 59 (.mv (.t 2)),
 o1 60 (.mv (.t 4)),
 o1 61 (.callf 91 [(.t 57), (.t 58), (.t 59), (.t 60)])])
 (.seq (.reg [o1 62 (.mv (.t 2)),
 o1 63 (.bin .sub (.t 62) (.c (.int .i64 1))),
 o1 64 (.mv (.t 13)),
 o1 65 (.mv (.t 1)),
 o1 66 (.bin .sub (.t 64) (.t 65)),
 o1 67 (.bin .sub (.t 63) (.t 66)),
 o1 13 (.mv (.t 67))])
 (.reg [o1 14 (.mv (.c (.int .i64 1)))])))
 .skip))
 r83_2))
def b83_0 : IC := (.block 1
 (.seq (.reg [o1 21 (.mv (.t 2)),
 o1 22 (.mv (.t 1)),
 o1 23 (.bin .sub (.t 21) (.t 22)),
 o1 12 (.mv (.t 23))])
 (.seq (.seq (.reg [o1 24 (.mv (.t 12)),
 o1 25 (.bin .leq (.t 24) (.c (.int .i64 12)))])
 (.cond (.t 25)
 (.seq (.reg [o1 26 (.mv (.t 0)),
 o1 27 (.mv (.t 1)),
 o1 28 (.mv (.t 2)),
 o1 29 (.mv (.t 4)),
 o1 30 (.callf 87 [(.t 26), (.t 27), (.t 28), (.t 29)])])
 .ret)
 .skip))
 (.seq (.seq (.reg [o1 31 (.mv (.t 3)),
 o1 32 (.bin .eql (.t 31) (.c (.int .i64 0)))])
 (.cond (.t 32)
 (.seq (.reg [o1 33 (.mv (.t 0)),
 o1 34 (.mv (.t 1)),
 o1 35 (.mv (.t 2)),
 o1 36 (.mv (.t 4)),
 o1 37 (.callf 88 [(.t 33), (.t 34), (.t 35), (.t 36)])])
 .ret)
 .skip))
 (.seq (.seq (.reg [o1 38 (.mv (.t 10)),
 o1 39 (.un .not (.t 38))])
 (.cond (.t 39)
 (.seq (.reg [o1 40 (.mv (.t 0)),
 o1 41 (.mv (.t 1)),
 o1 42 (.mv (.t 2)),
 o1 43 (.mv (.t 4)),
 o1 44 (.callf 89 [(.t 40), (.t 41), (.t 42), (.t 43)])])
 (.reg [o1 45 (.mv (.t 3)),
 o1 46 (.bin .sub (.t 45) (.c (.int .i64 1))),
 o1 3 (.mv (.t 46))]))
 .skip))
 r83_1)))))
def i83 : IFun := ⟨(.seq (.reg [o1 10 (.mv (.c (.bool true)))])
 (.seq (.reg [o1 11 (.mv (.c (.bool true)))])
 (.block 0
 (.loop b83_0)))),
 148, [], 0, []⟩
def i84 : IFun := ⟨(.seq (.reg [o1 2 (.mv (.c (.int .i64 0)))])
 (.seq (.cond (.c (.bool false))
 (.seq (.reg [o1 3 (.mv (.t 0)),
 o1 4 (.conv .u32 (.t 3)),
 o1 5 (.callf 95 [(.t 4)]),
 o1 2 (.mv (.t 5))])
 .ret)
 .skip)
 (.seq (.reg [o1 6 (.mv (.t 0)),
 o1 7 (.callf 96 [(.t 6)]),
 o1 2 (.mv (.t 7))])
 .ret))),
 8, [.t 2], 1, []⟩
def i85 : IFun := ⟨(.seq (.reg [o1 4 (.mv (.c (.int .i64 0)))])
 (.seq (.reg [o1 5 (.mv (.t 0)),
 o1 6 (.mv (.t 1)),
 o1 7 (.callf 97 [(.t 5), (.t 6), (.c (.bool true))]),
 o1 4 (.mv (.t 7))])
 .ret)),
 8, [.t 4], 1, []⟩
def i86 : IFun := ⟨(.seq (.reg [o1 2 (.mv (.c (.bool false)))])
 (.seq (.reg [o1 3 (.mv (.t 0)),
 o1 4 (.mv (.t 0)),
 o1 5 (.bin .neq (.t 3) (.t 4)),
 o1 2 (.mv (.t 5))])
 .ret)),
 6, [.t 2], 1, []⟩
def b87_1 : IC := (.seq (.seq (.reg [o1 18 (.mv (.t 9)),
 o1 19 (.mv (.t 1)),
 o1 20 (.bin .gtr (.t 18) (.t 19)),
 o1 21 (.mv (.t 20)),
 ⟨some 22, .mv (.t 3), (some (21, true)), false⟩,
 ⟨some 23, .mv (.t 0), (some (21, true)), false⟩,
 ⟨some 24, .mv (.t 9), (some (21, true)), false⟩,
 ⟨some 25, .iadr 2 (.t 23) (.t 24), (some (21, true)), false⟩,
 ⟨some 26, .load 2 true (.t 25), (some (21, true)), false⟩,
 ⟨some 27, .mv (.t 0), (some (21, true)), false⟩,
 ⟨some 28, .mv (.t 9), (some (21, true)), false⟩,
 ⟨some 29, .bin .sub (.t 28) (.c (.int .i64 1)), (some (21, true)), false⟩,
 ⟨some 30, .iadr 2 (.t 27) (.t 29), (some (21, true)), false⟩,
 ⟨some 31, .load 2 true (.t 30), (some (21, true)), false⟩,
 o4 32 (.callv (.t 22) [(.t 26), (.t 31)]) 21 true,
 o4 33 (.bin .lss (.t 32) (.c (.int .i64 0))) 21 true,
 o1 34 (.pick (.t 21) (.t 33) (.c (.bool false)))])
 (.cond (.t 34)
 .skip
 (.exit 2)))
 (.seq (.block 3
 (.reg [o3 37 (.mv (.t 0)),
 o3 38 (.mv (.t 9)),
 o3 39 (.mv (.t 0)),
 o3 40 (.mv (.t 9)),
 o3 41 (.bin .sub (.t 40) (.c (.int .i64 1))),
 o3 42 (.mv (.t 0)),
 o3 43 (.mv (.t 9)),
 o3 44 (.bin .sub (.t 43) (.c (.int .i64 1))),
 o3 45 (.iadr 2 (.t 42) (.t 44)),
 o3 46 (.load 2 true (.t 45)),
 o3 47 (.mv (.t 0)),
 o3 48 (.mv (.t 9)),
 o3 49 (.iadr 2 (.t 47) (.t 48)),
 o3 50 (.load 2 true (.t 49)),
 o1 51 (.iadr 2 (.t 37) (.t 38)),
 o2 (.store 2 (.t 51) (.t 46)),
 o1 52 (.iadr 2 (.t 39) (.t 41)),
 o2 (.store 2 (.t 52) (.t 50))]))
 (.reg [o1 35 (.mv (.t 9)),
 o1 36 (.bin .sub (.t 35) (.c (.int .i64 1))),
 o1 9 (.mv (.t 36))])))
def r87_2 : IC := (.reg [o1 15 (.mv (.t 8)),
 o1 16 (.bin .add (.t 15) (.c (.int .i64 1))),
 o1 8 (.mv (.t 16))])
def b87_0 : IC := (.seq (.seq (.reg [o1 12 (.mv (.t 8)),
 o1 13 (.mv (.t 2)),
 o1 14 (.bin .lss (.t 12) (.t 13))])
 (.cond (.t 14)
 .skip
 (.exit 0)))
 (.seq (.block 1
 (.seq (.reg [o1 17 (.mv (.t 8)),
 o1 9 (.mv (.t 17))])
 (.block 2
 (.loop b87_1))))
 r87_2))
def i87 : IFun := ⟨(.seq (.reg [o1 10 (.mv (.t 1)),
 o1 11 (.bin .add (.t 10) (.c (.int .i64 1))),
 o1 8 (.mv (.t 11))])
 (.block 0
 (.loop b87_0))),
 53, [], 0, []⟩
def b88_0 : IC := (.seq (.seq (.reg [o1 20 (.mv (.t 11)),
 o1 21 (.bin .geq (.t 20) (.c (.int .i64 0)))])
 (.cond (.t 21)
 .skip
 (.exit 0)))
 (.seq (.block 1
 (.reg [o1 24 (.mv (.t 0)),
 o1 25 (.mv (.t 11)),
 o1 26 (.mv (.t 10)),
 o1 27 (.mv (.t 8)),
 o1 28 (.mv (.t 3)),
 o1 29 (.callf 98 [(.t 24), (.t 25), (.t 26), (.t 27), (.t 28)])]))
 (.reg [o1 22 (.mv (.t 11)),
 o1 23 (.bin .sub (.t 22) (.c (.int .i64 1))),
 o1 11 (.mv (.t 23))])))
def b88_2 : IC := (.seq (.seq (.reg [o1 32 (.mv (.t 12)),
 o1 33 (.bin .geq (.t 32) (.c (.int .i64 0)))])
 (.cond (.t 33)
 .skip
 (.exit 2)))
 (.seq (.block 3
 (.seq (.reg [o3 36 (.mv (.t 0)),
 o3 37 (.mv (.t 8)),
 o3 38 (.mv (.t 0)),
 o3 39 (.mv (.t 8)),
 o3 40 (.mv (.t 12)),
 o3 41 (.bin .add (.t 39) (.t 40)),
 o3 42 (.mv (.t 0)),
 o3 43 (.mv (.t 8)),
 o3 44 (.mv (.t 12)),
 o3 45 (.bin .add (.t 43) (.t 44)),
 o3 46 (.iadr 2 (.t 42) (.t 45)),
 o3 47 (.load 2 true (.t 46)),
 o3 48 (.mv (.t 0)),
 o3 49 (.mv (.t 8)),
 o3 50 (.iadr 2 (.t 48) (.t 49)),
 o3 51 (.load 2 true (.t 50)),
 o1 52 (.iadr 2 (.t 36) (.t 37)),
 o2 (.store 2 (.t 52) (.t 47)),
 o1 53 (.iadr 2 (.t 38) (.t 41)),
 o2 (.store 2 (.t 53) (.t 51))])
 (.reg [o1 54 (.mv (.t 0)),
 o1 55 (.mv (.t 9)),
 o1 56 (.mv (.t 12)),
 o1 57 (.mv (.t 8)),
 o1 58 (.mv (.t 3)),
 o1 59 (.callf 98 [(.t 54), (.t 55), (.t 56), (.t 57), (.t 58)])])))
 (.reg [o1 34 (.mv (.t 12)),
 o1 35 (.bin .sub (.t 34) (.c (.int .i64 1))),
 o1 12 (.mv (.t 35))])))
def r88_1 : IC := (.seq (.reg [o1 30 (.mv (.t 10)),
 o1 31 (.bin .sub (.t 30) (.c (.int .i64 1))),
 o1 12 (.mv (.t 31))])
 (.block 2
 (.loop b88_2)))
def i88 : IFun := ⟨(.seq (.reg [o1 13 (.mv (.t 1)),
 o1 8 (.mv (.t 13))])
 (.seq (.reg [o1 9 (.mv (.c (.int .i64 0)))])
 (.seq (.reg [o1 14 (.mv (.t 2)),
 o1 15 (.mv (.t 1)),
 o1 16 (.bin .sub (.t 14) (.t 15)),
 o1 10 (.mv (.t 16))])
 (.seq (.seq (.reg [o1 17 (.mv (.t 10)),
 o1 18 (.bin .sub (.t 17) (.c (.int .i64 1))),
 o1 19 (.bin .quo (.t 18) (.c (.int .i64 2))),
 o1 11 (.mv (.t 19))])
 (.block 0
 (.loop b88_0)))
 r88_1)))),
 60, [], 0, []⟩
end Go.Proofs.Ytoommmeapdkopaa.E
