/- The code of the functions that the law reaches, for the small machine, and that it is the program's. -/
import Derived.Test.YtdhiacdfblakcaaProg
import Derived.Test.YtdhiacdfblakcaaAbY
import Derived.KernelRfl
namespace Go.Proofs.Ytdhiacdfblakcaa
open Go Go.Ab

noncomputable abbrev P : Program := Go.Proofs.Try.prog

-- syndrome/syndrometop.TopPolar
def c3 : AC := (.seq (.ops [⟨some 10, none, .mov (.const (.bool false))⟩])
 (.seq (.seq (.ops [⟨some 32, none, .mov (.tmp 0)⟩,
  ⟨some 33, none, .len (.tmp 32)⟩,
  ⟨some 34, none, .mov (.tmp 3)⟩,
  ⟨some 35, none, .len (.tmp 34)⟩,
  ⟨some 36, none, .bin .add (.tmp 33) (.tmp 35)⟩,
  ⟨some 37, none, .bin .gtr (.tmp 36) (.const (.int .i64 256))⟩])
 (.cond (.tmp 37) (.seq (.ops [⟨some 10, none, .mov (.const (.bool true))⟩])
 .ret)
 .skip))
 (.seq (.ops [⟨some 38, none, .mov (.tmp 1)⟩,
  ⟨some 39, none, .call (.func 4) [(.tmp 38), (.const (.int .i64 6))]⟩,
  ⟨some 1, none, .mov (.tmp 39)⟩])
 (.seq (.ops [⟨some 40, none, .mov (.tmp 2)⟩,
  ⟨some 41, none, .mov (.tmp 1)⟩,
  ⟨some 42, none, .bin .shl (.const (.int .i64 1)) (.tmp 41)⟩,
  ⟨some 43, none, .bin .add (.tmp 42) (.const (.int .i64 1))⟩,
  ⟨some 44, none, .call (.func 4) [(.tmp 40), (.tmp 43)]⟩,
  ⟨some 2, none, .mov (.tmp 44)⟩])
 (.seq (.ops [⟨some 46, none, .mov (.tmp 1)⟩,
  ⟨some 47, none, .call (.func 5) [(.tmp 46)]⟩,
  ⟨some 45, none, .mov (.tmp 47)⟩,
  ⟨some 48, none, .ext (.tmp 45) 0⟩,
  ⟨some 49, none, .ext (.tmp 45) 1⟩,
  ⟨some 11, none, .mov (.tmp 48)⟩,
  ⟨some 12, none, .mov (.tmp 49)⟩])
 (.seq (.seq (.ops [⟨some 50, none, .mov (.tmp 12)⟩,
  ⟨some 51, none, .bin .neq (.tmp 50) (.const (.int .i64 0))⟩,
  ⟨some 52, none, .mov (.tmp 51)⟩,
  ⟨some 53, some (52, false), .mov (.tmp 11)⟩,
  ⟨some 54, some (52, false), .len (.tmp 53)⟩,
  ⟨some 55, some (52, false), .mov (.tmp 1)⟩,
  ⟨some 56, some (52, false), .bin .shl (.const (.int .i64 1)) (.tmp 55)⟩,
  ⟨some 57, some (52, false), .bin .neq (.tmp 54) (.tmp 56)⟩,
  ⟨some 58, none, .pick (.tmp 52) (.const (.bool true)) (.tmp 57)⟩])
 (.cond (.tmp 58) (.seq (.ops [⟨some 10, none, .mov (.const (.bool false))⟩])
 .ret)
 .skip))
 (.seq (.ops [⟨some 13, none, .mov (.const (.int .i64 0))⟩])
 (.seq (.seq (.ops [⟨some 14, none, .mov (.const (.int .i64 0))⟩])
 (.block 0 (.loop (.seq (.seq (.ops [⟨some 59, none, .mov (.tmp 14)⟩,
  ⟨some 60, none, .mov (.tmp 11)⟩,
  ⟨some 61, none, .len (.tmp 60)⟩,
  ⟨some 62, none, .bin .lss (.tmp 59) (.tmp 61)⟩])
 (.cond (.tmp 62) .skip
 (.exit 0)))
 (.seq (.block 1 (.ops [⟨some 65, none, .mov (.tmp 13)⟩,
  ⟨some 66, none, .mov (.tmp 11)⟩,
  ⟨some 67, none, .mov (.tmp 14)⟩,
  ⟨some 68, none, .iaddr (.tmp 66) (.tmp 67) 1⟩,
  ⟨some 69, none, .load (.tmp 68) 1 false⟩,
  ⟨some 70, none, .bin .add (.tmp 65) (.tmp 69)⟩,
  ⟨some 13, none, .mov (.tmp 70)⟩]))
 (.ops [⟨some 63, none, .mov (.tmp 14)⟩,
  ⟨some 64, none, .bin .add (.tmp 63) (.const (.int .i64 1))⟩,
  ⟨some 14, none, .mov (.tmp 64)⟩]))))))
 (.seq (.seq (.draw [⟨0, ⟨some 71, none, .mov (.tmp 13)⟩, [], [], 0⟩,
  ⟨1, ⟨some 72, none, .mov (.tmp 1)⟩, [], [], 0⟩,
  ⟨2, ⟨some 73, none, .bin .shl (.const (.int .i64 1)) (.tmp 72)⟩, [1], [], 0⟩,
  ⟨3, ⟨some 74, none, .mov (.tmp 1)⟩, [], [], 0⟩,
  ⟨4, ⟨some 75, none, .bin .shl (.const (.int .u64 1)) (.tmp 74)⟩, [3], [], 0⟩,
  ⟨5, ⟨some 76, none, .bin .shl (.tmp 73) (.tmp 75)⟩, [2, 4, 1, 3], [], 0⟩,
  ⟨6, ⟨some 77, none, .bin .quo (.tmp 76) (.const (.int .i64 2))⟩, [5, 2, 4, 1, 3], [], 0⟩,
  ⟨7, ⟨some 78, none, .bin .neq (.tmp 71) (.tmp 77)⟩, [0, 6, 5, 2, 4, 1, 3], [], 0⟩] 0)
 (.cond (.tmp 78) (.seq (.ops [⟨some 10, none, .mov (.const (.bool false))⟩])
 .ret)
 .skip))
 (.seq (.ops [⟨some 79, none, .mov (.tmp 0)⟩,
  ⟨some 80, none, .mov (.tmp 2)⟩,
  ⟨some 81, none, .call (.func 6) [(.tmp 79), (.const (.int .i64 0)), (.tmp 80), (.const (.bool false))]⟩,
  ⟨some 15, none, .mov (.tmp 81)⟩])
 (.seq (.ops [⟨some 83, none, .mov (.tmp 1)⟩,
  ⟨some 84, none, .mov (.tmp 15)⟩,
  ⟨some 85, none, .call (.func 7) [(.tmp 83), (.tmp 84)]⟩,
  ⟨some 82, none, .mov (.tmp 85)⟩,
  ⟨some 86, none, .ext (.tmp 82) 0⟩,
  ⟨some 87, none, .ext (.tmp 82) 1⟩,
  ⟨some 16, none, .mov (.tmp 86)⟩,
  ⟨some 12, none, .mov (.tmp 87)⟩])
 (.seq (.seq (.ops [⟨some 88, none, .mov (.tmp 12)⟩,
  ⟨some 89, none, .bin .neq (.tmp 88) (.const (.int .i64 0))⟩,
  ⟨some 90, none, .mov (.tmp 89)⟩,
  ⟨some 91, some (90, false), .mov (.tmp 16)⟩,
  ⟨some 92, some (90, false), .len (.tmp 91)⟩,
  ⟨some 93, some (90, false), .mov (.tmp 1)⟩,
  ⟨some 94, some (90, false), .bin .shl (.const (.int .i64 1)) (.tmp 93)⟩,
  ⟨some 95, some (90, false), .bin .neq (.tmp 92) (.tmp 94)⟩,
  ⟨some 96, none, .pick (.tmp 90) (.const (.bool true)) (.tmp 95)⟩])
 (.cond (.tmp 96) (.seq (.ops [⟨some 10, none, .mov (.const (.bool false))⟩])
 .ret)
 .skip))
 (.seq (.ops [⟨some 97, none, .mov (.tmp 16)⟩,
  ⟨some 98, none, .call (.func 8) [(.tmp 97)]⟩,
  ⟨some 17, none, .mov (.tmp 98)⟩])
 (.seq (.ops [⟨some 99, none, .mov (.tmp 16)⟩,
  ⟨some 100, none, .call (.func 8) [(.tmp 99)]⟩,
  ⟨some 18, none, .mov (.tmp 100)⟩])
 (.seq (.seq (.ops [⟨some 19, none, .mov (.const (.int .i64 0))⟩])
 (.block 2 (.loop (.seq (.seq (.ops [⟨some 101, none, .mov (.tmp 19)⟩,
  ⟨some 102, none, .mov (.tmp 3)⟩,
  ⟨some 103, none, .len (.tmp 102)⟩,
  ⟨some 104, none, .bin .lss (.tmp 101) (.tmp 103)⟩])
 (.cond (.tmp 104) .skip
 (.exit 2)))
 (.seq (.block 3 (.seq (.ops [⟨some 107, none, .mov (.tmp 17)⟩,
  ⟨some 108, none, .mov (.tmp 3)⟩,
  ⟨some 109, none, .mov (.tmp 19)⟩,
  ⟨some 110, none, .iaddr (.tmp 108) (.tmp 109) 1⟩,
  ⟨some 111, none, .load (.tmp 110) 1 false⟩,
  ⟨some 112, none, .mov (.tmp 16)⟩,
  ⟨some 113, none, .len (.tmp 112)⟩,
  ⟨some 114, none, .call (.func 4) [(.tmp 111), (.tmp 113)]⟩,
  ⟨some 115, none, .iaddr (.tmp 107) (.tmp 114) 1⟩,
  ⟨none, none, .store (.tmp 115) (.const (.int .i64 (-1))) 1⟩])
 (.seq (.ops [⟨some 116, none, .mov (.tmp 4)⟩,
  ⟨some 117, none, .mov (.tmp 19)⟩,
  ⟨some 118, none, .bin .add (.tmp 116) (.tmp 117)⟩,
  ⟨some 119, none, .call (.func 4) [(.tmp 118), (.const (.int .i64 3))]⟩,
  ⟨some 120, none, .bin .gtr (.tmp 119) (.const (.int .i64 0))⟩])
 (.cond (.tmp 120) (.ops [⟨some 121, none, .mov (.tmp 18)⟩,
  ⟨some 122, none, .mov (.tmp 3)⟩,
  ⟨some 123, none, .mov (.tmp 19)⟩,
  ⟨some 124, none, .iaddr (.tmp 122) (.tmp 123) 1⟩,
  ⟨some 125, none, .load (.tmp 124) 1 false⟩,
  ⟨some 126, none, .mov (.tmp 16)⟩,
  ⟨some 127, none, .len (.tmp 126)⟩,
  ⟨some 128, none, .call (.func 4) [(.tmp 125), (.tmp 127)]⟩,
  ⟨some 129, none, .iaddr (.tmp 121) (.tmp 128) 1⟩,
  ⟨none, none, .store (.tmp 129) (.const (.int .i64 (-1))) 1⟩])
 .skip))))
 (.ops [⟨some 105, none, .mov (.tmp 19)⟩,
  ⟨some 106, none, .bin .add (.tmp 105) (.const (.int .i64 1))⟩,
  ⟨some 19, none, .mov (.tmp 106)⟩]))))))
 (.seq (.ops [⟨some 131, none, .mov (.tmp 1)⟩,
  ⟨some 132, none, .mov (.tmp 2)⟩,
  ⟨some 133, none, .mov (.tmp 17)⟩,
  ⟨some 134, none, .call (.func 9) [(.tmp 131), (.tmp 132), (.tmp 133)]⟩,
  ⟨some 130, none, .mov (.tmp 134)⟩,
  ⟨some 135, none, .ext (.tmp 130) 0⟩,
  ⟨some 136, none, .ext (.tmp 130) 1⟩,
  ⟨some 137, none, .ext (.tmp 130) 2⟩,
  ⟨some 20, none, .mov (.tmp 135)⟩,
  ⟨some 21, none, .mov (.tmp 136)⟩,
  ⟨some 12, none, .mov (.tmp 137)⟩])
 (.seq (.ops [⟨some 139, none, .mov (.tmp 1)⟩,
  ⟨some 140, none, .mov (.tmp 2)⟩,
  ⟨some 141, none, .mov (.tmp 18)⟩,
  ⟨some 142, none, .call (.func 9) [(.tmp 139), (.tmp 140), (.tmp 141)]⟩,
  ⟨some 138, none, .mov (.tmp 142)⟩,
  ⟨some 143, none, .ext (.tmp 138) 0⟩,
  ⟨some 144, none, .ext (.tmp 138) 1⟩,
  ⟨some 145, none, .ext (.tmp 138) 2⟩,
  ⟨some 22, none, .mov (.tmp 143)⟩,
  ⟨some 23, none, .mov (.tmp 144)⟩,
  ⟨some 24, none, .mov (.tmp 145)⟩])
 (.seq (.ops [⟨some 147, none, .mov (.tmp 1)⟩,
  ⟨some 148, none, .mov (.tmp 2)⟩,
  ⟨some 149, none, .mov (.tmp 16)⟩,
  ⟨some 150, none, .call (.func 9) [(.tmp 147), (.tmp 148), (.tmp 149)]⟩,
  ⟨some 146, none, .mov (.tmp 150)⟩,
  ⟨some 151, none, .ext (.tmp 146) 0⟩,
  ⟨some 152, none, .ext (.tmp 146) 1⟩,
  ⟨some 153, none, .ext (.tmp 146) 2⟩,
  ⟨some 25, none, .mov (.tmp 151)⟩,
  ⟨some 26, none, .mov (.tmp 152)⟩,
  ⟨some 27, none, .mov (.tmp 153)⟩])
 (.seq (.ops [⟨some 155, none, .mov (.tmp 1)⟩,
  ⟨some 156, none, .mov (.tmp 16)⟩,
  ⟨some 157, none, .call (.func 10) [(.tmp 155), (.tmp 156)]⟩,
  ⟨some 154, none, .mov (.tmp 157)⟩,
  ⟨some 158, none, .ext (.tmp 154) 0⟩,
  ⟨some 159, none, .ext (.tmp 154) 1⟩,
  ⟨some 28, none, .mov (.tmp 158)⟩,
  ⟨some 29, none, .mov (.tmp 159)⟩])
 (.seq (.ops [⟨some 161, none, .mov (.tmp 1)⟩,
  ⟨some 162, none, .mov (.tmp 28)⟩,
  ⟨some 163, none, .call (.func 10) [(.tmp 161), (.tmp 162)]⟩,
  ⟨some 160, none, .mov (.tmp 163)⟩,
  ⟨some 164, none, .ext (.tmp 160) 0⟩,
  ⟨some 165, none, .ext (.tmp 160) 1⟩,
  ⟨some 30, none, .mov (.tmp 164)⟩,
  ⟨some 31, none, .mov (.tmp 165)⟩])
 (.seq (.ops [⟨some 166, none, .mov (.tmp 12)⟩,
  ⟨some 167, none, .bin .eql (.tmp 166) (.const (.int .i64 0))⟩,
  ⟨some 168, none, .mov (.tmp 167)⟩,
  ⟨some 169, some (168, true), .mov (.tmp 24)⟩,
  ⟨some 170, some (168, true), .bin .eql (.tmp 169) (.const (.int .i64 0))⟩,
  ⟨some 171, none, .pick (.tmp 168) (.tmp 170) (.const (.bool false))⟩,
  ⟨some 172, none, .mov (.tmp 171)⟩,
  ⟨some 173, some (172, true), .mov (.tmp 27)⟩,
  ⟨some 174, some (172, true), .bin .eql (.tmp 173) (.const (.int .i64 0))⟩,
  ⟨some 175, none, .pick (.tmp 172) (.tmp 174) (.const (.bool false))⟩,
  ⟨some 176, none, .mov (.tmp 175)⟩,
  ⟨some 177, some (176, true), .mov (.tmp 29)⟩,
  ⟨some 178, some (176, true), .bin .eql (.tmp 177) (.const (.int .i64 0))⟩,
  ⟨some 179, none, .pick (.tmp 176) (.tmp 178) (.const (.bool false))⟩,
  ⟨some 180, none, .mov (.tmp 179)⟩,
  ⟨some 181, some (180, true), .mov (.tmp 31)⟩,
  ⟨some 182, some (180, true), .bin .eql (.tmp 181) (.const (.int .i64 0))⟩,
  ⟨some 183, none, .pick (.tmp 180) (.tmp 182) (.const (.bool false))⟩,
  ⟨some 184, none, .mov (.tmp 183)⟩,
  ⟨some 185, some (184, true), .mov (.tmp 26)⟩,
  ⟨some 186, none, .pick (.tmp 184) (.tmp 185) (.const (.bool false))⟩,
  ⟨some 187, none, .mov (.tmp 186)⟩,
  ⟨some 188, some (187, true), .mov (.tmp 25)⟩,
  ⟨some 189, some (187, true), .mov (.tmp 15)⟩,
  ⟨some 190, some (187, true), .call (.func 11) [(.tmp 188), (.tmp 189)]⟩,
  ⟨some 191, none, .pick (.tmp 187) (.tmp 190) (.const (.bool false))⟩,
  ⟨some 192, none, .mov (.tmp 191)⟩,
  ⟨some 193, some (192, true), .mov (.tmp 21)⟩,
  ⟨some 194, some (192, true), .un .not (.tmp 193)⟩,
  ⟨some 195, some (192, true), .mov (.tmp 194)⟩,
  ⟨some 196, some (195, false), .mov (.tmp 20)⟩,
  ⟨some 197, some (195, false), .mov (.tmp 15)⟩,
  ⟨some 198, some (195, false), .call (.func 11) [(.tmp 196), (.tmp 197)]⟩,
  ⟨some 199, some (195, false), .mov (.tmp 198)⟩,
  ⟨some 200, some (199, true), .mov (.tmp 23)⟩,
  ⟨some 201, some (195, false), .pick (.tmp 199) (.tmp 200) (.const (.bool false))⟩,
  ⟨some 202, some (192, true), .pick (.tmp 195) (.const (.bool true)) (.tmp 201)⟩,
  ⟨some 203, none, .pick (.tmp 192) (.tmp 202) (.const (.bool false))⟩,
  ⟨some 204, none, .mov (.tmp 203)⟩,
  ⟨some 205, some (204, true), .mov (.tmp 23)⟩,
  ⟨some 206, some (204, true), .un .not (.tmp 205)⟩,
  ⟨some 207, some (204, true), .mov (.tmp 206)⟩,
  ⟨some 208, some (207, false), .mov (.tmp 22)⟩,
  ⟨some 209, some (207, false), .mov (.tmp 15)⟩,
  ⟨some 210, some (207, false), .call (.func 11) [(.tmp 208), (.tmp 209)]⟩,
  ⟨some 211, some (204, true), .pick (.tmp 207) (.const (.bool true)) (.tmp 210)⟩,
  ⟨some 212, none, .pick (.tmp 204) (.tmp 211) (.const (.bool false))⟩,
  ⟨some 213, none, .mov (.tmp 212)⟩,
  ⟨some 214, some (213, true), .mov (.tmp 30)⟩,
  ⟨some 215, some (213, true), .mov (.tmp 16)⟩,
  ⟨some 216, some (213, true), .call (.func 11) [(.tmp 214), (.tmp 215)]⟩,
  ⟨some 217, none, .pick (.tmp 213) (.tmp 216) (.const (.bool false))⟩,
  ⟨some 10, none, .mov (.tmp 217)⟩])
 .ret)))))))))))))))))))))
def a3 : AF := ⟨5, 218, [.tmp 10], c3⟩
-- syndrome/syndromeref.Pick
def c4 : AC := (.seq (.ops [⟨some 4, none, .mov (.const (.int .i64 0))⟩])
 (.seq (.seq (.ops [⟨some 5, none, .mov (.tmp 0)⟩,
  ⟨some 6, none, .bin .lss (.tmp 5) (.const (.int .i64 0))⟩])
 (.cond (.tmp 6) (.ops [⟨some 7, none, .mov (.tmp 0)⟩,
  ⟨some 8, none, .bin .add (.tmp 7) (.const (.int .i64 1))⟩,
  ⟨some 9, none, .un .neg (.tmp 8)⟩,
  ⟨some 0, none, .mov (.tmp 9)⟩])
 .skip))
 (.seq (.ops [⟨some 10, none, .mov (.tmp 0)⟩,
  ⟨some 11, none, .mov (.tmp 1)⟩,
  ⟨some 12, none, .bin .rem (.tmp 10) (.tmp 11)⟩,
  ⟨some 4, none, .mov (.tmp 12)⟩])
 .ret)))
def a4 : AF := ⟨2, 13, [.tmp 4], c4⟩
-- syndrome/polar.Chances
def c5 : AC := (.seq (.ops [⟨some 2, none, .mov (.const (.slice none 0 0))⟩,
  ⟨some 3, none, .mov (.const (.int .i64 0))⟩])
 (.seq (.seq (.ops [⟨some 11, none, .mov (.tmp 0)⟩,
  ⟨some 12, none, .call (.func 12) [(.tmp 11)]⟩,
  ⟨some 4, none, .mov (.tmp 12)⟩])
 (.seq (.ops [⟨some 13, none, .mov (.tmp 4)⟩,
  ⟨some 14, none, .bin .neq (.tmp 13) (.const (.int .i64 0))⟩])
 (.cond (.tmp 14) (.seq (.ops [⟨some 15, none, .mov (.tmp 4)⟩,
  ⟨some 2, none, .mov (.const (.slice none 0 0))⟩,
  ⟨some 3, none, .mov (.tmp 15)⟩])
 .ret)
 .skip)))
 (.seq (.ops [⟨some 16, none, .bslice 1 1 [(.int .i64 0)] [(0, 1, (.const (.int .i64 1)))]⟩,
  ⟨some 5, none, .mov (.tmp 16)⟩])
 (.seq (.seq (.ops [⟨some 17, none, .mov (.tmp 0)⟩,
  ⟨some 18, none, .mov (.const (.int .i64 0))⟩])
 (.block 0 (.loop (.seq (.ops [⟨some 19, none, .bin .lss (.tmp 18) (.tmp 17)⟩])
 (.seq (.cond (.tmp 19) .skip
 (.exit 0))
 (.seq (.block 1 (.seq (.ops [⟨some 20, none, .mov (.tmp 18)⟩,
  ⟨some 6, none, .mov (.tmp 20)⟩])
 (.seq (.ops [⟨some 21, none, .mov (.tmp 6)⟩,
  ⟨some 22, none, .bin .shl (.const (.int .u64 1)) (.tmp 21)⟩,
  ⟨some 23, none, .bin .shl (.const (.int .i64 1)) (.tmp 22)⟩,
  ⟨some 7, none, .mov (.tmp 23)⟩])
 (.seq (.ops [⟨some 8, none, .mov (.const (.slice none 0 0))⟩])
 (.seq (.seq (.ops [⟨some 24, none, .mov (.tmp 5)⟩,
  ⟨some 25, none, .len (.tmp 24)⟩,
  ⟨some 26, none, .mov (.const (.int .i64 0))⟩])
 (.block 2 (.loop (.seq (.ops [⟨some 27, none, .bin .lss (.tmp 26) (.tmp 25)⟩])
 (.seq (.cond (.tmp 27) .skip
 (.exit 2))
 (.seq (.block 3 (.seq (.ops [⟨some 28, none, .iaddr (.tmp 24) (.tmp 26) 1⟩,
  ⟨some 29, none, .load (.tmp 28) 1 false⟩,
  ⟨some 10, none, .mov (.tmp 29)⟩])
 (.ops [⟨some 30, none, .mov (.tmp 8)⟩,
  ⟨some 31, none, .mov (.tmp 10)⟩,
  ⟨some 32, none, .bin .mul (.const (.int .i64 2)) (.tmp 31)⟩,
  ⟨some 33, none, .mov (.tmp 7)⟩,
  ⟨some 34, none, .bin .mul (.tmp 32) (.tmp 33)⟩,
  ⟨some 35, none, .mov (.tmp 10)⟩,
  ⟨some 36, none, .mov (.tmp 10)⟩,
  ⟨some 37, none, .bin .mul (.tmp 35) (.tmp 36)⟩,
  ⟨some 38, none, .bin .sub (.tmp 34) (.tmp 37)⟩,
  ⟨some 39, none, .mov (.tmp 10)⟩,
  ⟨some 40, none, .mov (.tmp 10)⟩,
  ⟨some 41, none, .bin .mul (.tmp 39) (.tmp 40)⟩,
  ⟨some 42, none, .bslice 2 1 [(.int .i64 0)] [(0, 1, (.tmp 38)), (1, 1, (.tmp 41))]⟩,
  ⟨some 43, none, .app (.tmp 30) (.tmp 42) 1 8⟩,
  ⟨some 8, none, .mov (.tmp 43)⟩])))
 (.ops [⟨some 44, none, .bin .add (.tmp 26) (.const (.int .i64 1))⟩,
  ⟨some 26, none, .mov (.tmp 44)⟩])))))))
 (.ops [⟨some 45, none, .mov (.tmp 8)⟩,
  ⟨some 5, none, .mov (.tmp 45)⟩]))))))
 (.ops [⟨some 46, none, .bin .add (.tmp 18) (.const (.int .i64 1))⟩,
  ⟨some 18, none, .mov (.tmp 46)⟩])))))))
 (.seq (.ops [⟨some 47, none, .mov (.tmp 5)⟩,
  ⟨some 2, none, .mov (.tmp 47)⟩,
  ⟨some 3, none, .mov (.const (.int .i64 0))⟩])
 .ret)))))
def a5 : AF := ⟨1, 48, [.tmp 2, .tmp 3], c5⟩
-- syndrome/syndromeref.WordOf
def c6 : AC := (.seq (.ops [⟨some 8, none, .mov (.const (.slice none 0 0))⟩])
 (.seq (.ops [⟨some 9, none, .mov (.const (.slice none 0 0))⟩])
 (.seq (.seq (.ops [⟨some 10, none, .mov (.const (.int .i64 0))⟩])
 (.block 0 (.loop (.seq (.seq (.ops [⟨some 12, none, .mov (.tmp 10)⟩,
  ⟨some 13, none, .mov (.tmp 2)⟩,
  ⟨some 14, none, .bin .lss (.tmp 12) (.tmp 13)⟩])
 (.cond (.tmp 14) .skip
 (.exit 0)))
 (.seq (.block 1 (.seq (.ops [⟨some 17, none, .mov (.tmp 0)⟩,
  ⟨some 18, none, .mov (.tmp 1)⟩,
  ⟨some 19, none, .mov (.tmp 10)⟩,
  ⟨some 20, none, .bin .add (.tmp 18) (.tmp 19)⟩,
  ⟨some 21, none, .call (.func 13) [(.tmp 17), (.tmp 20)]⟩,
  ⟨some 22, none, .call (.func 4) [(.tmp 21), (.const (.int .i64 4))]⟩,
  ⟨some 11, none, .mov (.tmp 22)⟩])
 (.seq (.seq (.ops [⟨some 23, none, .mov (.tmp 11)⟩,
  ⟨some 24, none, .bin .gtr (.tmp 23) (.const (.int .i64 1))⟩])
 (.cond (.tmp 24) (.seq (.ops [⟨some 25, none, .mov (.tmp 11)⟩,
  ⟨some 26, none, .bin .sub (.tmp 25) (.const (.int .i64 2))⟩,
  ⟨some 11, none, .mov (.tmp 26)⟩])
 (.seq (.ops [⟨some 27, none, .mov (.tmp 3)⟩,
  ⟨some 28, none, .mov (.tmp 27)⟩,
  ⟨some 29, some (28, true), .mov (.tmp 0)⟩,
  ⟨some 30, some (28, true), .mov (.tmp 1)⟩,
  ⟨some 31, some (28, true), .mov (.tmp 10)⟩,
  ⟨some 32, some (28, true), .bin .add (.tmp 30) (.tmp 31)⟩,
  ⟨some 33, some (28, true), .call (.func 13) [(.tmp 29), (.tmp 32)]⟩,
  ⟨some 34, some (28, true), .bin .quo (.tmp 33) (.const (.int .i64 4))⟩,
  ⟨some 35, some (28, true), .call (.func 4) [(.tmp 34), (.const (.int .i64 2))]⟩,
  ⟨some 36, some (28, true), .bin .eql (.tmp 35) (.const (.int .i64 0))⟩,
  ⟨some 37, none, .pick (.tmp 28) (.tmp 36) (.const (.bool false))⟩])
 (.cond (.tmp 37) (.ops [⟨some 11, none, .mov (.const (.int .i64 (-1)))⟩])
 .skip)))
 .skip))
 (.ops [⟨some 38, none, .mov (.tmp 9)⟩,
  ⟨some 39, none, .mov (.tmp 11)⟩,
  ⟨some 40, none, .bslice 1 1 [(.int .i64 0)] [(0, 1, (.tmp 39))]⟩,
  ⟨some 41, none, .app (.tmp 38) (.tmp 40) 1 8⟩,
  ⟨some 9, none, .mov (.tmp 41)⟩]))))
 (.ops [⟨some 15, none, .mov (.tmp 10)⟩,
  ⟨some 16, none, .bin .add (.tmp 15) (.const (.int .i64 1))⟩,
  ⟨some 10, none, .mov (.tmp 16)⟩]))))))
 (.seq (.ops [⟨some 42, none, .mov (.tmp 9)⟩,
  ⟨some 8, none, .mov (.tmp 42)⟩])
 .ret))))
def a6 : AF := ⟨4, 43, [.tmp 8], c6⟩
-- syndrome/polar.Encode
def c7 : AC := (.seq (.ops [⟨some 4, none, .mov (.const (.slice none 0 0))⟩,
  ⟨some 5, none, .mov (.const (.int .i64 0))⟩])
 (.seq (.ops [⟨some 12, none, .mov (.tmp 0)⟩,
  ⟨some 13, none, .mov (.tmp 1)⟩,
  ⟨some 14, none, .len (.tmp 13)⟩,
  ⟨some 15, none, .call (.func 14) [(.tmp 12), (.tmp 14)]⟩,
  ⟨some 11, none, .mov (.tmp 15)⟩,
  ⟨some 16, none, .ext (.tmp 11) 0⟩,
  ⟨some 17, none, .ext (.tmp 11) 1⟩,
  ⟨some 6, none, .mov (.tmp 16)⟩,
  ⟨some 7, none, .mov (.tmp 17)⟩])
 (.seq (.seq (.ops [⟨some 18, none, .mov (.tmp 7)⟩,
  ⟨some 19, none, .bin .neq (.tmp 18) (.const (.int .i64 0))⟩])
 (.cond (.tmp 19) (.seq (.ops [⟨some 20, none, .mov (.tmp 7)⟩,
  ⟨some 4, none, .mov (.const (.slice none 0 0))⟩,
  ⟨some 5, none, .mov (.tmp 20)⟩])
 .ret)
 .skip))
 (.seq (.ops [⟨some 21, none, .mov (.tmp 0)⟩,
  ⟨some 22, none, .bin .shl (.const (.int .i64 1)) (.tmp 21)⟩,
  ⟨some 23, none, .mkslice (.tmp 22) (.tmp 22) 1 8 [(.int .i64 0)]⟩,
  ⟨some 8, none, .mov (.tmp 23)⟩])
 (.seq (.seq (.ops [⟨some 24, none, .mov (.tmp 6)⟩,
  ⟨some 25, none, .len (.tmp 24)⟩,
  ⟨some 26, none, .mov (.const (.int .i64 0))⟩])
 (.block 0 (.loop (.seq (.ops [⟨some 27, none, .bin .lss (.tmp 26) (.tmp 25)⟩])
 (.seq (.cond (.tmp 27) .skip
 (.exit 0))
 (.seq (.block 1 (.seq (.ops [⟨some 28, none, .mov (.tmp 26)⟩,
  ⟨some 29, none, .iaddr (.tmp 24) (.tmp 26) 1⟩,
  ⟨some 30, none, .load (.tmp 29) 1 false⟩,
  ⟨some 9, none, .mov (.tmp 28)⟩,
  ⟨some 10, none, .mov (.tmp 30)⟩])
 (.ops [⟨some 31, none, .mov (.tmp 8)⟩,
  ⟨some 32, none, .mov (.tmp 10)⟩,
  ⟨some 33, none, .mov (.tmp 1)⟩,
  ⟨some 34, none, .mov (.tmp 9)⟩,
  ⟨some 35, none, .iaddr (.tmp 33) (.tmp 34) 1⟩,
  ⟨some 36, none, .load (.tmp 35) 1 false⟩,
  ⟨some 37, none, .iaddr (.tmp 31) (.tmp 32) 1⟩,
  ⟨none, none, .store (.tmp 37) (.tmp 36) 1⟩])))
 (.ops [⟨some 38, none, .bin .add (.tmp 26) (.const (.int .i64 1))⟩,
  ⟨some 26, none, .mov (.tmp 38)⟩])))))))
 (.seq (.ops [⟨some 39, none, .mov (.tmp 0)⟩,
  ⟨some 40, none, .mov (.tmp 8)⟩,
  ⟨some 41, none, .call (.func 10) [(.tmp 39), (.tmp 40)]⟩,
  ⟨some 42, none, .ext (.tmp 41) 0⟩,
  ⟨some 43, none, .ext (.tmp 41) 1⟩,
  ⟨some 4, none, .mov (.tmp 42)⟩,
  ⟨some 5, none, .mov (.tmp 43)⟩])
 .ret))))))
def a7 : AF := ⟨2, 44, [.tmp 4, .tmp 5], c7⟩
-- syndrome/syndromeref.Copy
def c8 : AC := (.seq (.ops [⟨some 2, none, .mov (.const (.slice none 0 0))⟩])
 (.seq (.ops [⟨some 3, none, .bslice 0 1 [(.int .i64 0)] []⟩,
  ⟨some 4, none, .mov (.tmp 0)⟩,
  ⟨some 5, none, .app (.tmp 3) (.tmp 4) 1 8⟩,
  ⟨some 2, none, .mov (.tmp 5)⟩])
 .ret))
def a8 : AF := ⟨1, 6, [.tmp 2], c8⟩
-- syndrome/polar.Decode
def c9 : AC := (.seq (.ops [⟨some 6, none, .mov (.const (.slice none 0 0))⟩,
  ⟨some 7, none, .mov (.const (.bool false))⟩,
  ⟨some 8, none, .mov (.const (.int .i64 0))⟩])
 (.seq (.ops [⟨some 16, none, .mov (.tmp 0)⟩,
  ⟨some 17, none, .mov (.tmp 1)⟩,
  ⟨some 18, none, .call (.func 14) [(.tmp 16), (.tmp 17)]⟩,
  ⟨some 15, none, .mov (.tmp 18)⟩,
  ⟨some 19, none, .ext (.tmp 15) 0⟩,
  ⟨some 20, none, .ext (.tmp 15) 1⟩,
  ⟨some 9, none, .mov (.tmp 19)⟩,
  ⟨some 8, none, .mov (.tmp 20)⟩])
 (.seq (.seq (.ops [⟨some 21, none, .mov (.tmp 8)⟩,
  ⟨some 22, none, .bin .neq (.tmp 21) (.const (.int .i64 0))⟩])
 (.cond (.tmp 22) (.seq (.ops [⟨some 23, none, .mov (.tmp 8)⟩,
  ⟨some 6, none, .mov (.const (.slice none 0 0))⟩,
  ⟨some 7, none, .mov (.const (.bool false))⟩,
  ⟨some 8, none, .mov (.tmp 23)⟩])
 .ret)
 .skip))
 (.seq (.seq (.ops [⟨some 24, none, .mov (.tmp 2)⟩,
  ⟨some 25, none, .len (.tmp 24)⟩,
  ⟨some 26, none, .mov (.tmp 0)⟩,
  ⟨some 27, none, .bin .shl (.const (.int .i64 1)) (.tmp 26)⟩,
  ⟨some 28, none, .bin .neq (.tmp 25) (.tmp 27)⟩])
 (.cond (.tmp 28) (.seq (.ops [⟨some 6, none, .mov (.const (.slice none 0 0))⟩,
  ⟨some 7, none, .mov (.const (.bool false))⟩,
  ⟨some 8, none, .mov (.const (.int .i64 6))⟩])
 .ret)
 .skip))
 (.seq (.seq (.ops [⟨some 29, none, .mov (.tmp 2)⟩,
  ⟨some 30, none, .call (.func 15) [(.tmp 29), (.func 16)]⟩])
 (.cond (.tmp 30) (.seq (.ops [⟨some 6, none, .mov (.const (.slice none 0 0))⟩,
  ⟨some 7, none, .mov (.const (.bool false))⟩,
  ⟨some 8, none, .mov (.const (.int .i64 2))⟩])
 .ret)
 .skip))
 (.seq (.ops [⟨some 31, none, .mov (.tmp 0)⟩,
  ⟨some 32, none, .bin .shl (.const (.int .i64 1)) (.tmp 31)⟩,
  ⟨some 33, none, .mkslice (.tmp 32) (.tmp 32) 1 1 [(.bool false)]⟩,
  ⟨some 34, none, .build [(.slice none 0 0), (.slice none 0 0), (.bool false)] [(0, 1, (.tmp 33))]⟩,
  ⟨some 35, none, .box (.tmp 34)⟩,
  ⟨some 10, none, .mov (.tmp 35)⟩])
 (.seq (.seq (.ops [⟨some 36, none, .mov (.tmp 9)⟩,
  ⟨some 37, none, .len (.tmp 36)⟩,
  ⟨some 38, none, .mov (.const (.int .i64 0))⟩])
 (.block 0 (.loop (.seq (.ops [⟨some 39, none, .bin .lss (.tmp 38) (.tmp 37)⟩])
 (.seq (.cond (.tmp 39) .skip
 (.exit 0))
 (.seq (.block 1 (.seq (.ops [⟨some 40, none, .iaddr (.tmp 36) (.tmp 38) 1⟩,
  ⟨some 41, none, .load (.tmp 40) 1 false⟩,
  ⟨some 12, none, .mov (.tmp 41)⟩])
 (.ops [⟨some 42, none, .mov (.tmp 10)⟩,
  ⟨some 43, none, .chk (.tmp 42)⟩,
  ⟨some 44, none, .faddr (.tmp 43) 0⟩,
  ⟨some 45, none, .load (.tmp 44) 1 false⟩,
  ⟨some 46, none, .mov (.tmp 12)⟩,
  ⟨some 47, none, .iaddr (.tmp 45) (.tmp 46) 1⟩,
  ⟨none, none, .store (.tmp 47) (.const (.bool true)) 1⟩])))
 (.ops [⟨some 48, none, .bin .add (.tmp 38) (.const (.int .i64 1))⟩,
  ⟨some 38, none, .mov (.tmp 48)⟩])))))))
 (.seq (.ops [⟨some 49, none, .mov (.tmp 10)⟩,
  ⟨some 50, none, .mov (.tmp 2)⟩,
  ⟨some 51, none, .call (.func 17) [(.tmp 49), (.tmp 50)]⟩])
 (.seq (.seq (.ops [⟨some 52, none, .mov (.tmp 10)⟩,
  ⟨some 53, none, .chk (.tmp 52)⟩,
  ⟨some 54, none, .faddr (.tmp 53) 2⟩,
  ⟨some 55, none, .load (.tmp 54) 1 false⟩])
 (.cond (.tmp 55) (.seq (.ops [⟨some 6, none, .mov (.const (.slice none 0 0))⟩,
  ⟨some 7, none, .mov (.const (.bool false))⟩,
  ⟨some 8, none, .mov (.const (.int .i64 0))⟩])
 .ret)
 .skip))
 (.seq (.ops [⟨some 56, none, .mov (.tmp 1)⟩,
  ⟨some 57, none, .mkslice (.const (.int .i64 0)) (.tmp 56) 1 8 [(.int .i64 0)]⟩,
  ⟨some 6, none, .mov (.tmp 57)⟩])
 (.seq (.seq (.ops [⟨some 58, none, .mov (.tmp 9)⟩,
  ⟨some 59, none, .len (.tmp 58)⟩,
  ⟨some 60, none, .mov (.const (.int .i64 0))⟩])
 (.block 2 (.loop (.seq (.ops [⟨some 61, none, .bin .lss (.tmp 60) (.tmp 59)⟩])
 (.seq (.cond (.tmp 61) .skip
 (.exit 2))
 (.seq (.block 3 (.seq (.ops [⟨some 62, none, .iaddr (.tmp 58) (.tmp 60) 1⟩,
  ⟨some 63, none, .load (.tmp 62) 1 false⟩,
  ⟨some 14, none, .mov (.tmp 63)⟩])
 (.ops [⟨some 64, none, .mov (.tmp 6)⟩,
  ⟨some 65, none, .mov (.tmp 10)⟩,
  ⟨some 66, none, .chk (.tmp 65)⟩,
  ⟨some 67, none, .faddr (.tmp 66) 1⟩,
  ⟨some 68, none, .load (.tmp 67) 1 false⟩,
  ⟨some 69, none, .mov (.tmp 14)⟩,
  ⟨some 70, none, .iaddr (.tmp 68) (.tmp 69) 1⟩,
  ⟨some 71, none, .load (.tmp 70) 1 false⟩,
  ⟨some 72, none, .bslice 1 1 [(.int .i64 0)] [(0, 1, (.tmp 71))]⟩,
  ⟨some 73, none, .app (.tmp 64) (.tmp 72) 1 8⟩,
  ⟨some 6, none, .mov (.tmp 73)⟩])))
 (.ops [⟨some 74, none, .bin .add (.tmp 60) (.const (.int .i64 1))⟩,
  ⟨some 60, none, .mov (.tmp 74)⟩])))))))
 (.seq (.ops [⟨some 75, none, .mov (.tmp 6)⟩,
  ⟨some 6, none, .mov (.tmp 75)⟩,
  ⟨some 7, none, .mov (.const (.bool true))⟩,
  ⟨some 8, none, .mov (.const (.int .i64 0))⟩])
 .ret))))))))))))
def a9 : AF := ⟨3, 76, [.tmp 6, .tmp 7, .tmp 8], c9⟩
-- syndrome/polar.Transform
def c10 : AC := (.seq (.ops [⟨some 4, none, .mov (.const (.slice none 0 0))⟩,
  ⟨some 5, none, .mov (.const (.int .i64 0))⟩])
 (.seq (.seq (.ops [⟨some 7, none, .mov (.tmp 0)⟩,
  ⟨some 8, none, .call (.func 12) [(.tmp 7)]⟩,
  ⟨some 6, none, .mov (.tmp 8)⟩])
 (.seq (.ops [⟨some 9, none, .mov (.tmp 6)⟩,
  ⟨some 10, none, .bin .neq (.tmp 9) (.const (.int .i64 0))⟩])
 (.cond (.tmp 10) (.seq (.ops [⟨some 11, none, .mov (.tmp 6)⟩,
  ⟨some 4, none, .mov (.const (.slice none 0 0))⟩,
  ⟨some 5, none, .mov (.tmp 11)⟩])
 .ret)
 .skip)))
 (.seq (.seq (.ops [⟨some 12, none, .mov (.tmp 1)⟩,
  ⟨some 13, none, .len (.tmp 12)⟩,
  ⟨some 14, none, .mov (.tmp 0)⟩,
  ⟨some 15, none, .bin .shl (.const (.int .i64 1)) (.tmp 14)⟩,
  ⟨some 16, none, .bin .neq (.tmp 13) (.tmp 15)⟩])
 (.cond (.tmp 16) (.seq (.ops [⟨some 4, none, .mov (.const (.slice none 0 0))⟩,
  ⟨some 5, none, .mov (.const (.int .i64 6))⟩])
 .ret)
 .skip))
 (.seq (.seq (.ops [⟨some 17, none, .mov (.tmp 1)⟩,
  ⟨some 18, none, .call (.func 15) [(.tmp 17), (.func 18)]⟩])
 (.cond (.tmp 18) (.seq (.ops [⟨some 4, none, .mov (.const (.slice none 0 0))⟩,
  ⟨some 5, none, .mov (.const (.int .i64 2))⟩])
 .ret)
 .skip))
 (.seq (.ops [⟨some 19, none, .mov (.tmp 1)⟩,
  ⟨some 20, none, .call (.func 19) [(.tmp 19)]⟩,
  ⟨some 4, none, .mov (.tmp 20)⟩,
  ⟨some 5, none, .mov (.const (.int .i64 0))⟩])
 .ret)))))
def a10 : AF := ⟨2, 21, [.tmp 4, .tmp 5], c10⟩
-- syndrome/syndromeref.Same
def c11 : AC := (.seq (.ops [⟨some 4, none, .mov (.const (.bool false))⟩])
 (.seq (.seq (.ops [⟨some 6, none, .mov (.tmp 0)⟩,
  ⟨some 7, none, .len (.tmp 6)⟩,
  ⟨some 8, none, .mov (.tmp 1)⟩,
  ⟨some 9, none, .len (.tmp 8)⟩,
  ⟨some 10, none, .bin .neq (.tmp 7) (.tmp 9)⟩])
 (.cond (.tmp 10) (.seq (.ops [⟨some 4, none, .mov (.const (.bool false))⟩])
 .ret)
 .skip))
 (.seq (.seq (.ops [⟨some 5, none, .mov (.const (.int .i64 0))⟩])
 (.block 0 (.loop (.seq (.seq (.ops [⟨some 11, none, .mov (.tmp 5)⟩,
  ⟨some 12, none, .mov (.tmp 0)⟩,
  ⟨some 13, none, .len (.tmp 12)⟩,
  ⟨some 14, none, .bin .lss (.tmp 11) (.tmp 13)⟩])
 (.cond (.tmp 14) .skip
 (.exit 0)))
 (.seq (.block 1 (.seq (.draw [⟨0, ⟨some 17, none, .mov (.tmp 0)⟩, [], [], 0⟩,
  ⟨1, ⟨some 18, none, .mov (.tmp 5)⟩, [], [], 0⟩,
  ⟨2, ⟨some 19, none, .iaddr (.tmp 17) (.tmp 18) 1⟩, [0, 1], [], 0⟩,
  ⟨3, ⟨some 20, none, .load (.tmp 19) 1 false⟩, [2, 0, 1], [], 0⟩,
  ⟨4, ⟨some 21, none, .mov (.tmp 1)⟩, [], [], 0⟩,
  ⟨5, ⟨some 22, none, .mov (.tmp 5)⟩, [], [], 0⟩,
  ⟨6, ⟨some 23, none, .iaddr (.tmp 21) (.tmp 22) 1⟩, [4, 5], [], 0⟩,
  ⟨7, ⟨some 24, none, .load (.tmp 23) 1 false⟩, [6, 4, 5], [], 0⟩,
  ⟨8, ⟨some 25, none, .bin .neq (.tmp 20) (.tmp 24)⟩, [3, 7, 2, 0, 1, 6, 4, 5], [], 0⟩] 0)
 (.cond (.tmp 25) (.seq (.ops [⟨some 4, none, .mov (.const (.bool false))⟩])
 .ret)
 .skip)))
 (.ops [⟨some 15, none, .mov (.tmp 5)⟩,
  ⟨some 16, none, .bin .add (.tmp 15) (.const (.int .i64 1))⟩,
  ⟨some 5, none, .mov (.tmp 16)⟩]))))))
 (.seq (.ops [⟨some 4, none, .mov (.const (.bool true))⟩])
 .ret))))
def a11 : AF := ⟨2, 26, [.tmp 4], c11⟩
-- syndrome/polar.level
def c12 : AC := (.seq (.ops [⟨some 2, none, .mov (.const (.int .i64 0))⟩])
 (.seq (.seq (.ops [⟨some 3, none, .mov (.tmp 0)⟩,
  ⟨some 4, none, .bin .lss (.tmp 3) (.const (.int .i64 0))⟩,
  ⟨some 5, none, .mov (.tmp 4)⟩,
  ⟨some 6, some (5, false), .mov (.tmp 0)⟩,
  ⟨some 7, some (5, false), .bin .gtr (.tmp 6) (.const (.int .i64 5))⟩,
  ⟨some 8, none, .pick (.tmp 5) (.const (.bool true)) (.tmp 7)⟩])
 (.cond (.tmp 8) (.seq (.ops [⟨some 2, none, .mov (.const (.int .i64 4))⟩])
 .ret)
 .skip))
 (.seq (.ops [⟨some 2, none, .mov (.const (.int .i64 0))⟩])
 .ret)))
def a12 : AF := ⟨1, 9, [.tmp 2], c12⟩
-- syndrome/syndromeref.Raw
def c13 : AC := (.seq (.ops [⟨some 4, none, .mov (.const (.int .i64 0))⟩])
 (.seq (.seq (.ops [⟨some 5, none, .mov (.tmp 0)⟩,
  ⟨some 6, none, .len (.tmp 5)⟩,
  ⟨some 7, none, .bin .eql (.tmp 6) (.const (.int .i64 0))⟩])
 (.cond (.tmp 7) (.seq (.ops [⟨some 8, none, .mov (.tmp 1)⟩,
  ⟨some 4, none, .mov (.tmp 8)⟩])
 .ret)
 .skip))
 (.seq (.draw [⟨0, ⟨some 9, none, .mov (.tmp 0)⟩, [], [], 0⟩,
  ⟨1, ⟨some 10, none, .mov (.tmp 1)⟩, [], [], 0⟩,
  ⟨2, ⟨some 11, none, .mov (.tmp 0)⟩, [], [], 0⟩,
  ⟨3, ⟨some 12, none, .len (.tmp 11)⟩, [2], [], 0⟩,
  ⟨4, ⟨some 13, none, .bin .rem (.tmp 10) (.tmp 12)⟩, [1, 3, 2], [], 0⟩,
  ⟨5, ⟨some 14, none, .iaddr (.tmp 9) (.tmp 13) 1⟩, [0, 4, 1, 3, 2], [], 0⟩,
  ⟨6, ⟨some 15, none, .load (.tmp 14) 1 false⟩, [5, 0, 4, 1, 3, 2], [], 0⟩,
  ⟨7, ⟨some 16, none, .mov (.tmp 1)⟩, [], [], 0⟩,
  ⟨8, ⟨some 17, none, .mov (.tmp 0)⟩, [], [], 0⟩,
  ⟨9, ⟨some 18, none, .len (.tmp 17)⟩, [8], [], 0⟩,
  ⟨10, ⟨some 19, none, .bin .quo (.tmp 16) (.tmp 18)⟩, [7, 9, 8], [], 0⟩,
  ⟨11, ⟨some 20, none, .bin .mul (.tmp 19) (.const (.int .i64 7919))⟩, [10, 7, 9, 8], [], 0⟩,
  ⟨12, ⟨some 21, none, .bin .add (.tmp 15) (.tmp 20)⟩, [6, 11, 5, 0, 4, 1, 3, 2, 10, 7, 9, 8], [], 0⟩,
  ⟨13, ⟨some 4, none, .mov (.tmp 21)⟩, [12, 0, 1, 2, 3, 4, 5, 6, 7, 8, 9, 10, 11], [], 0⟩] 0)
 .ret)))
def a13 : AF := ⟨2, 22, [.tmp 4], c13⟩
-- syndrome/polar.Best
def c14 : AC := (.seq (.ops [⟨some 4, none, .mov (.const (.slice none 0 0))⟩,
  ⟨some 5, none, .mov (.const (.int .i64 0))⟩])
 (.seq (.ops [⟨some 11, none, .mov (.tmp 0)⟩,
  ⟨some 12, none, .call (.func 5) [(.tmp 11)]⟩,
  ⟨some 10, none, .mov (.tmp 12)⟩,
  ⟨some 13, none, .ext (.tmp 10) 0⟩,
  ⟨some 14, none, .ext (.tmp 10) 1⟩,
  ⟨some 6, none, .alloc [(.slice none 0 0)]⟩,
  ⟨none, none, .store (.tmp 6) (.tmp 13) 1⟩,
  ⟨some 7, none, .mov (.tmp 14)⟩])
 (.seq (.seq (.ops [⟨some 15, none, .mov (.tmp 7)⟩,
  ⟨some 16, none, .bin .neq (.tmp 15) (.const (.int .i64 0))⟩])
 (.cond (.tmp 16) (.seq (.ops [⟨some 17, none, .mov (.tmp 7)⟩,
  ⟨some 4, none, .mov (.const (.slice none 0 0))⟩,
  ⟨some 5, none, .mov (.tmp 17)⟩])
 .ret)
 .skip))
 (.seq (.seq (.ops [⟨some 18, none, .mov (.tmp 1)⟩,
  ⟨some 19, none, .bin .lss (.tmp 18) (.const (.int .i64 0))⟩,
  ⟨some 20, none, .mov (.tmp 19)⟩,
  ⟨some 21, some (20, false), .mov (.tmp 1)⟩,
  ⟨some 22, some (20, false), .load (.tmp 6) 1 false⟩,
  ⟨some 23, some (20, false), .len (.tmp 22)⟩,
  ⟨some 24, some (20, false), .bin .gtr (.tmp 21) (.tmp 23)⟩,
  ⟨some 25, none, .pick (.tmp 20) (.const (.bool true)) (.tmp 24)⟩])
 (.cond (.tmp 25) (.seq (.ops [⟨some 4, none, .mov (.const (.slice none 0 0))⟩,
  ⟨some 5, none, .mov (.const (.int .i64 6))⟩])
 .ret)
 .skip))
 (.seq (.ops [⟨some 26, none, .load (.tmp 6) 1 false⟩,
  ⟨some 27, none, .len (.tmp 26)⟩,
  ⟨some 28, none, .mkslice (.tmp 27) (.tmp 27) 1 8 [(.int .i64 0)]⟩,
  ⟨some 8, none, .mov (.tmp 28)⟩])
 (.seq (.seq (.ops [⟨some 29, none, .mov (.tmp 8)⟩,
  ⟨some 30, none, .len (.tmp 29)⟩,
  ⟨some 31, none, .mov (.const (.int .i64 0))⟩])
 (.block 0 (.loop (.seq (.ops [⟨some 32, none, .bin .lss (.tmp 31) (.tmp 30)⟩])
 (.seq (.cond (.tmp 32) .skip
 (.exit 0))
 (.seq (.block 1 (.seq (.ops [⟨some 33, none, .mov (.tmp 31)⟩,
  ⟨some 9, none, .mov (.tmp 33)⟩])
 (.ops [⟨some 34, none, .mov (.tmp 8)⟩,
  ⟨some 35, none, .mov (.tmp 9)⟩,
  ⟨some 36, none, .mov (.tmp 9)⟩,
  ⟨some 37, none, .iaddr (.tmp 34) (.tmp 35) 1⟩,
  ⟨none, none, .store (.tmp 37) (.tmp 36) 1⟩])))
 (.ops [⟨some 38, none, .bin .add (.tmp 31) (.const (.int .i64 1))⟩,
  ⟨some 31, none, .mov (.tmp 38)⟩])))))))
 (.seq (.ops [⟨some 39, none, .mov (.tmp 8)⟩,
  ⟨some 40, none, .fn 21 [] [(.tmp 6)]⟩,
  ⟨some 41, none, .call (.func 20) [(.tmp 39), (.tmp 40)]⟩])
 (.seq (.ops [⟨some 42, none, .mov (.tmp 8)⟩,
  ⟨some 43, none, .mov (.tmp 1)⟩,
  ⟨some 44, none, .mov (.tmp 1)⟩,
  ⟨some 45, none, .slc (.tmp 42) none (some (.tmp 43)) (some (.tmp 44)) 1⟩,
  ⟨some 8, none, .mov (.tmp 45)⟩])
 (.seq (.ops [⟨some 46, none, .mov (.tmp 8)⟩,
  ⟨some 47, none, .call (.func 22) [(.tmp 46)]⟩])
 (.seq (.ops [⟨some 48, none, .mov (.tmp 8)⟩,
  ⟨some 4, none, .mov (.tmp 48)⟩,
  ⟨some 5, none, .mov (.const (.int .i64 0))⟩])
 .ret))))))))))
def a14 : AF := ⟨2, 49, [.tmp 4, .tmp 5], c14⟩
-- slices.ContainsFunc[[]int,int]
def c15 : AC := (.seq (.ops [⟨some 4, none, .mov (.const (.bool false))⟩])
 (.seq (.ops [⟨some 5, none, .mov (.tmp 0)⟩,
  ⟨some 6, none, .mov (.tmp 1)⟩,
  ⟨some 7, none, .call (.func 23) [(.tmp 5), (.tmp 6)]⟩,
  ⟨some 8, none, .bin .geq (.tmp 7) (.const (.int .i64 0))⟩,
  ⟨some 4, none, .mov (.tmp 8)⟩])
 .ret))
def a15 : AF := ⟨2, 9, [.tmp 4], c15⟩
-- syndrome/polar.Decode$1
def c16 : AC := (.seq (.ops [⟨some 2, none, .mov (.const (.bool false))⟩])
 (.seq (.ops [⟨some 3, none, .mov (.tmp 0)⟩,
  ⟨some 4, none, .bin .lss (.tmp 3) (.const (.int .i64 (-1)))⟩,
  ⟨some 5, none, .mov (.tmp 4)⟩,
  ⟨some 6, some (5, false), .mov (.tmp 0)⟩,
  ⟨some 7, some (5, false), .bin .gtr (.tmp 6) (.const (.int .i64 1))⟩,
  ⟨some 8, none, .pick (.tmp 5) (.const (.bool true)) (.tmp 7)⟩,
  ⟨some 2, none, .mov (.tmp 8)⟩])
 .ret))
def a16 : AF := ⟨1, 9, [.tmp 2], c16⟩
-- (*syndrome/polar.decoder).read
def c17 : AC := (.seq (.ops [⟨some 4, none, .mov (.const (.slice none 0 0))⟩])
 (.seq (.seq (.ops [⟨some 16, none, .mov (.tmp 0)⟩,
  ⟨some 17, none, .chk (.tmp 16)⟩,
  ⟨some 18, none, .faddr (.tmp 17) 2⟩,
  ⟨some 19, none, .load (.tmp 18) 1 false⟩])
 (.cond (.tmp 19) (.seq (.ops [⟨some 20, none, .mov (.tmp 1)⟩,
  ⟨some 4, none, .mov (.tmp 20)⟩])
 .ret)
 .skip))
 (.seq (.seq (.ops [⟨some 21, none, .mov (.tmp 1)⟩,
  ⟨some 22, none, .len (.tmp 21)⟩,
  ⟨some 23, none, .bin .eql (.tmp 22) (.const (.int .i64 1))⟩])
 (.cond (.tmp 23) (.seq (.ops [⟨some 24, none, .mov (.tmp 1)⟩,
  ⟨some 25, none, .iaddr (.tmp 24) (.const (.int .i64 0)) 1⟩,
  ⟨some 26, none, .load (.tmp 25) 1 false⟩,
  ⟨some 5, none, .mov (.tmp 26)⟩])
 (.seq (.seq (.draw [⟨0, ⟨some 27, none, .mov (.tmp 0)⟩, [], [], 0⟩,
  ⟨1, ⟨some 28, none, .chk (.tmp 27)⟩, [0], [], 0⟩,
  ⟨2, ⟨some 29, none, .faddr (.tmp 28) 0⟩, [1, 0], [], 0⟩,
  ⟨3, ⟨some 30, none, .load (.tmp 29) 1 false⟩, [2, 1, 0], [], 0⟩,
  ⟨4, ⟨some 31, none, .mov (.tmp 0)⟩, [], [], 0⟩,
  ⟨5, ⟨some 32, none, .chk (.tmp 31)⟩, [4], [], 0⟩,
  ⟨6, ⟨some 33, none, .faddr (.tmp 32) 1⟩, [5, 4], [], 0⟩,
  ⟨7, ⟨some 34, none, .load (.tmp 33) 1 false⟩, [6, 5, 4], [], 0⟩,
  ⟨8, ⟨some 35, none, .len (.tmp 34)⟩, [7, 6, 5, 4], [], 0⟩,
  ⟨9, ⟨some 36, none, .iaddr (.tmp 30) (.tmp 35) 1⟩, [3, 8, 2, 1, 0, 7, 6, 5, 4], [], 0⟩,
  ⟨10, ⟨some 37, none, .load (.tmp 36) 1 false⟩, [9, 3, 8, 2, 1, 0, 7, 6, 5, 4], [], 0⟩,
  ⟨11, ⟨some 38, none, .un .not (.tmp 37)⟩, [10, 9, 3, 8, 2, 1, 0, 7, 6, 5, 4], [], 0⟩] 0)
 (.cond (.tmp 38) (.seq (.ops [⟨some 39, none, .mov (.tmp 0)⟩,
  ⟨some 40, none, .mov (.tmp 5)⟩,
  ⟨some 41, none, .bin .eql (.tmp 40) (.const (.int .i64 1))⟩,
  ⟨some 42, none, .chk (.tmp 39)⟩,
  ⟨some 43, none, .faddr (.tmp 42) 2⟩,
  ⟨none, none, .store (.tmp 43) (.tmp 41) 1⟩])
 (.ops [⟨some 5, none, .mov (.const (.int .i64 0))⟩]))
 .skip))
 (.seq (.ops [⟨some 44, none, .mov (.tmp 0)⟩,
  ⟨some 45, none, .mov (.tmp 0)⟩,
  ⟨some 46, none, .chk (.tmp 45)⟩,
  ⟨some 47, none, .faddr (.tmp 46) 2⟩,
  ⟨some 48, none, .load (.tmp 47) 1 false⟩,
  ⟨some 49, none, .mov (.tmp 48)⟩,
  ⟨some 50, some (49, false), .mov (.tmp 5)⟩,
  ⟨some 51, some (49, false), .bin .lss (.tmp 50) (.const (.int .i64 0))⟩,
  ⟨some 52, none, .pick (.tmp 49) (.const (.bool true)) (.tmp 51)⟩,
  ⟨some 53, none, .chk (.tmp 44)⟩,
  ⟨some 54, none, .faddr (.tmp 53) 2⟩,
  ⟨none, none, .store (.tmp 54) (.tmp 52) 1⟩])
 (.seq (.ops [⟨some 55, none, .mov (.tmp 0)⟩,
  ⟨some 56, none, .mov (.tmp 0)⟩,
  ⟨some 57, none, .chk (.tmp 56)⟩,
  ⟨some 58, none, .faddr (.tmp 57) 1⟩,
  ⟨some 59, none, .load (.tmp 58) 1 false⟩,
  ⟨some 60, none, .mov (.tmp 5)⟩,
  ⟨some 61, none, .bslice 1 1 [(.int .i64 0)] [(0, 1, (.tmp 60))]⟩,
  ⟨some 62, none, .app (.tmp 59) (.tmp 61) 1 8⟩,
  ⟨some 63, none, .chk (.tmp 55)⟩,
  ⟨some 64, none, .faddr (.tmp 63) 1⟩,
  ⟨none, none, .store (.tmp 64) (.tmp 62) 1⟩])
 (.seq (.ops [⟨some 65, none, .mov (.tmp 5)⟩,
  ⟨some 66, none, .bslice 1 1 [(.int .i64 0)] [(0, 1, (.tmp 65))]⟩,
  ⟨some 4, none, .mov (.tmp 66)⟩])
 .ret)))))
 .skip))
 (.seq (.ops [⟨some 67, none, .mov (.tmp 1)⟩,
  ⟨some 68, none, .len (.tmp 67)⟩,
  ⟨some 69, none, .bin .quo (.tmp 68) (.const (.int .i64 2))⟩,
  ⟨some 6, none, .mov (.tmp 69)⟩])
 (.seq (.ops [⟨some 70, none, .mov (.tmp 6)⟩,
  ⟨some 71, none, .mkslice (.tmp 70) (.tmp 70) 1 8 [(.int .i64 0)]⟩,
  ⟨some 7, none, .mov (.tmp 71)⟩])
 (.seq (.seq (.ops [⟨some 72, none, .mov (.tmp 7)⟩,
  ⟨some 73, none, .len (.tmp 72)⟩,
  ⟨some 74, none, .mov (.const (.int .i64 0))⟩])
 (.block 0 (.loop (.seq (.ops [⟨some 75, none, .bin .lss (.tmp 74) (.tmp 73)⟩])
 (.seq (.cond (.tmp 75) .skip
 (.exit 0))
 (.seq (.block 1 (.seq (.ops [⟨some 76, none, .mov (.tmp 74)⟩,
  ⟨some 8, none, .mov (.tmp 76)⟩])
 (.seq (.ops [⟨some 77, none, .mov (.tmp 7)⟩,
  ⟨some 78, none, .mov (.tmp 8)⟩,
  ⟨some 79, none, .iaddr (.tmp 77) (.tmp 78) 1⟩,
  ⟨none, none, .store (.tmp 79) (.const (.int .i64 (-1))) 1⟩])
 (.seq (.ops [⟨some 80, none, .mov (.tmp 1)⟩,
  ⟨some 81, none, .mov (.tmp 8)⟩,
  ⟨some 82, none, .iaddr (.tmp 80) (.tmp 81) 1⟩,
  ⟨some 83, none, .load (.tmp 82) 1 false⟩,
  ⟨some 84, none, .bin .geq (.tmp 83) (.const (.int .i64 0))⟩,
  ⟨some 85, none, .mov (.tmp 84)⟩,
  ⟨some 86, some (85, true), .mov (.tmp 1)⟩,
  ⟨some 87, some (85, true), .mov (.tmp 6)⟩,
  ⟨some 88, some (85, true), .mov (.tmp 8)⟩,
  ⟨some 89, some (85, true), .bin .add (.tmp 87) (.tmp 88)⟩,
  ⟨some 90, some (85, true), .iaddr (.tmp 86) (.tmp 89) 1⟩,
  ⟨some 91, some (85, true), .load (.tmp 90) 1 false⟩,
  ⟨some 92, some (85, true), .bin .geq (.tmp 91) (.const (.int .i64 0))⟩,
  ⟨some 93, none, .pick (.tmp 85) (.tmp 92) (.const (.bool false))⟩])
 (.cond (.tmp 93) (.draw [⟨0, ⟨some 94, none, .mov (.tmp 7)⟩, [], [], 0⟩,
  ⟨1, ⟨some 95, none, .mov (.tmp 8)⟩, [], [], 0⟩,
  ⟨2, ⟨some 96, none, .mov (.tmp 1)⟩, [], [], 0⟩,
  ⟨3, ⟨some 97, none, .mov (.tmp 8)⟩, [], [], 0⟩,
  ⟨4, ⟨some 98, none, .iaddr (.tmp 96) (.tmp 97) 1⟩, [2, 3], [], 0⟩,
  ⟨5, ⟨some 99, none, .load (.tmp 98) 1 false⟩, [4, 2, 3], [], 0⟩,
  ⟨6, ⟨some 100, none, .mov (.tmp 1)⟩, [], [], 0⟩,
  ⟨7, ⟨some 101, none, .mov (.tmp 6)⟩, [], [], 0⟩,
  ⟨8, ⟨some 102, none, .mov (.tmp 8)⟩, [], [], 0⟩,
  ⟨9, ⟨some 103, none, .bin .add (.tmp 101) (.tmp 102)⟩, [7, 8], [], 0⟩,
  ⟨10, ⟨some 104, none, .iaddr (.tmp 100) (.tmp 103) 1⟩, [6, 9, 7, 8], [], 0⟩,
  ⟨11, ⟨some 105, none, .load (.tmp 104) 1 false⟩, [10, 6, 9, 7, 8], [], 0⟩,
  ⟨12, ⟨some 106, none, .bin .xor (.tmp 99) (.tmp 105)⟩, [5, 11, 4, 2, 3, 10, 6, 9, 7, 8], [], 0⟩,
  ⟨13, ⟨some 107, none, .iaddr (.tmp 94) (.tmp 95) 1⟩, [0, 1, 2, 3, 4, 5, 6, 7, 8, 9, 10, 11, 12], [], 0⟩,
  ⟨14, ⟨none, none, .store (.tmp 107) (.tmp 106) 1⟩, [13, 12, 0, 1, 2, 3, 4, 5, 6, 7, 8, 9, 10, 11], [], 1⟩] 0)
 .skip)))))
 (.ops [⟨some 108, none, .bin .add (.tmp 74) (.const (.int .i64 1))⟩,
  ⟨some 74, none, .mov (.tmp 108)⟩])))))))
 (.seq (.ops [⟨some 109, none, .mov (.tmp 0)⟩,
  ⟨some 110, none, .mov (.tmp 7)⟩,
  ⟨some 111, none, .call (.func 17) [(.tmp 109), (.tmp 110)]⟩,
  ⟨some 9, none, .mov (.tmp 111)⟩])
 (.seq (.seq (.ops [⟨some 112, none, .mov (.tmp 0)⟩,
  ⟨some 113, none, .chk (.tmp 112)⟩,
  ⟨some 114, none, .faddr (.tmp 113) 2⟩,
  ⟨some 115, none, .load (.tmp 114) 1 false⟩])
 (.cond (.tmp 115) (.seq (.ops [⟨some 116, none, .mov (.tmp 1)⟩,
  ⟨some 4, none, .mov (.tmp 116)⟩])
 .ret)
 .skip))
 (.seq (.ops [⟨some 117, none, .mov (.tmp 6)⟩,
  ⟨some 118, none, .mkslice (.tmp 117) (.tmp 117) 1 8 [(.int .i64 0)]⟩,
  ⟨some 10, none, .mov (.tmp 118)⟩])
 (.seq (.seq (.ops [⟨some 119, none, .mov (.tmp 10)⟩,
  ⟨some 120, none, .len (.tmp 119)⟩,
  ⟨some 121, none, .mov (.const (.int .i64 0))⟩])
 (.block 2 (.loop (.seq (.ops [⟨some 122, none, .bin .lss (.tmp 121) (.tmp 120)⟩])
 (.seq (.cond (.tmp 122) .skip
 (.exit 2))
 (.seq (.block 3 (.seq (.ops [⟨some 123, none, .mov (.tmp 121)⟩,
  ⟨some 11, none, .mov (.tmp 123)⟩])
 (.seq (.ops [⟨some 124, none, .mov (.tmp 10)⟩,
  ⟨some 125, none, .mov (.tmp 11)⟩,
  ⟨some 126, none, .mov (.tmp 1)⟩,
  ⟨some 127, none, .mov (.tmp 6)⟩,
  ⟨some 128, none, .mov (.tmp 11)⟩,
  ⟨some 129, none, .bin .add (.tmp 127) (.tmp 128)⟩,
  ⟨some 130, none, .iaddr (.tmp 126) (.tmp 129) 1⟩,
  ⟨some 131, none, .load (.tmp 130) 1 false⟩,
  ⟨some 132, none, .iaddr (.tmp 124) (.tmp 125) 1⟩,
  ⟨none, none, .store (.tmp 132) (.tmp 131) 1⟩])
 (.seq (.ops [⟨some 133, none, .mov (.tmp 1)⟩,
  ⟨some 134, none, .mov (.tmp 11)⟩,
  ⟨some 135, none, .iaddr (.tmp 133) (.tmp 134) 1⟩,
  ⟨some 136, none, .load (.tmp 135) 1 false⟩,
  ⟨some 137, none, .bin .geq (.tmp 136) (.const (.int .i64 0))⟩])
 (.cond (.tmp 137) (.seq (.draw [⟨0, ⟨some 138, none, .mov (.tmp 1)⟩, [], [], 0⟩,
  ⟨1, ⟨some 139, none, .mov (.tmp 11)⟩, [], [], 0⟩,
  ⟨2, ⟨some 140, none, .iaddr (.tmp 138) (.tmp 139) 1⟩, [0, 1], [], 0⟩,
  ⟨3, ⟨some 141, none, .load (.tmp 140) 1 false⟩, [2, 0, 1], [], 0⟩,
  ⟨4, ⟨some 142, none, .mov (.tmp 9)⟩, [], [], 0⟩,
  ⟨5, ⟨some 143, none, .mov (.tmp 11)⟩, [], [], 0⟩,
  ⟨6, ⟨some 144, none, .iaddr (.tmp 142) (.tmp 143) 1⟩, [4, 5], [], 0⟩,
  ⟨7, ⟨some 145, none, .load (.tmp 144) 1 false⟩, [6, 4, 5], [], 0⟩,
  ⟨8, ⟨some 146, none, .bin .xor (.tmp 141) (.tmp 145)⟩, [3, 7, 2, 0, 1, 6, 4, 5], [], 0⟩,
  ⟨9, ⟨some 12, none, .mov (.tmp 146)⟩, [8, 0, 1, 2, 3, 4, 5, 6, 7], [], 0⟩] 0)
 (.seq (.ops [⟨some 147, none, .mov (.tmp 0)⟩,
  ⟨some 148, none, .mov (.tmp 0)⟩,
  ⟨some 149, none, .chk (.tmp 148)⟩,
  ⟨some 150, none, .faddr (.tmp 149) 2⟩,
  ⟨some 151, none, .load (.tmp 150) 1 false⟩,
  ⟨some 152, none, .mov (.tmp 151)⟩,
  ⟨some 153, some (152, false), .mov (.tmp 10)⟩,
  ⟨some 154, some (152, false), .mov (.tmp 11)⟩,
  ⟨some 155, some (152, false), .iaddr (.tmp 153) (.tmp 154) 1⟩,
  ⟨some 156, some (152, false), .load (.tmp 155) 1 false⟩,
  ⟨some 157, some (152, false), .bin .geq (.tmp 156) (.const (.int .i64 0))⟩,
  ⟨some 158, some (152, false), .mov (.tmp 157)⟩,
  ⟨some 159, some (158, true), .mov (.tmp 10)⟩,
  ⟨some 160, some (158, true), .mov (.tmp 11)⟩,
  ⟨some 161, some (158, true), .iaddr (.tmp 159) (.tmp 160) 1⟩,
  ⟨some 162, some (158, true), .load (.tmp 161) 1 false⟩,
  ⟨some 163, some (158, true), .mov (.tmp 12)⟩,
  ⟨some 164, some (158, true), .bin .neq (.tmp 162) (.tmp 163)⟩,
  ⟨some 165, some (152, false), .pick (.tmp 158) (.tmp 164) (.const (.bool false))⟩,
  ⟨some 166, none, .pick (.tmp 152) (.const (.bool true)) (.tmp 165)⟩,
  ⟨some 167, none, .chk (.tmp 147)⟩,
  ⟨some 168, none, .faddr (.tmp 167) 2⟩,
  ⟨none, none, .store (.tmp 168) (.tmp 166) 1⟩])
 (.ops [⟨some 169, none, .mov (.tmp 10)⟩,
  ⟨some 170, none, .mov (.tmp 11)⟩,
  ⟨some 171, none, .mov (.tmp 12)⟩,
  ⟨some 172, none, .iaddr (.tmp 169) (.tmp 170) 1⟩,
  ⟨none, none, .store (.tmp 172) (.tmp 171) 1⟩])))
 .skip)))))
 (.ops [⟨some 173, none, .bin .add (.tmp 121) (.const (.int .i64 1))⟩,
  ⟨some 121, none, .mov (.tmp 173)⟩])))))))
 (.seq (.ops [⟨some 174, none, .mov (.tmp 0)⟩,
  ⟨some 175, none, .mov (.tmp 10)⟩,
  ⟨some 176, none, .call (.func 17) [(.tmp 174), (.tmp 175)]⟩,
  ⟨some 13, none, .mov (.tmp 176)⟩])
 (.seq (.seq (.ops [⟨some 177, none, .mov (.tmp 0)⟩,
  ⟨some 178, none, .chk (.tmp 177)⟩,
  ⟨some 179, none, .faddr (.tmp 178) 2⟩,
  ⟨some 180, none, .load (.tmp 179) 1 false⟩])
 (.cond (.tmp 180) (.seq (.ops [⟨some 181, none, .mov (.tmp 1)⟩,
  ⟨some 4, none, .mov (.tmp 181)⟩])
 .ret)
 .skip))
 (.seq (.ops [⟨some 182, none, .mov (.tmp 1)⟩,
  ⟨some 183, none, .len (.tmp 182)⟩,
  ⟨some 184, none, .mkslice (.const (.int .i64 0)) (.tmp 183) 1 8 [(.int .i64 0)]⟩,
  ⟨some 14, none, .mov (.tmp 184)⟩])
 (.seq (.seq (.ops [⟨some 185, none, .mov (.tmp 9)⟩,
  ⟨some 186, none, .len (.tmp 185)⟩,
  ⟨some 187, none, .mov (.const (.int .i64 0))⟩])
 (.block 4 (.loop (.seq (.ops [⟨some 188, none, .bin .lss (.tmp 187) (.tmp 186)⟩])
 (.seq (.cond (.tmp 188) .skip
 (.exit 4))
 (.seq (.block 5 (.seq (.ops [⟨some 189, none, .mov (.tmp 187)⟩,
  ⟨some 15, none, .mov (.tmp 189)⟩])
 (.draw [⟨0, ⟨some 190, none, .mov (.tmp 14)⟩, [], [], 0⟩,
  ⟨1, ⟨some 191, none, .mov (.tmp 9)⟩, [], [], 0⟩,
  ⟨2, ⟨some 192, none, .mov (.tmp 15)⟩, [], [], 0⟩,
  ⟨3, ⟨some 193, none, .iaddr (.tmp 191) (.tmp 192) 1⟩, [1, 2], [], 0⟩,
  ⟨4, ⟨some 194, none, .load (.tmp 193) 1 false⟩, [3, 1, 2], [], 0⟩,
  ⟨5, ⟨some 195, none, .mov (.tmp 13)⟩, [], [], 0⟩,
  ⟨6, ⟨some 196, none, .mov (.tmp 15)⟩, [], [], 0⟩,
  ⟨7, ⟨some 197, none, .iaddr (.tmp 195) (.tmp 196) 1⟩, [5, 6], [], 0⟩,
  ⟨8, ⟨some 198, none, .load (.tmp 197) 1 false⟩, [7, 5, 6], [], 0⟩,
  ⟨9, ⟨some 199, none, .bin .xor (.tmp 194) (.tmp 198)⟩, [4, 8, 3, 1, 2, 7, 5, 6], [], 0⟩,
  ⟨10, ⟨some 200, none, .bslice 1 1 [(.int .i64 0)] [(0, 1, (.tmp 199))]⟩, [9, 4, 8, 3, 1, 2, 7, 5, 6], [], 0⟩,
  ⟨11, ⟨some 201, none, .app (.tmp 190) (.tmp 200) 1 8⟩, [0, 10, 9, 4, 8, 3, 1, 2, 7, 5, 6], [10], 1⟩,
  ⟨12, ⟨some 14, none, .mov (.tmp 201)⟩, [11, 0, 1, 2, 3, 4, 5, 6, 7, 8, 9, 10], [], 0⟩] 1)))
 (.ops [⟨some 202, none, .bin .add (.tmp 187) (.const (.int .i64 1))⟩,
  ⟨some 187, none, .mov (.tmp 202)⟩])))))))
 (.seq (.ops [⟨some 203, none, .mov (.tmp 14)⟩,
  ⟨some 204, none, .mov (.tmp 13)⟩,
  ⟨some 205, none, .app (.tmp 203) (.tmp 204) 1 8⟩,
  ⟨some 4, none, .mov (.tmp 205)⟩])
 .ret)))))))))))))))
def a17 : AF := ⟨2, 206, [.tmp 4], c17⟩
-- syndrome/polar.Transform$1
def c18 : AC := (.seq (.ops [⟨some 2, none, .mov (.const (.bool false))⟩])
 (.seq (.ops [⟨some 3, none, .mov (.tmp 0)⟩,
  ⟨some 4, none, .bin .neq (.tmp 3) (.const (.int .i64 0))⟩,
  ⟨some 5, none, .mov (.tmp 4)⟩,
  ⟨some 6, some (5, true), .mov (.tmp 0)⟩,
  ⟨some 7, some (5, true), .bin .neq (.tmp 6) (.const (.int .i64 1))⟩,
  ⟨some 8, none, .pick (.tmp 5) (.tmp 7) (.const (.bool false))⟩,
  ⟨some 2, none, .mov (.tmp 8)⟩])
 .ret))
def a18 : AF := ⟨1, 9, [.tmp 2], c18⟩
-- syndrome/polar.transform
def c19 : AC := (.seq (.ops [⟨some 2, none, .mov (.const (.slice none 0 0))⟩])
 (.seq (.seq (.ops [⟨some 6, none, .mov (.tmp 0)⟩,
  ⟨some 7, none, .len (.tmp 6)⟩,
  ⟨some 8, none, .bin .eql (.tmp 7) (.const (.int .i64 1))⟩])
 (.cond (.tmp 8) (.seq (.ops [⟨some 9, none, .mov (.tmp 0)⟩,
  ⟨some 10, none, .call (.func 24) [(.tmp 9)]⟩,
  ⟨some 2, none, .mov (.tmp 10)⟩])
 .ret)
 .skip))
 (.seq (.draw [⟨0, ⟨some 11, none, .mov (.tmp 0)⟩, [], [], 0⟩,
  ⟨1, ⟨some 12, none, .mov (.tmp 0)⟩, [], [], 0⟩,
  ⟨2, ⟨some 13, none, .len (.tmp 12)⟩, [1], [], 0⟩,
  ⟨3, ⟨some 14, none, .bin .quo (.tmp 13) (.const (.int .i64 2))⟩, [2, 1], [], 0⟩,
  ⟨4, ⟨some 15, none, .slc (.tmp 11) none (some (.tmp 14)) none 1⟩, [0, 3, 2, 1], [], 0⟩,
  ⟨6, ⟨some 17, none, .mov (.tmp 0)⟩, [], [], 1⟩,
  ⟨7, ⟨some 18, none, .mov (.tmp 0)⟩, [], [], 1⟩,
  ⟨8, ⟨some 19, none, .len (.tmp 18)⟩, [7], [], 1⟩,
  ⟨9, ⟨some 20, none, .bin .quo (.tmp 19) (.const (.int .i64 2))⟩, [8, 7], [], 1⟩,
  ⟨10, ⟨some 21, none, .slc (.tmp 17) (some (.tmp 20)) none none 1⟩, [6, 9, 8, 7], [], 1⟩,
  ⟨5, ⟨some 16, none, .call (.func 19) [(.tmp 15)]⟩, [4, 0, 3, 2, 1], [], 1⟩,
  ⟨11, ⟨some 22, none, .call (.func 19) [(.tmp 21)]⟩, [10, 5, 6, 9, 8, 7, 4, 0, 3, 2, 1], [], 1⟩,
  ⟨12, ⟨some 3, none, .mov (.tmp 16)⟩, [5, 11, 0, 1, 2, 3, 4, 10, 6, 9, 8, 7], [], 0⟩,
  ⟨13, ⟨some 4, none, .mov (.tmp 22)⟩, [11, 12, 0, 1, 2, 3, 4, 5, 6, 7, 8, 9, 10], [], 0⟩] 0)
 (.seq (.seq (.ops [⟨some 23, none, .mov (.tmp 3)⟩,
  ⟨some 24, none, .len (.tmp 23)⟩,
  ⟨some 25, none, .mov (.const (.int .i64 0))⟩])
 (.block 0 (.loop (.seq (.ops [⟨some 26, none, .bin .lss (.tmp 25) (.tmp 24)⟩])
 (.seq (.cond (.tmp 26) .skip
 (.exit 0))
 (.seq (.block 1 (.seq (.ops [⟨some 27, none, .mov (.tmp 25)⟩,
  ⟨some 5, none, .mov (.tmp 27)⟩])
 (.draw [⟨0, ⟨some 28, none, .mov (.tmp 3)⟩, [], [], 0⟩,
  ⟨1, ⟨some 29, none, .mov (.tmp 5)⟩, [], [], 0⟩,
  ⟨2, ⟨some 30, none, .iaddr (.tmp 28) (.tmp 29) 1⟩, [0, 1], [], 0⟩,
  ⟨3, ⟨some 31, none, .load (.tmp 30) 1 false⟩, [2, 0, 1], [], 0⟩,
  ⟨4, ⟨some 32, none, .mov (.tmp 4)⟩, [], [], 0⟩,
  ⟨5, ⟨some 33, none, .mov (.tmp 5)⟩, [], [], 0⟩,
  ⟨6, ⟨some 34, none, .iaddr (.tmp 32) (.tmp 33) 1⟩, [4, 5], [], 0⟩,
  ⟨7, ⟨some 35, none, .load (.tmp 34) 1 false⟩, [6, 4, 5], [], 0⟩,
  ⟨8, ⟨some 36, none, .bin .xor (.tmp 31) (.tmp 35)⟩, [3, 7, 2, 0, 1, 6, 4, 5], [], 0⟩,
  ⟨9, ⟨some 37, none, .iaddr (.tmp 28) (.tmp 29) 1⟩, [0, 1, 2, 3, 4, 5, 6, 7, 8], [], 0⟩,
  ⟨10, ⟨none, none, .store (.tmp 37) (.tmp 36) 1⟩, [9, 8, 0, 1, 2, 3, 4, 5, 6, 7], [], 1⟩] 0)))
 (.ops [⟨some 38, none, .bin .add (.tmp 25) (.const (.int .i64 1))⟩,
  ⟨some 25, none, .mov (.tmp 38)⟩])))))))
 (.seq (.ops [⟨some 39, none, .mov (.tmp 3)⟩,
  ⟨some 40, none, .mov (.tmp 4)⟩,
  ⟨some 41, none, .app (.tmp 39) (.tmp 40) 1 8⟩,
  ⟨some 2, none, .mov (.tmp 41)⟩])
 .ret)))))
def a19 : AF := ⟨1, 42, [.tmp 2], c19⟩
-- slices.SortStableFunc[[]int,int]
def c20 : AC := (.ops [⟨some 4, none, .mov (.tmp 0)⟩,
  ⟨some 5, none, .mov (.tmp 0)⟩,
  ⟨some 6, none, .len (.tmp 5)⟩,
  ⟨some 7, none, .mov (.tmp 1)⟩,
  ⟨some 8, none, .call (.func 25) [(.tmp 4), (.tmp 6), (.tmp 7)]⟩])
def a20 : AF := ⟨2, 9, [], c20⟩
-- syndrome/polar.Best$1
def c21 : AC := (.seq (.ops [⟨some 5, none, .mov (.const (.int .i64 0))⟩])
 (.seq (.seq (.draw [⟨0, ⟨some 6, none, .load (.tmp 2) 1 false⟩, [], [], 0⟩,
  ⟨1, ⟨some 7, none, .mov (.tmp 0)⟩, [], [], 0⟩,
  ⟨2, ⟨some 8, none, .iaddr (.tmp 6) (.tmp 7) 1⟩, [0, 1], [], 0⟩,
  ⟨3, ⟨some 9, none, .load (.tmp 8) 1 false⟩, [2, 0, 1], [], 0⟩,
  ⟨4, ⟨some 10, none, .load (.tmp 2) 1 false⟩, [], [], 0⟩,
  ⟨5, ⟨some 11, none, .mov (.tmp 1)⟩, [], [], 0⟩,
  ⟨6, ⟨some 12, none, .iaddr (.tmp 10) (.tmp 11) 1⟩, [4, 5], [], 0⟩,
  ⟨7, ⟨some 13, none, .load (.tmp 12) 1 false⟩, [6, 4, 5], [], 0⟩,
  ⟨8, ⟨some 14, none, .bin .neq (.tmp 9) (.tmp 13)⟩, [3, 7, 2, 0, 1, 6, 4, 5], [], 0⟩] 0)
 (.cond (.tmp 14) (.seq (.draw [⟨0, ⟨some 15, none, .load (.tmp 2) 1 false⟩, [], [], 0⟩,
  ⟨1, ⟨some 16, none, .mov (.tmp 0)⟩, [], [], 0⟩,
  ⟨2, ⟨some 17, none, .iaddr (.tmp 15) (.tmp 16) 1⟩, [0, 1], [], 0⟩,
  ⟨3, ⟨some 18, none, .load (.tmp 17) 1 false⟩, [2, 0, 1], [], 0⟩,
  ⟨4, ⟨some 19, none, .load (.tmp 2) 1 false⟩, [], [], 0⟩,
  ⟨5, ⟨some 20, none, .mov (.tmp 1)⟩, [], [], 0⟩,
  ⟨6, ⟨some 21, none, .iaddr (.tmp 19) (.tmp 20) 1⟩, [4, 5], [], 0⟩,
  ⟨7, ⟨some 22, none, .load (.tmp 21) 1 false⟩, [6, 4, 5], [], 0⟩,
  ⟨8, ⟨some 23, none, .bin .sub (.tmp 18) (.tmp 22)⟩, [3, 7, 2, 0, 1, 6, 4, 5], [], 0⟩,
  ⟨9, ⟨some 5, none, .mov (.tmp 23)⟩, [8, 0, 1, 2, 3, 4, 5, 6, 7], [], 0⟩] 0)
 .ret)
 .skip))
 (.seq (.ops [⟨some 24, none, .mov (.tmp 1)⟩,
  ⟨some 25, none, .mov (.tmp 0)⟩,
  ⟨some 26, none, .bin .sub (.tmp 24) (.tmp 25)⟩,
  ⟨some 5, none, .mov (.tmp 26)⟩])
 .ret)))
def a21 : AF := ⟨3, 27, [.tmp 5], c21⟩
-- slices.Sort[[]int,int]
def c22 : AC := (.seq (.ops [⟨some 3, none, .mov (.tmp 0)⟩,
  ⟨some 4, none, .len (.tmp 3)⟩,
  ⟨some 2, none, .mov (.tmp 4)⟩])
 (.ops [⟨some 5, none, .mov (.tmp 0)⟩,
  ⟨some 6, none, .mov (.tmp 2)⟩,
  ⟨some 7, none, .mov (.tmp 2)⟩,
  ⟨some 8, none, .conv .u64 (.tmp 7)⟩,
  ⟨some 9, none, .call (.func 27) [(.tmp 8)]⟩,
  ⟨some 10, none, .call (.func 26) [(.tmp 5), (.const (.int .i64 0)), (.tmp 6), (.tmp 9)]⟩]))
def a22 : AF := ⟨1, 11, [], c22⟩
-- slices.IndexFunc[[]int,int]
def c23 : AC := (.seq (.ops [⟨some 4, none, .mov (.const (.int .i64 0))⟩])
 (.seq (.seq (.ops [⟨some 6, none, .mov (.tmp 0)⟩,
  ⟨some 7, none, .len (.tmp 6)⟩,
  ⟨some 8, none, .mov (.const (.int .i64 0))⟩])
 (.block 0 (.loop (.seq (.ops [⟨some 9, none, .bin .lss (.tmp 8) (.tmp 7)⟩])
 (.seq (.cond (.tmp 9) .skip
 (.exit 0))
 (.seq (.block 1 (.seq (.ops [⟨some 10, none, .mov (.tmp 8)⟩,
  ⟨some 5, none, .mov (.tmp 10)⟩])
 (.seq (.ops [⟨some 11, none, .mov (.tmp 1)⟩,
  ⟨some 12, none, .mov (.tmp 0)⟩,
  ⟨some 13, none, .mov (.tmp 5)⟩,
  ⟨some 14, none, .iaddr (.tmp 12) (.tmp 13) 1⟩,
  ⟨some 15, none, .load (.tmp 14) 1 false⟩,
  ⟨some 16, none, .call (.tmp 11) [(.tmp 15)]⟩])
 (.cond (.tmp 16) (.seq (.ops [⟨some 17, none, .mov (.tmp 5)⟩,
  ⟨some 4, none, .mov (.tmp 17)⟩])
 .ret)
 .skip))))
 (.ops [⟨some 18, none, .bin .add (.tmp 8) (.const (.int .i64 1))⟩,
  ⟨some 8, none, .mov (.tmp 18)⟩])))))))
 (.seq (.ops [⟨some 4, none, .mov (.const (.int .i64 (-1)))⟩])
 .ret)))
def a23 : AF := ⟨2, 19, [.tmp 4], c23⟩
-- slices.Clone[[]int,int]
def c24 : AC := (.seq (.ops [⟨some 2, none, .mov (.const (.slice none 0 0))⟩])
 (.seq (.seq (.ops [⟨some 3, none, .mov (.tmp 0)⟩,
  ⟨some 4, none, .isnil 0 false (.tmp 3)⟩])
 (.cond (.tmp 4) (.seq (.ops [⟨some 2, none, .mov (.const (.slice none 0 0))⟩])
 .ret)
 .skip))
 (.seq (.ops [⟨some 5, none, .bslice 0 1 [(.int .i64 0)] []⟩,
  ⟨some 6, none, .mov (.tmp 0)⟩,
  ⟨some 7, none, .app (.tmp 5) (.tmp 6) 1 8⟩,
  ⟨some 2, none, .mov (.tmp 7)⟩])
 .ret)))
def a24 : AF := ⟨1, 8, [.tmp 2], c24⟩
-- slices.stableCmpFunc[int]
def c25 : AC := (.seq (.ops [⟨some 6, none, .mov (.const (.int .i64 20))⟩])
 (.seq (.ops [⟨some 10, none, .mov (.tmp 6)⟩,
  ⟨some 7, none, .mov (.const (.int .i64 0))⟩,
  ⟨some 8, none, .mov (.tmp 10)⟩])
 (.seq (.block 0 (.loop (.seq (.seq (.ops [⟨some 11, none, .mov (.tmp 8)⟩,
  ⟨some 12, none, .mov (.tmp 1)⟩,
  ⟨some 13, none, .bin .leq (.tmp 11) (.tmp 12)⟩])
 (.cond (.tmp 13) .skip
 (.exit 0)))
 (.block 1 (.seq (.ops [⟨some 14, none, .mov (.tmp 0)⟩,
  ⟨some 15, none, .mov (.tmp 7)⟩,
  ⟨some 16, none, .mov (.tmp 8)⟩,
  ⟨some 17, none, .mov (.tmp 2)⟩,
  ⟨some 18, none, .call (.func 28) [(.tmp 14), (.tmp 15), (.tmp 16), (.tmp 17)]⟩])
 (.seq (.ops [⟨some 19, none, .mov (.tmp 8)⟩,
  ⟨some 7, none, .mov (.tmp 19)⟩])
 (.ops [⟨some 20, none, .mov (.tmp 8)⟩,
  ⟨some 21, none, .mov (.tmp 6)⟩,
  ⟨some 22, none, .bin .add (.tmp 20) (.tmp 21)⟩,
  ⟨some 8, none, .mov (.tmp 22)⟩])))))))
 (.seq (.ops [⟨some 23, none, .mov (.tmp 0)⟩,
  ⟨some 24, none, .mov (.tmp 7)⟩,
  ⟨some 25, none, .mov (.tmp 1)⟩,
  ⟨some 26, none, .mov (.tmp 2)⟩,
  ⟨some 27, none, .call (.func 28) [(.tmp 23), (.tmp 24), (.tmp 25), (.tmp 26)]⟩])
 (.block 2 (.loop (.seq (.seq (.ops [⟨some 28, none, .mov (.tmp 6)⟩,
  ⟨some 29, none, .mov (.tmp 1)⟩,
  ⟨some 30, none, .bin .lss (.tmp 28) (.tmp 29)⟩])
 (.cond (.tmp 30) .skip
 (.exit 2)))
 (.block 3 (.seq (.ops [⟨some 31, none, .mov (.tmp 6)⟩,
  ⟨some 32, none, .bin .mul (.const (.int .i64 2)) (.tmp 31)⟩,
  ⟨some 7, none, .mov (.const (.int .i64 0))⟩,
  ⟨some 8, none, .mov (.tmp 32)⟩])
 (.seq (.block 4 (.loop (.seq (.seq (.ops [⟨some 33, none, .mov (.tmp 8)⟩,
  ⟨some 34, none, .mov (.tmp 1)⟩,
  ⟨some 35, none, .bin .leq (.tmp 33) (.tmp 34)⟩])
 (.cond (.tmp 35) .skip
 (.exit 4)))
 (.block 5 (.seq (.ops [⟨some 36, none, .mov (.tmp 0)⟩,
  ⟨some 37, none, .mov (.tmp 7)⟩,
  ⟨some 38, none, .mov (.tmp 7)⟩,
  ⟨some 39, none, .mov (.tmp 6)⟩,
  ⟨some 40, none, .bin .add (.tmp 38) (.tmp 39)⟩,
  ⟨some 41, none, .mov (.tmp 8)⟩,
  ⟨some 42, none, .mov (.tmp 2)⟩,
  ⟨some 43, none, .call (.func 29) [(.tmp 36), (.tmp 37), (.tmp 40), (.tmp 41), (.tmp 42)]⟩])
 (.seq (.ops [⟨some 44, none, .mov (.tmp 8)⟩,
  ⟨some 7, none, .mov (.tmp 44)⟩])
 (.ops [⟨some 45, none, .mov (.tmp 8)⟩,
  ⟨some 46, none, .mov (.tmp 6)⟩,
  ⟨some 47, none, .bin .mul (.const (.int .i64 2)) (.tmp 46)⟩,
  ⟨some 48, none, .bin .add (.tmp 45) (.tmp 47)⟩,
  ⟨some 8, none, .mov (.tmp 48)⟩])))))))
 (.seq (.seq (.ops [⟨some 49, none, .mov (.tmp 7)⟩,
  ⟨some 50, none, .mov (.tmp 6)⟩,
  ⟨some 51, none, .bin .add (.tmp 49) (.tmp 50)⟩,
  ⟨some 9, none, .mov (.tmp 51)⟩])
 (.seq (.ops [⟨some 52, none, .mov (.tmp 9)⟩,
  ⟨some 53, none, .mov (.tmp 1)⟩,
  ⟨some 54, none, .bin .lss (.tmp 52) (.tmp 53)⟩])
 (.cond (.tmp 54) (.ops [⟨some 55, none, .mov (.tmp 0)⟩,
  ⟨some 56, none, .mov (.tmp 7)⟩,
  ⟨some 57, none, .mov (.tmp 9)⟩,
  ⟨some 58, none, .mov (.tmp 1)⟩,
  ⟨some 59, none, .mov (.tmp 2)⟩,
  ⟨some 60, none, .call (.func 29) [(.tmp 55), (.tmp 56), (.tmp 57), (.tmp 58), (.tmp 59)]⟩])
 .skip)))
 (.ops [⟨some 61, none, .mov (.tmp 6)⟩,
  ⟨some 62, none, .bin .mul (.tmp 61) (.const (.int .i64 2))⟩,
  ⟨some 6, none, .mov (.tmp 62)⟩]))))))))))))
def a25 : AF := ⟨3, 63, [], c25⟩
-- slices.pdqsortOrdered[int]
def c26 : AC := (.seq (.ops [⟨some 8, none, .mov (.const (.bool true))⟩])
 (.seq (.ops [⟨some 9, none, .mov (.const (.bool true))⟩])
 (.block 0 (.loop (.block 1 (.seq (.ops [⟨some 19, none, .mov (.tmp 2)⟩,
  ⟨some 20, none, .mov (.tmp 1)⟩,
  ⟨some 21, none, .bin .sub (.tmp 19) (.tmp 20)⟩,
  ⟨some 10, none, .mov (.tmp 21)⟩])
 (.seq (.seq (.ops [⟨some 22, none, .mov (.tmp 10)⟩,
  ⟨some 23, none, .bin .leq (.tmp 22) (.const (.int .i64 12))⟩])
 (.cond (.tmp 23) (.seq (.ops [⟨some 24, none, .mov (.tmp 0)⟩,
  ⟨some 25, none, .mov (.tmp 1)⟩,
  ⟨some 26, none, .mov (.tmp 2)⟩,
  ⟨some 27, none, .call (.func 30) [(.tmp 24), (.tmp 25), (.tmp 26)]⟩])
 .ret)
 .skip))
 (.seq (.seq (.ops [⟨some 28, none, .mov (.tmp 3)⟩,
  ⟨some 29, none, .bin .eql (.tmp 28) (.const (.int .i64 0))⟩])
 (.cond (.tmp 29) (.seq (.ops [⟨some 30, none, .mov (.tmp 0)⟩,
  ⟨some 31, none, .mov (.tmp 1)⟩,
  ⟨some 32, none, .mov (.tmp 2)⟩,
  ⟨some 33, none, .call (.func 31) [(.tmp 30), (.tmp 31), (.tmp 32)]⟩])
 .ret)
 .skip))
 (.seq (.seq (.ops [⟨some 34, none, .mov (.tmp 8)⟩,
  ⟨some 35, none, .un .not (.tmp 34)⟩])
 (.cond (.tmp 35) (.seq (.ops [⟨some 36, none, .mov (.tmp 0)⟩,
  ⟨some 37, none, .mov (.tmp 1)⟩,
  ⟨some 38, none, .mov (.tmp 2)⟩,
  ⟨some 39, none, .call (.func 32) [(.tmp 36), (.tmp 37), (.tmp 38)]⟩])
 (.ops [⟨some 40, none, .mov (.tmp 3)⟩,
  ⟨some 41, none, .bin .sub (.tmp 40) (.const (.int .i64 1))⟩,
  ⟨some 3, none, .mov (.tmp 41)⟩]))
 .skip))
 (.seq (.ops [⟨some 43, none, .mov (.tmp 0)⟩,
  ⟨some 44, none, .mov (.tmp 1)⟩,
  ⟨some 45, none, .mov (.tmp 2)⟩,
  ⟨some 46, none, .call (.func 33) [(.tmp 43), (.tmp 44), (.tmp 45)]⟩,
  ⟨some 42, none, .mov (.tmp 46)⟩,
  ⟨some 47, none, .ext (.tmp 42) 0⟩,
  ⟨some 48, none, .ext (.tmp 42) 1⟩,
  ⟨some 11, none, .mov (.tmp 47)⟩,
  ⟨some 12, none, .mov (.tmp 48)⟩])
 (.seq (.seq (.ops [⟨some 49, none, .mov (.tmp 12)⟩,
  ⟨some 50, none, .bin .eql (.tmp 49) (.const (.int .i64 2))⟩])
 (.cond (.tmp 50) (.seq (.ops [⟨some 51, none, .mov (.tmp 0)⟩,
  ⟨some 52, none, .mov (.tmp 1)⟩,
  ⟨some 53, none, .mov (.tmp 2)⟩,
  ⟨some 54, none, .call (.func 34) [(.tmp 51), (.tmp 52), (.tmp 53)]⟩])
 (.seq (.ops [⟨some 55, none, .mov (.tmp 2)⟩,
  ⟨some 56, none, .bin .sub (.tmp 55) (.const (.int .i64 1))⟩,
  ⟨some 57, none, .mov (.tmp 11)⟩,
  ⟨some 58, none, .mov (.tmp 1)⟩,
  ⟨some 59, none, .bin .sub (.tmp 57) (.tmp 58)⟩,
  ⟨some 60, none, .bin .sub (.tmp 56) (.tmp 59)⟩,
  ⟨some 11, none, .mov (.tmp 60)⟩])
 (.ops [⟨some 12, none, .mov (.const (.int .i64 1))⟩])))
 .skip))
 (.seq (.seq (.ops [⟨some 61, none, .mov (.tmp 8)⟩,
  ⟨some 62, none, .mov (.tmp 61)⟩,
  ⟨some 63, some (62, true), .mov (.tmp 9)⟩,
  ⟨some 64, none, .pick (.tmp 62) (.tmp 63) (.const (.bool false))⟩,
  ⟨some 65, none, .mov (.tmp 64)⟩,
  ⟨some 66, some (65, true), .mov (.tmp 12)⟩,
  ⟨some 67, some (65, true), .bin .eql (.tmp 66) (.const (.int .i64 1))⟩,
  ⟨some 68, none, .pick (.tmp 65) (.tmp 67) (.const (.bool false))⟩])
 (.cond (.tmp 68) (.seq (.ops [⟨some 69, none, .mov (.tmp 0)⟩,
  ⟨some 70, none, .mov (.tmp 1)⟩,
  ⟨some 71, none, .mov (.tmp 2)⟩,
  ⟨some 72, none, .call (.func 35) [(.tmp 69), (.tmp 70), (.tmp 71)]⟩])
 (.cond (.tmp 72) .ret
 .skip))
 .skip))
 (.seq (.seq (.draw [⟨0, ⟨some 73, none, .mov (.tmp 1)⟩, [], [], 0⟩,
  ⟨1, ⟨some 74, none, .bin .gtr (.tmp 73) (.const (.int .i64 0))⟩, [0], [], 0⟩,
  ⟨2, ⟨some 75, none, .mov (.tmp 74)⟩, [1, 0], [], 0⟩,
  ⟨3, ⟨some 76, some (75, true), .mov (.tmp 0)⟩, [2, 1, 0], [], 0⟩,
  ⟨4, ⟨some 77, some (75, true), .mov (.tmp 1)⟩, [2, 1, 0], [], 0⟩,
  ⟨5, ⟨some 78, some (75, true), .bin .sub (.tmp 77) (.const (.int .i64 1))⟩, [4, 2, 1, 0], [], 0⟩,
  ⟨6, ⟨some 79, some (75, true), .iaddr (.tmp 76) (.tmp 78) 1⟩, [3, 5, 2, 1, 0, 4], [], 0⟩,
  ⟨7, ⟨some 80, some (75, true), .load (.tmp 79) 1 false⟩, [6, 2, 3, 5, 1, 0, 4], [], 0⟩,
  ⟨8, ⟨some 81, some (75, true), .mov (.tmp 0)⟩, [2, 1, 0], [], 0⟩,
  ⟨9, ⟨some 82, some (75, true), .mov (.tmp 11)⟩, [2, 1, 0], [], 0⟩,
  ⟨10, ⟨some 83, some (75, true), .iaddr (.tmp 81) (.tmp 82) 1⟩, [8, 9, 2, 1, 0], [], 0⟩,
  ⟨11, ⟨some 84, some (75, true), .load (.tmp 83) 1 false⟩, [10, 2, 8, 9, 1, 0], [], 0⟩,
  ⟨12, ⟨some 85, some (75, true), .call (.func 36) [(.tmp 80), (.tmp 84)]⟩, [7, 11, 2, 6, 3, 5, 1, 0, 4, 10, 8, 9], [], 1⟩,
  ⟨13, ⟨some 86, some (75, true), .un .not (.tmp 85)⟩, [12, 2, 7, 11, 6, 3, 5, 1, 0, 4, 10, 8, 9], [], 0⟩,
  ⟨14, ⟨some 87, none, .pick (.tmp 75) (.tmp 86) (.const (.bool false))⟩, [2, 13, 1, 0, 12, 7, 11, 6, 3, 5, 4, 10, 8, 9], [], 0⟩] 0)
 (.cond (.tmp 87) (.seq (.ops [⟨some 88, none, .mov (.tmp 0)⟩,
  ⟨some 89, none, .mov (.tmp 1)⟩,
  ⟨some 90, none, .mov (.tmp 2)⟩,
  ⟨some 91, none, .mov (.tmp 11)⟩,
  ⟨some 92, none, .call (.func 37) [(.tmp 88), (.tmp 89), (.tmp 90), (.tmp 91)]⟩,
  ⟨some 13, none, .mov (.tmp 92)⟩])
 (.seq (.ops [⟨some 93, none, .mov (.tmp 13)⟩,
  ⟨some 1, none, .mov (.tmp 93)⟩])
 (.exit 1)))
 .skip))
 (.seq (.ops [⟨some 95, none, .mov (.tmp 0)⟩,
  ⟨some 96, none, .mov (.tmp 1)⟩,
  ⟨some 97, none, .mov (.tmp 2)⟩,
  ⟨some 98, none, .mov (.tmp 11)⟩,
  ⟨some 99, none, .call (.func 38) [(.tmp 95), (.tmp 96), (.tmp 97), (.tmp 98)]⟩,
  ⟨some 94, none, .mov (.tmp 99)⟩,
  ⟨some 100, none, .ext (.tmp 94) 0⟩,
  ⟨some 101, none, .ext (.tmp 94) 1⟩,
  ⟨some 14, none, .mov (.tmp 100)⟩,
  ⟨some 15, none, .mov (.tmp 101)⟩])
 (.seq (.ops [⟨some 102, none, .mov (.tmp 15)⟩,
  ⟨some 9, none, .mov (.tmp 102)⟩])
 (.seq (.ops [⟨some 103, none, .mov (.tmp 14)⟩,
  ⟨some 104, none, .mov (.tmp 1)⟩,
  ⟨some 105, none, .bin .sub (.tmp 103) (.tmp 104)⟩,
  ⟨some 106, none, .mov (.tmp 2)⟩,
  ⟨some 107, none, .mov (.tmp 14)⟩,
  ⟨some 108, none, .bin .sub (.tmp 106) (.tmp 107)⟩,
  ⟨some 16, none, .mov (.tmp 105)⟩,
  ⟨some 17, none, .mov (.tmp 108)⟩])
 (.seq (.ops [⟨some 109, none, .mov (.tmp 10)⟩,
  ⟨some 110, none, .bin .quo (.tmp 109) (.const (.int .i64 8))⟩,
  ⟨some 18, none, .mov (.tmp 110)⟩])
 (.seq (.ops [⟨some 111, none, .mov (.tmp 16)⟩,
  ⟨some 112, none, .mov (.tmp 17)⟩,
  ⟨some 113, none, .bin .lss (.tmp 111) (.tmp 112)⟩])
 (.cond (.tmp 113) (.seq (.ops [⟨some 114, none, .mov (.tmp 16)⟩,
  ⟨some 115, none, .mov (.tmp 18)⟩,
  ⟨some 116, none, .bin .geq (.tmp 114) (.tmp 115)⟩,
  ⟨some 8, none, .mov (.tmp 116)⟩])
 (.seq (.ops [⟨some 117, none, .mov (.tmp 0)⟩,
  ⟨some 118, none, .mov (.tmp 1)⟩,
  ⟨some 119, none, .mov (.tmp 14)⟩,
  ⟨some 120, none, .mov (.tmp 3)⟩,
  ⟨some 121, none, .call (.func 26) [(.tmp 117), (.tmp 118), (.tmp 119), (.tmp 120)]⟩])
 (.ops [⟨some 122, none, .mov (.tmp 14)⟩,
  ⟨some 123, none, .bin .add (.tmp 122) (.const (.int .i64 1))⟩,
  ⟨some 1, none, .mov (.tmp 123)⟩])))
 (.seq (.ops [⟨some 124, none, .mov (.tmp 17)⟩,
  ⟨some 125, none, .mov (.tmp 18)⟩,
  ⟨some 126, none, .bin .geq (.tmp 124) (.tmp 125)⟩,
  ⟨some 8, none, .mov (.tmp 126)⟩])
 (.seq (.ops [⟨some 127, none, .mov (.tmp 0)⟩,
  ⟨some 128, none, .mov (.tmp 14)⟩,
  ⟨some 129, none, .bin .add (.tmp 128) (.const (.int .i64 1))⟩,
  ⟨some 130, none, .mov (.tmp 2)⟩,
  ⟨some 131, none, .mov (.tmp 3)⟩,
  ⟨some 132, none, .call (.func 26) [(.tmp 127), (.tmp 129), (.tmp 130), (.tmp 131)]⟩])
 (.ops [⟨some 133, none, .mov (.tmp 14)⟩,
  ⟨some 2, none, .mov (.tmp 133)⟩]))))))))))))))))))))))
def a26 : AF := ⟨4, 134, [], c26⟩
-- math/bits.Len
def c27 : AC := (.seq (.ops [⟨some 2, none, .mov (.const (.int .i64 0))⟩])
 (.seq (.cond (.const (.bool false)) (.seq (.ops [⟨some 3, none, .mov (.tmp 0)⟩,
  ⟨some 4, none, .conv .u32 (.tmp 3)⟩,
  ⟨some 5, none, .call (.func 39) [(.tmp 4)]⟩,
  ⟨some 2, none, .mov (.tmp 5)⟩])
 .ret)
 .skip)
 (.seq (.ops [⟨some 6, none, .mov (.tmp 0)⟩,
  ⟨some 7, none, .call (.func 40) [(.tmp 6)]⟩,
  ⟨some 2, none, .mov (.tmp 7)⟩])
 .ret)))
def a27 : AF := ⟨1, 8, [.tmp 2], c27⟩
-- slices.insertionSortCmpFunc[int]
def c28 : AC := (.seq (.ops [⟨some 10, none, .mov (.tmp 1)⟩,
  ⟨some 11, none, .bin .add (.tmp 10) (.const (.int .i64 1))⟩,
  ⟨some 8, none, .mov (.tmp 11)⟩])
 (.block 0 (.loop (.seq (.seq (.ops [⟨some 12, none, .mov (.tmp 8)⟩,
  ⟨some 13, none, .mov (.tmp 2)⟩,
  ⟨some 14, none, .bin .lss (.tmp 12) (.tmp 13)⟩])
 (.cond (.tmp 14) .skip
 (.exit 0)))
 (.seq (.block 1 (.seq (.ops [⟨some 17, none, .mov (.tmp 8)⟩,
  ⟨some 9, none, .mov (.tmp 17)⟩])
 (.block 2 (.loop (.seq (.seq (.draw [⟨0, ⟨some 18, none, .mov (.tmp 9)⟩, [], [], 0⟩,
  ⟨1, ⟨some 19, none, .mov (.tmp 1)⟩, [], [], 0⟩,
  ⟨2, ⟨some 20, none, .bin .gtr (.tmp 18) (.tmp 19)⟩, [0, 1], [], 0⟩,
  ⟨3, ⟨some 21, none, .mov (.tmp 20)⟩, [2, 0, 1], [], 0⟩,
  ⟨4, ⟨some 22, some (21, true), .mov (.tmp 3)⟩, [3, 2, 0, 1], [], 0⟩,
  ⟨5, ⟨some 23, some (21, true), .mov (.tmp 0)⟩, [3, 2, 0, 1], [], 0⟩,
  ⟨6, ⟨some 24, some (21, true), .mov (.tmp 9)⟩, [3, 2, 0, 1], [], 0⟩,
  ⟨7, ⟨some 25, some (21, true), .iaddr (.tmp 23) (.tmp 24) 1⟩, [5, 6, 3, 2, 0, 1], [], 0⟩,
  ⟨8, ⟨some 26, some (21, true), .load (.tmp 25) 1 false⟩, [7, 3, 5, 6, 2, 0, 1], [], 0⟩,
  ⟨9, ⟨some 27, some (21, true), .mov (.tmp 0)⟩, [3, 2, 0, 1], [], 0⟩,
  ⟨10, ⟨some 28, some (21, true), .mov (.tmp 9)⟩, [3, 2, 0, 1], [], 0⟩,
  ⟨11, ⟨some 29, some (21, true), .bin .sub (.tmp 28) (.const (.int .i64 1))⟩, [10, 3, 2, 0, 1], [], 0⟩,
  ⟨12, ⟨some 30, some (21, true), .iaddr (.tmp 27) (.tmp 29) 1⟩, [9, 11, 3, 2, 0, 1, 10], [], 0⟩,
  ⟨13, ⟨some 31, some (21, true), .load (.tmp 30) 1 false⟩, [12, 3, 9, 11, 2, 0, 1, 10], [], 0⟩,
  ⟨14, ⟨some 32, some (21, true), .call (.tmp 22) [(.tmp 26), (.tmp 31)]⟩, [4, 8, 13, 3, 2, 0, 1, 7, 5, 6, 12, 9, 11, 10], [], 1⟩,
  ⟨15, ⟨some 33, some (21, true), .bin .lss (.tmp 32) (.const (.int .i64 0))⟩, [14, 3, 4, 8, 13, 2, 0, 1, 7, 5, 6, 12, 9, 11, 10], [], 0⟩,
  ⟨16, ⟨some 34, none, .pick (.tmp 21) (.tmp 33) (.const (.bool false))⟩, [3, 15, 2, 0, 1, 14, 4, 8, 13, 7, 5, 6, 12, 9, 11, 10], [], 0⟩] 0)
 (.cond (.tmp 34) .skip
 (.exit 2)))
 (.seq (.block 3 (.draw [⟨0, ⟨some 37, none, .mov (.tmp 0)⟩, [], [], 0⟩,
  ⟨1, ⟨some 38, none, .mov (.tmp 9)⟩, [], [], 0⟩,
  ⟨2, ⟨some 39, none, .mov (.tmp 0)⟩, [], [], 1⟩,
  ⟨3, ⟨some 40, none, .mov (.tmp 9)⟩, [], [], 1⟩,
  ⟨4, ⟨some 41, none, .bin .sub (.tmp 40) (.const (.int .i64 1))⟩, [3], [], 1⟩,
  ⟨5, ⟨some 42, none, .mov (.tmp 0)⟩, [], [], 0⟩,
  ⟨6, ⟨some 43, none, .mov (.tmp 9)⟩, [], [], 0⟩,
  ⟨7, ⟨some 44, none, .bin .sub (.tmp 43) (.const (.int .i64 1))⟩, [6], [], 0⟩,
  ⟨8, ⟨some 45, none, .iaddr (.tmp 42) (.tmp 44) 1⟩, [5, 7, 6], [], 0⟩,
  ⟨9, ⟨some 46, none, .load (.tmp 45) 1 false⟩, [8, 5, 7, 6], [], 0⟩,
  ⟨10, ⟨some 47, none, .mov (.tmp 0)⟩, [], [], 0⟩,
  ⟨11, ⟨some 48, none, .mov (.tmp 9)⟩, [], [], 0⟩,
  ⟨12, ⟨some 49, none, .iaddr (.tmp 47) (.tmp 48) 1⟩, [10, 11], [], 0⟩,
  ⟨13, ⟨some 50, none, .load (.tmp 49) 1 false⟩, [12, 10, 11], [], 0⟩,
  ⟨14, ⟨some 51, none, .iaddr (.tmp 37) (.tmp 38) 1⟩, [0, 1, 5, 6, 7, 8, 9, 13, 12, 10, 11], [], 0⟩,
  ⟨15, ⟨none, none, .store (.tmp 51) (.tmp 46) 1⟩, [14, 9, 0, 1, 5, 6, 7, 8, 13, 12, 10, 11], [], 1⟩,
  ⟨16, ⟨some 52, none, .iaddr (.tmp 39) (.tmp 41) 1⟩, [2, 4, 0, 1, 3, 5, 6, 7, 8, 9, 10, 11, 12, 13, 14, 15], [], 0⟩,
  ⟨17, ⟨none, none, .store (.tmp 52) (.tmp 50) 1⟩, [16, 13, 15, 0, 1, 2, 3, 4, 5, 6, 7, 8, 9, 10, 11, 12, 14], [], 1⟩] 0))
 (.ops [⟨some 35, none, .mov (.tmp 9)⟩,
  ⟨some 36, none, .bin .sub (.tmp 35) (.const (.int .i64 1))⟩,
  ⟨some 9, none, .mov (.tmp 36)⟩])))))))
 (.ops [⟨some 15, none, .mov (.tmp 8)⟩,
  ⟨some 16, none, .bin .add (.tmp 15) (.const (.int .i64 1))⟩,
  ⟨some 8, none, .mov (.tmp 16)⟩]))))))
def a28 : AF := ⟨4, 53, [], c28⟩
-- slices.symMergeCmpFunc[int]
def c29 : AC := (.seq (.seq (.ops [⟨some 25, none, .mov (.tmp 2)⟩,
  ⟨some 26, none, .mov (.tmp 1)⟩,
  ⟨some 27, none, .bin .sub (.tmp 25) (.tmp 26)⟩,
  ⟨some 28, none, .bin .eql (.tmp 27) (.const (.int .i64 1))⟩])
 (.cond (.tmp 28) (.seq (.ops [⟨some 29, none, .mov (.tmp 2)⟩,
  ⟨some 10, none, .mov (.tmp 29)⟩])
 (.seq (.ops [⟨some 30, none, .mov (.tmp 3)⟩,
  ⟨some 11, none, .mov (.tmp 30)⟩])
 (.seq (.block 0 (.loop (.seq (.seq (.ops [⟨some 31, none, .mov (.tmp 10)⟩,
  ⟨some 32, none, .mov (.tmp 11)⟩,
  ⟨some 33, none, .bin .lss (.tmp 31) (.tmp 32)⟩])
 (.cond (.tmp 33) .skip
 (.exit 0)))
 (.block 1 (.seq (.ops [⟨some 34, none, .mov (.tmp 10)⟩,
  ⟨some 35, none, .mov (.tmp 11)⟩,
  ⟨some 36, none, .bin .add (.tmp 34) (.tmp 35)⟩,
  ⟨some 37, none, .conv .u64 (.tmp 36)⟩,
  ⟨some 38, none, .bin .shr (.tmp 37) (.const (.int .u64 1))⟩,
  ⟨some 39, none, .conv .i64 (.tmp 38)⟩,
  ⟨some 12, none, .mov (.tmp 39)⟩])
 (.seq (.draw [⟨0, ⟨some 40, none, .mov (.tmp 4)⟩, [], [], 0⟩,
  ⟨1, ⟨some 41, none, .mov (.tmp 0)⟩, [], [], 0⟩,
  ⟨2, ⟨some 42, none, .mov (.tmp 12)⟩, [], [], 0⟩,
  ⟨3, ⟨some 43, none, .iaddr (.tmp 41) (.tmp 42) 1⟩, [1, 2], [], 0⟩,
  ⟨4, ⟨some 44, none, .load (.tmp 43) 1 false⟩, [3, 1, 2], [], 0⟩,
  ⟨5, ⟨some 45, none, .mov (.tmp 0)⟩, [], [], 0⟩,
  ⟨6, ⟨some 46, none, .mov (.tmp 1)⟩, [], [], 0⟩,
  ⟨7, ⟨some 47, none, .iaddr (.tmp 45) (.tmp 46) 1⟩, [5, 6], [], 0⟩,
  ⟨8, ⟨some 48, none, .load (.tmp 47) 1 false⟩, [7, 5, 6], [], 0⟩,
  ⟨9, ⟨some 49, none, .call (.tmp 40) [(.tmp 44), (.tmp 48)]⟩, [0, 4, 8, 3, 1, 2, 7, 5, 6], [], 1⟩,
  ⟨10, ⟨some 50, none, .bin .lss (.tmp 49) (.const (.int .i64 0))⟩, [9, 0, 4, 8, 3, 1, 2, 7, 5, 6], [], 0⟩] 0)
 (.cond (.tmp 50) (.ops [⟨some 51, none, .mov (.tmp 12)⟩,
  ⟨some 52, none, .bin .add (.tmp 51) (.const (.int .i64 1))⟩,
  ⟨some 10, none, .mov (.tmp 52)⟩])
 (.ops [⟨some 53, none, .mov (.tmp 12)⟩,
  ⟨some 11, none, .mov (.tmp 53)⟩]))))))))
 (.seq (.seq (.ops [⟨some 54, none, .mov (.tmp 1)⟩,
  ⟨some 13, none, .mov (.tmp 54)⟩])
 (.block 2 (.loop (.seq (.seq (.ops [⟨some 55, none, .mov (.tmp 13)⟩,
  ⟨some 56, none, .mov (.tmp 10)⟩,
  ⟨some 57, none, .bin .sub (.tmp 56) (.const (.int .i64 1))⟩,
  ⟨some 58, none, .bin .lss (.tmp 55) (.tmp 57)⟩])
 (.cond (.tmp 58) .skip
 (.exit 2)))
 (.seq (.block 3 (.draw [⟨0, ⟨some 61, none, .mov (.tmp 0)⟩, [], [], 0⟩,
  ⟨1, ⟨some 62, none, .mov (.tmp 13)⟩, [], [], 0⟩,
  ⟨2, ⟨some 63, none, .mov (.tmp 0)⟩, [], [], 1⟩,
  ⟨3, ⟨some 64, none, .mov (.tmp 13)⟩, [], [], 1⟩,
  ⟨4, ⟨some 65, none, .bin .add (.tmp 64) (.const (.int .i64 1))⟩, [3], [], 1⟩,
  ⟨5, ⟨some 66, none, .mov (.tmp 0)⟩, [], [], 0⟩,
  ⟨6, ⟨some 67, none, .mov (.tmp 13)⟩, [], [], 0⟩,
  ⟨7, ⟨some 68, none, .bin .add (.tmp 67) (.const (.int .i64 1))⟩, [6], [], 0⟩,
  ⟨8, ⟨some 69, none, .iaddr (.tmp 66) (.tmp 68) 1⟩, [5, 7, 6], [], 0⟩,
  ⟨9, ⟨some 70, none, .load (.tmp 69) 1 false⟩, [8, 5, 7, 6], [], 0⟩,
  ⟨10, ⟨some 71, none, .mov (.tmp 0)⟩, [], [], 0⟩,
  ⟨11, ⟨some 72, none, .mov (.tmp 13)⟩, [], [], 0⟩,
  ⟨12, ⟨some 73, none, .iaddr (.tmp 71) (.tmp 72) 1⟩, [10, 11], [], 0⟩,
  ⟨13, ⟨some 74, none, .load (.tmp 73) 1 false⟩, [12, 10, 11], [], 0⟩,
  ⟨14, ⟨some 75, none, .iaddr (.tmp 61) (.tmp 62) 1⟩, [0, 1, 5, 6, 7, 8, 9, 13, 12, 10, 11], [], 0⟩,
  ⟨15, ⟨none, none, .store (.tmp 75) (.tmp 70) 1⟩, [14, 9, 0, 1, 5, 6, 7, 8, 13, 12, 10, 11], [], 1⟩,
  ⟨16, ⟨some 76, none, .iaddr (.tmp 63) (.tmp 65) 1⟩, [2, 4, 0, 1, 3, 5, 6, 7, 8, 9, 10, 11, 12, 13, 14, 15], [], 0⟩,
  ⟨17, ⟨none, none, .store (.tmp 76) (.tmp 74) 1⟩, [16, 13, 15, 0, 1, 2, 3, 4, 5, 6, 7, 8, 9, 10, 11, 12, 14], [], 1⟩] 0))
 (.ops [⟨some 59, none, .mov (.tmp 13)⟩,
  ⟨some 60, none, .bin .add (.tmp 59) (.const (.int .i64 1))⟩,
  ⟨some 13, none, .mov (.tmp 60)⟩]))))))
 .ret))))
 .skip))
 (.seq (.seq (.ops [⟨some 77, none, .mov (.tmp 3)⟩,
  ⟨some 78, none, .mov (.tmp 2)⟩,
  ⟨some 79, none, .bin .sub (.tmp 77) (.tmp 78)⟩,
  ⟨some 80, none, .bin .eql (.tmp 79) (.const (.int .i64 1))⟩])
 (.cond (.tmp 80) (.seq (.ops [⟨some 81, none, .mov (.tmp 1)⟩,
  ⟨some 14, none, .mov (.tmp 81)⟩])
 (.seq (.ops [⟨some 82, none, .mov (.tmp 2)⟩,
  ⟨some 15, none, .mov (.tmp 82)⟩])
 (.seq (.block 4 (.loop (.seq (.seq (.ops [⟨some 83, none, .mov (.tmp 14)⟩,
  ⟨some 84, none, .mov (.tmp 15)⟩,
  ⟨some 85, none, .bin .lss (.tmp 83) (.tmp 84)⟩])
 (.cond (.tmp 85) .skip
 (.exit 4)))
 (.block 5 (.seq (.ops [⟨some 86, none, .mov (.tmp 14)⟩,
  ⟨some 87, none, .mov (.tmp 15)⟩,
  ⟨some 88, none, .bin .add (.tmp 86) (.tmp 87)⟩,
  ⟨some 89, none, .conv .u64 (.tmp 88)⟩,
  ⟨some 90, none, .bin .shr (.tmp 89) (.const (.int .u64 1))⟩,
  ⟨some 91, none, .conv .i64 (.tmp 90)⟩,
  ⟨some 16, none, .mov (.tmp 91)⟩])
 (.seq (.draw [⟨0, ⟨some 92, none, .mov (.tmp 4)⟩, [], [], 0⟩,
  ⟨1, ⟨some 93, none, .mov (.tmp 0)⟩, [], [], 0⟩,
  ⟨2, ⟨some 94, none, .mov (.tmp 2)⟩, [], [], 0⟩,
  ⟨3, ⟨some 95, none, .iaddr (.tmp 93) (.tmp 94) 1⟩, [1, 2], [], 0⟩,
  ⟨4, ⟨some 96, none, .load (.tmp 95) 1 false⟩, [3, 1, 2], [], 0⟩,
  ⟨5, ⟨some 97, none, .mov (.tmp 0)⟩, [], [], 0⟩,
  ⟨6, ⟨some 98, none, .mov (.tmp 16)⟩, [], [], 0⟩,
  ⟨7, ⟨some 99, none, .iaddr (.tmp 97) (.tmp 98) 1⟩, [5, 6], [], 0⟩,
  ⟨8, ⟨some 100, none, .load (.tmp 99) 1 false⟩, [7, 5, 6], [], 0⟩,
  ⟨9, ⟨some 101, none, .call (.tmp 92) [(.tmp 96), (.tmp 100)]⟩, [0, 4, 8, 3, 1, 2, 7, 5, 6], [], 1⟩,
  ⟨10, ⟨some 102, none, .bin .lss (.tmp 101) (.const (.int .i64 0))⟩, [9, 0, 4, 8, 3, 1, 2, 7, 5, 6], [], 0⟩,
  ⟨11, ⟨some 103, none, .un .not (.tmp 102)⟩, [10, 9, 0, 4, 8, 3, 1, 2, 7, 5, 6], [], 0⟩] 0)
 (.cond (.tmp 103) (.ops [⟨some 104, none, .mov (.tmp 16)⟩,
  ⟨some 105, none, .bin .add (.tmp 104) (.const (.int .i64 1))⟩,
  ⟨some 14, none, .mov (.tmp 105)⟩])
 (.ops [⟨some 106, none, .mov (.tmp 16)⟩,
  ⟨some 15, none, .mov (.tmp 106)⟩]))))))))
 (.seq (.seq (.ops [⟨some 107, none, .mov (.tmp 2)⟩,
  ⟨some 17, none, .mov (.tmp 107)⟩])
 (.block 6 (.loop (.seq (.seq (.ops [⟨some 108, none, .mov (.tmp 17)⟩,
  ⟨some 109, none, .mov (.tmp 14)⟩,
  ⟨some 110, none, .bin .gtr (.tmp 108) (.tmp 109)⟩])
 (.cond (.tmp 110) .skip
 (.exit 6)))
 (.seq (.block 7 (.draw [⟨0, ⟨some 113, none, .mov (.tmp 0)⟩, [], [], 0⟩,
  ⟨1, ⟨some 114, none, .mov (.tmp 17)⟩, [], [], 0⟩,
  ⟨2, ⟨some 115, none, .mov (.tmp 0)⟩, [], [], 1⟩,
  ⟨3, ⟨some 116, none, .mov (.tmp 17)⟩, [], [], 1⟩,
  ⟨4, ⟨some 117, none, .bin .sub (.tmp 116) (.const (.int .i64 1))⟩, [3], [], 1⟩,
  ⟨5, ⟨some 118, none, .mov (.tmp 0)⟩, [], [], 0⟩,
  ⟨6, ⟨some 119, none, .mov (.tmp 17)⟩, [], [], 0⟩,
  ⟨7, ⟨some 120, none, .bin .sub (.tmp 119) (.const (.int .i64 1))⟩, [6], [], 0⟩,
  ⟨8, ⟨some 121, none, .iaddr (.tmp 118) (.tmp 120) 1⟩, [5, 7, 6], [], 0⟩,
  ⟨9, ⟨some 122, none, .load (.tmp 121) 1 false⟩, [8, 5, 7, 6], [], 0⟩,
  ⟨10, ⟨some 123, none, .mov (.tmp 0)⟩, [], [], 0⟩,
  ⟨11, ⟨some 124, none, .mov (.tmp 17)⟩, [], [], 0⟩,
  ⟨12, ⟨some 125, none, .iaddr (.tmp 123) (.tmp 124) 1⟩, [10, 11], [], 0⟩,
  ⟨13, ⟨some 126, none, .load (.tmp 125) 1 false⟩, [12, 10, 11], [], 0⟩,
  ⟨14, ⟨some 127, none, .iaddr (.tmp 113) (.tmp 114) 1⟩, [0, 1, 5, 6, 7, 8, 9, 13, 12, 10, 11], [], 0⟩,
  ⟨15, ⟨none, none, .store (.tmp 127) (.tmp 122) 1⟩, [14, 9, 0, 1, 5, 6, 7, 8, 13, 12, 10, 11], [], 1⟩,
  ⟨16, ⟨some 128, none, .iaddr (.tmp 115) (.tmp 117) 1⟩, [2, 4, 0, 1, 3, 5, 6, 7, 8, 9, 10, 11, 12, 13, 14, 15], [], 0⟩,
  ⟨17, ⟨none, none, .store (.tmp 128) (.tmp 126) 1⟩, [16, 13, 15, 0, 1, 2, 3, 4, 5, 6, 7, 8, 9, 10, 11, 12, 14], [], 1⟩] 0))
 (.ops [⟨some 111, none, .mov (.tmp 17)⟩,
  ⟨some 112, none, .bin .sub (.tmp 111) (.const (.int .i64 1))⟩,
  ⟨some 17, none, .mov (.tmp 112)⟩]))))))
 .ret))))
 .skip))
 (.seq (.ops [⟨some 129, none, .mov (.tmp 1)⟩,
  ⟨some 130, none, .mov (.tmp 3)⟩,
  ⟨some 131, none, .bin .add (.tmp 129) (.tmp 130)⟩,
  ⟨some 132, none, .conv .u64 (.tmp 131)⟩,
  ⟨some 133, none, .bin .shr (.tmp 132) (.const (.int .u64 1))⟩,
  ⟨some 134, none, .conv .i64 (.tmp 133)⟩,
  ⟨some 18, none, .mov (.tmp 134)⟩])
 (.seq (.ops [⟨some 135, none, .mov (.tmp 18)⟩,
  ⟨some 136, none, .mov (.tmp 2)⟩,
  ⟨some 137, none, .bin .add (.tmp 135) (.tmp 136)⟩,
  ⟨some 19, none, .mov (.tmp 137)⟩])
 (.seq (.ops [⟨some 20, none, .mov (.const (.int .i64 0))⟩,
  ⟨some 21, none, .mov (.const (.int .i64 0))⟩])
 (.seq (.seq (.ops [⟨some 138, none, .mov (.tmp 2)⟩,
  ⟨some 139, none, .mov (.tmp 18)⟩,
  ⟨some 140, none, .bin .gtr (.tmp 138) (.tmp 139)⟩])
 (.cond (.tmp 140) (.seq (.ops [⟨some 141, none, .mov (.tmp 19)⟩,
  ⟨some 142, none, .mov (.tmp 3)⟩,
  ⟨some 143, none, .bin .sub (.tmp 141) (.tmp 142)⟩,
  ⟨some 20, none, .mov (.tmp 143)⟩])
 (.ops [⟨some 144, none, .mov (.tmp 18)⟩,
  ⟨some 21, none, .mov (.tmp 144)⟩]))
 (.seq (.ops [⟨some 145, none, .mov (.tmp 1)⟩,
  ⟨some 20, none, .mov (.tmp 145)⟩])
 (.ops [⟨some 146, none, .mov (.tmp 2)⟩,
  ⟨some 21, none, .mov (.tmp 146)⟩]))))
 (.seq (.ops [⟨some 147, none, .mov (.tmp 19)⟩,
  ⟨some 148, none, .bin .sub (.tmp 147) (.const (.int .i64 1))⟩,
  ⟨some 22, none, .mov (.tmp 148)⟩])
 (.seq (.block 8 (.loop (.seq (.seq (.ops [⟨some 149, none, .mov (.tmp 20)⟩,
  ⟨some 150, none, .mov (.tmp 21)⟩,
  ⟨some 151, none, .bin .lss (.tmp 149) (.tmp 150)⟩])
 (.cond (.tmp 151) .skip
 (.exit 8)))
 (.block 9 (.seq (.ops [⟨some 152, none, .mov (.tmp 20)⟩,
  ⟨some 153, none, .mov (.tmp 21)⟩,
  ⟨some 154, none, .bin .add (.tmp 152) (.tmp 153)⟩,
  ⟨some 155, none, .conv .u64 (.tmp 154)⟩,
  ⟨some 156, none, .bin .shr (.tmp 155) (.const (.int .u64 1))⟩,
  ⟨some 157, none, .conv .i64 (.tmp 156)⟩,
  ⟨some 23, none, .mov (.tmp 157)⟩])
 (.seq (.draw [⟨0, ⟨some 158, none, .mov (.tmp 4)⟩, [], [], 0⟩,
  ⟨1, ⟨some 159, none, .mov (.tmp 0)⟩, [], [], 0⟩,
  ⟨2, ⟨some 160, none, .mov (.tmp 22)⟩, [], [], 0⟩,
  ⟨3, ⟨some 161, none, .mov (.tmp 23)⟩, [], [], 0⟩,
  ⟨4, ⟨some 162, none, .bin .sub (.tmp 160) (.tmp 161)⟩, [2, 3], [], 0⟩,
  ⟨5, ⟨some 163, none, .iaddr (.tmp 159) (.tmp 162) 1⟩, [1, 4, 2, 3], [], 0⟩,
  ⟨6, ⟨some 164, none, .load (.tmp 163) 1 false⟩, [5, 1, 4, 2, 3], [], 0⟩,
  ⟨7, ⟨some 165, none, .mov (.tmp 0)⟩, [], [], 0⟩,
  ⟨8, ⟨some 166, none, .mov (.tmp 23)⟩, [], [], 0⟩,
  ⟨9, ⟨some 167, none, .iaddr (.tmp 165) (.tmp 166) 1⟩, [7, 8], [], 0⟩,
  ⟨10, ⟨some 168, none, .load (.tmp 167) 1 false⟩, [9, 7, 8], [], 0⟩,
  ⟨11, ⟨some 169, none, .call (.tmp 158) [(.tmp 164), (.tmp 168)]⟩, [0, 6, 10, 5, 1, 4, 2, 3, 9, 7, 8], [], 1⟩,
  ⟨12, ⟨some 170, none, .bin .lss (.tmp 169) (.const (.int .i64 0))⟩, [11, 0, 6, 10, 5, 1, 4, 2, 3, 9, 7, 8], [], 0⟩,
  ⟨13, ⟨some 171, none, .un .not (.tmp 170)⟩, [12, 11, 0, 6, 10, 5, 1, 4, 2, 3, 9, 7, 8], [], 0⟩] 0)
 (.cond (.tmp 171) (.ops [⟨some 172, none, .mov (.tmp 23)⟩,
  ⟨some 173, none, .bin .add (.tmp 172) (.const (.int .i64 1))⟩,
  ⟨some 20, none, .mov (.tmp 173)⟩])
 (.ops [⟨some 174, none, .mov (.tmp 23)⟩,
  ⟨some 21, none, .mov (.tmp 174)⟩]))))))))
 (.seq (.ops [⟨some 175, none, .mov (.tmp 19)⟩,
  ⟨some 176, none, .mov (.tmp 20)⟩,
  ⟨some 177, none, .bin .sub (.tmp 175) (.tmp 176)⟩,
  ⟨some 24, none, .mov (.tmp 177)⟩])
 (.seq (.seq (.ops [⟨some 178, none, .mov (.tmp 20)⟩,
  ⟨some 179, none, .mov (.tmp 2)⟩,
  ⟨some 180, none, .bin .lss (.tmp 178) (.tmp 179)⟩,
  ⟨some 181, none, .mov (.tmp 180)⟩,
  ⟨some 182, some (181, true), .mov (.tmp 2)⟩,
  ⟨some 183, some (181, true), .mov (.tmp 24)⟩,
  ⟨some 184, some (181, true), .bin .lss (.tmp 182) (.tmp 183)⟩,
  ⟨some 185, none, .pick (.tmp 181) (.tmp 184) (.const (.bool false))⟩])
 (.cond (.tmp 185) (.ops [⟨some 186, none, .mov (.tmp 0)⟩,
  ⟨some 187, none, .mov (.tmp 20)⟩,
  ⟨some 188, none, .mov (.tmp 2)⟩,
  ⟨some 189, none, .mov (.tmp 24)⟩,
  ⟨some 190, none, .mov (.tmp 4)⟩,
  ⟨some 191, none, .call (.func 41) [(.tmp 186), (.tmp 187), (.tmp 188), (.tmp 189), (.tmp 190)]⟩])
 .skip))
 (.seq (.seq (.ops [⟨some 192, none, .mov (.tmp 1)⟩,
  ⟨some 193, none, .mov (.tmp 20)⟩,
  ⟨some 194, none, .bin .lss (.tmp 192) (.tmp 193)⟩,
  ⟨some 195, none, .mov (.tmp 194)⟩,
  ⟨some 196, some (195, true), .mov (.tmp 20)⟩,
  ⟨some 197, some (195, true), .mov (.tmp 18)⟩,
  ⟨some 198, some (195, true), .bin .lss (.tmp 196) (.tmp 197)⟩,
  ⟨some 199, none, .pick (.tmp 195) (.tmp 198) (.const (.bool false))⟩])
 (.cond (.tmp 199) (.ops [⟨some 200, none, .mov (.tmp 0)⟩,
  ⟨some 201, none, .mov (.tmp 1)⟩,
  ⟨some 202, none, .mov (.tmp 20)⟩,
  ⟨some 203, none, .mov (.tmp 18)⟩,
  ⟨some 204, none, .mov (.tmp 4)⟩,
  ⟨some 205, none, .call (.func 29) [(.tmp 200), (.tmp 201), (.tmp 202), (.tmp 203), (.tmp 204)]⟩])
 .skip))
 (.seq (.ops [⟨some 206, none, .mov (.tmp 18)⟩,
  ⟨some 207, none, .mov (.tmp 24)⟩,
  ⟨some 208, none, .bin .lss (.tmp 206) (.tmp 207)⟩,
  ⟨some 209, none, .mov (.tmp 208)⟩,
  ⟨some 210, some (209, true), .mov (.tmp 24)⟩,
  ⟨some 211, some (209, true), .mov (.tmp 3)⟩,
  ⟨some 212, some (209, true), .bin .lss (.tmp 210) (.tmp 211)⟩,
  ⟨some 213, none, .pick (.tmp 209) (.tmp 212) (.const (.bool false))⟩])
 (.cond (.tmp 213) (.ops [⟨some 214, none, .mov (.tmp 0)⟩,
  ⟨some 215, none, .mov (.tmp 18)⟩,
  ⟨some 216, none, .mov (.tmp 24)⟩,
  ⟨some 217, none, .mov (.tmp 3)⟩,
  ⟨some 218, none, .mov (.tmp 4)⟩,
  ⟨some 219, none, .call (.func 29) [(.tmp 214), (.tmp 215), (.tmp 216), (.tmp 217), (.tmp 218)]⟩])
 .skip)))))))))))))
def a29 : AF := ⟨5, 220, [], c29⟩
-- slices.insertionSortOrdered[int]
def c30 : AC := (.seq (.ops [⟨some 8, none, .mov (.tmp 1)⟩,
  ⟨some 9, none, .bin .add (.tmp 8) (.const (.int .i64 1))⟩,
  ⟨some 6, none, .mov (.tmp 9)⟩])
 (.block 0 (.loop (.seq (.seq (.ops [⟨some 10, none, .mov (.tmp 6)⟩,
  ⟨some 11, none, .mov (.tmp 2)⟩,
  ⟨some 12, none, .bin .lss (.tmp 10) (.tmp 11)⟩])
 (.cond (.tmp 12) .skip
 (.exit 0)))
 (.seq (.block 1 (.seq (.ops [⟨some 15, none, .mov (.tmp 6)⟩,
  ⟨some 7, none, .mov (.tmp 15)⟩])
 (.block 2 (.loop (.seq (.seq (.draw [⟨0, ⟨some 16, none, .mov (.tmp 7)⟩, [], [], 0⟩,
  ⟨1, ⟨some 17, none, .mov (.tmp 1)⟩, [], [], 0⟩,
  ⟨2, ⟨some 18, none, .bin .gtr (.tmp 16) (.tmp 17)⟩, [0, 1], [], 0⟩,
  ⟨3, ⟨some 19, none, .mov (.tmp 18)⟩, [2, 0, 1], [], 0⟩,
  ⟨4, ⟨some 20, some (19, true), .mov (.tmp 0)⟩, [3, 2, 0, 1], [], 0⟩,
  ⟨5, ⟨some 21, some (19, true), .mov (.tmp 7)⟩, [3, 2, 0, 1], [], 0⟩,
  ⟨6, ⟨some 22, some (19, true), .iaddr (.tmp 20) (.tmp 21) 1⟩, [4, 5, 3, 2, 0, 1], [], 0⟩,
  ⟨7, ⟨some 23, some (19, true), .load (.tmp 22) 1 false⟩, [6, 3, 4, 5, 2, 0, 1], [], 0⟩,
  ⟨8, ⟨some 24, some (19, true), .mov (.tmp 0)⟩, [3, 2, 0, 1], [], 0⟩,
  ⟨9, ⟨some 25, some (19, true), .mov (.tmp 7)⟩, [3, 2, 0, 1], [], 0⟩,
  ⟨10, ⟨some 26, some (19, true), .bin .sub (.tmp 25) (.const (.int .i64 1))⟩, [9, 3, 2, 0, 1], [], 0⟩,
  ⟨11, ⟨some 27, some (19, true), .iaddr (.tmp 24) (.tmp 26) 1⟩, [8, 10, 3, 2, 0, 1, 9], [], 0⟩,
  ⟨12, ⟨some 28, some (19, true), .load (.tmp 27) 1 false⟩, [11, 3, 8, 10, 2, 0, 1, 9], [], 0⟩,
  ⟨13, ⟨some 29, some (19, true), .call (.func 36) [(.tmp 23), (.tmp 28)]⟩, [7, 12, 3, 6, 4, 5, 2, 0, 1, 11, 8, 10, 9], [], 1⟩,
  ⟨14, ⟨some 30, none, .pick (.tmp 19) (.tmp 29) (.const (.bool false))⟩, [3, 13, 2, 0, 1, 7, 12, 6, 4, 5, 11, 8, 10, 9], [], 0⟩] 0)
 (.cond (.tmp 30) .skip
 (.exit 2)))
 (.seq (.block 3 (.draw [⟨0, ⟨some 33, none, .mov (.tmp 0)⟩, [], [], 0⟩,
  ⟨1, ⟨some 34, none, .mov (.tmp 7)⟩, [], [], 0⟩,
  ⟨2, ⟨some 35, none, .mov (.tmp 0)⟩, [], [], 1⟩,
  ⟨3, ⟨some 36, none, .mov (.tmp 7)⟩, [], [], 1⟩,
  ⟨4, ⟨some 37, none, .bin .sub (.tmp 36) (.const (.int .i64 1))⟩, [3], [], 1⟩,
  ⟨5, ⟨some 38, none, .mov (.tmp 0)⟩, [], [], 0⟩,
  ⟨6, ⟨some 39, none, .mov (.tmp 7)⟩, [], [], 0⟩,
  ⟨7, ⟨some 40, none, .bin .sub (.tmp 39) (.const (.int .i64 1))⟩, [6], [], 0⟩,
  ⟨8, ⟨some 41, none, .iaddr (.tmp 38) (.tmp 40) 1⟩, [5, 7, 6], [], 0⟩,
  ⟨9, ⟨some 42, none, .load (.tmp 41) 1 false⟩, [8, 5, 7, 6], [], 0⟩,
  ⟨10, ⟨some 43, none, .mov (.tmp 0)⟩, [], [], 0⟩,
  ⟨11, ⟨some 44, none, .mov (.tmp 7)⟩, [], [], 0⟩,
  ⟨12, ⟨some 45, none, .iaddr (.tmp 43) (.tmp 44) 1⟩, [10, 11], [], 0⟩,
  ⟨13, ⟨some 46, none, .load (.tmp 45) 1 false⟩, [12, 10, 11], [], 0⟩,
  ⟨14, ⟨some 47, none, .iaddr (.tmp 33) (.tmp 34) 1⟩, [0, 1, 5, 6, 7, 8, 9, 13, 12, 10, 11], [], 0⟩,
  ⟨15, ⟨none, none, .store (.tmp 47) (.tmp 42) 1⟩, [14, 9, 0, 1, 5, 6, 7, 8, 13, 12, 10, 11], [], 1⟩,
  ⟨16, ⟨some 48, none, .iaddr (.tmp 35) (.tmp 37) 1⟩, [2, 4, 0, 1, 3, 5, 6, 7, 8, 9, 10, 11, 12, 13, 14, 15], [], 0⟩,
  ⟨17, ⟨none, none, .store (.tmp 48) (.tmp 46) 1⟩, [16, 13, 15, 0, 1, 2, 3, 4, 5, 6, 7, 8, 9, 10, 11, 12, 14], [], 1⟩] 0))
 (.ops [⟨some 31, none, .mov (.tmp 7)⟩,
  ⟨some 32, none, .bin .sub (.tmp 31) (.const (.int .i64 1))⟩,
  ⟨some 7, none, .mov (.tmp 32)⟩])))))))
 (.ops [⟨some 13, none, .mov (.tmp 6)⟩,
  ⟨some 14, none, .bin .add (.tmp 13) (.const (.int .i64 1))⟩,
  ⟨some 6, none, .mov (.tmp 14)⟩]))))))
def a30 : AF := ⟨3, 49, [], c30⟩
-- slices.heapSortOrdered[int]
def c31 : AC := (.seq (.ops [⟨some 11, none, .mov (.tmp 1)⟩,
  ⟨some 6, none, .mov (.tmp 11)⟩])
 (.seq (.ops [⟨some 7, none, .mov (.const (.int .i64 0))⟩])
 (.seq (.ops [⟨some 12, none, .mov (.tmp 2)⟩,
  ⟨some 13, none, .mov (.tmp 1)⟩,
  ⟨some 14, none, .bin .sub (.tmp 12) (.tmp 13)⟩,
  ⟨some 8, none, .mov (.tmp 14)⟩])
 (.seq (.seq (.ops [⟨some 15, none, .mov (.tmp 8)⟩,
  ⟨some 16, none, .bin .sub (.tmp 15) (.const (.int .i64 1))⟩,
  ⟨some 17, none, .bin .quo (.tmp 16) (.const (.int .i64 2))⟩,
  ⟨some 9, none, .mov (.tmp 17)⟩])
 (.block 0 (.loop (.seq (.seq (.ops [⟨some 18, none, .mov (.tmp 9)⟩,
  ⟨some 19, none, .bin .geq (.tmp 18) (.const (.int .i64 0))⟩])
 (.cond (.tmp 19) .skip
 (.exit 0)))
 (.seq (.block 1 (.ops [⟨some 22, none, .mov (.tmp 0)⟩,
  ⟨some 23, none, .mov (.tmp 9)⟩,
  ⟨some 24, none, .mov (.tmp 8)⟩,
  ⟨some 25, none, .mov (.tmp 6)⟩,
  ⟨some 26, none, .call (.func 42) [(.tmp 22), (.tmp 23), (.tmp 24), (.tmp 25)]⟩]))
 (.ops [⟨some 20, none, .mov (.tmp 9)⟩,
  ⟨some 21, none, .bin .sub (.tmp 20) (.const (.int .i64 1))⟩,
  ⟨some 9, none, .mov (.tmp 21)⟩]))))))
 (.seq (.ops [⟨some 27, none, .mov (.tmp 8)⟩,
  ⟨some 28, none, .bin .sub (.tmp 27) (.const (.int .i64 1))⟩,
  ⟨some 10, none, .mov (.tmp 28)⟩])
 (.block 2 (.loop (.seq (.seq (.ops [⟨some 29, none, .mov (.tmp 10)⟩,
  ⟨some 30, none, .bin .geq (.tmp 29) (.const (.int .i64 0))⟩])
 (.cond (.tmp 30) .skip
 (.exit 2)))
 (.seq (.block 3 (.seq (.draw [⟨0, ⟨some 33, none, .mov (.tmp 0)⟩, [], [], 0⟩,
  ⟨1, ⟨some 34, none, .mov (.tmp 6)⟩, [], [], 0⟩,
  ⟨2, ⟨some 35, none, .mov (.tmp 0)⟩, [], [], 1⟩,
  ⟨3, ⟨some 36, none, .mov (.tmp 6)⟩, [], [], 1⟩,
  ⟨4, ⟨some 37, none, .mov (.tmp 10)⟩, [], [], 1⟩,
  ⟨5, ⟨some 38, none, .bin .add (.tmp 36) (.tmp 37)⟩, [3, 4], [], 1⟩,
  ⟨6, ⟨some 39, none, .mov (.tmp 0)⟩, [], [], 0⟩,
  ⟨7, ⟨some 40, none, .mov (.tmp 6)⟩, [], [], 0⟩,
  ⟨8, ⟨some 41, none, .mov (.tmp 10)⟩, [], [], 0⟩,
  ⟨9, ⟨some 42, none, .bin .add (.tmp 40) (.tmp 41)⟩, [7, 8], [], 0⟩,
  ⟨10, ⟨some 43, none, .iaddr (.tmp 39) (.tmp 42) 1⟩, [6, 9, 7, 8], [], 0⟩,
  ⟨11, ⟨some 44, none, .load (.tmp 43) 1 false⟩, [10, 6, 9, 7, 8], [], 0⟩,
  ⟨12, ⟨some 45, none, .mov (.tmp 0)⟩, [], [], 0⟩,
  ⟨13, ⟨some 46, none, .mov (.tmp 6)⟩, [], [], 0⟩,
  ⟨14, ⟨some 47, none, .iaddr (.tmp 45) (.tmp 46) 1⟩, [12, 13], [], 0⟩,
  ⟨15, ⟨some 48, none, .load (.tmp 47) 1 false⟩, [14, 12, 13], [], 0⟩,
  ⟨16, ⟨some 49, none, .iaddr (.tmp 33) (.tmp 34) 1⟩, [0, 1, 6, 7, 8, 9, 10, 11, 15, 14, 12, 13], [], 0⟩,
  ⟨17, ⟨none, none, .store (.tmp 49) (.tmp 44) 1⟩, [16, 11, 0, 1, 6, 7, 8, 9, 10, 15, 14, 12, 13], [], 1⟩,
  ⟨18, ⟨some 50, none, .iaddr (.tmp 35) (.tmp 38) 1⟩, [2, 5, 0, 1, 3, 4, 6, 7, 8, 9, 10, 11, 12, 13, 14, 15, 16, 17], [], 0⟩,
  ⟨19, ⟨none, none, .store (.tmp 50) (.tmp 48) 1⟩, [18, 15, 17, 0, 1, 2, 3, 4, 5, 6, 7, 8, 9, 10, 11, 12, 13, 14, 16], [], 1⟩] 0)
 (.ops [⟨some 51, none, .mov (.tmp 0)⟩,
  ⟨some 52, none, .mov (.tmp 7)⟩,
  ⟨some 53, none, .mov (.tmp 10)⟩,
  ⟨some 54, none, .mov (.tmp 6)⟩,
  ⟨some 55, none, .call (.func 42) [(.tmp 51), (.tmp 52), (.tmp 53), (.tmp 54)]⟩])))
 (.ops [⟨some 31, none, .mov (.tmp 10)⟩,
  ⟨some 32, none, .bin .sub (.tmp 31) (.const (.int .i64 1))⟩,
  ⟨some 10, none, .mov (.tmp 32)⟩]))))))))))
def a31 : AF := ⟨3, 56, [], c31⟩
-- slices.breakPatternsOrdered[int]
def c32 : AC := (.seq (.ops [⟨some 11, none, .mov (.tmp 2)⟩,
  ⟨some 12, none, .mov (.tmp 1)⟩,
  ⟨some 13, none, .bin .sub (.tmp 11) (.tmp 12)⟩,
  ⟨some 6, none, .mov (.tmp 13)⟩])
 (.seq (.ops [⟨some 14, none, .mov (.tmp 6)⟩,
  ⟨some 15, none, .bin .geq (.tmp 14) (.const (.int .i64 8))⟩])
 (.cond (.tmp 15) (.seq (.ops [⟨some 16, none, .mov (.tmp 6)⟩,
  ⟨some 17, none, .conv .u64 (.tmp 16)⟩,
  ⟨some 7, none, .alloc [(.int .u64 0)]⟩,
  ⟨none, none, .store (.tmp 7) (.tmp 17) 1⟩])
 (.seq (.ops [⟨some 18, none, .mov (.tmp 6)⟩,
  ⟨some 19, none, .call (.func 43) [(.tmp 18)]⟩,
  ⟨some 8, none, .mov (.tmp 19)⟩])
 (.seq (.ops [⟨some 20, none, .mov (.tmp 1)⟩,
  ⟨some 21, none, .mov (.tmp 6)⟩,
  ⟨some 22, none, .bin .quo (.tmp 21) (.const (.int .i64 4))⟩,
  ⟨some 23, none, .bin .mul (.tmp 22) (.const (.int .i64 2))⟩,
  ⟨some 24, none, .bin .add (.tmp 20) (.tmp 23)⟩,
  ⟨some 25, none, .bin .sub (.tmp 24) (.const (.int .i64 1))⟩,
  ⟨some 9, none, .mov (.tmp 25)⟩])
 (.block 0 (.loop (.seq (.seq (.ops [⟨some 26, none, .mov (.tmp 9)⟩,
  ⟨some 27, none, .mov (.tmp 1)⟩,
  ⟨some 28, none, .mov (.tmp 6)⟩,
  ⟨some 29, none, .bin .quo (.tmp 28) (.const (.int .i64 4))⟩,
  ⟨some 30, none, .bin .mul (.tmp 29) (.const (.int .i64 2))⟩,
  ⟨some 31, none, .bin .add (.tmp 27) (.tmp 30)⟩,
  ⟨some 32, none, .bin .add (.tmp 31) (.const (.int .i64 1))⟩,
  ⟨some 33, none, .bin .leq (.tmp 26) (.tmp 32)⟩])
 (.cond (.tmp 33) .skip
 (.exit 0)))
 (.seq (.block 1 (.seq (.ops [⟨some 36, none, .call (.func 44) [(.tmp 7)]⟩,
  ⟨some 37, none, .mov (.tmp 8)⟩,
  ⟨some 38, none, .bin .sub (.tmp 37) (.const (.int .u64 1))⟩,
  ⟨some 39, none, .bin .and (.tmp 36) (.tmp 38)⟩,
  ⟨some 40, none, .conv .i64 (.tmp 39)⟩,
  ⟨some 10, none, .mov (.tmp 40)⟩])
 (.seq (.seq (.ops [⟨some 41, none, .mov (.tmp 10)⟩,
  ⟨some 42, none, .mov (.tmp 6)⟩,
  ⟨some 43, none, .bin .geq (.tmp 41) (.tmp 42)⟩])
 (.cond (.tmp 43) (.ops [⟨some 44, none, .mov (.tmp 10)⟩,
  ⟨some 45, none, .mov (.tmp 6)⟩,
  ⟨some 46, none, .bin .sub (.tmp 44) (.tmp 45)⟩,
  ⟨some 10, none, .mov (.tmp 46)⟩])
 .skip))
 (.draw [⟨0, ⟨some 47, none, .mov (.tmp 0)⟩, [], [], 0⟩,
  ⟨1, ⟨some 48, none, .mov (.tmp 9)⟩, [], [], 0⟩,
  ⟨2, ⟨some 49, none, .mov (.tmp 0)⟩, [], [], 1⟩,
  ⟨3, ⟨some 50, none, .mov (.tmp 1)⟩, [], [], 1⟩,
  ⟨4, ⟨some 51, none, .mov (.tmp 10)⟩, [], [], 1⟩,
  ⟨5, ⟨some 52, none, .bin .add (.tmp 50) (.tmp 51)⟩, [3, 4], [], 1⟩,
  ⟨6, ⟨some 53, none, .mov (.tmp 0)⟩, [], [], 0⟩,
  ⟨7, ⟨some 54, none, .mov (.tmp 1)⟩, [], [], 0⟩,
  ⟨8, ⟨some 55, none, .mov (.tmp 10)⟩, [], [], 0⟩,
  ⟨9, ⟨some 56, none, .bin .add (.tmp 54) (.tmp 55)⟩, [7, 8], [], 0⟩,
  ⟨10, ⟨some 57, none, .iaddr (.tmp 53) (.tmp 56) 1⟩, [6, 9, 7, 8], [], 0⟩,
  ⟨11, ⟨some 58, none, .load (.tmp 57) 1 false⟩, [10, 6, 9, 7, 8], [], 0⟩,
  ⟨12, ⟨some 59, none, .mov (.tmp 0)⟩, [], [], 0⟩,
  ⟨13, ⟨some 60, none, .mov (.tmp 9)⟩, [], [], 0⟩,
  ⟨14, ⟨some 61, none, .iaddr (.tmp 59) (.tmp 60) 1⟩, [12, 13], [], 0⟩,
  ⟨15, ⟨some 62, none, .load (.tmp 61) 1 false⟩, [14, 12, 13], [], 0⟩,
  ⟨16, ⟨some 63, none, .iaddr (.tmp 47) (.tmp 48) 1⟩, [0, 1, 6, 7, 8, 9, 10, 11, 15, 14, 12, 13], [], 0⟩,
  ⟨17, ⟨none, none, .store (.tmp 63) (.tmp 58) 1⟩, [16, 11, 0, 1, 6, 7, 8, 9, 10, 15, 14, 12, 13], [], 1⟩,
  ⟨18, ⟨some 64, none, .iaddr (.tmp 49) (.tmp 52) 1⟩, [2, 5, 0, 1, 3, 4, 6, 7, 8, 9, 10, 11, 12, 13, 14, 15, 16, 17], [], 0⟩,
  ⟨19, ⟨none, none, .store (.tmp 64) (.tmp 62) 1⟩, [18, 15, 17, 0, 1, 2, 3, 4, 5, 6, 7, 8, 9, 10, 11, 12, 13, 14, 16], [], 1⟩] 0))))
 (.ops [⟨some 34, none, .mov (.tmp 9)⟩,
  ⟨some 35, none, .bin .add (.tmp 34) (.const (.int .i64 1))⟩,
  ⟨some 9, none, .mov (.tmp 35)⟩]))))))))
 .skip)))
def a32 : AF := ⟨3, 65, [], c32⟩
-- slices.choosePivotOrdered[int]
def c33 : AC := (.seq (.ops [⟨some 6, none, .mov (.const (.int .i64 0))⟩,
  ⟨some 7, none, .mov (.const (.int .i64 0))⟩])
 (.seq (.ops [⟨some 13, none, .mov (.tmp 2)⟩,
  ⟨some 14, none, .mov (.tmp 1)⟩,
  ⟨some 15, none, .bin .sub (.tmp 13) (.tmp 14)⟩,
  ⟨some 8, none, .mov (.tmp 15)⟩])
 (.seq (.ops [⟨some 9, none, .alloc [(.int .i64 0)]⟩])
 (.seq (.ops [⟨some 16, none, .mov (.tmp 1)⟩,
  ⟨some 17, none, .mov (.tmp 8)⟩,
  ⟨some 18, none, .bin .quo (.tmp 17) (.const (.int .i64 4))⟩,
  ⟨some 19, none, .bin .mul (.tmp 18) (.const (.int .i64 1))⟩,
  ⟨some 20, none, .bin .add (.tmp 16) (.tmp 19)⟩,
  ⟨some 10, none, .mov (.tmp 20)⟩])
 (.seq (.ops [⟨some 21, none, .mov (.tmp 1)⟩,
  ⟨some 22, none, .mov (.tmp 8)⟩,
  ⟨some 23, none, .bin .quo (.tmp 22) (.const (.int .i64 4))⟩,
  ⟨some 24, none, .bin .mul (.tmp 23) (.const (.int .i64 2))⟩,
  ⟨some 25, none, .bin .add (.tmp 21) (.tmp 24)⟩,
  ⟨some 11, none, .mov (.tmp 25)⟩])
 (.seq (.ops [⟨some 26, none, .mov (.tmp 1)⟩,
  ⟨some 27, none, .mov (.tmp 8)⟩,
  ⟨some 28, none, .bin .quo (.tmp 27) (.const (.int .i64 4))⟩,
  ⟨some 29, none, .bin .mul (.tmp 28) (.const (.int .i64 3))⟩,
  ⟨some 30, none, .bin .add (.tmp 26) (.tmp 29)⟩,
  ⟨some 12, none, .mov (.tmp 30)⟩])
 (.seq (.seq (.ops [⟨some 31, none, .mov (.tmp 8)⟩,
  ⟨some 32, none, .bin .geq (.tmp 31) (.const (.int .i64 8))⟩])
 (.cond (.tmp 32) (.seq (.seq (.ops [⟨some 33, none, .mov (.tmp 8)⟩,
  ⟨some 34, none, .bin .geq (.tmp 33) (.const (.int .i64 50))⟩])
 (.cond (.tmp 34) (.seq (.ops [⟨some 35, none, .mov (.tmp 0)⟩,
  ⟨some 36, none, .mov (.tmp 10)⟩,
  ⟨some 37, none, .call (.func 45) [(.tmp 35), (.tmp 36), (.tmp 9)]⟩,
  ⟨some 10, none, .mov (.tmp 37)⟩])
 (.seq (.ops [⟨some 38, none, .mov (.tmp 0)⟩,
  ⟨some 39, none, .mov (.tmp 11)⟩,
  ⟨some 40, none, .call (.func 45) [(.tmp 38), (.tmp 39), (.tmp 9)]⟩,
  ⟨some 11, none, .mov (.tmp 40)⟩])
 (.ops [⟨some 41, none, .mov (.tmp 0)⟩,
  ⟨some 42, none, .mov (.tmp 12)⟩,
  ⟨some 43, none, .call (.func 45) [(.tmp 41), (.tmp 42), (.tmp 9)]⟩,
  ⟨some 12, none, .mov (.tmp 43)⟩])))
 .skip))
 (.ops [⟨some 44, none, .mov (.tmp 0)⟩,
  ⟨some 45, none, .mov (.tmp 10)⟩,
  ⟨some 46, none, .mov (.tmp 11)⟩,
  ⟨some 47, none, .mov (.tmp 12)⟩,
  ⟨some 48, none, .call (.func 46) [(.tmp 44), (.tmp 45), (.tmp 46), (.tmp 47), (.tmp 9)]⟩,
  ⟨some 11, none, .mov (.tmp 48)⟩]))
 .skip))
 (.seq (.ops [⟨some 49, none, .load (.tmp 9) 1 false⟩])
 (.block 0 (.seq (.ops [⟨some 52, none, .bin .eql (.tmp 49) (.const (.int .i64 0))⟩,
  ⟨some 51, none, .mov (.tmp 52)⟩])
 (.cond (.tmp 51) (.seq (.ops [⟨some 53, none, .mov (.tmp 11)⟩,
  ⟨some 6, none, .mov (.tmp 53)⟩,
  ⟨some 7, none, .mov (.const (.int .i64 1))⟩])
 .ret)
 (.seq (.ops [⟨some 55, none, .bin .eql (.tmp 49) (.const (.int .i64 12))⟩,
  ⟨some 54, none, .mov (.tmp 55)⟩])
 (.cond (.tmp 54) (.seq (.ops [⟨some 56, none, .mov (.tmp 11)⟩,
  ⟨some 6, none, .mov (.tmp 56)⟩,
  ⟨some 7, none, .mov (.const (.int .i64 2))⟩])
 .ret)
 (.seq (.ops [⟨some 50, none, .mov (.tmp 11)⟩,
  ⟨some 6, none, .mov (.tmp 50)⟩,
  ⟨some 7, none, .mov (.const (.int .i64 0))⟩])
 .ret))))))))))))))
def a33 : AF := ⟨3, 57, [.tmp 6, .tmp 7], c33⟩
-- slices.reverseRangeOrdered[int]
def c34 : AC := (.seq (.ops [⟨some 8, none, .mov (.tmp 1)⟩,
  ⟨some 6, none, .mov (.tmp 8)⟩])
 (.seq (.ops [⟨some 9, none, .mov (.tmp 2)⟩,
  ⟨some 10, none, .bin .sub (.tmp 9) (.const (.int .i64 1))⟩,
  ⟨some 7, none, .mov (.tmp 10)⟩])
 (.block 0 (.loop (.seq (.seq (.ops [⟨some 11, none, .mov (.tmp 6)⟩,
  ⟨some 12, none, .mov (.tmp 7)⟩,
  ⟨some 13, none, .bin .lss (.tmp 11) (.tmp 12)⟩])
 (.cond (.tmp 13) .skip
 (.exit 0)))
 (.block 1 (.seq (.draw [⟨0, ⟨some 14, none, .mov (.tmp 0)⟩, [], [], 0⟩,
  ⟨1, ⟨some 15, none, .mov (.tmp 6)⟩, [], [], 0⟩,
  ⟨2, ⟨some 16, none, .mov (.tmp 0)⟩, [], [], 1⟩,
  ⟨3, ⟨some 17, none, .mov (.tmp 7)⟩, [], [], 1⟩,
  ⟨4, ⟨some 18, none, .mov (.tmp 0)⟩, [], [], 0⟩,
  ⟨5, ⟨some 19, none, .mov (.tmp 7)⟩, [], [], 0⟩,
  ⟨6, ⟨some 20, none, .iaddr (.tmp 18) (.tmp 19) 1⟩, [4, 5], [], 0⟩,
  ⟨7, ⟨some 21, none, .load (.tmp 20) 1 false⟩, [6, 4, 5], [], 0⟩,
  ⟨8, ⟨some 22, none, .mov (.tmp 0)⟩, [], [], 0⟩,
  ⟨9, ⟨some 23, none, .mov (.tmp 6)⟩, [], [], 0⟩,
  ⟨10, ⟨some 24, none, .iaddr (.tmp 22) (.tmp 23) 1⟩, [8, 9], [], 0⟩,
  ⟨11, ⟨some 25, none, .load (.tmp 24) 1 false⟩, [10, 8, 9], [], 0⟩,
  ⟨12, ⟨some 26, none, .iaddr (.tmp 14) (.tmp 15) 1⟩, [0, 1, 4, 5, 6, 7, 11, 10, 8, 9], [], 0⟩,
  ⟨13, ⟨none, none, .store (.tmp 26) (.tmp 21) 1⟩, [12, 7, 0, 1, 4, 5, 6, 11, 10, 8, 9], [], 1⟩,
  ⟨14, ⟨some 27, none, .iaddr (.tmp 16) (.tmp 17) 1⟩, [2, 3, 0, 1, 4, 5, 6, 7, 8, 9, 10, 11, 12, 13], [], 0⟩,
  ⟨15, ⟨none, none, .store (.tmp 27) (.tmp 25) 1⟩, [14, 11, 13, 0, 1, 2, 3, 4, 5, 6, 7, 8, 9, 10, 12], [], 1⟩] 0)
 (.seq (.ops [⟨some 28, none, .mov (.tmp 6)⟩,
  ⟨some 29, none, .bin .add (.tmp 28) (.const (.int .i64 1))⟩,
  ⟨some 6, none, .mov (.tmp 29)⟩])
 (.ops [⟨some 30, none, .mov (.tmp 7)⟩,
  ⟨some 31, none, .bin .sub (.tmp 30) (.const (.int .i64 1))⟩,
  ⟨some 7, none, .mov (.tmp 31)⟩])))))))))
def a34 : AF := ⟨3, 32, [], c34⟩
-- slices.partialInsertionSortOrdered[int]
def c35 : AC := (.seq (.ops [⟨some 6, none, .mov (.const (.bool false))⟩])
 (.seq (.ops [⟨some 11, none, .mov (.tmp 1)⟩,
  ⟨some 12, none, .bin .add (.tmp 11) (.const (.int .i64 1))⟩,
  ⟨some 7, none, .mov (.tmp 12)⟩])
 (.seq (.seq (.ops [⟨some 8, none, .mov (.const (.int .i64 0))⟩])
 (.block 0 (.loop (.seq (.seq (.ops [⟨some 13, none, .mov (.tmp 8)⟩,
  ⟨some 14, none, .bin .lss (.tmp 13) (.const (.int .i64 5))⟩])
 (.cond (.tmp 14) .skip
 (.exit 0)))
 (.seq (.block 1 (.seq (.block 2 (.loop (.seq (.seq (.draw [⟨0, ⟨some 17, none, .mov (.tmp 7)⟩, [], [], 0⟩,
  ⟨1, ⟨some 18, none, .mov (.tmp 2)⟩, [], [], 0⟩,
  ⟨2, ⟨some 19, none, .bin .lss (.tmp 17) (.tmp 18)⟩, [0, 1], [], 0⟩,
  ⟨3, ⟨some 20, none, .mov (.tmp 19)⟩, [2, 0, 1], [], 0⟩,
  ⟨4, ⟨some 21, some (20, true), .mov (.tmp 0)⟩, [3, 2, 0, 1], [], 0⟩,
  ⟨5, ⟨some 22, some (20, true), .mov (.tmp 7)⟩, [3, 2, 0, 1], [], 0⟩,
  ⟨6, ⟨some 23, some (20, true), .iaddr (.tmp 21) (.tmp 22) 1⟩, [4, 5, 3, 2, 0, 1], [], 0⟩,
  ⟨7, ⟨some 24, some (20, true), .load (.tmp 23) 1 false⟩, [6, 3, 4, 5, 2, 0, 1], [], 0⟩,
  ⟨8, ⟨some 25, some (20, true), .mov (.tmp 0)⟩, [3, 2, 0, 1], [], 0⟩,
  ⟨9, ⟨some 26, some (20, true), .mov (.tmp 7)⟩, [3, 2, 0, 1], [], 0⟩,
  ⟨10, ⟨some 27, some (20, true), .bin .sub (.tmp 26) (.const (.int .i64 1))⟩, [9, 3, 2, 0, 1], [], 0⟩,
  ⟨11, ⟨some 28, some (20, true), .iaddr (.tmp 25) (.tmp 27) 1⟩, [8, 10, 3, 2, 0, 1, 9], [], 0⟩,
  ⟨12, ⟨some 29, some (20, true), .load (.tmp 28) 1 false⟩, [11, 3, 8, 10, 2, 0, 1, 9], [], 0⟩,
  ⟨13, ⟨some 30, some (20, true), .call (.func 36) [(.tmp 24), (.tmp 29)]⟩, [7, 12, 3, 6, 4, 5, 2, 0, 1, 11, 8, 10, 9], [], 1⟩,
  ⟨14, ⟨some 31, some (20, true), .un .not (.tmp 30)⟩, [13, 3, 7, 12, 6, 4, 5, 2, 0, 1, 11, 8, 10, 9], [], 0⟩,
  ⟨15, ⟨some 32, none, .pick (.tmp 20) (.tmp 31) (.const (.bool false))⟩, [3, 14, 2, 0, 1, 13, 7, 12, 6, 4, 5, 11, 8, 10, 9], [], 0⟩] 0)
 (.cond (.tmp 32) .skip
 (.exit 2)))
 (.block 3 (.ops [⟨some 33, none, .mov (.tmp 7)⟩,
  ⟨some 34, none, .bin .add (.tmp 33) (.const (.int .i64 1))⟩,
  ⟨some 7, none, .mov (.tmp 34)⟩])))))
 (.seq (.seq (.ops [⟨some 35, none, .mov (.tmp 7)⟩,
  ⟨some 36, none, .mov (.tmp 2)⟩,
  ⟨some 37, none, .bin .eql (.tmp 35) (.tmp 36)⟩])
 (.cond (.tmp 37) (.seq (.ops [⟨some 6, none, .mov (.const (.bool true))⟩])
 .ret)
 .skip))
 (.seq (.seq (.ops [⟨some 38, none, .mov (.tmp 2)⟩,
  ⟨some 39, none, .mov (.tmp 1)⟩,
  ⟨some 40, none, .bin .sub (.tmp 38) (.tmp 39)⟩,
  ⟨some 41, none, .bin .lss (.tmp 40) (.const (.int .i64 50))⟩])
 (.cond (.tmp 41) (.seq (.ops [⟨some 6, none, .mov (.const (.bool false))⟩])
 .ret)
 .skip))
 (.seq (.draw [⟨0, ⟨some 42, none, .mov (.tmp 0)⟩, [], [], 0⟩,
  ⟨1, ⟨some 43, none, .mov (.tmp 7)⟩, [], [], 0⟩,
  ⟨2, ⟨some 44, none, .mov (.tmp 0)⟩, [], [], 1⟩,
  ⟨3, ⟨some 45, none, .mov (.tmp 7)⟩, [], [], 1⟩,
  ⟨4, ⟨some 46, none, .bin .sub (.tmp 45) (.const (.int .i64 1))⟩, [3], [], 1⟩,
  ⟨5, ⟨some 47, none, .mov (.tmp 0)⟩, [], [], 0⟩,
  ⟨6, ⟨some 48, none, .mov (.tmp 7)⟩, [], [], 0⟩,
  ⟨7, ⟨some 49, none, .bin .sub (.tmp 48) (.const (.int .i64 1))⟩, [6], [], 0⟩,
  ⟨8, ⟨some 50, none, .iaddr (.tmp 47) (.tmp 49) 1⟩, [5, 7, 6], [], 0⟩,
  ⟨9, ⟨some 51, none, .load (.tmp 50) 1 false⟩, [8, 5, 7, 6], [], 0⟩,
  ⟨10, ⟨some 52, none, .mov (.tmp 0)⟩, [], [], 0⟩,
  ⟨11, ⟨some 53, none, .mov (.tmp 7)⟩, [], [], 0⟩,
  ⟨12, ⟨some 54, none, .iaddr (.tmp 52) (.tmp 53) 1⟩, [10, 11], [], 0⟩,
  ⟨13, ⟨some 55, none, .load (.tmp 54) 1 false⟩, [12, 10, 11], [], 0⟩,
  ⟨14, ⟨some 56, none, .iaddr (.tmp 42) (.tmp 43) 1⟩, [0, 1, 5, 6, 7, 8, 9, 13, 12, 10, 11], [], 0⟩,
  ⟨15, ⟨none, none, .store (.tmp 56) (.tmp 51) 1⟩, [14, 9, 0, 1, 5, 6, 7, 8, 13, 12, 10, 11], [], 1⟩,
  ⟨16, ⟨some 57, none, .iaddr (.tmp 44) (.tmp 46) 1⟩, [2, 4, 0, 1, 3, 5, 6, 7, 8, 9, 10, 11, 12, 13, 14, 15], [], 0⟩,
  ⟨17, ⟨none, none, .store (.tmp 57) (.tmp 55) 1⟩, [16, 13, 15, 0, 1, 2, 3, 4, 5, 6, 7, 8, 9, 10, 11, 12, 14], [], 1⟩] 0)
 (.seq (.seq (.ops [⟨some 58, none, .mov (.tmp 7)⟩,
  ⟨some 59, none, .mov (.tmp 1)⟩,
  ⟨some 60, none, .bin .sub (.tmp 58) (.tmp 59)⟩,
  ⟨some 61, none, .bin .geq (.tmp 60) (.const (.int .i64 2))⟩])
 (.cond (.tmp 61) (.seq (.ops [⟨some 62, none, .mov (.tmp 7)⟩,
  ⟨some 63, none, .bin .sub (.tmp 62) (.const (.int .i64 1))⟩,
  ⟨some 9, none, .mov (.tmp 63)⟩])
 (.block 4 (.loop (.seq (.seq (.ops [⟨some 64, none, .mov (.tmp 9)⟩,
  ⟨some 65, none, .bin .geq (.tmp 64) (.const (.int .i64 1))⟩])
 (.cond (.tmp 65) .skip
 (.exit 4)))
 (.seq (.block 5 (.seq (.seq (.draw [⟨0, ⟨some 68, none, .mov (.tmp 0)⟩, [], [], 0⟩,
  ⟨1, ⟨some 69, none, .mov (.tmp 9)⟩, [], [], 0⟩,
  ⟨2, ⟨some 70, none, .iaddr (.tmp 68) (.tmp 69) 1⟩, [0, 1], [], 0⟩,
  ⟨3, ⟨some 71, none, .load (.tmp 70) 1 false⟩, [2, 0, 1], [], 0⟩,
  ⟨4, ⟨some 72, none, .mov (.tmp 0)⟩, [], [], 0⟩,
  ⟨5, ⟨some 73, none, .mov (.tmp 9)⟩, [], [], 0⟩,
  ⟨6, ⟨some 74, none, .bin .sub (.tmp 73) (.const (.int .i64 1))⟩, [5], [], 0⟩,
  ⟨7, ⟨some 75, none, .iaddr (.tmp 72) (.tmp 74) 1⟩, [4, 6, 5], [], 0⟩,
  ⟨8, ⟨some 76, none, .load (.tmp 75) 1 false⟩, [7, 4, 6, 5], [], 0⟩,
  ⟨9, ⟨some 77, none, .call (.func 36) [(.tmp 71), (.tmp 76)]⟩, [3, 8, 2, 0, 1, 7, 4, 6, 5], [], 1⟩,
  ⟨10, ⟨some 78, none, .un .not (.tmp 77)⟩, [9, 3, 8, 2, 0, 1, 7, 4, 6, 5], [], 0⟩] 0)
 (.cond (.tmp 78) (.exit 4)
 .skip))
 (.draw [⟨0, ⟨some 79, none, .mov (.tmp 0)⟩, [], [], 0⟩,
  ⟨1, ⟨some 80, none, .mov (.tmp 9)⟩, [], [], 0⟩,
  ⟨2, ⟨some 81, none, .mov (.tmp 0)⟩, [], [], 1⟩,
  ⟨3, ⟨some 82, none, .mov (.tmp 9)⟩, [], [], 1⟩,
  ⟨4, ⟨some 83, none, .bin .sub (.tmp 82) (.const (.int .i64 1))⟩, [3], [], 1⟩,
  ⟨5, ⟨some 84, none, .mov (.tmp 0)⟩, [], [], 0⟩,
  ⟨6, ⟨some 85, none, .mov (.tmp 9)⟩, [], [], 0⟩,
  ⟨7, ⟨some 86, none, .bin .sub (.tmp 85) (.const (.int .i64 1))⟩, [6], [], 0⟩,
  ⟨8, ⟨some 87, none, .iaddr (.tmp 84) (.tmp 86) 1⟩, [5, 7, 6], [], 0⟩,
  ⟨9, ⟨some 88, none, .load (.tmp 87) 1 false⟩, [8, 5, 7, 6], [], 0⟩,
  ⟨10, ⟨some 89, none, .mov (.tmp 0)⟩, [], [], 0⟩,
  ⟨11, ⟨some 90, none, .mov (.tmp 9)⟩, [], [], 0⟩,
  ⟨12, ⟨some 91, none, .iaddr (.tmp 89) (.tmp 90) 1⟩, [10, 11], [], 0⟩,
  ⟨13, ⟨some 92, none, .load (.tmp 91) 1 false⟩, [12, 10, 11], [], 0⟩,
  ⟨14, ⟨some 93, none, .iaddr (.tmp 79) (.tmp 80) 1⟩, [0, 1, 5, 6, 7, 8, 9, 13, 12, 10, 11], [], 0⟩,
  ⟨15, ⟨none, none, .store (.tmp 93) (.tmp 88) 1⟩, [14, 9, 0, 1, 5, 6, 7, 8, 13, 12, 10, 11], [], 1⟩,
  ⟨16, ⟨some 94, none, .iaddr (.tmp 81) (.tmp 83) 1⟩, [2, 4, 0, 1, 3, 5, 6, 7, 8, 9, 10, 11, 12, 13, 14, 15], [], 0⟩,
  ⟨17, ⟨none, none, .store (.tmp 94) (.tmp 92) 1⟩, [16, 13, 15, 0, 1, 2, 3, 4, 5, 6, 7, 8, 9, 10, 11, 12, 14], [], 1⟩] 0)))
 (.ops [⟨some 66, none, .mov (.tmp 9)⟩,
  ⟨some 67, none, .bin .sub (.tmp 66) (.const (.int .i64 1))⟩,
  ⟨some 9, none, .mov (.tmp 67)⟩]))))))
 .skip))
 (.seq (.ops [⟨some 95, none, .mov (.tmp 2)⟩,
  ⟨some 96, none, .mov (.tmp 7)⟩,
  ⟨some 97, none, .bin .sub (.tmp 95) (.tmp 96)⟩,
  ⟨some 98, none, .bin .geq (.tmp 97) (.const (.int .i64 2))⟩])
 (.cond (.tmp 98) (.seq (.ops [⟨some 99, none, .mov (.tmp 7)⟩,
  ⟨some 100, none, .bin .add (.tmp 99) (.const (.int .i64 1))⟩,
  ⟨some 10, none, .mov (.tmp 100)⟩])
 (.block 6 (.loop (.seq (.seq (.ops [⟨some 101, none, .mov (.tmp 10)⟩,
  ⟨some 102, none, .mov (.tmp 2)⟩,
  ⟨some 103, none, .bin .lss (.tmp 101) (.tmp 102)⟩])
 (.cond (.tmp 103) .skip
 (.exit 6)))
 (.seq (.block 7 (.seq (.seq (.draw [⟨0, ⟨some 106, none, .mov (.tmp 0)⟩, [], [], 0⟩,
  ⟨1, ⟨some 107, none, .mov (.tmp 10)⟩, [], [], 0⟩,
  ⟨2, ⟨some 108, none, .iaddr (.tmp 106) (.tmp 107) 1⟩, [0, 1], [], 0⟩,
  ⟨3, ⟨some 109, none, .load (.tmp 108) 1 false⟩, [2, 0, 1], [], 0⟩,
  ⟨4, ⟨some 110, none, .mov (.tmp 0)⟩, [], [], 0⟩,
  ⟨5, ⟨some 111, none, .mov (.tmp 10)⟩, [], [], 0⟩,
  ⟨6, ⟨some 112, none, .bin .sub (.tmp 111) (.const (.int .i64 1))⟩, [5], [], 0⟩,
  ⟨7, ⟨some 113, none, .iaddr (.tmp 110) (.tmp 112) 1⟩, [4, 6, 5], [], 0⟩,
  ⟨8, ⟨some 114, none, .load (.tmp 113) 1 false⟩, [7, 4, 6, 5], [], 0⟩,
  ⟨9, ⟨some 115, none, .call (.func 36) [(.tmp 109), (.tmp 114)]⟩, [3, 8, 2, 0, 1, 7, 4, 6, 5], [], 1⟩,
  ⟨10, ⟨some 116, none, .un .not (.tmp 115)⟩, [9, 3, 8, 2, 0, 1, 7, 4, 6, 5], [], 0⟩] 0)
 (.cond (.tmp 116) (.exit 6)
 .skip))
 (.draw [⟨0, ⟨some 117, none, .mov (.tmp 0)⟩, [], [], 0⟩,
  ⟨1, ⟨some 118, none, .mov (.tmp 10)⟩, [], [], 0⟩,
  ⟨2, ⟨some 119, none, .mov (.tmp 0)⟩, [], [], 1⟩,
  ⟨3, ⟨some 120, none, .mov (.tmp 10)⟩, [], [], 1⟩,
  ⟨4, ⟨some 121, none, .bin .sub (.tmp 120) (.const (.int .i64 1))⟩, [3], [], 1⟩,
  ⟨5, ⟨some 122, none, .mov (.tmp 0)⟩, [], [], 0⟩,
  ⟨6, ⟨some 123, none, .mov (.tmp 10)⟩, [], [], 0⟩,
  ⟨7, ⟨some 124, none, .bin .sub (.tmp 123) (.const (.int .i64 1))⟩, [6], [], 0⟩,
  ⟨8, ⟨some 125, none, .iaddr (.tmp 122) (.tmp 124) 1⟩, [5, 7, 6], [], 0⟩,
  ⟨9, ⟨some 126, none, .load (.tmp 125) 1 false⟩, [8, 5, 7, 6], [], 0⟩,
  ⟨10, ⟨some 127, none, .mov (.tmp 0)⟩, [], [], 0⟩,
  ⟨11, ⟨some 128, none, .mov (.tmp 10)⟩, [], [], 0⟩,
  ⟨12, ⟨some 129, none, .iaddr (.tmp 127) (.tmp 128) 1⟩, [10, 11], [], 0⟩,
  ⟨13, ⟨some 130, none, .load (.tmp 129) 1 false⟩, [12, 10, 11], [], 0⟩,
  ⟨14, ⟨some 131, none, .iaddr (.tmp 117) (.tmp 118) 1⟩, [0, 1, 5, 6, 7, 8, 9, 13, 12, 10, 11], [], 0⟩,
  ⟨15, ⟨none, none, .store (.tmp 131) (.tmp 126) 1⟩, [14, 9, 0, 1, 5, 6, 7, 8, 13, 12, 10, 11], [], 1⟩,
  ⟨16, ⟨some 132, none, .iaddr (.tmp 119) (.tmp 121) 1⟩, [2, 4, 0, 1, 3, 5, 6, 7, 8, 9, 10, 11, 12, 13, 14, 15], [], 0⟩,
  ⟨17, ⟨none, none, .store (.tmp 132) (.tmp 130) 1⟩, [16, 13, 15, 0, 1, 2, 3, 4, 5, 6, 7, 8, 9, 10, 11, 12, 14], [], 1⟩] 0)))
 (.ops [⟨some 104, none, .mov (.tmp 10)⟩,
  ⟨some 105, none, .bin .add (.tmp 104) (.const (.int .i64 1))⟩,
  ⟨some 10, none, .mov (.tmp 105)⟩]))))))
 .skip))))))))
 (.ops [⟨some 15, none, .mov (.tmp 8)⟩,
  ⟨some 16, none, .bin .add (.tmp 15) (.const (.int .i64 1))⟩,
  ⟨some 8, none, .mov (.tmp 16)⟩]))))))
 (.seq (.ops [⟨some 6, none, .mov (.const (.bool false))⟩])
 .ret))))
def a35 : AF := ⟨3, 133, [.tmp 6], c35⟩
-- cmp.Less[int]
def c36 : AC := (.seq (.ops [⟨some 4, none, .mov (.const (.bool false))⟩])
 (.seq (.ops [⟨some 5, none, .mov (.tmp 0)⟩,
  ⟨some 6, none, .call (.func 47) [(.tmp 5)]⟩,
  ⟨some 7, none, .mov (.tmp 6)⟩,
  ⟨some 8, some (7, true), .mov (.tmp 1)⟩,
  ⟨some 9, some (7, true), .call (.func 47) [(.tmp 8)]⟩,
  ⟨some 10, some (7, true), .un .not (.tmp 9)⟩,
  ⟨some 11, none, .pick (.tmp 7) (.tmp 10) (.const (.bool false))⟩,
  ⟨some 12, none, .mov (.tmp 11)⟩,
  ⟨some 13, some (12, false), .mov (.tmp 0)⟩,
  ⟨some 14, some (12, false), .mov (.tmp 1)⟩,
  ⟨some 15, some (12, false), .bin .lss (.tmp 13) (.tmp 14)⟩,
  ⟨some 16, none, .pick (.tmp 12) (.const (.bool true)) (.tmp 15)⟩,
  ⟨some 4, none, .mov (.tmp 16)⟩])
 .ret))
def a36 : AF := ⟨2, 17, [.tmp 4], c36⟩
-- slices.partitionEqualOrdered[int]
def c37 : AC := (.seq (.ops [⟨some 8, none, .mov (.const (.int .i64 0))⟩])
 (.seq (.draw [⟨0, ⟨some 11, none, .mov (.tmp 0)⟩, [], [], 0⟩,
  ⟨1, ⟨some 12, none, .mov (.tmp 1)⟩, [], [], 0⟩,
  ⟨2, ⟨some 13, none, .mov (.tmp 0)⟩, [], [], 1⟩,
  ⟨3, ⟨some 14, none, .mov (.tmp 3)⟩, [], [], 1⟩,
  ⟨4, ⟨some 15, none, .mov (.tmp 0)⟩, [], [], 0⟩,
  ⟨5, ⟨some 16, none, .mov (.tmp 3)⟩, [], [], 0⟩,
  ⟨6, ⟨some 17, none, .iaddr (.tmp 15) (.tmp 16) 1⟩, [4, 5], [], 0⟩,
  ⟨7, ⟨some 18, none, .load (.tmp 17) 1 false⟩, [6, 4, 5], [], 0⟩,
  ⟨8, ⟨some 19, none, .mov (.tmp 0)⟩, [], [], 0⟩,
  ⟨9, ⟨some 20, none, .mov (.tmp 1)⟩, [], [], 0⟩,
  ⟨10, ⟨some 21, none, .iaddr (.tmp 19) (.tmp 20) 1⟩, [8, 9], [], 0⟩,
  ⟨11, ⟨some 22, none, .load (.tmp 21) 1 false⟩, [10, 8, 9], [], 0⟩,
  ⟨12, ⟨some 23, none, .iaddr (.tmp 11) (.tmp 12) 1⟩, [0, 1, 4, 5, 6, 7, 11, 10, 8, 9], [], 0⟩,
  ⟨13, ⟨none, none, .store (.tmp 23) (.tmp 18) 1⟩, [12, 7, 0, 1, 4, 5, 6, 11, 10, 8, 9], [], 1⟩,
  ⟨14, ⟨some 24, none, .iaddr (.tmp 13) (.tmp 14) 1⟩, [2, 3, 0, 1, 4, 5, 6, 7, 8, 9, 10, 11, 12, 13], [], 0⟩,
  ⟨15, ⟨none, none, .store (.tmp 24) (.tmp 22) 1⟩, [14, 11, 13, 0, 1, 2, 3, 4, 5, 6, 7, 8, 9, 10, 12], [], 1⟩] 0)
 (.seq (.ops [⟨some 25, none, .mov (.tmp 1)⟩,
  ⟨some 26, none, .bin .add (.tmp 25) (.const (.int .i64 1))⟩,
  ⟨some 27, none, .mov (.tmp 2)⟩,
  ⟨some 28, none, .bin .sub (.tmp 27) (.const (.int .i64 1))⟩,
  ⟨some 9, none, .mov (.tmp 26)⟩,
  ⟨some 10, none, .mov (.tmp 28)⟩])
 (.seq (.block 0 (.loop (.block 1 (.seq (.block 2 (.loop (.seq (.seq (.draw [⟨0, ⟨some 29, none, .mov (.tmp 9)⟩, [], [], 0⟩,
  ⟨1, ⟨some 30, none, .mov (.tmp 10)⟩, [], [], 0⟩,
  ⟨2, ⟨some 31, none, .bin .leq (.tmp 29) (.tmp 30)⟩, [0, 1], [], 0⟩,
  ⟨3, ⟨some 32, none, .mov (.tmp 31)⟩, [2, 0, 1], [], 0⟩,
  ⟨4, ⟨some 33, some (32, true), .mov (.tmp 0)⟩, [3, 2, 0, 1], [], 0⟩,
  ⟨5, ⟨some 34, some (32, true), .mov (.tmp 1)⟩, [3, 2, 0, 1], [], 0⟩,
  ⟨6, ⟨some 35, some (32, true), .iaddr (.tmp 33) (.tmp 34) 1⟩, [4, 5, 3, 2, 0, 1], [], 0⟩,
  ⟨7, ⟨some 36, some (32, true), .load (.tmp 35) 1 false⟩, [6, 3, 4, 5, 2, 0, 1], [], 0⟩,
  ⟨8, ⟨some 37, some (32, true), .mov (.tmp 0)⟩, [3, 2, 0, 1], [], 0⟩,
  ⟨9, ⟨some 38, some (32, true), .mov (.tmp 9)⟩, [3, 2, 0, 1], [], 0⟩,
  ⟨10, ⟨some 39, some (32, true), .iaddr (.tmp 37) (.tmp 38) 1⟩, [8, 9, 3, 2, 0, 1], [], 0⟩,
  ⟨11, ⟨some 40, some (32, true), .load (.tmp 39) 1 false⟩, [10, 3, 8, 9, 2, 0, 1], [], 0⟩,
  ⟨12, ⟨some 41, some (32, true), .call (.func 36) [(.tmp 36), (.tmp 40)]⟩, [7, 11, 3, 6, 4, 5, 2, 0, 1, 10, 8, 9], [], 1⟩,
  ⟨13, ⟨some 42, some (32, true), .un .not (.tmp 41)⟩, [12, 3, 7, 11, 6, 4, 5, 2, 0, 1, 10, 8, 9], [], 0⟩,
  ⟨14, ⟨some 43, none, .pick (.tmp 32) (.tmp 42) (.const (.bool false))⟩, [3, 13, 2, 0, 1, 12, 7, 11, 6, 4, 5, 10, 8, 9], [], 0⟩] 0)
 (.cond (.tmp 43) .skip
 (.exit 2)))
 (.block 3 (.ops [⟨some 44, none, .mov (.tmp 9)⟩,
  ⟨some 45, none, .bin .add (.tmp 44) (.const (.int .i64 1))⟩,
  ⟨some 9, none, .mov (.tmp 45)⟩])))))
 (.seq (.block 4 (.loop (.seq (.seq (.draw [⟨0, ⟨some 46, none, .mov (.tmp 9)⟩, [], [], 0⟩,
  ⟨1, ⟨some 47, none, .mov (.tmp 10)⟩, [], [], 0⟩,
  ⟨2, ⟨some 48, none, .bin .leq (.tmp 46) (.tmp 47)⟩, [0, 1], [], 0⟩,
  ⟨3, ⟨some 49, none, .mov (.tmp 48)⟩, [2, 0, 1], [], 0⟩,
  ⟨4, ⟨some 50, some (49, true), .mov (.tmp 0)⟩, [3, 2, 0, 1], [], 0⟩,
  ⟨5, ⟨some 51, some (49, true), .mov (.tmp 1)⟩, [3, 2, 0, 1], [], 0⟩,
  ⟨6, ⟨some 52, some (49, true), .iaddr (.tmp 50) (.tmp 51) 1⟩, [4, 5, 3, 2, 0, 1], [], 0⟩,
  ⟨7, ⟨some 53, some (49, true), .load (.tmp 52) 1 false⟩, [6, 3, 4, 5, 2, 0, 1], [], 0⟩,
  ⟨8, ⟨some 54, some (49, true), .mov (.tmp 0)⟩, [3, 2, 0, 1], [], 0⟩,
  ⟨9, ⟨some 55, some (49, true), .mov (.tmp 10)⟩, [3, 2, 0, 1], [], 0⟩,
  ⟨10, ⟨some 56, some (49, true), .iaddr (.tmp 54) (.tmp 55) 1⟩, [8, 9, 3, 2, 0, 1], [], 0⟩,
  ⟨11, ⟨some 57, some (49, true), .load (.tmp 56) 1 false⟩, [10, 3, 8, 9, 2, 0, 1], [], 0⟩,
  ⟨12, ⟨some 58, some (49, true), .call (.func 36) [(.tmp 53), (.tmp 57)]⟩, [7, 11, 3, 6, 4, 5, 2, 0, 1, 10, 8, 9], [], 1⟩,
  ⟨13, ⟨some 59, none, .pick (.tmp 49) (.tmp 58) (.const (.bool false))⟩, [3, 12, 2, 0, 1, 7, 11, 6, 4, 5, 10, 8, 9], [], 0⟩] 0)
 (.cond (.tmp 59) .skip
 (.exit 4)))
 (.block 5 (.ops [⟨some 60, none, .mov (.tmp 10)⟩,
  ⟨some 61, none, .bin .sub (.tmp 60) (.const (.int .i64 1))⟩,
  ⟨some 10, none, .mov (.tmp 61)⟩])))))
 (.seq (.seq (.ops [⟨some 62, none, .mov (.tmp 9)⟩,
  ⟨some 63, none, .mov (.tmp 10)⟩,
  ⟨some 64, none, .bin .gtr (.tmp 62) (.tmp 63)⟩])
 (.cond (.tmp 64) (.exit 0)
 .skip))
 (.seq (.draw [⟨0, ⟨some 65, none, .mov (.tmp 0)⟩, [], [], 0⟩,
  ⟨1, ⟨some 66, none, .mov (.tmp 9)⟩, [], [], 0⟩,
  ⟨2, ⟨some 67, none, .mov (.tmp 0)⟩, [], [], 1⟩,
  ⟨3, ⟨some 68, none, .mov (.tmp 10)⟩, [], [], 1⟩,
  ⟨4, ⟨some 69, none, .mov (.tmp 0)⟩, [], [], 0⟩,
  ⟨5, ⟨some 70, none, .mov (.tmp 10)⟩, [], [], 0⟩,
  ⟨6, ⟨some 71, none, .iaddr (.tmp 69) (.tmp 70) 1⟩, [4, 5], [], 0⟩,
  ⟨7, ⟨some 72, none, .load (.tmp 71) 1 false⟩, [6, 4, 5], [], 0⟩,
  ⟨8, ⟨some 73, none, .mov (.tmp 0)⟩, [], [], 0⟩,
  ⟨9, ⟨some 74, none, .mov (.tmp 9)⟩, [], [], 0⟩,
  ⟨10, ⟨some 75, none, .iaddr (.tmp 73) (.tmp 74) 1⟩, [8, 9], [], 0⟩,
  ⟨11, ⟨some 76, none, .load (.tmp 75) 1 false⟩, [10, 8, 9], [], 0⟩,
  ⟨12, ⟨some 77, none, .iaddr (.tmp 65) (.tmp 66) 1⟩, [0, 1, 4, 5, 6, 7, 11, 10, 8, 9], [], 0⟩,
  ⟨13, ⟨none, none, .store (.tmp 77) (.tmp 72) 1⟩, [12, 7, 0, 1, 4, 5, 6, 11, 10, 8, 9], [], 1⟩,
  ⟨14, ⟨some 78, none, .iaddr (.tmp 67) (.tmp 68) 1⟩, [2, 3, 0, 1, 4, 5, 6, 7, 8, 9, 10, 11, 12, 13], [], 0⟩,
  ⟨15, ⟨none, none, .store (.tmp 78) (.tmp 76) 1⟩, [14, 11, 13, 0, 1, 2, 3, 4, 5, 6, 7, 8, 9, 10, 12], [], 1⟩] 0)
 (.seq (.ops [⟨some 79, none, .mov (.tmp 9)⟩,
  ⟨some 80, none, .bin .add (.tmp 79) (.const (.int .i64 1))⟩,
  ⟨some 9, none, .mov (.tmp 80)⟩])
 (.ops [⟨some 81, none, .mov (.tmp 10)⟩,
  ⟨some 82, none, .bin .sub (.tmp 81) (.const (.int .i64 1))⟩,
  ⟨some 10, none, .mov (.tmp 82)⟩])))))))))
 (.seq (.ops [⟨some 83, none, .mov (.tmp 9)⟩,
  ⟨some 8, none, .mov (.tmp 83)⟩])
 .ret)))))
def a37 : AF := ⟨4, 84, [.tmp 8], c37⟩
-- slices.partitionOrdered[int]
def c38 : AC := (.seq (.ops [⟨some 8, none, .mov (.const (.int .i64 0))⟩,
  ⟨some 9, none, .mov (.const (.bool false))⟩])
 (.seq (.draw [⟨0, ⟨some 12, none, .mov (.tmp 0)⟩, [], [], 0⟩,
  ⟨1, ⟨some 13, none, .mov (.tmp 1)⟩, [], [], 0⟩,
  ⟨2, ⟨some 14, none, .mov (.tmp 0)⟩, [], [], 1⟩,
  ⟨3, ⟨some 15, none, .mov (.tmp 3)⟩, [], [], 1⟩,
  ⟨4, ⟨some 16, none, .mov (.tmp 0)⟩, [], [], 0⟩,
  ⟨5, ⟨some 17, none, .mov (.tmp 3)⟩, [], [], 0⟩,
  ⟨6, ⟨some 18, none, .iaddr (.tmp 16) (.tmp 17) 1⟩, [4, 5], [], 0⟩,
  ⟨7, ⟨some 19, none, .load (.tmp 18) 1 false⟩, [6, 4, 5], [], 0⟩,
  ⟨8, ⟨some 20, none, .mov (.tmp 0)⟩, [], [], 0⟩,
  ⟨9, ⟨some 21, none, .mov (.tmp 1)⟩, [], [], 0⟩,
  ⟨10, ⟨some 22, none, .iaddr (.tmp 20) (.tmp 21) 1⟩, [8, 9], [], 0⟩,
  ⟨11, ⟨some 23, none, .load (.tmp 22) 1 false⟩, [10, 8, 9], [], 0⟩,
  ⟨12, ⟨some 24, none, .iaddr (.tmp 12) (.tmp 13) 1⟩, [0, 1, 4, 5, 6, 7, 11, 10, 8, 9], [], 0⟩,
  ⟨13, ⟨none, none, .store (.tmp 24) (.tmp 19) 1⟩, [12, 7, 0, 1, 4, 5, 6, 11, 10, 8, 9], [], 1⟩,
  ⟨14, ⟨some 25, none, .iaddr (.tmp 14) (.tmp 15) 1⟩, [2, 3, 0, 1, 4, 5, 6, 7, 8, 9, 10, 11, 12, 13], [], 0⟩,
  ⟨15, ⟨none, none, .store (.tmp 25) (.tmp 23) 1⟩, [14, 11, 13, 0, 1, 2, 3, 4, 5, 6, 7, 8, 9, 10, 12], [], 1⟩] 0)
 (.seq (.ops [⟨some 26, none, .mov (.tmp 1)⟩,
  ⟨some 27, none, .bin .add (.tmp 26) (.const (.int .i64 1))⟩,
  ⟨some 28, none, .mov (.tmp 2)⟩,
  ⟨some 29, none, .bin .sub (.tmp 28) (.const (.int .i64 1))⟩,
  ⟨some 10, none, .mov (.tmp 27)⟩,
  ⟨some 11, none, .mov (.tmp 29)⟩])
 (.seq (.block 0 (.loop (.seq (.seq (.draw [⟨0, ⟨some 30, none, .mov (.tmp 10)⟩, [], [], 0⟩,
  ⟨1, ⟨some 31, none, .mov (.tmp 11)⟩, [], [], 0⟩,
  ⟨2, ⟨some 32, none, .bin .leq (.tmp 30) (.tmp 31)⟩, [0, 1], [], 0⟩,
  ⟨3, ⟨some 33, none, .mov (.tmp 32)⟩, [2, 0, 1], [], 0⟩,
  ⟨4, ⟨some 34, some (33, true), .mov (.tmp 0)⟩, [3, 2, 0, 1], [], 0⟩,
  ⟨5, ⟨some 35, some (33, true), .mov (.tmp 10)⟩, [3, 2, 0, 1], [], 0⟩,
  ⟨6, ⟨some 36, some (33, true), .iaddr (.tmp 34) (.tmp 35) 1⟩, [4, 5, 3, 2, 0, 1], [], 0⟩,
  ⟨7, ⟨some 37, some (33, true), .load (.tmp 36) 1 false⟩, [6, 3, 4, 5, 2, 0, 1], [], 0⟩,
  ⟨8, ⟨some 38, some (33, true), .mov (.tmp 0)⟩, [3, 2, 0, 1], [], 0⟩,
  ⟨9, ⟨some 39, some (33, true), .mov (.tmp 1)⟩, [3, 2, 0, 1], [], 0⟩,
  ⟨10, ⟨some 40, some (33, true), .iaddr (.tmp 38) (.tmp 39) 1⟩, [8, 9, 3, 2, 0, 1], [], 0⟩,
  ⟨11, ⟨some 41, some (33, true), .load (.tmp 40) 1 false⟩, [10, 3, 8, 9, 2, 0, 1], [], 0⟩,
  ⟨12, ⟨some 42, some (33, true), .call (.func 36) [(.tmp 37), (.tmp 41)]⟩, [7, 11, 3, 6, 4, 5, 2, 0, 1, 10, 8, 9], [], 1⟩,
  ⟨13, ⟨some 43, none, .pick (.tmp 33) (.tmp 42) (.const (.bool false))⟩, [3, 12, 2, 0, 1, 7, 11, 6, 4, 5, 10, 8, 9], [], 0⟩] 0)
 (.cond (.tmp 43) .skip
 (.exit 0)))
 (.block 1 (.ops [⟨some 44, none, .mov (.tmp 10)⟩,
  ⟨some 45, none, .bin .add (.tmp 44) (.const (.int .i64 1))⟩,
  ⟨some 10, none, .mov (.tmp 45)⟩])))))
 (.seq (.block 2 (.loop (.seq (.seq (.draw [⟨0, ⟨some 46, none, .mov (.tmp 10)⟩, [], [], 0⟩,
  ⟨1, ⟨some 47, none, .mov (.tmp 11)⟩, [], [], 0⟩,
  ⟨2, ⟨some 48, none, .bin .leq (.tmp 46) (.tmp 47)⟩, [0, 1], [], 0⟩,
  ⟨3, ⟨some 49, none, .mov (.tmp 48)⟩, [2, 0, 1], [], 0⟩,
  ⟨4, ⟨some 50, some (49, true), .mov (.tmp 0)⟩, [3, 2, 0, 1], [], 0⟩,
  ⟨5, ⟨some 51, some (49, true), .mov (.tmp 11)⟩, [3, 2, 0, 1], [], 0⟩,
  ⟨6, ⟨some 52, some (49, true), .iaddr (.tmp 50) (.tmp 51) 1⟩, [4, 5, 3, 2, 0, 1], [], 0⟩,
  ⟨7, ⟨some 53, some (49, true), .load (.tmp 52) 1 false⟩, [6, 3, 4, 5, 2, 0, 1], [], 0⟩,
  ⟨8, ⟨some 54, some (49, true), .mov (.tmp 0)⟩, [3, 2, 0, 1], [], 0⟩,
  ⟨9, ⟨some 55, some (49, true), .mov (.tmp 1)⟩, [3, 2, 0, 1], [], 0⟩,
  ⟨10, ⟨some 56, some (49, true), .iaddr (.tmp 54) (.tmp 55) 1⟩, [8, 9, 3, 2, 0, 1], [], 0⟩,
  ⟨11, ⟨some 57, some (49, true), .load (.tmp 56) 1 false⟩, [10, 3, 8, 9, 2, 0, 1], [], 0⟩,
  ⟨12, ⟨some 58, some (49, true), .call (.func 36) [(.tmp 53), (.tmp 57)]⟩, [7, 11, 3, 6, 4, 5, 2, 0, 1, 10, 8, 9], [], 1⟩,
  ⟨13, ⟨some 59, some (49, true), .un .not (.tmp 58)⟩, [12, 3, 7, 11, 6, 4, 5, 2, 0, 1, 10, 8, 9], [], 0⟩,
  ⟨14, ⟨some 60, none, .pick (.tmp 49) (.tmp 59) (.const (.bool false))⟩, [3, 13, 2, 0, 1, 12, 7, 11, 6, 4, 5, 10, 8, 9], [], 0⟩] 0)
 (.cond (.tmp 60) .skip
 (.exit 2)))
 (.block 3 (.ops [⟨some 61, none, .mov (.tmp 11)⟩,
  ⟨some 62, none, .bin .sub (.tmp 61) (.const (.int .i64 1))⟩,
  ⟨some 11, none, .mov (.tmp 62)⟩])))))
 (.seq (.seq (.ops [⟨some 63, none, .mov (.tmp 10)⟩,
  ⟨some 64, none, .mov (.tmp 11)⟩,
  ⟨some 65, none, .bin .gtr (.tmp 63) (.tmp 64)⟩])
 (.cond (.tmp 65) (.seq (.draw [⟨0, ⟨some 66, none, .mov (.tmp 0)⟩, [], [], 0⟩,
  ⟨1, ⟨some 67, none, .mov (.tmp 11)⟩, [], [], 0⟩,
  ⟨2, ⟨some 68, none, .mov (.tmp 0)⟩, [], [], 1⟩,
  ⟨3, ⟨some 69, none, .mov (.tmp 1)⟩, [], [], 1⟩,
  ⟨4, ⟨some 70, none, .mov (.tmp 0)⟩, [], [], 0⟩,
  ⟨5, ⟨some 71, none, .mov (.tmp 1)⟩, [], [], 0⟩,
  ⟨6, ⟨some 72, none, .iaddr (.tmp 70) (.tmp 71) 1⟩, [4, 5], [], 0⟩,
  ⟨7, ⟨some 73, none, .load (.tmp 72) 1 false⟩, [6, 4, 5], [], 0⟩,
  ⟨8, ⟨some 74, none, .mov (.tmp 0)⟩, [], [], 0⟩,
  ⟨9, ⟨some 75, none, .mov (.tmp 11)⟩, [], [], 0⟩,
  ⟨10, ⟨some 76, none, .iaddr (.tmp 74) (.tmp 75) 1⟩, [8, 9], [], 0⟩,
  ⟨11, ⟨some 77, none, .load (.tmp 76) 1 false⟩, [10, 8, 9], [], 0⟩,
  ⟨12, ⟨some 78, none, .iaddr (.tmp 66) (.tmp 67) 1⟩, [0, 1, 4, 5, 6, 7, 11, 10, 8, 9], [], 0⟩,
  ⟨13, ⟨none, none, .store (.tmp 78) (.tmp 73) 1⟩, [12, 7, 0, 1, 4, 5, 6, 11, 10, 8, 9], [], 1⟩,
  ⟨14, ⟨some 79, none, .iaddr (.tmp 68) (.tmp 69) 1⟩, [2, 3, 0, 1, 4, 5, 6, 7, 8, 9, 10, 11, 12, 13], [], 0⟩,
  ⟨15, ⟨none, none, .store (.tmp 79) (.tmp 77) 1⟩, [14, 11, 13, 0, 1, 2, 3, 4, 5, 6, 7, 8, 9, 10, 12], [], 1⟩] 0)
 (.seq (.ops [⟨some 80, none, .mov (.tmp 11)⟩,
  ⟨some 8, none, .mov (.tmp 80)⟩,
  ⟨some 9, none, .mov (.const (.bool true))⟩])
 .ret))
 .skip))
 (.seq (.draw [⟨0, ⟨some 81, none, .mov (.tmp 0)⟩, [], [], 0⟩,
  ⟨1, ⟨some 82, none, .mov (.tmp 10)⟩, [], [], 0⟩,
  ⟨2, ⟨some 83, none, .mov (.tmp 0)⟩, [], [], 1⟩,
  ⟨3, ⟨some 84, none, .mov (.tmp 11)⟩, [], [], 1⟩,
  ⟨4, ⟨some 85, none, .mov (.tmp 0)⟩, [], [], 0⟩,
  ⟨5, ⟨some 86, none, .mov (.tmp 11)⟩, [], [], 0⟩,
  ⟨6, ⟨some 87, none, .iaddr (.tmp 85) (.tmp 86) 1⟩, [4, 5], [], 0⟩,
  ⟨7, ⟨some 88, none, .load (.tmp 87) 1 false⟩, [6, 4, 5], [], 0⟩,
  ⟨8, ⟨some 89, none, .mov (.tmp 0)⟩, [], [], 0⟩,
  ⟨9, ⟨some 90, none, .mov (.tmp 10)⟩, [], [], 0⟩,
  ⟨10, ⟨some 91, none, .iaddr (.tmp 89) (.tmp 90) 1⟩, [8, 9], [], 0⟩,
  ⟨11, ⟨some 92, none, .load (.tmp 91) 1 false⟩, [10, 8, 9], [], 0⟩,
  ⟨12, ⟨some 93, none, .iaddr (.tmp 81) (.tmp 82) 1⟩, [0, 1, 4, 5, 6, 7, 11, 10, 8, 9], [], 0⟩,
  ⟨13, ⟨none, none, .store (.tmp 93) (.tmp 88) 1⟩, [12, 7, 0, 1, 4, 5, 6, 11, 10, 8, 9], [], 1⟩,
  ⟨14, ⟨some 94, none, .iaddr (.tmp 83) (.tmp 84) 1⟩, [2, 3, 0, 1, 4, 5, 6, 7, 8, 9, 10, 11, 12, 13], [], 0⟩,
  ⟨15, ⟨none, none, .store (.tmp 94) (.tmp 92) 1⟩, [14, 11, 13, 0, 1, 2, 3, 4, 5, 6, 7, 8, 9, 10, 12], [], 1⟩] 0)
 (.seq (.ops [⟨some 95, none, .mov (.tmp 10)⟩,
  ⟨some 96, none, .bin .add (.tmp 95) (.const (.int .i64 1))⟩,
  ⟨some 10, none, .mov (.tmp 96)⟩])
 (.seq (.ops [⟨some 97, none, .mov (.tmp 11)⟩,
  ⟨some 98, none, .bin .sub (.tmp 97) (.const (.int .i64 1))⟩,
  ⟨some 11, none, .mov (.tmp 98)⟩])
 (.seq (.block 4 (.loop (.block 5 (.seq (.block 6 (.loop (.seq (.seq (.draw [⟨0, ⟨some 99, none, .mov (.tmp 10)⟩, [], [], 0⟩,
  ⟨1, ⟨some 100, none, .mov (.tmp 11)⟩, [], [], 0⟩,
  ⟨2, ⟨some 101, none, .bin .leq (.tmp 99) (.tmp 100)⟩, [0, 1], [], 0⟩,
  ⟨3, ⟨some 102, none, .mov (.tmp 101)⟩, [2, 0, 1], [], 0⟩,
  ⟨4, ⟨some 103, some (102, true), .mov (.tmp 0)⟩, [3, 2, 0, 1], [], 0⟩,
  ⟨5, ⟨some 104, some (102, true), .mov (.tmp 10)⟩, [3, 2, 0, 1], [], 0⟩,
  ⟨6, ⟨some 105, some (102, true), .iaddr (.tmp 103) (.tmp 104) 1⟩, [4, 5, 3, 2, 0, 1], [], 0⟩,
  ⟨7, ⟨some 106, some (102, true), .load (.tmp 105) 1 false⟩, [6, 3, 4, 5, 2, 0, 1], [], 0⟩,
  ⟨8, ⟨some 107, some (102, true), .mov (.tmp 0)⟩, [3, 2, 0, 1], [], 0⟩,
  ⟨9, ⟨some 108, some (102, true), .mov (.tmp 1)⟩, [3, 2, 0, 1], [], 0⟩,
  ⟨10, ⟨some 109, some (102, true), .iaddr (.tmp 107) (.tmp 108) 1⟩, [8, 9, 3, 2, 0, 1], [], 0⟩,
  ⟨11, ⟨some 110, some (102, true), .load (.tmp 109) 1 false⟩, [10, 3, 8, 9, 2, 0, 1], [], 0⟩,
  ⟨12, ⟨some 111, some (102, true), .call (.func 36) [(.tmp 106), (.tmp 110)]⟩, [7, 11, 3, 6, 4, 5, 2, 0, 1, 10, 8, 9], [], 1⟩,
  ⟨13, ⟨some 112, none, .pick (.tmp 102) (.tmp 111) (.const (.bool false))⟩, [3, 12, 2, 0, 1, 7, 11, 6, 4, 5, 10, 8, 9], [], 0⟩] 0)
 (.cond (.tmp 112) .skip
 (.exit 6)))
 (.block 7 (.ops [⟨some 113, none, .mov (.tmp 10)⟩,
  ⟨some 114, none, .bin .add (.tmp 113) (.const (.int .i64 1))⟩,
  ⟨some 10, none, .mov (.tmp 114)⟩])))))
 (.seq (.block 8 (.loop (.seq (.seq (.draw [⟨0, ⟨some 115, none, .mov (.tmp 10)⟩, [], [], 0⟩,
  ⟨1, ⟨some 116, none, .mov (.tmp 11)⟩, [], [], 0⟩,
  ⟨2, ⟨some 117, none, .bin .leq (.tmp 115) (.tmp 116)⟩, [0, 1], [], 0⟩,
  ⟨3, ⟨some 118, none, .mov (.tmp 117)⟩, [2, 0, 1], [], 0⟩,
  ⟨4, ⟨some 119, some (118, true), .mov (.tmp 0)⟩, [3, 2, 0, 1], [], 0⟩,
  ⟨5, ⟨some 120, some (118, true), .mov (.tmp 11)⟩, [3, 2, 0, 1], [], 0⟩,
  ⟨6, ⟨some 121, some (118, true), .iaddr (.tmp 119) (.tmp 120) 1⟩, [4, 5, 3, 2, 0, 1], [], 0⟩,
  ⟨7, ⟨some 122, some (118, true), .load (.tmp 121) 1 false⟩, [6, 3, 4, 5, 2, 0, 1], [], 0⟩,
  ⟨8, ⟨some 123, some (118, true), .mov (.tmp 0)⟩, [3, 2, 0, 1], [], 0⟩,
  ⟨9, ⟨some 124, some (118, true), .mov (.tmp 1)⟩, [3, 2, 0, 1], [], 0⟩,
  ⟨10, ⟨some 125, some (118, true), .iaddr (.tmp 123) (.tmp 124) 1⟩, [8, 9, 3, 2, 0, 1], [], 0⟩,
  ⟨11, ⟨some 126, some (118, true), .load (.tmp 125) 1 false⟩, [10, 3, 8, 9, 2, 0, 1], [], 0⟩,
  ⟨12, ⟨some 127, some (118, true), .call (.func 36) [(.tmp 122), (.tmp 126)]⟩, [7, 11, 3, 6, 4, 5, 2, 0, 1, 10, 8, 9], [], 1⟩,
  ⟨13, ⟨some 128, some (118, true), .un .not (.tmp 127)⟩, [12, 3, 7, 11, 6, 4, 5, 2, 0, 1, 10, 8, 9], [], 0⟩,
  ⟨14, ⟨some 129, none, .pick (.tmp 118) (.tmp 128) (.const (.bool false))⟩, [3, 13, 2, 0, 1, 12, 7, 11, 6, 4, 5, 10, 8, 9], [], 0⟩] 0)
 (.cond (.tmp 129) .skip
 (.exit 8)))
 (.block 9 (.ops [⟨some 130, none, .mov (.tmp 11)⟩,
  ⟨some 131, none, .bin .sub (.tmp 130) (.const (.int .i64 1))⟩,
  ⟨some 11, none, .mov (.tmp 131)⟩])))))
 (.seq (.seq (.ops [⟨some 132, none, .mov (.tmp 10)⟩,
  ⟨some 133, none, .mov (.tmp 11)⟩,
  ⟨some 134, none, .bin .gtr (.tmp 132) (.tmp 133)⟩])
 (.cond (.tmp 134) (.exit 4)
 .skip))
 (.seq (.draw [⟨0, ⟨some 135, none, .mov (.tmp 0)⟩, [], [], 0⟩,
  ⟨1, ⟨some 136, none, .mov (.tmp 10)⟩, [], [], 0⟩,
  ⟨2, ⟨some 137, none, .mov (.tmp 0)⟩, [], [], 1⟩,
  ⟨3, ⟨some 138, none, .mov (.tmp 11)⟩, [], [], 1⟩,
  ⟨4, ⟨some 139, none, .mov (.tmp 0)⟩, [], [], 0⟩,
  ⟨5, ⟨some 140, none, .mov (.tmp 11)⟩, [], [], 0⟩,
  ⟨6, ⟨some 141, none, .iaddr (.tmp 139) (.tmp 140) 1⟩, [4, 5], [], 0⟩,
  ⟨7, ⟨some 142, none, .load (.tmp 141) 1 false⟩, [6, 4, 5], [], 0⟩,
  ⟨8, ⟨some 143, none, .mov (.tmp 0)⟩, [], [], 0⟩,
  ⟨9, ⟨some 144, none, .mov (.tmp 10)⟩, [], [], 0⟩,
  ⟨10, ⟨some 145, none, .iaddr (.tmp 143) (.tmp 144) 1⟩, [8, 9], [], 0⟩,
  ⟨11, ⟨some 146, none, .load (.tmp 145) 1 false⟩, [10, 8, 9], [], 0⟩,
  ⟨12, ⟨some 147, none, .iaddr (.tmp 135) (.tmp 136) 1⟩, [0, 1, 4, 5, 6, 7, 11, 10, 8, 9], [], 0⟩,
  ⟨13, ⟨none, none, .store (.tmp 147) (.tmp 142) 1⟩, [12, 7, 0, 1, 4, 5, 6, 11, 10, 8, 9], [], 1⟩,
  ⟨14, ⟨some 148, none, .iaddr (.tmp 137) (.tmp 138) 1⟩, [2, 3, 0, 1, 4, 5, 6, 7, 8, 9, 10, 11, 12, 13], [], 0⟩,
  ⟨15, ⟨none, none, .store (.tmp 148) (.tmp 146) 1⟩, [14, 11, 13, 0, 1, 2, 3, 4, 5, 6, 7, 8, 9, 10, 12], [], 1⟩] 0)
 (.seq (.ops [⟨some 149, none, .mov (.tmp 10)⟩,
  ⟨some 150, none, .bin .add (.tmp 149) (.const (.int .i64 1))⟩,
  ⟨some 10, none, .mov (.tmp 150)⟩])
 (.ops [⟨some 151, none, .mov (.tmp 11)⟩,
  ⟨some 152, none, .bin .sub (.tmp 151) (.const (.int .i64 1))⟩,
  ⟨some 11, none, .mov (.tmp 152)⟩])))))))))
 (.seq (.draw [⟨0, ⟨some 153, none, .mov (.tmp 0)⟩, [], [], 0⟩,
  ⟨1, ⟨some 154, none, .mov (.tmp 11)⟩, [], [], 0⟩,
  ⟨2, ⟨some 155, none, .mov (.tmp 0)⟩, [], [], 1⟩,
  ⟨3, ⟨some 156, none, .mov (.tmp 1)⟩, [], [], 1⟩,
  ⟨4, ⟨some 157, none, .mov (.tmp 0)⟩, [], [], 0⟩,
  ⟨5, ⟨some 158, none, .mov (.tmp 1)⟩, [], [], 0⟩,
  ⟨6, ⟨some 159, none, .iaddr (.tmp 157) (.tmp 158) 1⟩, [4, 5], [], 0⟩,
  ⟨7, ⟨some 160, none, .load (.tmp 159) 1 false⟩, [6, 4, 5], [], 0⟩,
  ⟨8, ⟨some 161, none, .mov (.tmp 0)⟩, [], [], 0⟩,
  ⟨9, ⟨some 162, none, .mov (.tmp 11)⟩, [], [], 0⟩,
  ⟨10, ⟨some 163, none, .iaddr (.tmp 161) (.tmp 162) 1⟩, [8, 9], [], 0⟩,
  ⟨11, ⟨some 164, none, .load (.tmp 163) 1 false⟩, [10, 8, 9], [], 0⟩,
  ⟨12, ⟨some 165, none, .iaddr (.tmp 153) (.tmp 154) 1⟩, [0, 1, 4, 5, 6, 7, 11, 10, 8, 9], [], 0⟩,
  ⟨13, ⟨none, none, .store (.tmp 165) (.tmp 160) 1⟩, [12, 7, 0, 1, 4, 5, 6, 11, 10, 8, 9], [], 1⟩,
  ⟨14, ⟨some 166, none, .iaddr (.tmp 155) (.tmp 156) 1⟩, [2, 3, 0, 1, 4, 5, 6, 7, 8, 9, 10, 11, 12, 13], [], 0⟩,
  ⟨15, ⟨none, none, .store (.tmp 166) (.tmp 164) 1⟩, [14, 11, 13, 0, 1, 2, 3, 4, 5, 6, 7, 8, 9, 10, 12], [], 1⟩] 0)
 (.seq (.ops [⟨some 167, none, .mov (.tmp 11)⟩,
  ⟨some 8, none, .mov (.tmp 167)⟩,
  ⟨some 9, none, .mov (.const (.bool false))⟩])
 .ret))))))))))))
def a38 : AF := ⟨4, 168, [.tmp 8, .tmp 9], c38⟩
-- math/bits.Len32
def c39 : AC := (.seq (.ops [⟨some 2, none, .mov (.const (.int .i64 0))⟩])
 (.seq (.seq (.ops [⟨some 3, none, .mov (.tmp 0)⟩,
  ⟨some 4, none, .bin .geq (.tmp 3) (.const (.int .u32 65536))⟩])
 (.cond (.tmp 4) (.seq (.ops [⟨some 5, none, .mov (.tmp 0)⟩,
  ⟨some 6, none, .bin .shr (.tmp 5) (.const (.int .u64 16))⟩,
  ⟨some 0, none, .mov (.tmp 6)⟩])
 (.ops [⟨some 2, none, .mov (.const (.int .i64 16))⟩]))
 .skip))
 (.seq (.seq (.ops [⟨some 7, none, .mov (.tmp 0)⟩,
  ⟨some 8, none, .bin .geq (.tmp 7) (.const (.int .u32 256))⟩])
 (.cond (.tmp 8) (.seq (.ops [⟨some 9, none, .mov (.tmp 0)⟩,
  ⟨some 10, none, .bin .shr (.tmp 9) (.const (.int .u64 8))⟩,
  ⟨some 0, none, .mov (.tmp 10)⟩])
 (.ops [⟨some 11, none, .mov (.tmp 2)⟩,
  ⟨some 12, none, .bin .add (.tmp 11) (.const (.int .i64 8))⟩,
  ⟨some 2, none, .mov (.tmp 12)⟩]))
 .skip))
 (.seq (.ops [⟨some 13, none, .mov (.tmp 2)⟩,
  ⟨some 14, none, .mov (.tmp 0)⟩,
  ⟨some 15, none, .conv .u8 (.tmp 14)⟩,
  ⟨some 16, none, .idxS (.const (.string ⟨#[0, 1, 2, 2, 3, 3, 3, 3, 4, 4, 4, 4, 4, 4, 4, 4, 5, 5, 5, 5, 5, 5, 5, 5, 5, 5, 5, 5, 5, 5, 5, 5, 6, 6, 6, 6, 6, 6, 6, 6, 6, 6, 6, 6, 6, 6, 6, 6, 6, 6, 6, 6, 6, 6, 6, 6, 6, 6, 6, 6, 6, 6, 6, 6, 7, 7, 7, 7, 7, 7, 7, 7, 7, 7, 7, 7, 7, 7, 7, 7, 7, 7, 7, 7, 7, 7, 7, 7, 7, 7, 7, 7, 7, 7, 7, 7, 7, 7, 7, 7, 7, 7, 7, 7, 7, 7, 7, 7, 7, 7, 7, 7, 7, 7, 7, 7, 7, 7, 7, 7, 7, 7, 7, 7, 7, 7, 7, 7, 8, 8, 8, 8, 8, 8, 8, 8, 8, 8, 8, 8, 8, 8, 8, 8, 8, 8, 8, 8, 8, 8, 8, 8, 8, 8, 8, 8, 8, 8, 8, 8, 8, 8, 8, 8, 8, 8, 8, 8, 8, 8, 8, 8, 8, 8, 8, 8, 8, 8, 8, 8, 8, 8, 8, 8, 8, 8, 8, 8, 8, 8, 8, 8, 8, 8, 8, 8, 8, 8, 8, 8, 8, 8, 8, 8, 8, 8, 8, 8, 8, 8, 8, 8, 8, 8, 8, 8, 8, 8, 8, 8, 8, 8, 8, 8, 8, 8, 8, 8, 8, 8, 8, 8, 8, 8, 8, 8, 8, 8, 8, 8, 8, 8, 8, 8, 8, 8, 8, 8, 8, 8, 8, 8, 8, 8, 8, 8]⟩)) (.tmp 15)⟩,
  ⟨some 17, none, .conv .i64 (.tmp 16)⟩,
  ⟨some 18, none, .bin .add (.tmp 13) (.tmp 17)⟩,
  ⟨some 2, none, .mov (.tmp 18)⟩])
 .ret))))
def a39 : AF := ⟨1, 19, [.tmp 2], c39⟩
-- math/bits.Len64
def c40 : AC := (.seq (.ops [⟨some 2, none, .mov (.const (.int .i64 0))⟩])
 (.seq (.seq (.ops [⟨some 3, none, .mov (.tmp 0)⟩,
  ⟨some 4, none, .bin .geq (.tmp 3) (.const (.int .u64 4294967296))⟩])
 (.cond (.tmp 4) (.seq (.ops [⟨some 5, none, .mov (.tmp 0)⟩,
  ⟨some 6, none, .bin .shr (.tmp 5) (.const (.int .u64 32))⟩,
  ⟨some 0, none, .mov (.tmp 6)⟩])
 (.ops [⟨some 2, none, .mov (.const (.int .i64 32))⟩]))
 .skip))
 (.seq (.seq (.ops [⟨some 7, none, .mov (.tmp 0)⟩,
  ⟨some 8, none, .bin .geq (.tmp 7) (.const (.int .u64 65536))⟩])
 (.cond (.tmp 8) (.seq (.ops [⟨some 9, none, .mov (.tmp 0)⟩,
  ⟨some 10, none, .bin .shr (.tmp 9) (.const (.int .u64 16))⟩,
  ⟨some 0, none, .mov (.tmp 10)⟩])
 (.ops [⟨some 11, none, .mov (.tmp 2)⟩,
  ⟨some 12, none, .bin .add (.tmp 11) (.const (.int .i64 16))⟩,
  ⟨some 2, none, .mov (.tmp 12)⟩]))
 .skip))
 (.seq (.seq (.ops [⟨some 13, none, .mov (.tmp 0)⟩,
  ⟨some 14, none, .bin .geq (.tmp 13) (.const (.int .u64 256))⟩])
 (.cond (.tmp 14) (.seq (.ops [⟨some 15, none, .mov (.tmp 0)⟩,
  ⟨some 16, none, .bin .shr (.tmp 15) (.const (.int .u64 8))⟩,
  ⟨some 0, none, .mov (.tmp 16)⟩])
 (.ops [⟨some 17, none, .mov (.tmp 2)⟩,
  ⟨some 18, none, .bin .add (.tmp 17) (.const (.int .i64 8))⟩,
  ⟨some 2, none, .mov (.tmp 18)⟩]))
 .skip))
 (.seq (.ops [⟨some 19, none, .mov (.tmp 2)⟩,
  ⟨some 20, none, .mov (.tmp 0)⟩,
  ⟨some 21, none, .conv .u8 (.tmp 20)⟩,
  ⟨some 22, none, .idxS (.const (.string ⟨#[0, 1, 2, 2, 3, 3, 3, 3, 4, 4, 4, 4, 4, 4, 4, 4, 5, 5, 5, 5, 5, 5, 5, 5, 5, 5, 5, 5, 5, 5, 5, 5, 6, 6, 6, 6, 6, 6, 6, 6, 6, 6, 6, 6, 6, 6, 6, 6, 6, 6, 6, 6, 6, 6, 6, 6, 6, 6, 6, 6, 6, 6, 6, 6, 7, 7, 7, 7, 7, 7, 7, 7, 7, 7, 7, 7, 7, 7, 7, 7, 7, 7, 7, 7, 7, 7, 7, 7, 7, 7, 7, 7, 7, 7, 7, 7, 7, 7, 7, 7, 7, 7, 7, 7, 7, 7, 7, 7, 7, 7, 7, 7, 7, 7, 7, 7, 7, 7, 7, 7, 7, 7, 7, 7, 7, 7, 7, 7, 8, 8, 8, 8, 8, 8, 8, 8, 8, 8, 8, 8, 8, 8, 8, 8, 8, 8, 8, 8, 8, 8, 8, 8, 8, 8, 8, 8, 8, 8, 8, 8, 8, 8, 8, 8, 8, 8, 8, 8, 8, 8, 8, 8, 8, 8, 8, 8, 8, 8, 8, 8, 8, 8, 8, 8, 8, 8, 8, 8, 8, 8, 8, 8, 8, 8, 8, 8, 8, 8, 8, 8, 8, 8, 8, 8, 8, 8, 8, 8, 8, 8, 8, 8, 8, 8, 8, 8, 8, 8, 8, 8, 8, 8, 8, 8, 8, 8, 8, 8, 8, 8, 8, 8, 8, 8, 8, 8, 8, 8, 8, 8, 8, 8, 8, 8, 8, 8, 8, 8, 8, 8, 8, 8, 8, 8, 8, 8]⟩)) (.tmp 21)⟩,
  ⟨some 23, none, .conv .i64 (.tmp 22)⟩,
  ⟨some 24, none, .bin .add (.tmp 19) (.tmp 23)⟩,
  ⟨some 2, none, .mov (.tmp 24)⟩])
 .ret)))))
def a40 : AF := ⟨1, 25, [.tmp 2], c40⟩
-- slices.rotateCmpFunc[int]
def c41 : AC := (.seq (.ops [⟨some 12, none, .mov (.tmp 2)⟩,
  ⟨some 13, none, .mov (.tmp 1)⟩,
  ⟨some 14, none, .bin .sub (.tmp 12) (.tmp 13)⟩,
  ⟨some 10, none, .mov (.tmp 14)⟩])
 (.seq (.ops [⟨some 15, none, .mov (.tmp 3)⟩,
  ⟨some 16, none, .mov (.tmp 2)⟩,
  ⟨some 17, none, .bin .sub (.tmp 15) (.tmp 16)⟩,
  ⟨some 11, none, .mov (.tmp 17)⟩])
 (.seq (.block 0 (.loop (.seq (.seq (.ops [⟨some 18, none, .mov (.tmp 10)⟩,
  ⟨some 19, none, .mov (.tmp 11)⟩,
  ⟨some 20, none, .bin .neq (.tmp 18) (.tmp 19)⟩])
 (.cond (.tmp 20) .skip
 (.exit 0)))
 (.block 1 (.seq (.ops [⟨some 21, none, .mov (.tmp 10)⟩,
  ⟨some 22, none, .mov (.tmp 11)⟩,
  ⟨some 23, none, .bin .gtr (.tmp 21) (.tmp 22)⟩])
 (.cond (.tmp 23) (.seq (.ops [⟨some 24, none, .mov (.tmp 0)⟩,
  ⟨some 25, none, .mov (.tmp 2)⟩,
  ⟨some 26, none, .mov (.tmp 10)⟩,
  ⟨some 27, none, .bin .sub (.tmp 25) (.tmp 26)⟩,
  ⟨some 28, none, .mov (.tmp 2)⟩,
  ⟨some 29, none, .mov (.tmp 11)⟩,
  ⟨some 30, none, .mov (.tmp 4)⟩,
  ⟨some 31, none, .call (.func 48) [(.tmp 24), (.tmp 27), (.tmp 28), (.tmp 29), (.tmp 30)]⟩])
 (.ops [⟨some 32, none, .mov (.tmp 10)⟩,
  ⟨some 33, none, .mov (.tmp 11)⟩,
  ⟨some 34, none, .bin .sub (.tmp 32) (.tmp 33)⟩,
  ⟨some 10, none, .mov (.tmp 34)⟩]))
 (.seq (.ops [⟨some 35, none, .mov (.tmp 0)⟩,
  ⟨some 36, none, .mov (.tmp 2)⟩,
  ⟨some 37, none, .mov (.tmp 10)⟩,
  ⟨some 38, none, .bin .sub (.tmp 36) (.tmp 37)⟩,
  ⟨some 39, none, .mov (.tmp 2)⟩,
  ⟨some 40, none, .mov (.tmp 11)⟩,
  ⟨some 41, none, .bin .add (.tmp 39) (.tmp 40)⟩,
  ⟨some 42, none, .mov (.tmp 10)⟩,
  ⟨some 43, none, .bin .sub (.tmp 41) (.tmp 42)⟩,
  ⟨some 44, none, .mov (.tmp 10)⟩,
  ⟨some 45, none, .mov (.tmp 4)⟩,
  ⟨some 46, none, .call (.func 48) [(.tmp 35), (.tmp 38), (.tmp 43), (.tmp 44), (.tmp 45)]⟩])
 (.ops [⟨some 47, none, .mov (.tmp 11)⟩,
  ⟨some 48, none, .mov (.tmp 10)⟩,
  ⟨some 49, none, .bin .sub (.tmp 47) (.tmp 48)⟩,
  ⟨some 11, none, .mov (.tmp 49)⟩]))))))))
 (.ops [⟨some 50, none, .mov (.tmp 0)⟩,
  ⟨some 51, none, .mov (.tmp 2)⟩,
  ⟨some 52, none, .mov (.tmp 10)⟩,
  ⟨some 53, none, .bin .sub (.tmp 51) (.tmp 52)⟩,
  ⟨some 54, none, .mov (.tmp 2)⟩,
  ⟨some 55, none, .mov (.tmp 10)⟩,
  ⟨some 56, none, .mov (.tmp 4)⟩,
  ⟨some 57, none, .call (.func 48) [(.tmp 50), (.tmp 53), (.tmp 54), (.tmp 55), (.tmp 56)]⟩]))))
def a41 : AF := ⟨5, 58, [], c41⟩
-- slices.siftDownOrdered[int]
def c42 : AC := (.seq (.ops [⟨some 10, none, .mov (.tmp 1)⟩,
  ⟨some 8, none, .mov (.tmp 10)⟩])
 (.block 0 (.loop (.block 1 (.seq (.ops [⟨some 11, none, .mov (.tmp 8)⟩,
  ⟨some 12, none, .bin .mul (.const (.int .i64 2)) (.tmp 11)⟩,
  ⟨some 13, none, .bin .add (.tmp 12) (.const (.int .i64 1))⟩,
  ⟨some 9, none, .mov (.tmp 13)⟩])
 (.seq (.seq (.ops [⟨some 14, none, .mov (.tmp 9)⟩,
  ⟨some 15, none, .mov (.tmp 2)⟩,
  ⟨some 16, none, .bin .geq (.tmp 14) (.tmp 15)⟩])
 (.cond (.tmp 16) (.exit 0)
 .skip))
 (.seq (.seq (.draw [⟨0, ⟨some 17, none, .mov (.tmp 9)⟩, [], [], 0⟩,
  ⟨1, ⟨some 18, none, .bin .add (.tmp 17) (.const (.int .i64 1))⟩, [0], [], 0⟩,
  ⟨2, ⟨some 19, none, .mov (.tmp 2)⟩, [], [], 0⟩,
  ⟨3, ⟨some 20, none, .bin .lss (.tmp 18) (.tmp 19)⟩, [1, 2, 0], [], 0⟩,
  ⟨4, ⟨some 21, none, .mov (.tmp 20)⟩, [3, 1, 2, 0], [], 0⟩,
  ⟨5, ⟨some 22, some (21, true), .mov (.tmp 0)⟩, [4, 3, 1, 2, 0], [], 0⟩,
  ⟨6, ⟨some 23, some (21, true), .mov (.tmp 3)⟩, [4, 3, 1, 2, 0], [], 0⟩,
  ⟨7, ⟨some 24, some (21, true), .mov (.tmp 9)⟩, [4, 3, 1, 2, 0], [], 0⟩,
  ⟨8, ⟨some 25, some (21, true), .bin .add (.tmp 23) (.tmp 24)⟩, [6, 7, 4, 3, 1, 2, 0], [], 0⟩,
  ⟨9, ⟨some 26, some (21, true), .iaddr (.tmp 22) (.tmp 25) 1⟩, [5, 8, 4, 3, 1, 2, 0, 6, 7], [], 0⟩,
  ⟨10, ⟨some 27, some (21, true), .load (.tmp 26) 1 false⟩, [9, 4, 5, 8, 3, 1, 2, 0, 6, 7], [], 0⟩,
  ⟨11, ⟨some 28, some (21, true), .mov (.tmp 0)⟩, [4, 3, 1, 2, 0], [], 0⟩,
  ⟨12, ⟨some 29, some (21, true), .mov (.tmp 3)⟩, [4, 3, 1, 2, 0], [], 0⟩,
  ⟨13, ⟨some 30, some (21, true), .mov (.tmp 9)⟩, [4, 3, 1, 2, 0], [], 0⟩,
  ⟨14, ⟨some 31, some (21, true), .bin .add (.tmp 29) (.tmp 30)⟩, [12, 13, 4, 3, 1, 2, 0], [], 0⟩,
  ⟨15, ⟨some 32, some (21, true), .bin .add (.tmp 31) (.const (.int .i64 1))⟩, [14, 4, 12, 13, 3, 1, 2, 0], [], 0⟩,
  ⟨16, ⟨some 33, some (21, true), .iaddr (.tmp 28) (.tmp 32) 1⟩, [11, 15, 4, 3, 1, 2, 0, 14, 12, 13], [], 0⟩,
  ⟨17, ⟨some 34, some (21, true), .load (.tmp 33) 1 false⟩, [16, 4, 11, 15, 3, 1, 2, 0, 14, 12, 13], [], 0⟩,
  ⟨18, ⟨some 35, some (21, true), .call (.func 36) [(.tmp 27), (.tmp 34)]⟩, [10, 17, 4, 9, 5, 8, 3, 1, 2, 0, 6, 7, 16, 11, 15, 14, 12, 13], [], 1⟩,
  ⟨19, ⟨some 36, none, .pick (.tmp 21) (.tmp 35) (.const (.bool false))⟩, [4, 18, 3, 1, 2, 0, 10, 17, 9, 5, 8, 6, 7, 16, 11, 15, 14, 12, 13], [], 0⟩] 0)
 (.cond (.tmp 36) (.ops [⟨some 37, none, .mov (.tmp 9)⟩,
  ⟨some 38, none, .bin .add (.tmp 37) (.const (.int .i64 1))⟩,
  ⟨some 9, none, .mov (.tmp 38)⟩])
 .skip))
 (.seq (.seq (.draw [⟨0, ⟨some 39, none, .mov (.tmp 0)⟩, [], [], 0⟩,
  ⟨1, ⟨some 40, none, .mov (.tmp 3)⟩, [], [], 0⟩,
  ⟨2, ⟨some 41, none, .mov (.tmp 8)⟩, [], [], 0⟩,
  ⟨3, ⟨some 42, none, .bin .add (.tmp 40) (.tmp 41)⟩, [1, 2], [], 0⟩,
  ⟨4, ⟨some 43, none, .iaddr (.tmp 39) (.tmp 42) 1⟩, [0, 3, 1, 2], [], 0⟩,
  ⟨5, ⟨some 44, none, .load (.tmp 43) 1 false⟩, [4, 0, 3, 1, 2], [], 0⟩,
  ⟨6, ⟨some 45, none, .mov (.tmp 0)⟩, [], [], 0⟩,
  ⟨7, ⟨some 46, none, .mov (.tmp 3)⟩, [], [], 0⟩,
  ⟨8, ⟨some 47, none, .mov (.tmp 9)⟩, [], [], 0⟩,
  ⟨9, ⟨some 48, none, .bin .add (.tmp 46) (.tmp 47)⟩, [7, 8], [], 0⟩,
  ⟨10, ⟨some 49, none, .iaddr (.tmp 45) (.tmp 48) 1⟩, [6, 9, 7, 8], [], 0⟩,
  ⟨11, ⟨some 50, none, .load (.tmp 49) 1 false⟩, [10, 6, 9, 7, 8], [], 0⟩,
  ⟨12, ⟨some 51, none, .call (.func 36) [(.tmp 44), (.tmp 50)]⟩, [5, 11, 4, 0, 3, 1, 2, 10, 6, 9, 7, 8], [], 1⟩,
  ⟨13, ⟨some 52, none, .un .not (.tmp 51)⟩, [12, 5, 11, 4, 0, 3, 1, 2, 10, 6, 9, 7, 8], [], 0⟩] 0)
 (.cond (.tmp 52) .ret
 .skip))
 (.seq (.draw [⟨0, ⟨some 53, none, .mov (.tmp 0)⟩, [], [], 0⟩,
  ⟨1, ⟨some 54, none, .mov (.tmp 3)⟩, [], [], 0⟩,
  ⟨2, ⟨some 55, none, .mov (.tmp 8)⟩, [], [], 0⟩,
  ⟨3, ⟨some 56, none, .bin .add (.tmp 54) (.tmp 55)⟩, [1, 2], [], 0⟩,
  ⟨4, ⟨some 57, none, .mov (.tmp 0)⟩, [], [], 1⟩,
  ⟨5, ⟨some 58, none, .mov (.tmp 3)⟩, [], [], 1⟩,
  ⟨6, ⟨some 59, none, .mov (.tmp 9)⟩, [], [], 1⟩,
  ⟨7, ⟨some 60, none, .bin .add (.tmp 58) (.tmp 59)⟩, [5, 6], [], 1⟩,
  ⟨8, ⟨some 61, none, .mov (.tmp 0)⟩, [], [], 0⟩,
  ⟨9, ⟨some 62, none, .mov (.tmp 3)⟩, [], [], 0⟩,
  ⟨10, ⟨some 63, none, .mov (.tmp 9)⟩, [], [], 0⟩,
  ⟨11, ⟨some 64, none, .bin .add (.tmp 62) (.tmp 63)⟩, [9, 10], [], 0⟩,
  ⟨12, ⟨some 65, none, .iaddr (.tmp 61) (.tmp 64) 1⟩, [8, 11, 9, 10], [], 0⟩,
  ⟨13, ⟨some 66, none, .load (.tmp 65) 1 false⟩, [12, 8, 11, 9, 10], [], 0⟩,
  ⟨14, ⟨some 67, none, .mov (.tmp 0)⟩, [], [], 0⟩,
  ⟨15, ⟨some 68, none, .mov (.tmp 3)⟩, [], [], 0⟩,
  ⟨16, ⟨some 69, none, .mov (.tmp 8)⟩, [], [], 0⟩,
  ⟨17, ⟨some 70, none, .bin .add (.tmp 68) (.tmp 69)⟩, [15, 16], [], 0⟩,
  ⟨18, ⟨some 71, none, .iaddr (.tmp 67) (.tmp 70) 1⟩, [14, 17, 15, 16], [], 0⟩,
  ⟨19, ⟨some 72, none, .load (.tmp 71) 1 false⟩, [18, 14, 17, 15, 16], [], 0⟩,
  ⟨20, ⟨some 73, none, .iaddr (.tmp 53) (.tmp 56) 1⟩, [0, 3, 1, 2, 8, 9, 10, 11, 12, 13, 19, 18, 14, 17, 15, 16], [], 0⟩,
  ⟨21, ⟨none, none, .store (.tmp 73) (.tmp 66) 1⟩, [20, 13, 0, 1, 2, 3, 8, 9, 10, 11, 12, 19, 18, 14, 17, 15, 16], [], 1⟩,
  ⟨22, ⟨some 74, none, .iaddr (.tmp 57) (.tmp 60) 1⟩, [4, 7, 0, 1, 2, 3, 5, 6, 8, 9, 10, 11, 12, 13, 14, 15, 16, 17, 18, 19, 20, 21], [], 0⟩,
  ⟨23, ⟨none, none, .store (.tmp 74) (.tmp 72) 1⟩, [22, 19, 21, 0, 1, 2, 3, 4, 5, 6, 7, 8, 9, 10, 11, 12, 13, 14, 15, 16, 17, 18, 20], [], 1⟩] 0)
 (.ops [⟨some 75, none, .mov (.tmp 9)⟩,
  ⟨some 8, none, .mov (.tmp 75)⟩]))))))))))
def a42 : AF := ⟨4, 76, [], c42⟩
-- slices.nextPowerOfTwo
def c43 : AC := (.seq (.ops [⟨some 2, none, .mov (.const (.int .u64 0))⟩])
 (.seq (.ops [⟨some 3, none, .mov (.tmp 0)⟩,
  ⟨some 4, none, .conv .u64 (.tmp 3)⟩,
  ⟨some 5, none, .call (.func 27) [(.tmp 4)]⟩,
  ⟨some 6, none, .bin .shl (.const (.int .u64 1)) (.tmp 5)⟩,
  ⟨some 2, none, .mov (.tmp 6)⟩])
 .ret))
def a43 : AF := ⟨1, 7, [.tmp 2], c43⟩
-- (*slices.xorshift).Next
def c44 : AC := (.seq (.ops [⟨some 2, none, .mov (.const (.int .u64 0))⟩])
 (.seq (.draw [⟨0, ⟨some 3, none, .mov (.tmp 0)⟩, [], [], 0⟩,
  ⟨1, ⟨some 4, none, .chk (.tmp 3)⟩, [0], [], 0⟩,
  ⟨2, ⟨some 5, none, .load (.tmp 4) 1 false⟩, [1, 0], [], 0⟩,
  ⟨3, ⟨some 6, none, .mov (.tmp 0)⟩, [], [], 0⟩,
  ⟨4, ⟨some 7, none, .chk (.tmp 6)⟩, [3], [], 0⟩,
  ⟨5, ⟨some 8, none, .load (.tmp 7) 1 false⟩, [4, 3], [], 0⟩,
  ⟨6, ⟨some 9, none, .bin .shl (.tmp 8) (.const (.int .u64 13))⟩, [5, 4, 3], [], 0⟩,
  ⟨7, ⟨some 10, none, .bin .xor (.tmp 5) (.tmp 9)⟩, [2, 6, 1, 0, 5, 4, 3], [], 0⟩,
  ⟨8, ⟨some 11, none, .chk (.tmp 3)⟩, [0, 1, 2, 3, 4, 5, 6, 7], [], 0⟩,
  ⟨9, ⟨none, none, .store (.tmp 11) (.tmp 10) 1⟩, [8, 7, 0, 1, 2, 3, 4, 5, 6], [], 1⟩] 0)
 (.seq (.draw [⟨0, ⟨some 12, none, .mov (.tmp 0)⟩, [], [], 0⟩,
  ⟨1, ⟨some 13, none, .chk (.tmp 12)⟩, [0], [], 0⟩,
  ⟨2, ⟨some 14, none, .load (.tmp 13) 1 false⟩, [1, 0], [], 0⟩,
  ⟨3, ⟨some 15, none, .mov (.tmp 0)⟩, [], [], 0⟩,
  ⟨4, ⟨some 16, none, .chk (.tmp 15)⟩, [3], [], 0⟩,
  ⟨5, ⟨some 17, none, .load (.tmp 16) 1 false⟩, [4, 3], [], 0⟩,
  ⟨6, ⟨some 18, none, .bin .shr (.tmp 17) (.const (.int .u64 7))⟩, [5, 4, 3], [], 0⟩,
  ⟨7, ⟨some 19, none, .bin .xor (.tmp 14) (.tmp 18)⟩, [2, 6, 1, 0, 5, 4, 3], [], 0⟩,
  ⟨8, ⟨some 20, none, .chk (.tmp 12)⟩, [0, 1, 2, 3, 4, 5, 6, 7], [], 0⟩,
  ⟨9, ⟨none, none, .store (.tmp 20) (.tmp 19) 1⟩, [8, 7, 0, 1, 2, 3, 4, 5, 6], [], 1⟩] 0)
 (.seq (.draw [⟨0, ⟨some 21, none, .mov (.tmp 0)⟩, [], [], 0⟩,
  ⟨1, ⟨some 22, none, .chk (.tmp 21)⟩, [0], [], 0⟩,
  ⟨2, ⟨some 23, none, .load (.tmp 22) 1 false⟩, [1, 0], [], 0⟩,
  ⟨3, ⟨some 24, none, .mov (.tmp 0)⟩, [], [], 0⟩,
  ⟨4, ⟨some 25, none, .chk (.tmp 24)⟩, [3], [], 0⟩,
  ⟨5, ⟨some 26, none, .load (.tmp 25) 1 false⟩, [4, 3], [], 0⟩,
  ⟨6, ⟨some 27, none, .bin .shl (.tmp 26) (.const (.int .u64 17))⟩, [5, 4, 3], [], 0⟩,
  ⟨7, ⟨some 28, none, .bin .xor (.tmp 23) (.tmp 27)⟩, [2, 6, 1, 0, 5, 4, 3], [], 0⟩,
  ⟨8, ⟨some 29, none, .chk (.tmp 21)⟩, [0, 1, 2, 3, 4, 5, 6, 7], [], 0⟩,
  ⟨9, ⟨none, none, .store (.tmp 29) (.tmp 28) 1⟩, [8, 7, 0, 1, 2, 3, 4, 5, 6], [], 1⟩] 0)
 (.seq (.ops [⟨some 30, none, .mov (.tmp 0)⟩,
  ⟨some 31, none, .chk (.tmp 30)⟩,
  ⟨some 32, none, .load (.tmp 31) 1 false⟩,
  ⟨some 2, none, .mov (.tmp 32)⟩])
 .ret)))))
def a44 : AF := ⟨1, 33, [.tmp 2], c44⟩
-- slices.medianAdjacentOrdered[int]
def c45 : AC := (.seq (.ops [⟨some 6, none, .mov (.const (.int .i64 0))⟩])
 (.seq (.ops [⟨some 7, none, .mov (.tmp 0)⟩,
  ⟨some 8, none, .mov (.tmp 1)⟩,
  ⟨some 9, none, .bin .sub (.tmp 8) (.const (.int .i64 1))⟩,
  ⟨some 10, none, .mov (.tmp 1)⟩,
  ⟨some 11, none, .mov (.tmp 1)⟩,
  ⟨some 12, none, .bin .add (.tmp 11) (.const (.int .i64 1))⟩,
  ⟨some 13, none, .mov (.tmp 2)⟩,
  ⟨some 14, none, .call (.func 46) [(.tmp 7), (.tmp 9), (.tmp 10), (.tmp 12), (.tmp 13)]⟩,
  ⟨some 6, none, .mov (.tmp 14)⟩])
 .ret))
def a45 : AF := ⟨3, 15, [.tmp 6], c45⟩
-- slices.medianOrdered[int]
def c46 : AC := (.seq (.ops [⟨some 10, none, .mov (.const (.int .i64 0))⟩])
 (.seq (.ops [⟨some 12, none, .mov (.tmp 0)⟩,
  ⟨some 13, none, .mov (.tmp 1)⟩,
  ⟨some 14, none, .mov (.tmp 2)⟩,
  ⟨some 15, none, .mov (.tmp 4)⟩,
  ⟨some 16, none, .call (.func 49) [(.tmp 12), (.tmp 13), (.tmp 14), (.tmp 15)]⟩,
  ⟨some 11, none, .mov (.tmp 16)⟩,
  ⟨some 17, none, .ext (.tmp 11) 0⟩,
  ⟨some 18, none, .ext (.tmp 11) 1⟩,
  ⟨some 1, none, .mov (.tmp 17)⟩,
  ⟨some 2, none, .mov (.tmp 18)⟩])
 (.seq (.ops [⟨some 20, none, .mov (.tmp 0)⟩,
  ⟨some 21, none, .mov (.tmp 2)⟩,
  ⟨some 22, none, .mov (.tmp 3)⟩,
  ⟨some 23, none, .mov (.tmp 4)⟩,
  ⟨some 24, none, .call (.func 49) [(.tmp 20), (.tmp 21), (.tmp 22), (.tmp 23)]⟩,
  ⟨some 19, none, .mov (.tmp 24)⟩,
  ⟨some 25, none, .ext (.tmp 19) 0⟩,
  ⟨some 26, none, .ext (.tmp 19) 1⟩,
  ⟨some 2, none, .mov (.tmp 25)⟩,
  ⟨some 3, none, .mov (.tmp 26)⟩])
 (.seq (.ops [⟨some 28, none, .mov (.tmp 0)⟩,
  ⟨some 29, none, .mov (.tmp 1)⟩,
  ⟨some 30, none, .mov (.tmp 2)⟩,
  ⟨some 31, none, .mov (.tmp 4)⟩,
  ⟨some 32, none, .call (.func 49) [(.tmp 28), (.tmp 29), (.tmp 30), (.tmp 31)]⟩,
  ⟨some 27, none, .mov (.tmp 32)⟩,
  ⟨some 33, none, .ext (.tmp 27) 0⟩,
  ⟨some 34, none, .ext (.tmp 27) 1⟩,
  ⟨some 1, none, .mov (.tmp 33)⟩,
  ⟨some 2, none, .mov (.tmp 34)⟩])
 (.seq (.ops [⟨some 35, none, .mov (.tmp 2)⟩,
  ⟨some 10, none, .mov (.tmp 35)⟩])
 .ret)))))
def a46 : AF := ⟨5, 36, [.tmp 10], c46⟩
-- cmp.isNaN[int]
def c47 : AC := (.seq (.ops [⟨some 2, none, .mov (.const (.bool false))⟩])
 (.seq (.ops [⟨some 3, none, .mov (.tmp 0)⟩,
  ⟨some 4, none, .mov (.tmp 0)⟩,
  ⟨some 5, none, .bin .neq (.tmp 3) (.tmp 4)⟩,
  ⟨some 2, none, .mov (.tmp 5)⟩])
 .ret))
def a47 : AF := ⟨1, 6, [.tmp 2], c47⟩
-- slices.swapRangeCmpFunc[int]
def c48 : AC := (.seq (.ops [⟨some 10, none, .mov (.const (.int .i64 0))⟩])
 (.block 0 (.loop (.seq (.seq (.ops [⟨some 11, none, .mov (.tmp 10)⟩,
  ⟨some 12, none, .mov (.tmp 3)⟩,
  ⟨some 13, none, .bin .lss (.tmp 11) (.tmp 12)⟩])
 (.cond (.tmp 13) .skip
 (.exit 0)))
 (.seq (.block 1 (.draw [⟨0, ⟨some 16, none, .mov (.tmp 0)⟩, [], [], 0⟩,
  ⟨1, ⟨some 17, none, .mov (.tmp 1)⟩, [], [], 0⟩,
  ⟨2, ⟨some 18, none, .mov (.tmp 10)⟩, [], [], 0⟩,
  ⟨3, ⟨some 19, none, .bin .add (.tmp 17) (.tmp 18)⟩, [1, 2], [], 0⟩,
  ⟨4, ⟨some 20, none, .mov (.tmp 0)⟩, [], [], 1⟩,
  ⟨5, ⟨some 21, none, .mov (.tmp 2)⟩, [], [], 1⟩,
  ⟨6, ⟨some 22, none, .mov (.tmp 10)⟩, [], [], 1⟩,
  ⟨7, ⟨some 23, none, .bin .add (.tmp 21) (.tmp 22)⟩, [5, 6], [], 1⟩,
  ⟨8, ⟨some 24, none, .mov (.tmp 0)⟩, [], [], 0⟩,
  ⟨9, ⟨some 25, none, .mov (.tmp 2)⟩, [], [], 0⟩,
  ⟨10, ⟨some 26, none, .mov (.tmp 10)⟩, [], [], 0⟩,
  ⟨11, ⟨some 27, none, .bin .add (.tmp 25) (.tmp 26)⟩, [9, 10], [], 0⟩,
  ⟨12, ⟨some 28, none, .iaddr (.tmp 24) (.tmp 27) 1⟩, [8, 11, 9, 10], [], 0⟩,
  ⟨13, ⟨some 29, none, .load (.tmp 28) 1 false⟩, [12, 8, 11, 9, 10], [], 0⟩,
  ⟨14, ⟨some 30, none, .mov (.tmp 0)⟩, [], [], 0⟩,
  ⟨15, ⟨some 31, none, .mov (.tmp 1)⟩, [], [], 0⟩,
  ⟨16, ⟨some 32, none, .mov (.tmp 10)⟩, [], [], 0⟩,
  ⟨17, ⟨some 33, none, .bin .add (.tmp 31) (.tmp 32)⟩, [15, 16], [], 0⟩,
  ⟨18, ⟨some 34, none, .iaddr (.tmp 30) (.tmp 33) 1⟩, [14, 17, 15, 16], [], 0⟩,
  ⟨19, ⟨some 35, none, .load (.tmp 34) 1 false⟩, [18, 14, 17, 15, 16], [], 0⟩,
  ⟨20, ⟨some 36, none, .iaddr (.tmp 16) (.tmp 19) 1⟩, [0, 3, 1, 2, 8, 9, 10, 11, 12, 13, 19, 18, 14, 17, 15, 16], [], 0⟩,
  ⟨21, ⟨none, none, .store (.tmp 36) (.tmp 29) 1⟩, [20, 13, 0, 1, 2, 3, 8, 9, 10, 11, 12, 19, 18, 14, 17, 15, 16], [], 1⟩,
  ⟨22, ⟨some 37, none, .iaddr (.tmp 20) (.tmp 23) 1⟩, [4, 7, 0, 1, 2, 3, 5, 6, 8, 9, 10, 11, 12, 13, 14, 15, 16, 17, 18, 19, 20, 21], [], 0⟩,
  ⟨23, ⟨none, none, .store (.tmp 37) (.tmp 35) 1⟩, [22, 19, 21, 0, 1, 2, 3, 4, 5, 6, 7, 8, 9, 10, 11, 12, 13, 14, 15, 16, 17, 18, 20], [], 1⟩] 0))
 (.ops [⟨some 14, none, .mov (.tmp 10)⟩,
  ⟨some 15, none, .bin .add (.tmp 14) (.const (.int .i64 1))⟩,
  ⟨some 10, none, .mov (.tmp 15)⟩]))))))
def a48 : AF := ⟨5, 38, [], c48⟩
-- slices.order2Ordered[int]
def c49 : AC := (.seq (.ops [⟨some 8, none, .mov (.const (.int .i64 0))⟩,
  ⟨some 9, none, .mov (.const (.int .i64 0))⟩])
 (.seq (.seq (.draw [⟨0, ⟨some 10, none, .mov (.tmp 0)⟩, [], [], 0⟩,
  ⟨1, ⟨some 11, none, .mov (.tmp 2)⟩, [], [], 0⟩,
  ⟨2, ⟨some 12, none, .iaddr (.tmp 10) (.tmp 11) 1⟩, [0, 1], [], 0⟩,
  ⟨3, ⟨some 13, none, .load (.tmp 12) 1 false⟩, [2, 0, 1], [], 0⟩,
  ⟨4, ⟨some 14, none, .mov (.tmp 0)⟩, [], [], 0⟩,
  ⟨5, ⟨some 15, none, .mov (.tmp 1)⟩, [], [], 0⟩,
  ⟨6, ⟨some 16, none, .iaddr (.tmp 14) (.tmp 15) 1⟩, [4, 5], [], 0⟩,
  ⟨7, ⟨some 17, none, .load (.tmp 16) 1 false⟩, [6, 4, 5], [], 0⟩,
  ⟨8, ⟨some 18, none, .call (.func 36) [(.tmp 13), (.tmp 17)]⟩, [3, 7, 2, 0, 1, 6, 4, 5], [], 1⟩] 0)
 (.cond (.tmp 18) (.seq (.ops [⟨some 19, none, .mov (.tmp 3)⟩,
  ⟨some 20, none, .chk (.tmp 19)⟩,
  ⟨some 21, none, .load (.tmp 20) 1 false⟩,
  ⟨some 22, none, .bin .add (.tmp 21) (.const (.int .i64 1))⟩,
  ⟨some 23, none, .chk (.tmp 19)⟩,
  ⟨none, none, .store (.tmp 23) (.tmp 22) 1⟩])
 (.seq (.ops [⟨some 24, none, .mov (.tmp 2)⟩,
  ⟨some 25, none, .mov (.tmp 1)⟩,
  ⟨some 8, none, .mov (.tmp 24)⟩,
  ⟨some 9, none, .mov (.tmp 25)⟩])
 .ret))
 .skip))
 (.seq (.ops [⟨some 26, none, .mov (.tmp 1)⟩,
  ⟨some 27, none, .mov (.tmp 2)⟩,
  ⟨some 8, none, .mov (.tmp 26)⟩,
  ⟨some 9, none, .mov (.tmp 27)⟩])
 .ret)))
def a49 : AF := ⟨4, 28, [.tmp 8, .tmp 9], c49⟩

theorem h3 : compF P 3 = some a3 := by kernel_rfl
theorem h4 : compF P 4 = some a4 := by kernel_rfl
theorem h5 : compF P 5 = some a5 := by kernel_rfl
theorem h6 : compF P 6 = some a6 := by kernel_rfl
theorem h7 : compF P 7 = some a7 := by kernel_rfl
theorem h8 : compF P 8 = some a8 := by kernel_rfl
theorem h9 : compF P 9 = some a9 := by kernel_rfl
theorem h10 : compF P 10 = some a10 := by kernel_rfl
theorem h11 : compF P 11 = some a11 := by kernel_rfl
theorem h12 : compF P 12 = some a12 := by kernel_rfl
theorem h13 : compF P 13 = some a13 := by kernel_rfl
theorem h14 : compF P 14 = some a14 := by kernel_rfl
theorem h15 : compF P 15 = some a15 := by kernel_rfl
theorem h16 : compF P 16 = some a16 := by kernel_rfl
theorem h17 : compF P 17 = some a17 := by kernel_rfl
theorem h18 : compF P 18 = some a18 := by kernel_rfl
theorem h19 : compF P 19 = some a19 := by kernel_rfl
theorem h20 : compF P 20 = some a20 := by kernel_rfl
theorem h21 : compF P 21 = some a21 := by kernel_rfl
theorem h22 : compF P 22 = some a22 := by kernel_rfl
theorem h23 : compF P 23 = some a23 := by kernel_rfl
theorem h24 : compF P 24 = some a24 := by kernel_rfl
theorem h25 : compF P 25 = some a25 := by kernel_rfl
theorem h26 : compF P 26 = some a26 := by kernel_rfl
theorem h27 : compF P 27 = some a27 := by kernel_rfl
theorem h28 : compF P 28 = some a28 := by kernel_rfl
theorem h29 : compF P 29 = some a29 := by kernel_rfl
theorem h30 : compF P 30 = some a30 := by kernel_rfl
theorem h31 : compF P 31 = some a31 := by kernel_rfl
theorem h32 : compF P 32 = some a32 := by kernel_rfl
theorem h33 : compF P 33 = some a33 := by kernel_rfl
theorem h34 : compF P 34 = some a34 := by kernel_rfl
theorem h35 : compF P 35 = some a35 := by kernel_rfl
theorem h36 : compF P 36 = some a36 := by kernel_rfl
theorem h37 : compF P 37 = some a37 := by kernel_rfl
theorem h38 : compF P 38 = some a38 := by kernel_rfl
theorem h39 : compF P 39 = some a39 := by kernel_rfl
theorem h40 : compF P 40 = some a40 := by kernel_rfl
theorem h41 : compF P 41 = some a41 := by kernel_rfl
theorem h42 : compF P 42 = some a42 := by kernel_rfl
theorem h43 : compF P 43 = some a43 := by kernel_rfl
theorem h44 : compF P 44 = some a44 := by kernel_rfl
theorem h45 : compF P 45 = some a45 := by kernel_rfl
theorem h46 : compF P 46 = some a46 := by kernel_rfl
theorem h47 : compF P 47 = some a47 := by kernel_rfl
theorem h48 : compF P 48 = some a48 := by kernel_rfl
theorem h49 : compF P 49 = some a49 := by kernel_rfl

def F : Nat → Option AF
  | 3 => some a3
  | 4 => some a4
  | 5 => some a5
  | 6 => some a6
  | 7 => some a7
  | 8 => some a8
  | 9 => some a9
  | 10 => some a10
  | 11 => some a11
  | 12 => some a12
  | 13 => some a13
  | 14 => some a14
  | 15 => some a15
  | 16 => some a16
  | 17 => some a17
  | 18 => some a18
  | 19 => some a19
  | 20 => some a20
  | 21 => some a21
  | 22 => some a22
  | 23 => some a23
  | 24 => some a24
  | 25 => some a25
  | 26 => some a26
  | 27 => some a27
  | 28 => some a28
  | 29 => some a29
  | 30 => some a30
  | 31 => some a31
  | 32 => some a32
  | 33 => some a33
  | 34 => some a34
  | 35 => some a35
  | 36 => some a36
  | 37 => some a37
  | 38 => some a38
  | 39 => some a39
  | 40 => some a40
  | 41 => some a41
  | 42 => some a42
  | 43 => some a43
  | 44 => some a44
  | 45 => some a45
  | 46 => some a46
  | 47 => some a47
  | 48 => some a48
  | 49 => some a49
  | _ => none

theorem hF : ∀ f af, F f = some af → compF P f = some af := by
  intro f af h
  unfold F at h
  split at h
  · cases h; exact h3
  · cases h; exact h4
  · cases h; exact h5
  · cases h; exact h6
  · cases h; exact h7
  · cases h; exact h8
  · cases h; exact h9
  · cases h; exact h10
  · cases h; exact h11
  · cases h; exact h12
  · cases h; exact h13
  · cases h; exact h14
  · cases h; exact h15
  · cases h; exact h16
  · cases h; exact h17
  · cases h; exact h18
  · cases h; exact h19
  · cases h; exact h20
  · cases h; exact h21
  · cases h; exact h22
  · cases h; exact h23
  · cases h; exact h24
  · cases h; exact h25
  · cases h; exact h26
  · cases h; exact h27
  · cases h; exact h28
  · cases h; exact h29
  · cases h; exact h30
  · cases h; exact h31
  · cases h; exact h32
  · cases h; exact h33
  · cases h; exact h34
  · cases h; exact h35
  · cases h; exact h36
  · cases h; exact h37
  · cases h; exact h38
  · cases h; exact h39
  · cases h; exact h40
  · cases h; exact h41
  · cases h; exact h42
  · cases h; exact h43
  · cases h; exact h44
  · cases h; exact h45
  · cases h; exact h46
  · cases h; exact h47
  · cases h; exact h48
  · cases h; exact h49
  · cases h

end Go.Proofs.Ytdhiacdfblakcaa
