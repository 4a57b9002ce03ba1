import Derived.Test.YtbkddpckkgbbmaaGreatDoorProg
import Derived.Test.YtbkddpckkgbbmaaGreatDoorVcI
set_option linter.unusedSimpArgs false
set_option linter.unusedVariables false
set_option linter.unusedSectionVars false
set_option linter.unnecessarySimpa false
namespace Go.VrE
open Go Go.Vc
set_option maxRecDepth 100000
noncomputable def c7 : CC := (.seq (.ops [⟨none, (some 8), (.alloc 4 (.bool false))⟩])
 (.seq (.seq (.ops [⟨none, (some 31), (.call 20 [])⟩, ⟨none, (some 32), (.not (.tmp 31))⟩])
 (.cond (.tmp 32)
 (.seq (.ops [⟨none, none, (.store1 (.tmp 8) (.const (.bool false)))⟩])
 .ret)
 .skip))
 (.seq (.seq (.ops [⟨none, (some 33), (.mv (.tmp 0))⟩, ⟨none, (some 34), (.call 34 [(.tmp 33), (.const (.int .i64 40))])⟩, ⟨none, (some 35), (.not (.tmp 34))⟩, ⟨none, (some 36), (.mv (.tmp 35))⟩, ⟨(some (36, false)), (some 37), (.mv (.tmp 1))⟩, ⟨(some (36, false)), (some 38), (.lenS (.tmp 37))⟩, ⟨(some (36, false)), (some 39), (.iop .gtr (.tmp 38) (.const (.int .i64 400)))⟩, ⟨none, (some 40), (.pick (.tmp 36) (.const (.bool true)) (.tmp 39))⟩])
 (.cond (.tmp 40)
 (.seq (.ops [⟨none, none, (.store1 (.tmp 8) (.const (.bool true)))⟩])
 .ret)
 .skip))
 (.seq (.ops [⟨none, (some 41), (.call 12 [(.const (.slice none 0 0))])⟩, ⟨none, (some 9), (.mv (.tmp 41))⟩, ⟨none, (some 10), (.mv (.const (.slice none 0 0)))⟩])
 (.seq (.seq (.ops [⟨none, (some 42), (.mv (.tmp 0))⟩, ⟨none, (some 43), (.lenL (.tmp 42))⟩, ⟨none, (some 44), (.mv (.const (.int .i64 0)))⟩])
 (.block 0
 (.loop
 (.seq (.ops [⟨none, (some 45), (.iop .lss (.tmp 44) (.tmp 43))⟩])
 (.seq (.cond (.tmp 45)
 .skip
 (.exit 0))
 (.seq (.block 1
 (.seq (.ops [⟨none, (some 46), (.iaddr 11 (.tmp 42) (.tmp 44))⟩, ⟨none, (some 47), (.loadN 11 (.tmp 46))⟩, ⟨none, (some 12), (.alloc 89 (.agg #[(.int .i64 0), (.string (.mk #[])), (.int .u64 0), (.int .u32 0), (.int .u64 0), (.string (.mk #[])), (.string (.mk #[])), (.int .u64 0), (.int .u32 0), (.int .u64 0), (.string (.mk #[]))]))⟩, ⟨none, none, (.storeN 11 (.tmp 12) (.tmp 47))⟩])
 (.seq (.ops [⟨none, (some 13), (.mv (.const (.bool false)))⟩])
 (.seq (.seq (.ops [⟨none, (some 49), (.mv (.tmp 9))⟩, ⟨none, (some 50), (.mkI 26 (.tmp 49))⟩, ⟨none, (some 51), (.mv (.tmp 10))⟩, ⟨none, (some 52), (.loadN 11 (.tmp 12))⟩, ⟨none, (some 53), (.call 35 [(.tmp 50), (.tmp 51), (.tmp 52)])⟩, ⟨none, (some 48), (.mv (.tmp 53))⟩, ⟨none, (some 54), (.ext (.tmp 48) 0)⟩, ⟨none, (some 55), (.ext (.tmp 48) 1)⟩, ⟨none, (some 10), (.mv (.tmp 54))⟩, ⟨none, (some 13), (.mv (.tmp 55))⟩])
 (.seq (.ops [⟨none, (some 56), (.mv (.tmp 13))⟩, ⟨none, (some 57), (.not (.tmp 56))⟩])
 (.cond (.tmp 57)
 (.seq (.ops [⟨none, none, (.store1 (.tmp 8) (.const (.bool false)))⟩])
 .ret)
 .skip)))
 (.seq (.ops [⟨none, (some 14), (.mv (.const (.int .i64 0)))⟩])
 (.seq (.seq (.ops [⟨none, (some 58), (.mv (.tmp 10))⟩, ⟨none, (some 59), (.lenL (.tmp 58))⟩, ⟨none, (some 60), (.mv (.const (.int .i64 0)))⟩])
 (.block 2
 (.loop
 (.seq (.ops [⟨none, (some 61), (.iop .lss (.tmp 60) (.tmp 59))⟩])
 (.seq (.cond (.tmp 61)
 .skip
 (.exit 2))
 (.seq (.block 3
 (.seq (.ops [⟨none, (some 62), (.iaddr 5 (.tmp 58) (.tmp 60))⟩, ⟨none, (some 63), (.loadN 5 (.tmp 62))⟩, ⟨none, (some 16), (.alloc 49 (.agg #[(.string (.mk #[])), (.int .u64 0), (.int .u32 0), (.int .u64 0), (.string (.mk #[]))]))⟩, ⟨none, none, (.storeN 5 (.tmp 16) (.tmp 63))⟩])
 (.seq (.ops [⟨none, (some 65), (.mv (.tmp 9))⟩, ⟨none, (some 66), (.mkI 26 (.tmp 65))⟩, ⟨none, (some 67), (.faddr 0 (.tmp 16))⟩, ⟨none, (some 68), (.load1 (.tmp 67))⟩, ⟨none, (some 69), (.faddr 1 (.tmp 16))⟩, ⟨none, (some 70), (.load1 (.tmp 69))⟩, ⟨none, (some 71), (.call 36 [(.tmp 66), (.tmp 68), (.tmp 70)])⟩, ⟨none, (some 64), (.mv (.tmp 71))⟩, ⟨none, (some 72), (.ext (.tmp 64) 0)⟩, ⟨none, (some 73), (.ext (.tmp 64) 1)⟩, ⟨none, (some 17), (.alloc 49 (.agg #[(.string (.mk #[])), (.int .u64 0), (.int .u32 0), (.int .u64 0), (.string (.mk #[]))]))⟩, ⟨none, none, (.storeN 5 (.tmp 17) (.tmp 72))⟩, ⟨none, (some 18), (.mv (.tmp 73))⟩])
 (.seq (.seq (.ops [⟨none, (some 74), (.mv (.tmp 18))⟩, ⟨none, (some 75), (.iop .neq (.tmp 74) (.const (.int .i64 0)))⟩, ⟨none, (some 76), (.mv (.tmp 75))⟩, ⟨(some (76, false)), (some 77), (.loadN 5 (.tmp 16))⟩, ⟨(some (76, false)), (some 78), (.loadN 5 (.tmp 17))⟩, ⟨(some (76, false)), (some 79), (.raw 186 (.mk (some 79) (.binOp .neq 49 (.tmp 77) (.tmp 78) 49) 4 "law.go:108" #[(.mk 3 .data), (.mk 4 .data), (.mk 2 .guard)] (some (2, false))))⟩, ⟨none, (some 80), (.pick (.tmp 76) (.const (.bool true)) (.tmp 79))⟩])
 (.cond (.tmp 80)
 (.seq (.ops [⟨none, none, (.store1 (.tmp 8) (.const (.bool false)))⟩])
 .ret)
 .skip))
 (.seq (.ops [⟨none, (some 81), (.faddr 3 (.tmp 16))⟩, ⟨none, (some 82), (.load1 (.tmp 81))⟩, ⟨none, (some 83), (.iop .neq (.tmp 82) (.const (.int .u64 0)))⟩])
 (.cond (.tmp 83)
 (.ops [⟨none, (some 84), (.mv (.tmp 14))⟩, ⟨none, (some 85), (.iop .add (.tmp 84) (.const (.int .i64 1)))⟩, ⟨none, (some 14), (.mv (.tmp 85))⟩])
 .skip))))))
 (.ops [⟨none, (some 86), (.iop .add (.tmp 60) (.const (.int .i64 1)))⟩, ⟨none, (some 60), (.mv (.tmp 86))⟩])))))))
 (.seq (.ops [⟨none, (some 19), (.alloc 3 (.int .i64 0))⟩, ⟨none, none, (.store1 (.tmp 19) (.const (.int .i64 0)))⟩])
 (.seq (.seq (.ops [⟨none, (some 87), (.mv (.tmp 9))⟩, ⟨none, (some 88), (.call 37 [(.tmp 87), (.const (.string (.mk #[]))), (.const (.string (.mk #[])))])⟩])
 (.block 4
 (.range (.tmp 88) #[89, 90] (sub (bodyOf Go.Proofs.Tryz.f7) [1, 1, 1, 1, 0, 1, 0, 0, 1, 1, 0, 0, 1, 1, 1, 1, 1, 1, 0, 1, 0, 0]) (sub (bodyOf Go.Proofs.Tryz.f7) [1, 1, 1, 1, 0, 1, 0, 0, 1, 1, 0, 0, 1, 1, 1, 1, 1, 1, 0, 1, 0, 1])
 (.ops [⟨none, (some 20), (.alloc 29 (.agg #[(.string (.mk #[])), (.string (.mk #[]))]))⟩, ⟨none, none, (.storeN 2 (.tmp 20) (.tmp 89))⟩])
 (.block 5
 (.seq (.ops [⟨none, (some 91), (.load1 (.tmp 19))⟩, ⟨none, (some 92), (.iop .add (.tmp 91) (.const (.int .i64 1)))⟩, ⟨none, none, (.store1 (.tmp 19) (.tmp 92))⟩])
 (.seq (.ops [⟨none, (some 94), (.faddr 0 (.tmp 20))⟩, ⟨none, (some 95), (.load1 (.tmp 94))⟩, ⟨none, (some 96), (.call 38 [(.tmp 95)])⟩, ⟨none, (some 93), (.mv (.tmp 96))⟩, ⟨none, (some 97), (.ext (.tmp 93) 0)⟩, ⟨none, (some 98), (.ext (.tmp 93) 1)⟩, ⟨none, (some 21), (.alloc 98 (.agg #[(.string (.mk #[])), (.string (.mk #[])), (.int .u64 0), (.int .u64 0), (.string (.mk #[])), (.int .i64 0), (.string (.mk #[])), (.string (.mk #[])), (.string (.mk #[]))]))⟩, ⟨none, none, (.storeN 9 (.tmp 21) (.tmp 97))⟩, ⟨none, (some 22), (.mv (.tmp 98))⟩])
 (.seq (.ops [⟨none, (some 99), (.mv (.tmp 22))⟩, ⟨none, (some 100), (.iop .neq (.tmp 99) (.const (.int .i64 0)))⟩, ⟨none, (some 101), (.mv (.tmp 100))⟩, ⟨(some (101, false)), (some 102), (.faddr 0 (.tmp 21))⟩, ⟨(some (101, false)), (some 103), (.load1 (.tmp 102))⟩, ⟨(some (101, false)), (some 104), (.sop .eql (.tmp 103) (.const (.string (.mk #[101]))))⟩, ⟨(some (101, false)), (some 105), (.mv (.tmp 104))⟩, ⟨(some (105, true)), (some 106), (.faddr 1 (.tmp 20))⟩, ⟨(some (105, true)), (some 107), (.load1 (.tmp 106))⟩, ⟨(some (105, true)), (some 108), (.sop .neq (.tmp 107) (.const (.string (.mk #[]))))⟩, ⟨(some (101, false)), (some 109), (.pick (.tmp 105) (.tmp 108) (.const (.bool false)))⟩, ⟨none, (some 110), (.pick (.tmp 101) (.const (.bool true)) (.tmp 109))⟩])
 (.cond (.tmp 110)
 (.seq (.ops [⟨none, none, (.store1 (.tmp 8) (.const (.bool false)))⟩])
 .ret)
 .skip))))))))
 (.seq (.ops [⟨none, (some 111), (.load1 (.tmp 19))⟩, ⟨none, (some 112), (.mv (.tmp 10))⟩, ⟨none, (some 113), (.lenL (.tmp 112))⟩, ⟨none, (some 114), (.mv (.tmp 14))⟩, ⟨none, (some 115), (.iop .add (.tmp 113) (.tmp 114))⟩, ⟨none, (some 116), (.iop .neq (.tmp 111) (.tmp 115))⟩])
 (.cond (.tmp 116)
 (.seq (.ops [⟨none, none, (.store1 (.tmp 8) (.const (.bool false)))⟩])
 .ret)
 .skip))))))))))
 (.ops [⟨none, (some 117), (.iop .add (.tmp 44) (.const (.int .i64 1)))⟩, ⟨none, (some 44), (.mv (.tmp 117))⟩])))))))
 (.seq (.ops [⟨none, (some 119), (.mv (.tmp 9))⟩, ⟨none, (some 120), (.mkI 26 (.tmp 119))⟩, ⟨none, (some 121), (.mv (.tmp 1))⟩, ⟨none, (some 122), (.mv (.tmp 2))⟩, ⟨none, (some 123), (.call 40 [(.tmp 120), (.tmp 121), (.tmp 122)])⟩, ⟨none, (some 124), (.call 39 [(.tmp 123)])⟩, ⟨none, (some 118), (.mv (.tmp 124))⟩, ⟨none, (some 125), (.ext (.tmp 118) 0)⟩, ⟨none, (some 126), (.ext (.tmp 118) 1)⟩, ⟨none, (some 23), (.mv (.tmp 125))⟩, ⟨none, (some 24), (.mv (.tmp 126))⟩])
 (.seq (.ops [⟨none, (some 128), (.mv (.tmp 9))⟩, ⟨none, (some 129), (.mkI 26 (.tmp 128))⟩, ⟨none, (some 130), (.mv (.tmp 3))⟩, ⟨none, (some 131), (.call 27 [(.tmp 129), (.tmp 130)])⟩, ⟨none, (some 132), (.call 39 [(.tmp 131)])⟩, ⟨none, (some 127), (.mv (.tmp 132))⟩, ⟨none, (some 133), (.ext (.tmp 127) 0)⟩, ⟨none, (some 134), (.ext (.tmp 127) 1)⟩, ⟨none, (some 25), (.mv (.tmp 133))⟩, ⟨none, (some 26), (.mv (.tmp 134))⟩])
 (.seq (.ops [⟨none, (some 136), (.mv (.tmp 9))⟩, ⟨none, (some 137), (.mkI 26 (.tmp 136))⟩, ⟨none, (some 138), (.mv (.tmp 1))⟩, ⟨none, (some 139), (.call 41 [(.tmp 137), (.tmp 138)])⟩, ⟨none, (some 135), (.mv (.tmp 139))⟩, ⟨none, (some 140), (.ext (.tmp 135) 0)⟩, ⟨none, (some 141), (.ext (.tmp 135) 1)⟩, ⟨none, (some 27), (.mv (.tmp 140))⟩, ⟨none, (some 28), (.mv (.tmp 141))⟩])
 (.seq (.ops [⟨none, (some 143), (.mv (.tmp 9))⟩, ⟨none, (some 144), (.mkI 26 (.tmp 143))⟩, ⟨none, (some 145), (.call 42 [(.const (.string (.mk #[113]))), (.const (.int .i64 300))])⟩, ⟨none, (some 146), (.call 36 [(.tmp 144), (.tmp 145), (.const (.int .u64 1))])⟩, ⟨none, (some 142), (.mv (.tmp 146))⟩, ⟨none, (some 147), (.ext (.tmp 142) 0)⟩, ⟨none, (some 148), (.ext (.tmp 142) 1)⟩, ⟨none, (some 29), (.alloc 49 (.agg #[(.string (.mk #[])), (.int .u64 0), (.int .u32 0), (.int .u64 0), (.string (.mk #[]))]))⟩, ⟨none, none, (.storeN 5 (.tmp 29) (.tmp 147))⟩, ⟨none, (some 30), (.mv (.tmp 148))⟩])
 (.seq (.ops [⟨none, (some 149), (.mv (.tmp 24))⟩, ⟨none, (some 150), (.iop .eql (.tmp 149) (.const (.int .i64 0)))⟩, ⟨none, (some 151), (.mv (.tmp 150))⟩, ⟨(some (151, true)), (some 152), (.mv (.tmp 23))⟩, ⟨(some (151, true)), (some 153), (.mv (.tmp 10))⟩, ⟨(some (151, true)), (some 154), (.mv (.tmp 1))⟩, ⟨(some (151, true)), (some 155), (.mv (.tmp 2))⟩, ⟨(some (151, true)), (some 156), (.call 44 [(.tmp 153), (.tmp 154), (.tmp 155)])⟩, ⟨(some (151, true)), (some 157), (.call 43 [(.tmp 152), (.tmp 156)])⟩, ⟨none, (some 158), (.pick (.tmp 151) (.tmp 157) (.const (.bool false)))⟩, ⟨none, (some 159), (.mv (.tmp 158))⟩, ⟨(some (159, true)), (some 160), (.mv (.tmp 26))⟩, ⟨(some (159, true)), (some 161), (.iop .eql (.tmp 160) (.const (.int .i64 0)))⟩, ⟨none, (some 162), (.pick (.tmp 159) (.tmp 161) (.const (.bool false)))⟩, ⟨none, (some 163), (.mv (.tmp 162))⟩, ⟨(some (163, true)), (some 164), (.mv (.tmp 25))⟩, ⟨(some (163, true)), (some 165), (.mv (.tmp 10))⟩, ⟨(some (163, true)), (some 166), (.mv (.tmp 3))⟩, ⟨(some (163, true)), (some 167), (.call 26 [(.tmp 165), (.tmp 166)])⟩, ⟨(some (163, true)), (some 168), (.call 43 [(.tmp 164), (.tmp 167)])⟩, ⟨none, (some 169), (.pick (.tmp 163) (.tmp 168) (.const (.bool false)))⟩, ⟨none, (some 170), (.mv (.tmp 169))⟩, ⟨(some (170, true)), (some 171), (.mv (.tmp 28))⟩, ⟨(some (170, true)), (some 172), (.iop .eql (.tmp 171) (.const (.int .i64 0)))⟩, ⟨none, (some 173), (.pick (.tmp 170) (.tmp 172) (.const (.bool false)))⟩, ⟨none, (some 174), (.mv (.tmp 173))⟩, ⟨(some (174, true)), (some 175), (.mv (.tmp 27))⟩, ⟨(some (174, true)), (some 176), (.mv (.tmp 10))⟩, ⟨(some (174, true)), (some 177), (.mv (.tmp 1))⟩, ⟨(some (174, true)), (some 178), (.call 44 [(.tmp 176), (.tmp 177), (.const (.int .u64 0))])⟩, ⟨(some (174, true)), (some 179), (.lenL (.tmp 178))⟩, ⟨(some (174, true)), (some 180), (.iop .eql (.tmp 175) (.tmp 179))⟩, ⟨none, (some 181), (.pick (.tmp 174) (.tmp 180) (.const (.bool false)))⟩, ⟨none, (some 182), (.mv (.tmp 181))⟩, ⟨(some (182, true)), (some 183), (.mv (.tmp 30))⟩, ⟨(some (182, true)), (some 184), (.iop .eql (.tmp 183) (.const (.int .i64 21)))⟩, ⟨none, (some 185), (.pick (.tmp 182) (.tmp 184) (.const (.bool false)))⟩, ⟨none, none, (.store1 (.tmp 8) (.tmp 185))⟩])
 .ret))))))))))
abbrev r7 : List RV := [(.c1 8)]
theorem F7 : FnOk Go.Proofs.Tryz.prog 7 186 c7 r7 := ⟨_, Go.Proofs.Tryz.func7, by kernel_rfl, by kernel_rfl, by kernel_rfl, by kernel_rfl, by kernel_rfl⟩

noncomputable def c34 : CC := (.seq (.ops [⟨none, (some 4), (.mv (.const (.bool false)))⟩])
 (.seq (.seq (.ops [⟨none, (some 7), (.mv (.tmp 0))⟩, ⟨none, (some 8), (.lenL (.tmp 7))⟩, ⟨none, (some 9), (.mv (.const (.int .i64 0)))⟩])
 (.block 0
 (.loop
 (.seq (.ops [⟨none, (some 10), (.iop .lss (.tmp 9) (.tmp 8))⟩])
 (.seq (.cond (.tmp 10)
 .skip
 (.exit 0))
 (.seq (.block 1
 (.seq (.ops [⟨none, (some 11), (.iaddr 11 (.tmp 7) (.tmp 9))⟩, ⟨none, (some 12), (.loadN 11 (.tmp 11))⟩, ⟨none, (some 6), (.alloc 89 (.agg #[(.int .i64 0), (.string (.mk #[])), (.int .u64 0), (.int .u32 0), (.int .u64 0), (.string (.mk #[])), (.string (.mk #[])), (.int .u64 0), (.int .u32 0), (.int .u64 0), (.string (.mk #[]))]))⟩, ⟨none, none, (.storeN 11 (.tmp 6) (.tmp 12))⟩])
 (.seq (.ops [⟨none, (some 13), (.mv (.tmp 0))⟩, ⟨none, (some 14), (.lenL (.tmp 13))⟩, ⟨none, (some 15), (.mv (.tmp 1))⟩, ⟨none, (some 16), (.iop .gtr (.tmp 14) (.tmp 15))⟩, ⟨none, (some 17), (.mv (.tmp 16))⟩, ⟨(some (17, false)), (some 18), (.faddr 1 (.tmp 6))⟩, ⟨(some (17, false)), (some 19), (.faddr 0 (.tmp 18))⟩, ⟨(some (17, false)), (some 20), (.load1 (.tmp 19))⟩, ⟨(some (17, false)), (some 21), (.lenS (.tmp 20))⟩, ⟨(some (17, false)), (some 22), (.faddr 6 (.tmp 6))⟩, ⟨(some (17, false)), (some 23), (.faddr 0 (.tmp 22))⟩, ⟨(some (17, false)), (some 24), (.load1 (.tmp 23))⟩, ⟨(some (17, false)), (some 25), (.lenS (.tmp 24))⟩, ⟨(some (17, false)), (some 26), (.raw 42 (.mk (some 26) (.call (.mk (.builtin .max) #[(.tmp 21), (.tmp 25)] #[3, 3])) 3 "law.go:52" #[(.mk 8 .data), (.mk 12 .data), (.mk 4 .guard)] (some (4, false))))⟩, ⟨(some (17, false)), (some 27), (.iop .gtr (.tmp 26) (.const (.int .i64 400)))⟩, ⟨none, (some 28), (.pick (.tmp 17) (.const (.bool true)) (.tmp 27))⟩, ⟨none, (some 29), (.mv (.tmp 28))⟩, ⟨(some (29, false)), (some 30), (.faddr 1 (.tmp 6))⟩, ⟨(some (29, false)), (some 31), (.faddr 4 (.tmp 30))⟩, ⟨(some (29, false)), (some 32), (.load1 (.tmp 31))⟩, ⟨(some (29, false)), (some 33), (.lenS (.tmp 32))⟩, ⟨(some (29, false)), (some 34), (.faddr 6 (.tmp 6))⟩, ⟨(some (29, false)), (some 35), (.faddr 4 (.tmp 34))⟩, ⟨(some (29, false)), (some 36), (.load1 (.tmp 35))⟩, ⟨(some (29, false)), (some 37), (.lenS (.tmp 36))⟩, ⟨(some (29, false)), (some 38), (.raw 42 (.mk (some 38) (.call (.mk (.builtin .max) #[(.tmp 33), (.tmp 37)] #[3, 3])) 3 "law.go:52" #[(.mk 20 .data), (.mk 24 .data), (.mk 16 .guard)] (some (16, false))))⟩, ⟨(some (29, false)), (some 39), (.iop .gtr (.tmp 38) (.const (.int .i64 1000)))⟩, ⟨none, (some 40), (.pick (.tmp 29) (.const (.bool true)) (.tmp 39))⟩])
 (.cond (.tmp 40)
 (.seq (.ops [⟨none, (some 4), (.mv (.const (.bool false)))⟩])
 .ret)
 .skip))))
 (.ops [⟨none, (some 41), (.iop .add (.tmp 9) (.const (.int .i64 1)))⟩, ⟨none, (some 9), (.mv (.tmp 41))⟩])))))))
 (.seq (.ops [⟨none, (some 4), (.mv (.const (.bool true)))⟩])
 .ret)))
abbrev r34 : List RV := [(.tmp 4)]
theorem F34 : FnOk Go.Proofs.Tryz.prog 34 42 c34 r34 := ⟨_, Go.Proofs.Tryz.func34, by kernel_rfl, by kernel_rfl, by kernel_rfl, by kernel_rfl, by kernel_rfl⟩

noncomputable def c35 : CC := (.seq (.ops [⟨none, (some 5), (.box 89 (.tmp 2))⟩, ⟨none, (some 6), (.mv (.const (.slice none 0 0)))⟩, ⟨none, (some 7), (.mv (.const (.bool false)))⟩])
 (.seq (.ops [⟨none, (some 27), (.faddr 1 (.tmp 5))⟩, ⟨none, (some 28), (.loadN 5 (.tmp 27))⟩, ⟨none, (some 8), (.alloc 49 (.agg #[(.string (.mk #[])), (.int .u64 0), (.int .u32 0), (.int .u64 0), (.string (.mk #[]))]))⟩, ⟨none, none, (.storeN 5 (.tmp 8) (.tmp 28))⟩])
 (.seq (.seq (.ops [⟨none, (some 29), (.faddr 0 (.tmp 5))⟩, ⟨none, (some 30), (.load1 (.tmp 29))⟩, ⟨none, (some 31), (.iop .rem (.tmp 30) (.const (.int .i64 5)))⟩])
 (.block 0
 (.seq (.seq (.ops [⟨none, (some 33), (.iop .eql (.tmp 31) (.const (.int .i64 1)))⟩, ⟨none, (some 32), (.mv (.tmp 33))⟩])
 (.cond (.tmp 32)
 .skip
 (.ops [⟨none, (some 34), (.iop .eql (.tmp 31) (.const (.int .i64 (-1))))⟩, ⟨none, (some 32), (.mv (.tmp 34))⟩])))
 (.cond (.tmp 32)
 (.seq (.ops [⟨none, (some 36), (.mv (.tmp 1))⟩, ⟨none, (some 37), (.loadN 5 (.tmp 8))⟩, ⟨none, (some 38), (.call 94 [(.tmp 36), (.tmp 37)])⟩, ⟨none, (some 35), (.mv (.tmp 38))⟩, ⟨none, (some 39), (.ext (.tmp 35) 0)⟩, ⟨none, (some 40), (.ext (.tmp 35) 1)⟩, ⟨none, (some 9), (.mv (.tmp 39))⟩, ⟨none, (some 10), (.mv (.tmp 40))⟩])
 (.seq (.ops [⟨none, (some 41), (.mv (.tmp 9))⟩, ⟨none, (some 42), (.mv (.tmp 0))⟩, ⟨none, (some 43), (.loadN 5 (.tmp 8))⟩, ⟨none, (some 44), (.call 95 [(.tmp 42), (.tmp 43)])⟩, ⟨none, (some 45), (.mv (.tmp 10))⟩, ⟨none, (some 46), (.iop .eql (.tmp 44) (.tmp 45))⟩, ⟨none, (some 6), (.mv (.tmp 41))⟩, ⟨none, (some 7), (.mv (.tmp 46))⟩])
 .ret))
 (.seq (.seq (.ops [⟨none, (some 48), (.iop .eql (.tmp 31) (.const (.int .i64 2)))⟩, ⟨none, (some 47), (.mv (.tmp 48))⟩])
 (.cond (.tmp 47)
 .skip
 (.ops [⟨none, (some 49), (.iop .eql (.tmp 31) (.const (.int .i64 (-2))))⟩, ⟨none, (some 47), (.mv (.tmp 49))⟩])))
 (.cond (.tmp 47)
 (.seq (.ops [⟨none, (some 51), (.mv (.tmp 1))⟩, ⟨none, (some 52), (.faddr 0 (.tmp 8))⟩, ⟨none, (some 53), (.load1 (.tmp 52))⟩, ⟨none, (some 54), (.faddr 1 (.tmp 8))⟩, ⟨none, (some 55), (.load1 (.tmp 54))⟩, ⟨none, (some 56), (.call 96 [(.tmp 51), (.tmp 53), (.tmp 55)])⟩, ⟨none, (some 50), (.mv (.tmp 56))⟩, ⟨none, (some 57), (.ext (.tmp 50) 0)⟩, ⟨none, (some 58), (.ext (.tmp 50) 1)⟩, ⟨none, (some 59), (.ext (.tmp 50) 2)⟩, ⟨none, (some 12), (.alloc 49 (.agg #[(.string (.mk #[])), (.int .u64 0), (.int .u32 0), (.int .u64 0), (.string (.mk #[]))]))⟩, ⟨none, (some 11), (.mv (.tmp 57))⟩, ⟨none, none, (.storeN 5 (.tmp 12) (.tmp 58))⟩, ⟨none, (some 13), (.mv (.tmp 59))⟩])
 (.seq (.ops [⟨none, (some 61), (.mv (.tmp 0))⟩, ⟨none, (some 62), (.faddr 0 (.tmp 8))⟩, ⟨none, (some 63), (.load1 (.tmp 62))⟩, ⟨none, (some 64), (.faddr 1 (.tmp 8))⟩, ⟨none, (some 65), (.load1 (.tmp 64))⟩, ⟨none, (some 66), (.call 97 [(.tmp 61), (.tmp 63), (.tmp 65)])⟩, ⟨none, (some 60), (.mv (.tmp 66))⟩, ⟨none, (some 67), (.ext (.tmp 60) 0)⟩, ⟨none, (some 68), (.ext (.tmp 60) 1)⟩, ⟨none, (some 14), (.alloc 49 (.agg #[(.string (.mk #[])), (.int .u64 0), (.int .u32 0), (.int .u64 0), (.string (.mk #[]))]))⟩, ⟨none, none, (.storeN 5 (.tmp 14) (.tmp 67))⟩, ⟨none, (some 15), (.mv (.tmp 68))⟩])
 (.seq (.ops [⟨none, (some 69), (.mv (.tmp 11))⟩, ⟨none, (some 70), (.loadN 5 (.tmp 12))⟩, ⟨none, (some 71), (.loadN 5 (.tmp 14))⟩, ⟨none, (some 72), (.raw 159 (.mk (some 72) (.binOp .eql 49 (.tmp 70) (.tmp 71) 49) 4 "law.go:69" #[(.mk 1 .data), (.mk 2 .data)] none))⟩, ⟨none, (some 73), (.mv (.tmp 72))⟩, ⟨(some (73, true)), (some 74), (.mv (.tmp 15))⟩, ⟨(some (73, true)), (some 75), (.mv (.tmp 13))⟩, ⟨(some (73, true)), (some 76), (.iop .eql (.tmp 74) (.tmp 75))⟩, ⟨none, (some 77), (.pick (.tmp 73) (.tmp 76) (.const (.bool false)))⟩, ⟨none, (some 6), (.mv (.tmp 69))⟩, ⟨none, (some 7), (.mv (.tmp 77))⟩])
 .ret)))
 (.seq (.seq (.ops [⟨none, (some 79), (.iop .eql (.tmp 31) (.const (.int .i64 3)))⟩, ⟨none, (some 78), (.mv (.tmp 79))⟩])
 (.cond (.tmp 78)
 .skip
 (.ops [⟨none, (some 80), (.iop .eql (.tmp 31) (.const (.int .i64 (-3))))⟩, ⟨none, (some 78), (.mv (.tmp 80))⟩])))
 (.cond (.tmp 78)
 (.seq (.ops [⟨none, (some 82), (.mv (.tmp 1))⟩, ⟨none, (some 83), (.faddr 0 (.tmp 8))⟩, ⟨none, (some 84), (.load1 (.tmp 83))⟩, ⟨none, (some 85), (.faddr 1 (.tmp 8))⟩, ⟨none, (some 86), (.load1 (.tmp 85))⟩, ⟨none, (some 87), (.call 96 [(.tmp 82), (.tmp 84), (.tmp 86)])⟩, ⟨none, (some 81), (.mv (.tmp 87))⟩, ⟨none, (some 88), (.ext (.tmp 81) 0)⟩, ⟨none, (some 89), (.ext (.tmp 81) 1)⟩, ⟨none, (some 90), (.ext (.tmp 81) 2)⟩, ⟨none, (some 17), (.alloc 49 (.agg #[(.string (.mk #[])), (.int .u64 0), (.int .u32 0), (.int .u64 0), (.string (.mk #[]))]))⟩, ⟨none, (some 16), (.mv (.tmp 88))⟩, ⟨none, none, (.storeN 5 (.tmp 17) (.tmp 89))⟩, ⟨none, (some 18), (.mv (.tmp 90))⟩])
 (.seq (.seq (.ops [⟨none, (some 91), (.mv (.tmp 18))⟩, ⟨none, (some 92), (.iop .eql (.tmp 91) (.const (.int .i64 0)))⟩])
 (.cond (.tmp 92)
 (.ops [⟨none, (some 94), (.mv (.tmp 16))⟩, ⟨none, (some 95), (.faddr 6 (.tmp 5))⟩, ⟨none, (some 96), (.loadN 5 (.tmp 95))⟩, ⟨none, (some 97), (.call 21 [(.tmp 94), (.tmp 96)])⟩, ⟨none, (some 93), (.mv (.tmp 97))⟩, ⟨none, (some 98), (.ext (.tmp 93) 0)⟩, ⟨none, (some 99), (.ext (.tmp 93) 1)⟩, ⟨none, (some 16), (.mv (.tmp 98))⟩, ⟨none, (some 18), (.mv (.tmp 99))⟩])
 .skip))
 (.seq (.ops [⟨none, (some 100), (.mv (.tmp 16))⟩, ⟨none, (some 101), (.mv (.tmp 0))⟩, ⟨none, (some 102), (.loadN 5 (.tmp 8))⟩, ⟨none, (some 103), (.faddr 6 (.tmp 5))⟩, ⟨none, (some 104), (.loadN 5 (.tmp 103))⟩, ⟨none, (some 105), (.call 98 [(.tmp 101), (.tmp 102), (.tmp 104)])⟩, ⟨none, (some 106), (.mv (.tmp 18))⟩, ⟨none, (some 107), (.iop .eql (.tmp 105) (.tmp 106))⟩, ⟨none, (some 6), (.mv (.tmp 100))⟩, ⟨none, (some 7), (.mv (.tmp 107))⟩])
 .ret)))
 (.seq (.seq (.ops [⟨none, (some 109), (.iop .eql (.tmp 31) (.const (.int .i64 4)))⟩, ⟨none, (some 108), (.mv (.tmp 109))⟩])
 (.cond (.tmp 108)
 .skip
 (.ops [⟨none, (some 110), (.iop .eql (.tmp 31) (.const (.int .i64 (-4))))⟩, ⟨none, (some 108), (.mv (.tmp 110))⟩])))
 (.cond (.tmp 108)
 (.seq (.ops [⟨none, (some 111), (.mv (.tmp 1))⟩, ⟨none, (some 112), (.faddr 0 (.tmp 8))⟩, ⟨none, (some 113), (.load1 (.tmp 112))⟩, ⟨none, (some 114), (.call 44 [(.tmp 111), (.tmp 113), (.const (.int .u64 0))])⟩, ⟨none, (some 115), (.lenL (.tmp 114))⟩, ⟨none, (some 19), (.mv (.tmp 115))⟩])
 (.seq (.ops [⟨none, (some 20), (.mv (.const (.slice none 0 0)))⟩])
 (.seq (.seq (.ops [⟨none, (some 116), (.mv (.tmp 1))⟩, ⟨none, (some 117), (.lenL (.tmp 116))⟩, ⟨none, (some 118), (.mv (.const (.int .i64 0)))⟩])
 (.block 1
 (.loop
 (.seq (.ops [⟨none, (some 119), (.iop .lss (.tmp 118) (.tmp 117))⟩])
 (.seq (.cond (.tmp 119)
 .skip
 (.exit 1))
 (.seq (.block 2
 (.seq (.ops [⟨none, (some 120), (.iaddr 5 (.tmp 116) (.tmp 118))⟩, ⟨none, (some 121), (.loadN 5 (.tmp 120))⟩, ⟨none, (some 22), (.alloc 49 (.agg #[(.string (.mk #[])), (.int .u64 0), (.int .u32 0), (.int .u64 0), (.string (.mk #[]))]))⟩, ⟨none, none, (.storeN 5 (.tmp 22) (.tmp 121))⟩])
 (.seq (.ops [⟨none, (some 122), (.faddr 0 (.tmp 22))⟩, ⟨none, (some 123), (.load1 (.tmp 122))⟩, ⟨none, (some 124), (.faddr 0 (.tmp 8))⟩, ⟨none, (some 125), (.load1 (.tmp 124))⟩, ⟨none, (some 126), (.sop .neq (.tmp 123) (.tmp 125))⟩])
 (.cond (.tmp 126)
 (.ops [⟨none, (some 127), (.mv (.tmp 20))⟩, ⟨none, (some 128), (.loadN 5 (.tmp 22))⟩, ⟨none, (some 129), (.buildS 49 1 [(.string (.mk #[])), (.int .u64 0), (.int .u32 0), (.int .u64 0), (.string (.mk #[]))] [(0, (5, (.tmp 128)))])⟩, ⟨none, (some 130), (.raw 159 (.mk (some 130) (.call (.mk (.builtin .append) #[(.tmp 127), (.tmp 129)] #[50, 50])) 50 "law.go:81" #[(.mk 0 .data), (.mk 2 .data)] none))⟩, ⟨none, (some 20), (.mv (.tmp 130))⟩])
 .skip))))
 (.ops [⟨none, (some 131), (.iop .add (.tmp 118) (.const (.int .i64 1)))⟩, ⟨none, (some 118), (.mv (.tmp 131))⟩])))))))
 (.seq (.ops [⟨none, (some 133), (.mv (.tmp 0))⟩, ⟨none, (some 134), (.faddr 0 (.tmp 8))⟩, ⟨none, (some 135), (.load1 (.tmp 134))⟩, ⟨none, (some 136), (.call 99 [(.tmp 133), (.tmp 135)])⟩, ⟨none, (some 132), (.mv (.tmp 136))⟩, ⟨none, (some 137), (.ext (.tmp 132) 0)⟩, ⟨none, (some 138), (.ext (.tmp 132) 1)⟩, ⟨none, (some 23), (.mv (.tmp 137))⟩, ⟨none, (some 24), (.mv (.tmp 138))⟩])
 (.seq (.ops [⟨none, (some 139), (.mv (.tmp 20))⟩, ⟨none, (some 140), (.mv (.tmp 23))⟩, ⟨none, (some 141), (.mv (.tmp 19))⟩, ⟨none, (some 142), (.iop .eql (.tmp 140) (.tmp 141))⟩, ⟨none, (some 143), (.mv (.tmp 142))⟩, ⟨(some (143, true)), (some 144), (.mv (.tmp 24))⟩, ⟨(some (143, true)), (some 145), (.iop .eql (.tmp 144) (.const (.int .i64 0)))⟩, ⟨none, (some 146), (.pick (.tmp 143) (.tmp 145) (.const (.bool false)))⟩, ⟨none, (some 6), (.mv (.tmp 139))⟩, ⟨none, (some 7), (.mv (.tmp 146))⟩])
 .ret)))))
 .skip))))))))))
 (.seq (.ops [⟨none, (some 148), (.mv (.tmp 1))⟩, ⟨none, (some 149), (.loadN 5 (.tmp 8))⟩, ⟨none, (some 150), (.call 21 [(.tmp 148), (.tmp 149)])⟩, ⟨none, (some 147), (.mv (.tmp 150))⟩, ⟨none, (some 151), (.ext (.tmp 147) 0)⟩, ⟨none, (some 152), (.ext (.tmp 147) 1)⟩, ⟨none, (some 25), (.mv (.tmp 151))⟩, ⟨none, (some 26), (.mv (.tmp 152))⟩])
 (.seq (.ops [⟨none, (some 153), (.mv (.tmp 25))⟩, ⟨none, (some 154), (.mv (.tmp 0))⟩, ⟨none, (some 155), (.loadN 5 (.tmp 8))⟩, ⟨none, (some 156), (.call 22 [(.tmp 154), (.tmp 155)])⟩, ⟨none, (some 157), (.mv (.tmp 26))⟩, ⟨none, (some 158), (.iop .eql (.tmp 156) (.tmp 157))⟩, ⟨none, (some 6), (.mv (.tmp 153))⟩, ⟨none, (some 7), (.mv (.tmp 158))⟩])
 .ret)))))
abbrev r35 : List RV := [(.tmp 6), (.tmp 7)]
theorem F35 : FnOk Go.Proofs.Tryz.prog 35 159 c35 r35 := ⟨_, Go.Proofs.Tryz.func35, by kernel_rfl, by kernel_rfl, by kernel_rfl, by kernel_rfl, by kernel_rfl⟩

noncomputable def c40 : CC := (.seq (.ops [⟨none, (some 6), (.mv (.const .nilFunc))⟩])
 (.seq (.ops [⟨none, (some 10), (.mv (.tmp 1))⟩, ⟨none, (some 11), (.mv (.tmp 2))⟩, ⟨none, (some 12), (.call 109 [(.tmp 10), (.tmp 11)])⟩, ⟨none, (some 9), (.mv (.tmp 12))⟩, ⟨none, (some 13), (.ext (.tmp 9) 0)⟩, ⟨none, (some 14), (.ext (.tmp 9) 1)⟩, ⟨none, (some 7), (.mv (.tmp 13))⟩, ⟨none, (some 8), (.mv (.tmp 14))⟩])
 (.seq (.seq (.ops [⟨none, (some 15), (.mv (.tmp 7))⟩, ⟨none, (some 16), (.sop .eql (.tmp 15) (.const (.string (.mk #[]))))⟩])
 (.cond (.tmp 16)
 (.seq (.ops [⟨none, (some 6), (.mv (.func 110))⟩])
 .ret)
 .skip))
 (.seq (.ops [⟨none, (some 17), (.mv (.tmp 0))⟩, ⟨none, (some 18), (.mv (.tmp 7))⟩, ⟨none, (some 19), (.mv (.tmp 8))⟩, ⟨none, (some 20), (.inv (.tmp 17) "Range" [(.tmp 18), (.tmp 19)])⟩, ⟨none, (some 21), (.call 70 [(.tmp 20), (.func 111)])⟩, ⟨none, (some 6), (.mv (.tmp 21))⟩])
 .ret))))
abbrev r40 : List RV := [(.tmp 6)]
theorem F40 : FnOk Go.Proofs.Tryz.prog 40 22 c40 r40 := ⟨_, Go.Proofs.Tryz.func40, by kernel_rfl, by kernel_rfl, by kernel_rfl, by kernel_rfl, by kernel_rfl⟩

noncomputable def c41 : CC := (.seq (.ops [⟨none, (some 4), (.alloc 3 (.int .i64 0))⟩, ⟨none, (some 5), (.alloc 23 (.int .i64 0))⟩])
 (.seq (.ops [⟨none, (some 6), (.alloc 3 (.int .i64 0))⟩, ⟨none, none, (.store1 (.tmp 6) (.const (.int .i64 0)))⟩])
 (.seq (.seq (.ops [⟨none, (some 9), (.mv (.tmp 0))⟩, ⟨none, (some 10), (.mv (.tmp 1))⟩, ⟨none, (some 11), (.call 40 [(.tmp 9), (.tmp 10), (.const (.int .u64 0))])⟩])
 (.block 0
 (.range (.tmp 11) #[12, 13] (sub (bodyOf Go.Proofs.Tryz.f41) [1, 1, 0, 1, 0, 0]) (sub (bodyOf Go.Proofs.Tryz.f41) [1, 1, 0, 1, 0, 1])
 (.ops [⟨none, (some 8), (.mv (.tmp 13))⟩])
 (.block 1
 (.seq (.seq (.ops [⟨none, (some 14), (.mv (.tmp 8))⟩, ⟨none, (some 15), (.iop .neq (.tmp 14) (.const (.int .i64 0)))⟩])
 (.cond (.tmp 15)
 (.seq (.ops [⟨none, (some 16), (.mv (.tmp 8))⟩, ⟨none, none, (.store1 (.tmp 4) (.const (.int .i64 0)))⟩, ⟨none, none, (.store1 (.tmp 5) (.tmp 16))⟩])
 .ret)
 .skip))
 (.ops [⟨none, (some 17), (.load1 (.tmp 6))⟩, ⟨none, (some 18), (.iop .add (.tmp 17) (.const (.int .i64 1)))⟩, ⟨none, none, (.store1 (.tmp 6) (.tmp 18))⟩]))))))
 (.seq (.ops [⟨none, (some 19), (.load1 (.tmp 6))⟩, ⟨none, none, (.store1 (.tmp 4) (.tmp 19))⟩, ⟨none, none, (.store1 (.tmp 5) (.const (.int .i64 0)))⟩])
 .ret))))
abbrev r41 : List RV := [(.c1 4), (.c1 5)]
theorem F41 : FnOk Go.Proofs.Tryz.prog 41 20 c41 r41 := ⟨_, Go.Proofs.Tryz.func41, by kernel_rfl, by kernel_rfl, by kernel_rfl, by kernel_rfl, by kernel_rfl⟩

noncomputable def c110 : CC := .skip
abbrev r110 : List RV := []
theorem F110 : FnOk Go.Proofs.Tryz.prog 110 2 c110 r110 := ⟨_, Go.Proofs.Tryz.func110, by kernel_rfl, by kernel_rfl, by kernel_rfl, by kernel_rfl, by kernel_rfl⟩

noncomputable def c111 : CC := (.seq (.ops [⟨none, (some 2), (.box 98 (.tmp 0))⟩, ⟨none, (some 4), (.alloc 49 (.agg #[(.string (.mk #[])), (.int .u64 0), (.int .u32 0), (.int .u64 0), (.string (.mk #[]))]))⟩, ⟨none, (some 5), (.mv (.const (.int .i64 0)))⟩])
 (.seq (.ops [⟨none, (some 6), (.faddr 1 (.tmp 2))⟩, ⟨none, (some 7), (.load1 (.tmp 6))⟩, ⟨none, (some 8), (.faddr 2 (.tmp 2))⟩, ⟨none, (some 9), (.load1 (.tmp 8))⟩, ⟨none, (some 10), (.call 101 [(.tmp 7), (.tmp 9)])⟩, ⟨none, (some 11), (.mv (.tmp 1))⟩, ⟨none, (some 12), (.call 102 [(.tmp 10), (.tmp 11)])⟩, ⟨none, (some 13), (.ext (.tmp 12) 0)⟩, ⟨none, (some 14), (.ext (.tmp 12) 1)⟩, ⟨none, none, (.storeN 5 (.tmp 4) (.tmp 13))⟩, ⟨none, (some 5), (.mv (.tmp 14))⟩])
 .ret))
abbrev r111 : List RV := [(.cN 4 5), (.tmp 5)]
theorem F111 : FnOk Go.Proofs.Tryz.prog 111 15 c111 r111 := ⟨_, Go.Proofs.Tryz.func111, by kernel_rfl, by kernel_rfl, by kernel_rfl, by kernel_rfl, by kernel_rfl⟩

noncomputable def c109 : CC := (.seq (.ops [⟨none, (some 4), (.mv (.const (.string (.mk #[]))))⟩, ⟨none, (some 5), (.mv (.const (.string (.mk #[]))))⟩])
 (.seq (.ops [⟨none, (some 11), (.mv (.tmp 0))⟩, ⟨none, (some 12), (.call 51 [(.tmp 11)])⟩, ⟨none, (some 13), (.buildS 118 1 [(.bool false), (.int .u64 0), (.string (.mk #[]))] [(0, (3, (.tmp 12)))])⟩, ⟨none, (some 14), (.call 69 [(.const (.string (.mk #[109]))), (.tmp 13)])⟩, ⟨none, (some 10), (.mv (.tmp 14))⟩, ⟨none, (some 15), (.ext (.tmp 10) 0)⟩, ⟨none, (some 16), (.ext (.tmp 10) 1)⟩, ⟨none, (some 6), (.mv (.tmp 15))⟩, ⟨none, (some 7), (.mv (.tmp 16))⟩])
 (.seq (.ops [⟨none, (some 18), (.mv (.tmp 0))⟩, ⟨none, (some 19), (.mv (.tmp 1))⟩, ⟨none, (some 20), (.call 100 [(.tmp 18), (.tmp 19)])⟩, ⟨none, (some 17), (.mv (.tmp 20))⟩, ⟨none, (some 21), (.ext (.tmp 17) 0)⟩, ⟨none, (some 22), (.ext (.tmp 17) 1)⟩, ⟨none, (some 8), (.mv (.tmp 21))⟩, ⟨none, (some 9), (.mv (.tmp 22))⟩])
 (.seq (.ops [⟨none, (some 23), (.mv (.tmp 8))⟩, ⟨none, (some 24), (.mv (.tmp 7))⟩, ⟨none, (some 4), (.mv (.tmp 23))⟩, ⟨none, (some 5), (.mv (.tmp 24))⟩])
 .ret))))
abbrev r109 : List RV := [(.tmp 4), (.tmp 5)]
theorem F109 : FnOk Go.Proofs.Tryz.prog 109 25 c109 r109 := ⟨_, Go.Proofs.Tryz.func109, by kernel_rfl, by kernel_rfl, by kernel_rfl, by kernel_rfl, by kernel_rfl⟩

noncomputable def c95 : CC := (.seq (.ops [⟨none, (some 3), (.box 49 (.tmp 1))⟩, ⟨none, (some 4), (.mv (.const (.int .i64 0)))⟩])
 (.seq (.ops [⟨none, (some 12), (.mv (.tmp 0))⟩, ⟨none, (some 13), (.faddr 0 (.tmp 3))⟩, ⟨none, (some 14), (.load1 (.tmp 13))⟩, ⟨none, (some 15), (.faddr 1 (.tmp 3))⟩, ⟨none, (some 16), (.load1 (.tmp 15))⟩, ⟨none, (some 17), (.call 36 [(.tmp 12), (.tmp 14), (.tmp 16)])⟩, ⟨none, (some 11), (.mv (.tmp 17))⟩, ⟨none, (some 18), (.ext (.tmp 11) 0)⟩, ⟨none, (some 19), (.ext (.tmp 11) 1)⟩, ⟨none, (some 5), (.alloc 49 (.agg #[(.string (.mk #[])), (.int .u64 0), (.int .u32 0), (.int .u64 0), (.string (.mk #[]))]))⟩, ⟨none, none, (.storeN 5 (.tmp 5) (.tmp 18))⟩, ⟨none, (some 6), (.mv (.tmp 19))⟩])
 (.seq (.seq (.ops [⟨none, (some 20), (.mv (.tmp 6))⟩, ⟨none, (some 21), (.iop .neq (.tmp 20) (.const (.int .i64 0)))⟩])
 (.cond (.tmp 21)
 (.seq (.ops [⟨none, (some 22), (.mv (.tmp 6))⟩, ⟨none, (some 4), (.mv (.tmp 22))⟩])
 .ret)
 .skip))
 (.seq (.seq (.ops [⟨none, (some 24), (.loadN 5 (.tmp 3))⟩, ⟨none, (some 25), (.call 65 [(.tmp 24)])⟩, ⟨none, (some 23), (.mv (.tmp 25))⟩, ⟨none, (some 26), (.ext (.tmp 23) 0)⟩, ⟨none, (some 27), (.ext (.tmp 23) 1)⟩, ⟨none, (some 28), (.ext (.tmp 23) 2)⟩, ⟨none, (some 7), (.mv (.tmp 26))⟩, ⟨none, (some 8), (.mv (.tmp 27))⟩, ⟨none, (some 9), (.mv (.tmp 28))⟩])
 (.seq (.ops [⟨none, (some 29), (.mv (.tmp 9))⟩, ⟨none, (some 30), (.iop .neq (.tmp 29) (.const (.int .i64 0)))⟩])
 (.cond (.tmp 30)
 (.seq (.ops [⟨none, (some 31), (.mv (.tmp 9))⟩, ⟨none, (some 4), (.mv (.tmp 31))⟩])
 .ret)
 .skip)))
 (.seq (.seq (.ops [⟨none, (some 32), (.faddr 3 (.tmp 5))⟩, ⟨none, (some 33), (.load1 (.tmp 32))⟩, ⟨none, (some 34), (.faddr 3 (.tmp 3))⟩, ⟨none, (some 35), (.load1 (.tmp 34))⟩, ⟨none, (some 36), (.iop .neq (.tmp 33) (.tmp 35))⟩])
 (.cond (.tmp 36)
 (.seq (.ops [⟨none, (some 37), (.mv (.tmp 0))⟩, ⟨none, (some 38), (.loadN 5 (.tmp 5))⟩, ⟨none, (some 39), (.call 160 [(.tmp 37), (.tmp 38)])⟩, ⟨none, (some 10), (.mv (.tmp 39))⟩])
 (.seq (.ops [⟨none, (some 40), (.mv (.tmp 10))⟩, ⟨none, (some 41), (.iop .neq (.tmp 40) (.const (.int .i64 0)))⟩])
 (.cond (.tmp 41)
 (.seq (.ops [⟨none, (some 42), (.mv (.tmp 10))⟩, ⟨none, (some 4), (.mv (.tmp 42))⟩])
 .ret)
 .skip)))
 .skip))
 (.seq (.ops [⟨none, (some 43), (.mv (.tmp 0))⟩, ⟨none, (some 44), (.loadN 5 (.tmp 3))⟩, ⟨none, (some 45), (.call 66 [(.tmp 43), (.tmp 44)])⟩, ⟨none, (some 4), (.mv (.tmp 45))⟩])
 .ret))))))
abbrev r95 : List RV := [(.tmp 4)]
theorem F95 : FnOk Go.Proofs.Tryz.prog 95 46 c95 r95 := ⟨_, Go.Proofs.Tryz.func95, by kernel_rfl, by kernel_rfl, by kernel_rfl, by kernel_rfl, by kernel_rfl⟩

noncomputable def c97 : CC := (.seq (.ops [⟨none, (some 6), (.alloc 49 (.agg #[(.string (.mk #[])), (.int .u64 0), (.int .u32 0), (.int .u64 0), (.string (.mk #[]))]))⟩, ⟨none, (some 7), (.mv (.const (.int .i64 0)))⟩])
 (.seq (.ops [⟨none, (some 11), (.mv (.tmp 0))⟩, ⟨none, (some 12), (.mv (.tmp 1))⟩, ⟨none, (some 13), (.mv (.tmp 2))⟩, ⟨none, (some 14), (.call 36 [(.tmp 11), (.tmp 12), (.tmp 13)])⟩, ⟨none, (some 10), (.mv (.tmp 14))⟩, ⟨none, (some 15), (.ext (.tmp 10) 0)⟩, ⟨none, (some 16), (.ext (.tmp 10) 1)⟩, ⟨none, (some 8), (.alloc 49 (.agg #[(.string (.mk #[])), (.int .u64 0), (.int .u32 0), (.int .u64 0), (.string (.mk #[]))]))⟩, ⟨none, none, (.storeN 5 (.tmp 8) (.tmp 15))⟩, ⟨none, (some 9), (.mv (.tmp 16))⟩])
 (.seq (.seq (.ops [⟨none, (some 17), (.mv (.tmp 9))⟩, ⟨none, (some 18), (.iop .eql (.tmp 17) (.const (.int .i64 0)))⟩])
 (.cond (.tmp 18)
 (.ops [⟨none, (some 19), (.mv (.tmp 0))⟩, ⟨none, (some 20), (.loadN 5 (.tmp 8))⟩, ⟨none, (some 21), (.call 160 [(.tmp 19), (.tmp 20)])⟩, ⟨none, (some 9), (.mv (.tmp 21))⟩])
 .skip))
 (.seq (.seq (.ops [⟨none, (some 22), (.mv (.tmp 9))⟩, ⟨none, (some 23), (.iop .neq (.tmp 22) (.const (.int .i64 0)))⟩])
 (.cond (.tmp 23)
 (.seq (.ops [⟨none, (some 24), (.build [(.string (.mk #[])), (.int .u64 0), (.int .u32 0), (.int .u64 0), (.string (.mk #[]))] [])⟩, ⟨none, (some 25), (.mv (.tmp 9))⟩, ⟨none, none, (.storeN 5 (.tmp 6) (.tmp 24))⟩, ⟨none, (some 7), (.mv (.tmp 25))⟩])
 .ret)
 .skip))
 (.seq (.ops [⟨none, (some 26), (.loadN 5 (.tmp 8))⟩, ⟨none, none, (.storeN 5 (.tmp 6) (.tmp 26))⟩, ⟨none, (some 7), (.mv (.const (.int .i64 0)))⟩])
 .ret)))))
abbrev r97 : List RV := [(.cN 6 5), (.tmp 7)]
theorem F97 : FnOk Go.Proofs.Tryz.prog 97 27 c97 r97 := ⟨_, Go.Proofs.Tryz.func97, by kernel_rfl, by kernel_rfl, by kernel_rfl, by kernel_rfl, by kernel_rfl⟩

noncomputable def c98 : CC := (.seq (.ops [⟨none, (some 4), (.box 49 (.tmp 1))⟩, ⟨none, (some 5), (.box 49 (.tmp 2))⟩, ⟨none, (some 6), (.mv (.const (.int .i64 0)))⟩])
 (.seq (.seq (.ops [⟨none, (some 10), (.mv (.tmp 0))⟩, ⟨none, (some 11), (.faddr 0 (.tmp 4))⟩, ⟨none, (some 12), (.load1 (.tmp 11))⟩, ⟨none, (some 13), (.faddr 1 (.tmp 4))⟩, ⟨none, (some 14), (.load1 (.tmp 13))⟩, ⟨none, (some 15), (.call 97 [(.tmp 10), (.tmp 12), (.tmp 14)])⟩, ⟨none, (some 9), (.mv (.tmp 15))⟩, ⟨none, (some 16), (.ext (.tmp 9) 0)⟩, ⟨none, (some 17), (.ext (.tmp 9) 1)⟩, ⟨none, (some 7), (.alloc 49 (.agg #[(.string (.mk #[])), (.int .u64 0), (.int .u32 0), (.int .u64 0), (.string (.mk #[]))]))⟩, ⟨none, none, (.storeN 5 (.tmp 7) (.tmp 16))⟩, ⟨none, (some 8), (.mv (.tmp 17))⟩])
 (.seq (.ops [⟨none, (some 18), (.mv (.tmp 8))⟩, ⟨none, (some 19), (.iop .neq (.tmp 18) (.const (.int .i64 0)))⟩])
 (.cond (.tmp 19)
 (.seq (.ops [⟨none, (some 20), (.mv (.tmp 8))⟩, ⟨none, (some 6), (.mv (.tmp 20))⟩])
 .ret)
 .skip)))
 (.seq (.ops [⟨none, (some 21), (.mv (.tmp 0))⟩, ⟨none, (some 22), (.loadN 5 (.tmp 5))⟩, ⟨none, (some 23), (.call 22 [(.tmp 21), (.tmp 22)])⟩, ⟨none, (some 6), (.mv (.tmp 23))⟩])
 .ret)))
abbrev r98 : List RV := [(.tmp 6)]
theorem F98 : FnOk Go.Proofs.Tryz.prog 98 24 c98 r98 := ⟨_, Go.Proofs.Tryz.func98, by kernel_rfl, by kernel_rfl, by kernel_rfl, by kernel_rfl, by kernel_rfl⟩

noncomputable def c99 : CC := (.seq (.ops [⟨none, (some 4), (.alloc 3 (.int .i64 0))⟩, ⟨none, (some 5), (.alloc 23 (.int .i64 0))⟩])
 (.seq (.ops [⟨none, (some 6), (.alloc 47 (.slice none 0 0))⟩])
 (.seq (.seq (.ops [⟨none, (some 12), (.mv (.tmp 0))⟩, ⟨none, (some 13), (.mv (.tmp 1))⟩, ⟨none, (some 14), (.call 40 [(.tmp 12), (.tmp 13), (.const (.int .u64 0))])⟩])
 (.block 0
 (.range (.tmp 14) #[15, 16] (sub (bodyOf Go.Proofs.Tryz.f99) [1, 1, 0, 1, 0, 0]) (sub (bodyOf Go.Proofs.Tryz.f99) [1, 1, 0, 1, 0, 1])
 (.seq (.ops [⟨none, (some 7), (.alloc 49 (.agg #[(.string (.mk #[])), (.int .u64 0), (.int .u32 0), (.int .u64 0), (.string (.mk #[]))]))⟩, ⟨none, none, (.storeN 5 (.tmp 7) (.tmp 15))⟩])
 (.ops [⟨none, (some 8), (.mv (.tmp 16))⟩]))
 (.block 1
 (.seq (.seq (.ops [⟨none, (some 17), (.mv (.tmp 8))⟩, ⟨none, (some 18), (.iop .neq (.tmp 17) (.const (.int .i64 0)))⟩])
 (.cond (.tmp 18)
 (.seq (.ops [⟨none, (some 19), (.mv (.tmp 8))⟩, ⟨none, none, (.store1 (.tmp 4) (.const (.int .i64 0)))⟩, ⟨none, none, (.store1 (.tmp 5) (.tmp 19))⟩])
 .ret)
 .skip))
 (.ops [⟨none, (some 20), (.load1 (.tmp 6))⟩, ⟨none, (some 21), (.loadN 5 (.tmp 7))⟩, ⟨none, (some 22), (.buildS 49 1 [(.string (.mk #[])), (.int .u64 0), (.int .u32 0), (.int .u64 0), (.string (.mk #[]))] [(0, (5, (.tmp 21)))])⟩, ⟨none, (some 23), (.raw 39 (.mk (some 23) (.call (.mk (.builtin .append) #[(.tmp 20), (.tmp 22)] #[47, 47])) 47 "message.go:188" #[(.mk 0 .data), (.mk 2 .data)] none))⟩, ⟨none, none, (.store1 (.tmp 6) (.tmp 23))⟩]))))))
 (.seq (.seq (.ops [⟨none, (some 24), (.load1 (.tmp 6))⟩, ⟨none, (some 25), (.lenL (.tmp 24))⟩, ⟨none, (some 26), (.mv (.const (.int .i64 0)))⟩])
 (.block 2
 (.loop
 (.seq (.ops [⟨none, (some 27), (.iop .lss (.tmp 26) (.tmp 25))⟩])
 (.seq (.cond (.tmp 27)
 .skip
 (.exit 2))
 (.seq (.block 3
 (.seq (.ops [⟨none, (some 28), (.iaddr 5 (.tmp 24) (.tmp 26))⟩, ⟨none, (some 29), (.loadN 5 (.tmp 28))⟩, ⟨none, (some 10), (.alloc 49 (.agg #[(.string (.mk #[])), (.int .u64 0), (.int .u32 0), (.int .u64 0), (.string (.mk #[]))]))⟩, ⟨none, none, (.storeN 5 (.tmp 10) (.tmp 29))⟩])
 (.seq (.ops [⟨none, (some 30), (.mv (.tmp 0))⟩, ⟨none, (some 31), (.loadN 5 (.tmp 10))⟩, ⟨none, (some 32), (.call 160 [(.tmp 30), (.tmp 31)])⟩, ⟨none, (some 11), (.mv (.tmp 32))⟩])
 (.seq (.ops [⟨none, (some 33), (.mv (.tmp 11))⟩, ⟨none, (some 34), (.iop .neq (.tmp 33) (.const (.int .i64 0)))⟩])
 (.cond (.tmp 34)
 (.seq (.ops [⟨none, (some 35), (.mv (.tmp 11))⟩, ⟨none, none, (.store1 (.tmp 4) (.const (.int .i64 0)))⟩, ⟨none, none, (.store1 (.tmp 5) (.tmp 35))⟩])
 .ret)
 .skip)))))
 (.ops [⟨none, (some 36), (.iop .add (.tmp 26) (.const (.int .i64 1)))⟩, ⟨none, (some 26), (.mv (.tmp 36))⟩])))))))
 (.seq (.ops [⟨none, (some 37), (.load1 (.tmp 6))⟩, ⟨none, (some 38), (.lenL (.tmp 37))⟩, ⟨none, none, (.store1 (.tmp 4) (.tmp 38))⟩, ⟨none, none, (.store1 (.tmp 5) (.const (.int .i64 0)))⟩])
 .ret)))))
abbrev r99 : List RV := [(.c1 4), (.c1 5)]
theorem F99 : FnOk Go.Proofs.Tryz.prog 99 39 c99 r99 := ⟨_, Go.Proofs.Tryz.func99, by kernel_rfl, by kernel_rfl, by kernel_rfl, by kernel_rfl, by kernel_rfl⟩

noncomputable def c160 : CC := (.seq (.ops [⟨none, (some 3), (.box 49 (.tmp 1))⟩, ⟨none, (some 4), (.mv (.const (.int .i64 0)))⟩])
 (.seq (.ops [⟨none, (some 11), (.loadN 5 (.tmp 3))⟩, ⟨none, (some 12), (.call 65 [(.tmp 11)])⟩, ⟨none, (some 10), (.mv (.tmp 12))⟩, ⟨none, (some 13), (.ext (.tmp 10) 0)⟩, ⟨none, (some 14), (.ext (.tmp 10) 1)⟩, ⟨none, (some 15), (.ext (.tmp 10) 2)⟩, ⟨none, (some 5), (.mv (.tmp 13))⟩, ⟨none, (some 6), (.mv (.tmp 14))⟩, ⟨none, (some 7), (.mv (.tmp 15))⟩])
 (.seq (.seq (.ops [⟨none, (some 16), (.mv (.tmp 7))⟩, ⟨none, (some 17), (.iop .neq (.tmp 16) (.const (.int .i64 0)))⟩])
 (.cond (.tmp 17)
 (.seq (.ops [⟨none, (some 18), (.mv (.tmp 7))⟩, ⟨none, (some 4), (.mv (.tmp 18))⟩])
 .ret)
 .skip))
 (.seq (.seq (.ops [⟨none, (some 20), (.mv (.tmp 0))⟩, ⟨none, (some 21), (.mv (.tmp 5))⟩, ⟨none, (some 22), (.inv (.tmp 20) "Cut" [(.tmp 21)])⟩, ⟨none, (some 19), (.mv (.tmp 22))⟩, ⟨none, (some 23), (.ext (.tmp 19) 0)⟩, ⟨none, (some 24), (.ext (.tmp 19) 1)⟩, ⟨none, (some 8), (.mv (.tmp 23))⟩, ⟨none, (some 9), (.mv (.tmp 24))⟩])
 (.seq (.ops [⟨none, (some 25), (.mv (.tmp 9))⟩, ⟨none, (some 26), (.iop .neq (.tmp 25) (.const (.int .i64 0)))⟩, ⟨none, (some 27), (.mv (.tmp 26))⟩, ⟨(some (27, false)), (some 28), (.mv (.tmp 6))⟩, ⟨(some (27, false)), (some 29), (.sop .eql (.tmp 28) (.const (.string (.mk #[]))))⟩, ⟨none, (some 30), (.pick (.tmp 27) (.const (.bool true)) (.tmp 29))⟩])
 (.cond (.tmp 30)
 (.seq (.ops [⟨none, (some 31), (.mv (.tmp 9))⟩, ⟨none, (some 4), (.mv (.tmp 31))⟩])
 .ret)
 .skip)))
 (.seq (.ops [⟨none, (some 33), (.mv (.tmp 0))⟩, ⟨none, (some 34), (.mv (.tmp 6))⟩, ⟨none, (some 35), (.inv (.tmp 33) "Cut" [(.tmp 34)])⟩, ⟨none, (some 32), (.mv (.tmp 35))⟩, ⟨none, (some 36), (.ext (.tmp 32) 0)⟩, ⟨none, (some 37), (.ext (.tmp 32) 1)⟩, ⟨none, (some 7), (.mv (.tmp 37))⟩])
 (.seq (.ops [⟨none, (some 38), (.mv (.tmp 7))⟩, ⟨none, (some 4), (.mv (.tmp 38))⟩])
 .ret))))))
abbrev r160 : List RV := [(.tmp 4)]
theorem F160 : FnOk Go.Proofs.Tryz.prog 160 39 c160 r160 := ⟨_, Go.Proofs.Tryz.func160, by kernel_rfl, by kernel_rfl, by kernel_rfl, by kernel_rfl, by kernel_rfl⟩

noncomputable def c43 : CC := (.seq (.ops [⟨none, (some 4), (.mv (.const (.bool false)))⟩])
 (.seq (.seq (.ops [⟨none, (some 6), (.mv (.tmp 0))⟩, ⟨none, (some 7), (.lenL (.tmp 6))⟩, ⟨none, (some 8), (.mv (.tmp 1))⟩, ⟨none, (some 9), (.lenL (.tmp 8))⟩, ⟨none, (some 10), (.iop .neq (.tmp 7) (.tmp 9))⟩])
 (.cond (.tmp 10)
 (.seq (.ops [⟨none, (some 4), (.mv (.const (.bool false)))⟩])
 .ret)
 .skip))
 (.seq (.seq (.ops [⟨none, (some 11), (.mv (.tmp 0))⟩, ⟨none, (some 12), (.lenL (.tmp 11))⟩, ⟨none, (some 13), (.mv (.const (.int .i64 0)))⟩])
 (.block 0
 (.loop
 (.seq (.ops [⟨none, (some 14), (.iop .lss (.tmp 13) (.tmp 12))⟩])
 (.seq (.cond (.tmp 14)
 .skip
 (.exit 0))
 (.seq (.block 1
 (.seq (.ops [⟨none, (some 15), (.mv (.tmp 13))⟩, ⟨none, (some 5), (.mv (.tmp 15))⟩])
 (.seq (.draw 6 (opsOf (sub (bodyOf Go.Proofs.Tryz.f43) [1, 1, 0, 1, 0, 0, 1, 1, 0, 0, 1, 0])) [⟨none, (some 16), (.mv (.tmp 0))⟩, ⟨none, (some 17), (.mv (.tmp 5))⟩, ⟨none, (some 18), (.iaddr 5 (.tmp 16) (.tmp 17))⟩, ⟨none, (some 19), (.loadN 5 (.tmp 18))⟩, ⟨none, (some 20), (.mv (.tmp 1))⟩, ⟨none, (some 21), (.mv (.tmp 5))⟩, ⟨none, (some 22), (.iaddr 5 (.tmp 20) (.tmp 21))⟩, ⟨none, (some 23), (.loadN 5 (.tmp 22))⟩, ⟨none, (some 24), (.raw 26 (.mk (some 24) (.binOp .neq 49 (.tmp 19) (.tmp 23) 49) 4 "ref.go:140" #[(.mk 3 .data), (.mk 7 .data)] none))⟩])
 (.cond (.tmp 24)
 (.seq (.ops [⟨none, (some 4), (.mv (.const (.bool false)))⟩])
 .ret)
 .skip))))
 (.ops [⟨none, (some 25), (.iop .add (.tmp 13) (.const (.int .i64 1)))⟩, ⟨none, (some 13), (.mv (.tmp 25))⟩])))))))
 (.seq (.ops [⟨none, (some 4), (.mv (.const (.bool true)))⟩])
 .ret))))
abbrev r43 : List RV := [(.tmp 4)]
theorem F43 : FnOk Go.Proofs.Tryz.prog 43 26 c43 r43 := ⟨_, Go.Proofs.Tryz.func43, by kernel_rfl, by kernel_rfl, by kernel_rfl, by kernel_rfl, by kernel_rfl⟩

noncomputable def c44 : CC := (.seq (.ops [⟨none, (some 6), (.mv (.const (.slice none 0 0)))⟩])
 (.seq (.ops [⟨none, (some 7), (.mv (.const (.slice none 0 0)))⟩])
 (.seq (.seq (.ops [⟨none, (some 10), (.mv (.tmp 0))⟩, ⟨none, (some 11), (.lenL (.tmp 10))⟩, ⟨none, (some 12), (.mv (.const (.int .i64 0)))⟩])
 (.block 0
 (.loop
 (.seq (.ops [⟨none, (some 13), (.iop .lss (.tmp 12) (.tmp 11))⟩])
 (.seq (.cond (.tmp 13)
 .skip
 (.exit 0))
 (.seq (.block 1
 (.seq (.ops [⟨none, (some 14), (.iaddr 5 (.tmp 10) (.tmp 12))⟩, ⟨none, (some 15), (.loadN 5 (.tmp 14))⟩, ⟨none, (some 9), (.alloc 49 (.agg #[(.string (.mk #[])), (.int .u64 0), (.int .u32 0), (.int .u64 0), (.string (.mk #[]))]))⟩, ⟨none, none, (.storeN 5 (.tmp 9) (.tmp 15))⟩])
 (.seq (.ops [⟨none, (some 16), (.faddr 0 (.tmp 9))⟩, ⟨none, (some 17), (.load1 (.tmp 16))⟩, ⟨none, (some 18), (.mv (.tmp 1))⟩, ⟨none, (some 19), (.sop .eql (.tmp 17) (.tmp 18))⟩, ⟨none, (some 20), (.mv (.tmp 19))⟩, ⟨(some (20, true)), (some 21), (.faddr 1 (.tmp 9))⟩, ⟨(some (20, true)), (some 22), (.load1 (.tmp 21))⟩, ⟨(some (20, true)), (some 23), (.mv (.tmp 2))⟩, ⟨(some (20, true)), (some 24), (.iop .geq (.tmp 22) (.tmp 23))⟩, ⟨none, (some 25), (.pick (.tmp 20) (.tmp 24) (.const (.bool false)))⟩])
 (.cond (.tmp 25)
 (.ops [⟨none, (some 26), (.mv (.tmp 7))⟩, ⟨none, (some 27), (.loadN 5 (.tmp 9))⟩, ⟨none, (some 28), (.buildS 49 1 [(.string (.mk #[])), (.int .u64 0), (.int .u32 0), (.int .u64 0), (.string (.mk #[]))] [(0, (5, (.tmp 27)))])⟩, ⟨none, (some 29), (.raw 32 (.mk (some 29) (.call (.mk (.builtin .append) #[(.tmp 26), (.tmp 28)] #[47, 47])) 47 "ref.go:104" #[(.mk 0 .data), (.mk 2 .data)] none))⟩, ⟨none, (some 7), (.mv (.tmp 29))⟩])
 .skip))))
 (.ops [⟨none, (some 30), (.iop .add (.tmp 12) (.const (.int .i64 1)))⟩, ⟨none, (some 12), (.mv (.tmp 30))⟩])))))))
 (.seq (.ops [⟨none, (some 31), (.mv (.tmp 7))⟩, ⟨none, (some 6), (.mv (.tmp 31))⟩])
 .ret))))
abbrev r44 : List RV := [(.tmp 6)]
theorem F44 : FnOk Go.Proofs.Tryz.prog 44 32 c44 r44 := ⟨_, Go.Proofs.Tryz.func44, by kernel_rfl, by kernel_rfl, by kernel_rfl, by kernel_rfl, by kernel_rfl⟩

noncomputable def c94 : CC := (.seq (.ops [⟨none, (some 3), (.box 49 (.tmp 1))⟩, ⟨none, (some 4), (.mv (.const (.slice none 0 0)))⟩, ⟨none, (some 5), (.mv (.const (.int .i64 0)))⟩])
 (.seq (.ops [⟨none, (some 8), (.mv (.tmp 0))⟩, ⟨none, (some 9), (.faddr 0 (.tmp 3))⟩, ⟨none, (some 10), (.load1 (.tmp 9))⟩, ⟨none, (some 11), (.faddr 1 (.tmp 3))⟩, ⟨none, (some 12), (.load1 (.tmp 11))⟩, ⟨none, (some 13), (.call 23 [(.tmp 8), (.tmp 10), (.tmp 12)])⟩, ⟨none, (some 6), (.mv (.tmp 13))⟩])
 (.seq (.seq (.ops [⟨none, (some 14), (.mv (.tmp 6))⟩, ⟨none, (some 15), (.iop .lss (.tmp 14) (.const (.int .i64 0)))⟩])
 (.cond (.tmp 15)
 (.seq (.ops [⟨none, (some 16), (.mv (.tmp 0))⟩, ⟨none, (some 4), (.mv (.tmp 16))⟩, ⟨none, (some 5), (.mv (.const (.int .i64 21)))⟩])
 .ret)
 .skip))
 (.seq (.ops [⟨none, (some 17), (.loadN 5 (.tmp 3))⟩, ⟨none, (some 18), (.call 63 [(.tmp 17)])⟩, ⟨none, (some 7), (.mv (.tmp 18))⟩])
 (.seq (.seq (.ops [⟨none, (some 19), (.mv (.tmp 7))⟩, ⟨none, (some 20), (.iop .neq (.tmp 19) (.const (.int .i64 0)))⟩])
 (.cond (.tmp 20)
 (.seq (.ops [⟨none, (some 21), (.mv (.tmp 0))⟩, ⟨none, (some 22), (.mv (.tmp 7))⟩, ⟨none, (some 4), (.mv (.tmp 21))⟩, ⟨none, (some 5), (.mv (.tmp 22))⟩])
 .ret)
 .skip))
 (.seq (.draw 7 (opsOf (sub (bodyOf Go.Proofs.Tryz.f94) [1, 1, 1, 1, 1, 0])) [⟨none, (some 23), (.mv (.tmp 0))⟩, ⟨none, (some 24), (.mv (.tmp 6))⟩, ⟨none, (some 25), (.call 159 [(.tmp 23), (.tmp 24)])⟩, ⟨none, (some 26), (.loadN 5 (.tmp 3))⟩, ⟨none, (some 27), (.call 64 [(.tmp 25), (.tmp 26)])⟩, ⟨none, (some 4), (.mv (.tmp 27))⟩, ⟨none, (some 5), (.mv (.const (.int .i64 0)))⟩])
 .ret))))))
abbrev r94 : List RV := [(.tmp 4), (.tmp 5)]
theorem F94 : FnOk Go.Proofs.Tryz.prog 94 28 c94 r94 := ⟨_, Go.Proofs.Tryz.func94, by kernel_rfl, by kernel_rfl, by kernel_rfl, by kernel_rfl, by kernel_rfl⟩

noncomputable def c96 : CC := (.seq (.ops [⟨none, (some 6), (.mv (.const (.slice none 0 0)))⟩, ⟨none, (some 7), (.alloc 49 (.agg #[(.string (.mk #[])), (.int .u64 0), (.int .u32 0), (.int .u64 0), (.string (.mk #[]))]))⟩, ⟨none, (some 8), (.mv (.const (.int .i64 0)))⟩])
 (.seq (.ops [⟨none, (some 10), (.mv (.tmp 0))⟩, ⟨none, (some 11), (.mv (.tmp 1))⟩, ⟨none, (some 12), (.mv (.tmp 2))⟩, ⟨none, (some 13), (.call 23 [(.tmp 10), (.tmp 11), (.tmp 12)])⟩, ⟨none, (some 9), (.mv (.tmp 13))⟩])
 (.seq (.seq (.ops [⟨none, (some 14), (.mv (.tmp 9))⟩, ⟨none, (some 15), (.iop .lss (.tmp 14) (.const (.int .i64 0)))⟩])
 (.cond (.tmp 15)
 (.seq (.ops [⟨none, (some 16), (.mv (.tmp 0))⟩, ⟨none, (some 17), (.build [(.string (.mk #[])), (.int .u64 0), (.int .u32 0), (.int .u64 0), (.string (.mk #[]))] [])⟩, ⟨none, (some 6), (.mv (.tmp 16))⟩, ⟨none, none, (.storeN 5 (.tmp 7) (.tmp 17))⟩, ⟨none, (some 8), (.mv (.const (.int .i64 21)))⟩])
 .ret)
 .skip))
 (.seq (.draw 4 (opsOf (sub (bodyOf Go.Proofs.Tryz.f96) [1, 1, 1, 0])) [⟨none, (some 18), (.mv (.tmp 0))⟩, ⟨none, (some 19), (.mv (.tmp 9))⟩, ⟨none, (some 20), (.call 159 [(.tmp 18), (.tmp 19)])⟩, ⟨none, (some 21), (.mv (.tmp 0))⟩, ⟨none, (some 22), (.mv (.tmp 9))⟩, ⟨none, (some 23), (.iaddr 5 (.tmp 21) (.tmp 22))⟩, ⟨none, (some 24), (.loadN 5 (.tmp 23))⟩, ⟨none, (some 6), (.mv (.tmp 20))⟩, ⟨none, none, (.storeN 5 (.tmp 7) (.tmp 24))⟩, ⟨none, (some 8), (.mv (.const (.int .i64 0)))⟩])
 .ret))))
abbrev r96 : List RV := [(.tmp 6), (.cN 7 5), (.tmp 8)]
theorem F96 : FnOk Go.Proofs.Tryz.prog 96 25 c96 r96 := ⟨_, Go.Proofs.Tryz.func96, by kernel_rfl, by kernel_rfl, by kernel_rfl, by kernel_rfl, by kernel_rfl⟩

noncomputable def c159 : CC := (.seq (.ops [⟨none, (some 4), (.mv (.const (.slice none 0 0)))⟩])
 (.seq (.ops [⟨none, (some 5), (.mv (.const (.slice none 0 0)))⟩])
 (.seq (.seq (.ops [⟨none, (some 8), (.mv (.tmp 0))⟩, ⟨none, (some 9), (.lenL (.tmp 8))⟩, ⟨none, (some 10), (.mv (.const (.int .i64 0)))⟩])
 (.block 0
 (.loop
 (.seq (.ops [⟨none, (some 11), (.iop .lss (.tmp 10) (.tmp 9))⟩])
 (.seq (.cond (.tmp 11)
 .skip
 (.exit 0))
 (.seq (.block 1
 (.seq (.ops [⟨none, (some 12), (.mv (.tmp 10))⟩, ⟨none, (some 13), (.iaddr 5 (.tmp 8) (.tmp 10))⟩, ⟨none, (some 14), (.loadN 5 (.tmp 13))⟩, ⟨none, (some 7), (.alloc 49 (.agg #[(.string (.mk #[])), (.int .u64 0), (.int .u32 0), (.int .u64 0), (.string (.mk #[]))]))⟩, ⟨none, (some 6), (.mv (.tmp 12))⟩, ⟨none, none, (.storeN 5 (.tmp 7) (.tmp 14))⟩])
 (.seq (.ops [⟨none, (some 15), (.mv (.tmp 6))⟩, ⟨none, (some 16), (.mv (.tmp 1))⟩, ⟨none, (some 17), (.iop .neq (.tmp 15) (.tmp 16))⟩])
 (.cond (.tmp 17)
 (.ops [⟨none, (some 18), (.mv (.tmp 5))⟩, ⟨none, (some 19), (.loadN 5 (.tmp 7))⟩, ⟨none, (some 20), (.buildS 49 1 [(.string (.mk #[])), (.int .u64 0), (.int .u32 0), (.int .u64 0), (.string (.mk #[]))] [(0, (5, (.tmp 19)))])⟩, ⟨none, (some 21), (.raw 24 (.mk (some 21) (.call (.mk (.builtin .append) #[(.tmp 18), (.tmp 20)] #[50, 50])) 50 "ref.go:42" #[(.mk 0 .data), (.mk 2 .data)] none))⟩, ⟨none, (some 5), (.mv (.tmp 21))⟩])
 .skip))))
 (.ops [⟨none, (some 22), (.iop .add (.tmp 10) (.const (.int .i64 1)))⟩, ⟨none, (some 10), (.mv (.tmp 22))⟩])))))))
 (.seq (.ops [⟨none, (some 23), (.mv (.tmp 5))⟩, ⟨none, (some 4), (.mv (.tmp 23))⟩])
 .ret))))
abbrev r159 : List RV := [(.tmp 4)]
theorem F159 : FnOk Go.Proofs.Tryz.prog 159 24 c159 r159 := ⟨_, Go.Proofs.Tryz.func159, by kernel_rfl, by kernel_rfl, by kernel_rfl, by kernel_rfl, by kernel_rfl⟩

noncomputable def c285 : CC := (.seq (.ops [⟨none, (some 4), (.mv (.const (.bool false)))⟩, ⟨none, (some 5), (.mv (.const (.int .i64 0)))⟩])
 (.seq (.ops [⟨none, (some 9), (.mv (.tmp 0))⟩, ⟨none, (some 10), (.nilc (.tmp 9))⟩, ⟨none, (some 11), (.faddr 0 (.tmp 10))⟩, ⟨none, (some 12), (.load1 (.tmp 11))⟩, ⟨none, (some 13), (.mv (.tmp 1))⟩, ⟨none, (some 14), (.raw 23 (.mk (some 14) (.lookup 121 (.tmp 12) (.tmp 13) true) 238 "registry.go:74" #[(.mk 3 .data), (.mk 4 .data)] none))⟩, ⟨none, (some 8), (.mv (.tmp 14))⟩, ⟨none, (some 15), (.ext (.tmp 8) 0)⟩, ⟨none, (some 16), (.ext (.tmp 8) 1)⟩, ⟨none, (some 6), (.mv (.tmp 15))⟩, ⟨none, (some 7), (.mv (.tmp 16))⟩])
 (.seq (.ops [⟨none, (some 17), (.mv (.tmp 0))⟩, ⟨none, (some 18), (.nilc (.tmp 17))⟩, ⟨none, (some 19), (.faddr 0 (.tmp 18))⟩, ⟨none, (some 20), (.load1 (.tmp 19))⟩, ⟨none, (some 21), (.mv (.tmp 1))⟩, ⟨none, none, (.raw 23 (.mk none (.call (.mk (.builtin .delete) #[(.tmp 20), (.tmp 21)] #[121, 9])) 0 "registry.go:75" #[(.mk 3 .data), (.mk 4 .data)] none))⟩])
 (.seq (.ops [⟨none, (some 22), (.mv (.tmp 7))⟩, ⟨none, (some 4), (.mv (.tmp 22))⟩, ⟨none, (some 5), (.mv (.const (.int .i64 0)))⟩])
 .ret))))
abbrev r285 : List RV := [(.tmp 4), (.tmp 5)]
theorem F285 : FnOk Go.Proofs.Tryz.prog 285 23 c285 r285 := ⟨_, Go.Proofs.Tryz.func285, by kernel_rfl, by kernel_rfl, by kernel_rfl, by kernel_rfl, by kernel_rfl⟩

end Go.VrE
