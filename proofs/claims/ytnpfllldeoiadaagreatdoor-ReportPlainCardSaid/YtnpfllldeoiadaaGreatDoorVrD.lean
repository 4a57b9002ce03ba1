import Derived.Test.YtnpfllldeoiadaaGreatDoorProg
import Derived.Test.YtnpfllldeoiadaaGreatDoorVcI
set_option linter.unusedSimpArgs false
set_option linter.unusedVariables false
set_option linter.unusedSectionVars false
set_option linter.unnecessarySimpa false
namespace Go.VrD
open Go Go.Vc
set_option maxRecDepth 100000
noncomputable def c3 : CC := (.seq (.ops [⟨none, (some 3), (.box 27 (.tmp 0))⟩, ⟨none, (some 4), (.box 31 (.tmp 1))⟩, ⟨none, (some 5), (.box 34 (.tmp 2))⟩, ⟨none, (some 6), (.mv (.const (.bool false)))⟩])
 (.seq (.seq (.ops [⟨none, (some 11), (.call 5 [])⟩, ⟨none, (some 12), (.not (.tmp 11))⟩])
 (.cond (.tmp 12)
 (.seq (.ops [⟨none, (some 6), (.mv (.const (.bool false)))⟩])
 .ret)
 .skip))
 (.seq (.seq (.ops [⟨none, (some 13), (.loadN 6 (.tmp 3))⟩, ⟨none, (some 14), (.call 6 [(.tmp 13)])⟩, ⟨none, (some 15), (.not (.tmp 14))⟩, ⟨none, (some 16), (.mv (.tmp 15))⟩, ⟨(some (16, false)), (some 17), (.loadN 5 (.tmp 4))⟩, ⟨(some (16, false)), (some 18), (.call 7 [(.tmp 17)])⟩, ⟨(some (16, false)), (some 19), (.not (.tmp 18))⟩, ⟨none, (some 20), (.pick (.tmp 16) (.const (.bool true)) (.tmp 19))⟩, ⟨none, (some 21), (.mv (.tmp 20))⟩, ⟨(some (21, false)), (some 22), (.loadN 9 (.tmp 5))⟩, ⟨(some (21, false)), (some 23), (.call 8 [(.tmp 22)])⟩, ⟨(some (21, false)), (some 24), (.not (.tmp 23))⟩, ⟨none, (some 25), (.pick (.tmp 21) (.const (.bool true)) (.tmp 24))⟩])
 (.cond (.tmp 25)
 (.seq (.ops [⟨none, (some 6), (.mv (.const (.bool true)))⟩])
 .ret)
 .skip))
 (.seq (.seq (.ops [⟨none, (some 26), (.faddr 2 (.tmp 4))⟩, ⟨none, (some 27), (.load1 (.tmp 26))⟩, ⟨none, (some 28), (.lenL (.tmp 27))⟩, ⟨none, (some 29), (.mv (.const (.int .i64 0)))⟩])
 (.block 0
 (.loop
 (.seq (.ops [⟨none, (some 30), (.iop .lss (.tmp 29) (.tmp 28))⟩])
 (.seq (.cond (.tmp 30)
 .skip
 (.exit 0))
 (.seq (.block 1
 (.seq (.ops [⟨none, (some 31), (.iaddr 5 (.tmp 27) (.tmp 29))⟩, ⟨none, (some 32), (.loadN 5 (.tmp 31))⟩, ⟨none, (some 8), (.alloc 41 (.agg #[(.string (.mk #[])), (.int .u32 0), (.int .u64 0), (.int .u32 0), (.string (.mk #[]))]))⟩, ⟨none, none, (.storeN 5 (.tmp 8) (.tmp 32))⟩])
 (.seq (.draw 8 (opsOf (sub (bodyOf Go.Proofs.Tryz.f3) [1, 1, 1, 0, 1, 0, 0, 1, 1, 0, 0, 1, 0])) [⟨none, (some 33), (.loadN 5 (.tmp 8))⟩, ⟨none, (some 34), (.call 9 [(.tmp 33)])⟩, ⟨none, (some 35), (.loadN 5 (.tmp 8))⟩, ⟨none, (some 36), (.call 10 [(.tmp 35)])⟩, ⟨none, (some 37), (.sop .neq (.tmp 34) (.tmp 36))⟩])
 (.cond (.tmp 37)
 (.seq (.ops [⟨none, (some 6), (.mv (.const (.bool false)))⟩])
 .ret)
 .skip))))
 (.ops [⟨none, (some 38), (.iop .add (.tmp 29) (.const (.int .i64 1)))⟩, ⟨none, (some 29), (.mv (.tmp 38))⟩])))))))
 (.seq (.seq (.ops [⟨none, (some 39), (.faddr 5 (.tmp 3))⟩, ⟨none, (some 40), (.load1 (.tmp 39))⟩, ⟨none, (some 41), (.lenL (.tmp 40))⟩, ⟨none, (some 42), (.mv (.const (.int .i64 0)))⟩])
 (.block 2
 (.loop
 (.seq (.ops [⟨none, (some 43), (.iop .lss (.tmp 42) (.tmp 41))⟩])
 (.seq (.cond (.tmp 43)
 .skip
 (.exit 2))
 (.seq (.block 3
 (.seq (.ops [⟨none, (some 44), (.iaddr 5 (.tmp 40) (.tmp 42))⟩, ⟨none, (some 45), (.loadN 5 (.tmp 44))⟩, ⟨none, (some 10), (.alloc 44 (.agg #[(.string (.mk #[])), (.int .u64 0), (.int .u32 0), (.int .u64 0), (.string (.mk #[]))]))⟩, ⟨none, none, (.storeN 5 (.tmp 10) (.tmp 45))⟩])
 (.seq (.draw 14 (opsOf (sub (bodyOf Go.Proofs.Tryz.f3) [1, 1, 1, 1, 0, 1, 0, 0, 1, 1, 0, 0, 1, 0])) [⟨none, (some 46), (.loadN 5 (.tmp 10))⟩, ⟨none, (some 47), (.call 11 [(.tmp 46)])⟩, ⟨none, (some 48), (.loadN 5 (.tmp 10))⟩, ⟨none, (some 49), (.call 12 [(.tmp 48)])⟩, ⟨none, (some 50), (.sop .neq (.tmp 47) (.tmp 49))⟩])
 (.cond (.tmp 50)
 (.seq (.ops [⟨none, (some 6), (.mv (.const (.bool false)))⟩])
 .ret)
 .skip))))
 (.ops [⟨none, (some 51), (.iop .add (.tmp 42) (.const (.int .i64 1)))⟩, ⟨none, (some 42), (.mv (.tmp 51))⟩])))))))
 (.seq (.draw 17 (opsOf (sub (bodyOf Go.Proofs.Tryz.f3) [1, 1, 1, 1, 1, 0])) [⟨none, (some 52), (.loadN 6 (.tmp 3))⟩, ⟨none, (some 53), (.call 13 [(.tmp 52)])⟩, ⟨none, (some 54), (.loadN 6 (.tmp 3))⟩, ⟨none, (some 55), (.call 15 [(.tmp 54)])⟩, ⟨none, (some 56), (.call 14 [(.tmp 55)])⟩, ⟨none, (some 57), (.sop .eql (.tmp 53) (.tmp 56))⟩, ⟨none, (some 58), (.mv (.tmp 57))⟩, ⟨(some (58, true)), (some 59), (.loadN 5 (.tmp 4))⟩, ⟨(some (58, true)), (some 60), (.call 16 [(.tmp 59)])⟩, ⟨(some (58, true)), (some 61), (.loadN 5 (.tmp 4))⟩, ⟨(some (58, true)), (some 62), (.call 17 [(.tmp 61)])⟩, ⟨(some (58, true)), (some 63), (.sop .eql (.tmp 60) (.tmp 62))⟩, ⟨none, (some 64), (.pick (.tmp 58) (.tmp 63) (.const (.bool false)))⟩, ⟨none, (some 65), (.mv (.tmp 64))⟩, ⟨(some (65, true)), (some 66), (.loadN 9 (.tmp 5))⟩, ⟨(some (65, true)), (some 67), (.call 18 [(.tmp 66)])⟩, ⟨(some (65, true)), (some 68), (.faddr 0 (.tmp 5))⟩, ⟨(some (65, true)), (some 69), (.load1 (.tmp 68))⟩, ⟨(some (65, true)), (some 70), (.faddr 1 (.tmp 5))⟩, ⟨(some (65, true)), (some 71), (.load1 (.tmp 70))⟩, ⟨(some (65, true)), (some 72), (.faddr 2 (.tmp 5))⟩, ⟨(some (65, true)), (some 73), (.load1 (.tmp 72))⟩, ⟨(some (65, true)), (some 74), (.faddr 3 (.tmp 5))⟩, ⟨(some (65, true)), (some 75), (.load1 (.tmp 74))⟩, ⟨(some (65, true)), (some 76), (.faddr 4 (.tmp 5))⟩, ⟨(some (65, true)), (some 77), (.load1 (.tmp 76))⟩, ⟨(some (65, true)), (some 78), (.faddr 5 (.tmp 5))⟩, ⟨(some (65, true)), (some 79), (.load1 (.tmp 78))⟩, ⟨(some (65, true)), (some 80), (.faddr 6 (.tmp 5))⟩, ⟨(some (65, true)), (some 81), (.load1 (.tmp 80))⟩, ⟨(some (65, true)), (some 82), (.faddr 7 (.tmp 5))⟩, ⟨(some (65, true)), (some 83), (.load1 (.tmp 82))⟩, ⟨(some (65, true)), (some 84), (.faddr 8 (.tmp 5))⟩, ⟨(some (65, true)), (some 85), (.load1 (.tmp 84))⟩, ⟨(some (65, true)), (some 86), (.call 19 [(.tmp 69), (.tmp 71), (.tmp 73), (.tmp 75), (.tmp 77), (.tmp 79), (.tmp 81), (.tmp 83), (.tmp 85)])⟩, ⟨(some (65, true)), (some 87), (.sop .eql (.tmp 67) (.tmp 86))⟩, ⟨none, (some 88), (.pick (.tmp 65) (.tmp 87) (.const (.bool false)))⟩, ⟨none, (some 6), (.mv (.tmp 88))⟩])
 .ret))))))
abbrev r3 : List RV := [(.tmp 6)]
theorem F3 : FnOk Go.Proofs.Tryz.prog 3 89 c3 r3 := ⟨_, Go.Proofs.Tryz.func3, by kernel_rfl, by kernel_rfl, by kernel_rfl, by kernel_rfl, by kernel_rfl⟩

noncomputable def c4 : CC := (.seq (.ops [⟨none, (some 3), (.box 27 (.tmp 0))⟩, ⟨none, (some 4), (.box 31 (.tmp 1))⟩, ⟨none, (some 5), (.box 34 (.tmp 2))⟩, ⟨none, (some 6), (.mv (.const (.bool false)))⟩])
 (.seq (.seq (.ops [⟨none, (some 12), (.call 5 [])⟩, ⟨none, (some 13), (.not (.tmp 12))⟩])
 (.cond (.tmp 13)
 (.seq (.ops [⟨none, (some 6), (.mv (.const (.bool false)))⟩])
 .ret)
 .skip))
 (.seq (.seq (.ops [⟨none, (some 14), (.loadN 6 (.tmp 3))⟩, ⟨none, (some 15), (.call 6 [(.tmp 14)])⟩, ⟨none, (some 16), (.not (.tmp 15))⟩, ⟨none, (some 17), (.mv (.tmp 16))⟩, ⟨(some (17, false)), (some 18), (.loadN 5 (.tmp 4))⟩, ⟨(some (17, false)), (some 19), (.call 7 [(.tmp 18)])⟩, ⟨(some (17, false)), (some 20), (.not (.tmp 19))⟩, ⟨none, (some 21), (.pick (.tmp 17) (.const (.bool true)) (.tmp 20))⟩, ⟨none, (some 22), (.mv (.tmp 21))⟩, ⟨(some (22, false)), (some 23), (.loadN 9 (.tmp 5))⟩, ⟨(some (22, false)), (some 24), (.call 8 [(.tmp 23)])⟩, ⟨(some (22, false)), (some 25), (.not (.tmp 24))⟩, ⟨none, (some 26), (.pick (.tmp 22) (.const (.bool true)) (.tmp 25))⟩])
 (.cond (.tmp 26)
 (.seq (.ops [⟨none, (some 6), (.mv (.const (.bool true)))⟩])
 .ret)
 .skip))
 (.seq (.seq (.draw 5 (opsOf (sub (bodyOf Go.Proofs.Tryz.f4) [1, 1, 1, 0, 0])) [⟨none, (some 27), (.loadN 6 (.tmp 3))⟩, ⟨none, (some 28), (.call 13 [(.tmp 27)])⟩, ⟨none, (some 29), (.loadN 5 (.tmp 4))⟩, ⟨none, (some 30), (.call 16 [(.tmp 29)])⟩, ⟨none, (some 31), (.loadN 9 (.tmp 5))⟩, ⟨none, (some 32), (.call 18 [(.tmp 31)])⟩, ⟨none, (some 33), (.buildS 9 3 [(.string (.mk #[])), (.string (.mk #[])), (.string (.mk #[]))] [(0, (1, (.tmp 28))), (1, (1, (.tmp 30))), (2, (1, (.tmp 32)))])⟩, ⟨none, (some 34), (.lenL (.tmp 33))⟩, ⟨none, (some 35), (.mv (.const (.int .i64 0)))⟩])
 (.block 0
 (.loop
 (.seq (.ops [⟨none, (some 36), (.iop .lss (.tmp 35) (.tmp 34))⟩])
 (.seq (.cond (.tmp 36)
 .skip
 (.exit 0))
 (.seq (.block 1
 (.seq (.ops [⟨none, (some 37), (.iaddr 1 (.tmp 33) (.tmp 35))⟩, ⟨none, (some 38), (.load1 (.tmp 37))⟩, ⟨none, (some 8), (.mv (.tmp 38))⟩])
 (.seq (.ops [⟨none, (some 39), (.mv (.tmp 8))⟩, ⟨none, (some 40), (.lenS (.tmp 39))⟩, ⟨none, (some 41), (.mv (.const (.int .i64 0)))⟩])
 (.block 2
 (.loop
 (.seq (.ops [⟨none, (some 42), (.iop .lss (.tmp 41) (.tmp 40))⟩])
 (.seq (.cond (.tmp 42)
 .skip
 (.exit 2))
 (.seq (.block 3
 (.seq (.ops [⟨none, (some 43), (.mv (.tmp 41))⟩, ⟨none, (some 9), (.mv (.tmp 43))⟩])
 (.seq (.ops [⟨none, (some 44), (.mv (.tmp 8))⟩, ⟨none, (some 45), (.mv (.tmp 9))⟩, ⟨none, (some 46), (.sidx (.tmp 44) (.tmp 45))⟩, ⟨none, (some 47), (.iop .neq (.tmp 46) (.const (.int .u8 10)))⟩, ⟨none, (some 48), (.mv (.tmp 47))⟩, ⟨(some (48, true)), (some 49), (.mv (.tmp 8))⟩, ⟨(some (48, true)), (some 50), (.mv (.tmp 9))⟩, ⟨(some (48, true)), (some 51), (.sidx (.tmp 49) (.tmp 50))⟩, ⟨(some (48, true)), (some 52), (.iop .lss (.tmp 51) (.const (.int .u8 32)))⟩, ⟨(some (48, true)), (some 53), (.mv (.tmp 52))⟩, ⟨(some (53, false)), (some 54), (.mv (.tmp 8))⟩, ⟨(some (53, false)), (some 55), (.mv (.tmp 9))⟩, ⟨(some (53, false)), (some 56), (.sidx (.tmp 54) (.tmp 55))⟩, ⟨(some (53, false)), (some 57), (.iop .gtr (.tmp 56) (.const (.int .u8 126)))⟩, ⟨(some (48, true)), (some 58), (.pick (.tmp 53) (.const (.bool true)) (.tmp 57))⟩, ⟨none, (some 59), (.pick (.tmp 48) (.tmp 58) (.const (.bool false)))⟩])
 (.cond (.tmp 59)
 (.seq (.ops [⟨none, (some 6), (.mv (.const (.bool false)))⟩])
 .ret)
 .skip))))
 (.ops [⟨none, (some 60), (.iop .add (.tmp 41) (.const (.int .i64 1)))⟩, ⟨none, (some 41), (.mv (.tmp 60))⟩])))))))))
 (.ops [⟨none, (some 61), (.iop .add (.tmp 35) (.const (.int .i64 1)))⟩, ⟨none, (some 35), (.mv (.tmp 61))⟩])))))))
 (.seq (.ops [⟨none, (some 62), (.faddr 2 (.tmp 4))⟩, ⟨none, (some 63), (.load1 (.tmp 62))⟩, ⟨none, (some 64), (.lenL (.tmp 63))⟩, ⟨none, (some 65), (.faddr 3 (.tmp 4))⟩, ⟨none, (some 66), (.load1 (.tmp 65))⟩, ⟨none, (some 67), (.lenL (.tmp 66))⟩, ⟨none, (some 68), (.iop .add (.tmp 64) (.tmp 67))⟩, ⟨none, (some 69), (.faddr 4 (.tmp 4))⟩, ⟨none, (some 70), (.load1 (.tmp 69))⟩, ⟨none, (some 71), (.lenL (.tmp 70))⟩, ⟨none, (some 72), (.iop .add (.tmp 68) (.tmp 71))⟩, ⟨none, (some 10), (.mv (.tmp 72))⟩])
 (.seq (.ops [⟨none, (some 11), (.mv (.func 20))⟩])
 (.seq (.draw 17 (opsOf (sub (bodyOf Go.Proofs.Tryz.f4) [1, 1, 1, 1, 1, 1, 0])) [⟨none, (some 73), (.mv (.tmp 11))⟩, ⟨none, (some 74), (.loadN 5 (.tmp 4))⟩, ⟨none, (some 75), (.call 16 [(.tmp 74)])⟩, ⟨none, (some 76), (.callv (.tmp 73) [(.tmp 75)])⟩, ⟨none, (some 77), (.mv (.tmp 10))⟩, ⟨none, (some 78), (.iop .add (.tmp 77) (.const (.int .i64 1)))⟩, ⟨none, (some 79), (.iop .eql (.tmp 76) (.tmp 78))⟩, ⟨none, (some 80), (.mv (.tmp 79))⟩, ⟨(some (80, true)), (some 81), (.mv (.tmp 11))⟩, ⟨(some (80, true)), (some 82), (.loadN 9 (.tmp 5))⟩, ⟨(some (80, true)), (some 83), (.call 18 [(.tmp 82)])⟩, ⟨(some (80, true)), (some 84), (.callv (.tmp 81) [(.tmp 83)])⟩, ⟨(some (80, true)), (some 85), (.iop .eql (.tmp 84) (.const (.int .i64 2)))⟩, ⟨none, (some 86), (.pick (.tmp 80) (.tmp 85) (.const (.bool false)))⟩, ⟨none, (some 87), (.mv (.tmp 86))⟩, ⟨(some (87, true)), (some 88), (.faddr 0 (.tmp 3))⟩, ⟨(some (87, true)), (some 89), (.load1 (.tmp 88))⟩, ⟨(some (87, true)), (some 90), (.iop .neq (.tmp 89) (.const (.int .i64 0)))⟩, ⟨(some (87, true)), (some 91), (.mv (.tmp 90))⟩, ⟨(some (91, false)), (some 92), (.mv (.tmp 11))⟩, ⟨(some (91, false)), (some 93), (.loadN 6 (.tmp 3))⟩, ⟨(some (91, false)), (some 94), (.call 13 [(.tmp 93)])⟩, ⟨(some (91, false)), (some 95), (.callv (.tmp 92) [(.tmp 94)])⟩, ⟨(some (91, false)), (some 96), (.faddr 5 (.tmp 3))⟩, ⟨(some (91, false)), (some 97), (.load1 (.tmp 96))⟩, ⟨(some (91, false)), (some 98), (.lenL (.tmp 97))⟩, ⟨(some (91, false)), (some 99), (.iop .eql (.tmp 95) (.tmp 98))⟩, ⟨(some (87, true)), (some 100), (.pick (.tmp 91) (.const (.bool true)) (.tmp 99))⟩, ⟨none, (some 101), (.pick (.tmp 87) (.tmp 100) (.const (.bool false)))⟩, ⟨none, (some 6), (.mv (.tmp 101))⟩])
 .ret)))))))
abbrev r4 : List RV := [(.tmp 6)]
theorem F4 : FnOk Go.Proofs.Tryz.prog 4 102 c4 r4 := ⟨_, Go.Proofs.Tryz.func4, by kernel_rfl, by kernel_rfl, by kernel_rfl, by kernel_rfl, by kernel_rfl⟩

noncomputable def c6 : CC := (.seq (.ops [⟨none, (some 1), (.box 27 (.tmp 0))⟩, ⟨none, (some 2), (.mv (.const (.bool false)))⟩])
 (.seq (.seq (.ops [⟨none, (some 5), (.faddr 5 (.tmp 1))⟩, ⟨none, (some 6), (.load1 (.tmp 5))⟩, ⟨none, (some 7), (.lenL (.tmp 6))⟩, ⟨none, (some 8), (.mv (.const (.int .i64 0)))⟩])
 (.block 0
 (.loop
 (.seq (.ops [⟨none, (some 9), (.iop .lss (.tmp 8) (.tmp 7))⟩])
 (.seq (.cond (.tmp 9)
 .skip
 (.exit 0))
 (.seq (.block 1
 (.seq (.ops [⟨none, (some 10), (.iaddr 5 (.tmp 6) (.tmp 8))⟩, ⟨none, (some 11), (.loadN 5 (.tmp 10))⟩, ⟨none, (some 4), (.alloc 44 (.agg #[(.string (.mk #[])), (.int .u64 0), (.int .u32 0), (.int .u64 0), (.string (.mk #[]))]))⟩, ⟨none, none, (.storeN 5 (.tmp 4) (.tmp 11))⟩])
 (.seq (.ops [⟨none, (some 12), (.faddr 5 (.tmp 1))⟩, ⟨none, (some 13), (.load1 (.tmp 12))⟩, ⟨none, (some 14), (.lenL (.tmp 13))⟩, ⟨none, (some 15), (.iop .gtr (.tmp 14) (.const (.int .i64 40)))⟩, ⟨none, (some 16), (.mv (.tmp 15))⟩, ⟨(some (16, false)), (some 17), (.faddr 0 (.tmp 4))⟩, ⟨(some (16, false)), (some 18), (.load1 (.tmp 17))⟩, ⟨(some (16, false)), (some 19), (.lenS (.tmp 18))⟩, ⟨(some (16, false)), (some 20), (.iop .gtr (.tmp 19) (.const (.int .i64 400)))⟩, ⟨none, (some 21), (.pick (.tmp 16) (.const (.bool true)) (.tmp 20))⟩, ⟨none, (some 22), (.mv (.tmp 21))⟩, ⟨(some (22, false)), (some 23), (.faddr 4 (.tmp 4))⟩, ⟨(some (22, false)), (some 24), (.load1 (.tmp 23))⟩, ⟨(some (22, false)), (some 25), (.lenS (.tmp 24))⟩, ⟨(some (22, false)), (some 26), (.iop .gtr (.tmp 25) (.const (.int .i64 2000)))⟩, ⟨none, (some 27), (.pick (.tmp 22) (.const (.bool true)) (.tmp 26))⟩])
 (.cond (.tmp 27)
 (.seq (.ops [⟨none, (some 2), (.mv (.const (.bool false)))⟩])
 .ret)
 .skip))))
 (.ops [⟨none, (some 28), (.iop .add (.tmp 8) (.const (.int .i64 1)))⟩, ⟨none, (some 8), (.mv (.tmp 28))⟩])))))))
 (.seq (.ops [⟨none, (some 29), (.faddr 2 (.tmp 1))⟩, ⟨none, (some 30), (.load1 (.tmp 29))⟩, ⟨none, (some 31), (.lenL (.tmp 30))⟩, ⟨none, (some 32), (.faddr 3 (.tmp 1))⟩, ⟨none, (some 33), (.load1 (.tmp 32))⟩, ⟨none, (some 34), (.lenL (.tmp 33))⟩, ⟨none, (some 35), (.faddr 4 (.tmp 1))⟩, ⟨none, (some 36), (.load1 (.tmp 35))⟩, ⟨none, (some 37), (.lenL (.tmp 36))⟩, ⟨none, (some 38), (.raw 40 (.mk (some 38) (.call (.mk (.builtin .max) #[(.tmp 31), (.tmp 34), (.tmp 37)] #[3, 3, 3])) 3 "law.go:30" #[(.mk 2 .data), (.mk 5 .data), (.mk 8 .data)] none))⟩, ⟨none, (some 39), (.iop .leq (.tmp 38) (.const (.int .i64 100)))⟩, ⟨none, (some 2), (.mv (.tmp 39))⟩])
 .ret)))
abbrev r6 : List RV := [(.tmp 2)]
theorem F6 : FnOk Go.Proofs.Tryz.prog 6 40 c6 r6 := ⟨_, Go.Proofs.Tryz.func6, by kernel_rfl, by kernel_rfl, by kernel_rfl, by kernel_rfl, by kernel_rfl⟩

noncomputable def c7 : CC := (.seq (.ops [⟨none, (some 1), (.box 31 (.tmp 0))⟩, ⟨none, (some 2), (.mv (.const (.bool false)))⟩])
 (.seq (.ops [⟨none, (some 10), (.faddr 2 (.tmp 1))⟩, ⟨none, (some 11), (.load1 (.tmp 10))⟩, ⟨none, (some 12), (.lenL (.tmp 11))⟩, ⟨none, (some 13), (.faddr 3 (.tmp 1))⟩, ⟨none, (some 14), (.load1 (.tmp 13))⟩, ⟨none, (some 15), (.lenL (.tmp 14))⟩, ⟨none, (some 16), (.iop .add (.tmp 12) (.tmp 15))⟩, ⟨none, (some 17), (.faddr 4 (.tmp 1))⟩, ⟨none, (some 18), (.load1 (.tmp 17))⟩, ⟨none, (some 19), (.lenL (.tmp 18))⟩, ⟨none, (some 20), (.iop .add (.tmp 16) (.tmp 19))⟩, ⟨none, (some 3), (.mv (.tmp 20))⟩])
 (.seq (.seq (.ops [⟨none, (some 21), (.faddr 2 (.tmp 1))⟩, ⟨none, (some 22), (.load1 (.tmp 21))⟩, ⟨none, (some 23), (.lenL (.tmp 22))⟩, ⟨none, (some 24), (.mv (.const (.int .i64 0)))⟩])
 (.block 0
 (.loop
 (.seq (.ops [⟨none, (some 25), (.iop .lss (.tmp 24) (.tmp 23))⟩])
 (.seq (.cond (.tmp 25)
 .skip
 (.exit 0))
 (.seq (.block 1
 (.seq (.ops [⟨none, (some 26), (.iaddr 5 (.tmp 22) (.tmp 24))⟩, ⟨none, (some 27), (.loadN 5 (.tmp 26))⟩, ⟨none, (some 5), (.alloc 41 (.agg #[(.string (.mk #[])), (.int .u32 0), (.int .u64 0), (.int .u32 0), (.string (.mk #[]))]))⟩, ⟨none, none, (.storeN 5 (.tmp 5) (.tmp 27))⟩])
 (.seq (.ops [⟨none, (some 28), (.mv (.tmp 3))⟩, ⟨none, (some 29), (.iop .gtr (.tmp 28) (.const (.int .i64 40)))⟩, ⟨none, (some 30), (.mv (.tmp 29))⟩, ⟨(some (30, false)), (some 31), (.faddr 0 (.tmp 5))⟩, ⟨(some (30, false)), (some 32), (.load1 (.tmp 31))⟩, ⟨(some (30, false)), (some 33), (.lenS (.tmp 32))⟩, ⟨(some (30, false)), (some 34), (.faddr 4 (.tmp 5))⟩, ⟨(some (30, false)), (some 35), (.load1 (.tmp 34))⟩, ⟨(some (30, false)), (some 36), (.lenS (.tmp 35))⟩, ⟨(some (30, false)), (some 37), (.raw 86 (.mk (some 37) (.call (.mk (.builtin .max) #[(.tmp 33), (.tmp 36)] #[3, 3])) 3 "law.go:31" #[(.mk 5 .data), (.mk 8 .data), (.mk 2 .guard)] (some (2, false))))⟩, ⟨(some (30, false)), (some 38), (.iop .gtr (.tmp 37) (.const (.int .i64 400)))⟩, ⟨none, (some 39), (.pick (.tmp 30) (.const (.bool true)) (.tmp 38))⟩])
 (.cond (.tmp 39)
 (.seq (.ops [⟨none, (some 2), (.mv (.const (.bool false)))⟩])
 .ret)
 .skip))))
 (.ops [⟨none, (some 40), (.iop .add (.tmp 24) (.const (.int .i64 1)))⟩, ⟨none, (some 24), (.mv (.tmp 40))⟩])))))))
 (.seq (.seq (.ops [⟨none, (some 41), (.faddr 3 (.tmp 1))⟩, ⟨none, (some 42), (.load1 (.tmp 41))⟩, ⟨none, (some 43), (.lenL (.tmp 42))⟩, ⟨none, (some 44), (.mv (.const (.int .i64 0)))⟩])
 (.block 2
 (.loop
 (.seq (.ops [⟨none, (some 45), (.iop .lss (.tmp 44) (.tmp 43))⟩])
 (.seq (.cond (.tmp 45)
 .skip
 (.exit 2))
 (.seq (.block 3
 (.seq (.ops [⟨none, (some 46), (.iaddr 4 (.tmp 42) (.tmp 44))⟩, ⟨none, (some 47), (.loadN 4 (.tmp 46))⟩, ⟨none, (some 7), (.alloc 61 (.agg #[(.string (.mk #[])), (.int .i64 0), (.string (.mk #[])), (.string (.mk #[]))]))⟩, ⟨none, none, (.storeN 4 (.tmp 7) (.tmp 47))⟩])
 (.seq (.ops [⟨none, (some 48), (.mv (.tmp 3))⟩, ⟨none, (some 49), (.iop .gtr (.tmp 48) (.const (.int .i64 40)))⟩, ⟨none, (some 50), (.mv (.tmp 49))⟩, ⟨(some (50, false)), (some 51), (.faddr 0 (.tmp 7))⟩, ⟨(some (50, false)), (some 52), (.load1 (.tmp 51))⟩, ⟨(some (50, false)), (some 53), (.lenS (.tmp 52))⟩, ⟨(some (50, false)), (some 54), (.faddr 2 (.tmp 7))⟩, ⟨(some (50, false)), (some 55), (.load1 (.tmp 54))⟩, ⟨(some (50, false)), (some 56), (.lenS (.tmp 55))⟩, ⟨(some (50, false)), (some 57), (.faddr 3 (.tmp 7))⟩, ⟨(some (50, false)), (some 58), (.load1 (.tmp 57))⟩, ⟨(some (50, false)), (some 59), (.lenS (.tmp 58))⟩, ⟨(some (50, false)), (some 60), (.raw 86 (.mk (some 60) (.call (.mk (.builtin .max) #[(.tmp 53), (.tmp 56), (.tmp 59)] #[3, 3, 3])) 3 "law.go:36" #[(.mk 5 .data), (.mk 8 .data), (.mk 11 .data), (.mk 2 .guard)] (some (2, false))))⟩, ⟨(some (50, false)), (some 61), (.iop .gtr (.tmp 60) (.const (.int .i64 400)))⟩, ⟨none, (some 62), (.pick (.tmp 50) (.const (.bool true)) (.tmp 61))⟩])
 (.cond (.tmp 62)
 (.seq (.ops [⟨none, (some 2), (.mv (.const (.bool false)))⟩])
 .ret)
 .skip))))
 (.ops [⟨none, (some 63), (.iop .add (.tmp 44) (.const (.int .i64 1)))⟩, ⟨none, (some 44), (.mv (.tmp 63))⟩])))))))
 (.seq (.seq (.ops [⟨none, (some 64), (.faddr 4 (.tmp 1))⟩, ⟨none, (some 65), (.load1 (.tmp 64))⟩, ⟨none, (some 66), (.lenL (.tmp 65))⟩, ⟨none, (some 67), (.mv (.const (.int .i64 0)))⟩])
 (.block 4
 (.loop
 (.seq (.ops [⟨none, (some 68), (.iop .lss (.tmp 67) (.tmp 66))⟩])
 (.seq (.cond (.tmp 68)
 .skip
 (.exit 4))
 (.seq (.block 5
 (.seq (.ops [⟨none, (some 69), (.iaddr 5 (.tmp 65) (.tmp 67))⟩, ⟨none, (some 70), (.loadN 5 (.tmp 69))⟩, ⟨none, (some 9), (.alloc 44 (.agg #[(.string (.mk #[])), (.int .u64 0), (.int .u32 0), (.int .u64 0), (.string (.mk #[]))]))⟩, ⟨none, none, (.storeN 5 (.tmp 9) (.tmp 70))⟩])
 (.seq (.ops [⟨none, (some 71), (.mv (.tmp 3))⟩, ⟨none, (some 72), (.iop .gtr (.tmp 71) (.const (.int .i64 40)))⟩, ⟨none, (some 73), (.mv (.tmp 72))⟩, ⟨(some (73, false)), (some 74), (.faddr 0 (.tmp 9))⟩, ⟨(some (73, false)), (some 75), (.load1 (.tmp 74))⟩, ⟨(some (73, false)), (some 76), (.lenS (.tmp 75))⟩, ⟨(some (73, false)), (some 77), (.iop .gtr (.tmp 76) (.const (.int .i64 400)))⟩, ⟨none, (some 78), (.pick (.tmp 73) (.const (.bool true)) (.tmp 77))⟩, ⟨none, (some 79), (.mv (.tmp 78))⟩, ⟨(some (79, false)), (some 80), (.faddr 4 (.tmp 9))⟩, ⟨(some (79, false)), (some 81), (.load1 (.tmp 80))⟩, ⟨(some (79, false)), (some 82), (.lenS (.tmp 81))⟩, ⟨(some (79, false)), (some 83), (.iop .gtr (.tmp 82) (.const (.int .i64 1000)))⟩, ⟨none, (some 84), (.pick (.tmp 79) (.const (.bool true)) (.tmp 83))⟩])
 (.cond (.tmp 84)
 (.seq (.ops [⟨none, (some 2), (.mv (.const (.bool false)))⟩])
 .ret)
 .skip))))
 (.ops [⟨none, (some 85), (.iop .add (.tmp 67) (.const (.int .i64 1)))⟩, ⟨none, (some 67), (.mv (.tmp 85))⟩])))))))
 (.seq (.ops [⟨none, (some 2), (.mv (.const (.bool true)))⟩])
 .ret))))))
abbrev r7 : List RV := [(.tmp 2)]
theorem F7 : FnOk Go.Proofs.Tryz.prog 7 86 c7 r7 := ⟨_, Go.Proofs.Tryz.func7, by kernel_rfl, by kernel_rfl, by kernel_rfl, by kernel_rfl, by kernel_rfl⟩

noncomputable def c8 : CC := (.seq (.ops [⟨none, (some 1), (.box 34 (.tmp 0))⟩, ⟨none, (some 2), (.mv (.const (.bool false)))⟩])
 (.seq (.ops [⟨none, (some 3), (.faddr 0 (.tmp 1))⟩, ⟨none, (some 4), (.load1 (.tmp 3))⟩, ⟨none, (some 5), (.lenL (.tmp 4))⟩, ⟨none, (some 6), (.faddr 1 (.tmp 1))⟩, ⟨none, (some 7), (.load1 (.tmp 6))⟩, ⟨none, (some 8), (.lenL (.tmp 7))⟩, ⟨none, (some 9), (.faddr 2 (.tmp 1))⟩, ⟨none, (some 10), (.load1 (.tmp 9))⟩, ⟨none, (some 11), (.lenL (.tmp 10))⟩, ⟨none, (some 12), (.faddr 3 (.tmp 1))⟩, ⟨none, (some 13), (.load1 (.tmp 12))⟩, ⟨none, (some 14), (.lenL (.tmp 13))⟩, ⟨none, (some 15), (.faddr 4 (.tmp 1))⟩, ⟨none, (some 16), (.load1 (.tmp 15))⟩, ⟨none, (some 17), (.lenL (.tmp 16))⟩, ⟨none, (some 18), (.faddr 5 (.tmp 1))⟩, ⟨none, (some 19), (.load1 (.tmp 18))⟩, ⟨none, (some 20), (.lenL (.tmp 19))⟩, ⟨none, (some 21), (.raw 23 (.mk (some 21) (.call (.mk (.builtin .max) #[(.tmp 5), (.tmp 8), (.tmp 11), (.tmp 14), (.tmp 17), (.tmp 20)] #[3, 3, 3, 3, 3, 3])) 3 "law.go:35" #[(.mk 2 .data), (.mk 5 .data), (.mk 8 .data), (.mk 11 .data), (.mk 14 .data), (.mk 17 .data)] none))⟩, ⟨none, (some 22), (.iop .leq (.tmp 21) (.const (.int .i64 200)))⟩, ⟨none, (some 2), (.mv (.tmp 22))⟩])
 .ret))
abbrev r8 : List RV := [(.tmp 2)]
theorem F8 : FnOk Go.Proofs.Tryz.prog 8 23 c8 r8 := ⟨_, Go.Proofs.Tryz.func8, by kernel_rfl, by kernel_rfl, by kernel_rfl, by kernel_rfl, by kernel_rfl⟩

noncomputable def c9 : CC := (.seq (.ops [⟨none, (some 1), (.box 41 (.tmp 0))⟩, ⟨none, (some 2), (.mv (.const (.string (.mk #[]))))⟩])
 (.seq (.draw 1 (opsOf (sub (bodyOf Go.Proofs.Tryz.f9) [1, 0])) [⟨none, (some 3), (.faddr 0 (.tmp 1))⟩, ⟨none, (some 4), (.load1 (.tmp 3))⟩, ⟨none, (some 5), (.call 24 [(.tmp 4)])⟩, ⟨none, (some 6), (.faddr 1 (.tmp 1))⟩, ⟨none, (some 7), (.load1 (.tmp 6))⟩, ⟨none, (some 8), (.call 25 [(.tmp 7)])⟩, ⟨none, (some 9), (.faddr 2 (.tmp 1))⟩, ⟨none, (some 10), (.load1 (.tmp 9))⟩, ⟨none, (some 11), (.call 26 [(.tmp 10)])⟩, ⟨none, (some 12), (.faddr 3 (.tmp 1))⟩, ⟨none, (some 13), (.load1 (.tmp 12))⟩, ⟨none, (some 14), (.call 25 [(.tmp 13)])⟩, ⟨none, (some 15), (.faddr 4 (.tmp 1))⟩, ⟨none, (some 16), (.load1 (.tmp 15))⟩, ⟨none, (some 17), (.call 24 [(.tmp 16)])⟩, ⟨none, (some 18), (.buildS 9 10 [(.string (.mk #[])), (.string (.mk #[])), (.string (.mk #[])), (.string (.mk #[])), (.string (.mk #[])), (.string (.mk #[])), (.string (.mk #[])), (.string (.mk #[])), (.string (.mk #[])), (.string (.mk #[]))] [(0, (1, (.const (.string (.mk #[113, 117, 101, 117, 101]))))), (1, (1, (.tmp 5))), (2, (1, (.const (.string (.mk #[109, 111, 115, 116]))))), (3, (1, (.tmp 8))), (4, (1, (.const (.string (.mk #[116, 116, 108]))))), (5, (1, (.tmp 11))), (6, (1, (.const (.string (.mk #[116, 114, 105, 101, 115]))))), (7, (1, (.tmp 14))), (8, (1, (.const (.string (.mk #[100, 101, 97, 100]))))), (9, (1, (.tmp 17)))])⟩, ⟨none, (some 19), (.call 23 [(.tmp 18)])⟩, ⟨none, (some 2), (.mv (.tmp 19))⟩])
 .ret))
abbrev r9 : List RV := [(.tmp 2)]
theorem F9 : FnOk Go.Proofs.Tryz.prog 9 20 c9 r9 := ⟨_, Go.Proofs.Tryz.func9, by kernel_rfl, by kernel_rfl, by kernel_rfl, by kernel_rfl, by kernel_rfl⟩

noncomputable def c10 : CC := (.seq (.ops [⟨none, (some 1), (.box 41 (.tmp 0))⟩, ⟨none, (some 2), (.mv (.const (.string (.mk #[]))))⟩])
 (.seq (.draw 1 (opsOf (sub (bodyOf Go.Proofs.Tryz.f10) [1, 0])) [⟨none, (some 3), (.faddr 0 (.tmp 1))⟩, ⟨none, (some 4), (.load1 (.tmp 3))⟩, ⟨none, (some 5), (.call 27 [(.tmp 4)])⟩, ⟨none, (some 6), (.sop .add (.const (.string (.mk #[113, 117, 101, 117, 101, 32]))) (.tmp 5))⟩, ⟨none, (some 7), (.sop .add (.tmp 6) (.const (.string (.mk #[32, 109, 111, 115, 116, 32]))))⟩, ⟨none, (some 8), (.faddr 1 (.tmp 1))⟩, ⟨none, (some 9), (.load1 (.tmp 8))⟩, ⟨none, (some 10), (.conv .u64 (.tmp 9))⟩, ⟨none, (some 11), (.call 28 [(.tmp 10)])⟩, ⟨none, (some 12), (.sop .add (.tmp 7) (.tmp 11))⟩, ⟨none, (some 13), (.sop .add (.tmp 12) (.const (.string (.mk #[32, 116, 116, 108, 32]))))⟩, ⟨none, (some 14), (.faddr 2 (.tmp 1))⟩, ⟨none, (some 15), (.load1 (.tmp 14))⟩, ⟨none, (some 16), (.call 28 [(.tmp 15)])⟩, ⟨none, (some 17), (.sop .add (.tmp 13) (.tmp 16))⟩, ⟨none, (some 18), (.sop .add (.tmp 17) (.const (.string (.mk #[32, 116, 114, 105, 101, 115, 32]))))⟩, ⟨none, (some 19), (.faddr 3 (.tmp 1))⟩, ⟨none, (some 20), (.load1 (.tmp 19))⟩, ⟨none, (some 21), (.conv .u64 (.tmp 20))⟩, ⟨none, (some 22), (.call 28 [(.tmp 21)])⟩, ⟨none, (some 23), (.sop .add (.tmp 18) (.tmp 22))⟩, ⟨none, (some 24), (.sop .add (.tmp 23) (.const (.string (.mk #[32, 100, 101, 97, 100, 32]))))⟩, ⟨none, (some 25), (.faddr 4 (.tmp 1))⟩, ⟨none, (some 26), (.load1 (.tmp 25))⟩, ⟨none, (some 27), (.call 27 [(.tmp 26)])⟩, ⟨none, (some 28), (.sop .add (.tmp 24) (.tmp 27))⟩, ⟨none, (some 2), (.mv (.tmp 28))⟩])
 .ret))
abbrev r10 : List RV := [(.tmp 2)]
theorem F10 : FnOk Go.Proofs.Tryz.prog 10 29 c10 r10 := ⟨_, Go.Proofs.Tryz.func10, by kernel_rfl, by kernel_rfl, by kernel_rfl, by kernel_rfl, by kernel_rfl⟩

noncomputable def c11 : CC := (.seq (.ops [⟨none, (some 1), (.box 44 (.tmp 0))⟩, ⟨none, (some 2), (.mv (.const (.string (.mk #[]))))⟩])
 (.seq (.ops [⟨none, (some 3), (.mv (.const (.string (.mk #[110, 101, 118, 101, 114]))))⟩])
 (.seq (.seq (.ops [⟨none, (some 4), (.faddr 3 (.tmp 1))⟩, ⟨none, (some 5), (.load1 (.tmp 4))⟩, ⟨none, (some 6), (.iop .neq (.tmp 5) (.const (.int .u64 0)))⟩])
 (.cond (.tmp 6)
 (.ops [⟨none, (some 7), (.faddr 3 (.tmp 1))⟩, ⟨none, (some 8), (.load1 (.tmp 7))⟩, ⟨none, (some 9), (.call 26 [(.tmp 8)])⟩, ⟨none, (some 3), (.mv (.tmp 9))⟩])
 .skip))
 (.seq (.draw 4 (opsOf (sub (bodyOf Go.Proofs.Tryz.f11) [1, 1, 1, 0])) [⟨none, (some 10), (.faddr 0 (.tmp 1))⟩, ⟨none, (some 11), (.load1 (.tmp 10))⟩, ⟨none, (some 12), (.call 24 [(.tmp 11)])⟩, ⟨none, (some 13), (.faddr 1 (.tmp 1))⟩, ⟨none, (some 14), (.load1 (.tmp 13))⟩, ⟨none, (some 15), (.call 26 [(.tmp 14)])⟩, ⟨none, (some 16), (.sop .add (.const (.string (.mk #[35]))) (.tmp 15))⟩, ⟨none, (some 17), (.faddr 2 (.tmp 1))⟩, ⟨none, (some 18), (.load1 (.tmp 17))⟩, ⟨none, (some 19), (.call 25 [(.tmp 18)])⟩, ⟨none, (some 20), (.mv (.tmp 3))⟩, ⟨none, (some 21), (.faddr 4 (.tmp 1))⟩, ⟨none, (some 22), (.load1 (.tmp 21))⟩, ⟨none, (some 23), (.lenS (.tmp 22))⟩, ⟨none, (some 24), (.call 29 [(.tmp 23)])⟩, ⟨none, (some 25), (.buildS 9 9 [(.string (.mk #[])), (.string (.mk #[])), (.string (.mk #[])), (.string (.mk #[])), (.string (.mk #[])), (.string (.mk #[])), (.string (.mk #[])), (.string (.mk #[])), (.string (.mk #[]))] [(0, (1, (.const (.string (.mk #[109, 101, 115, 115, 97, 103, 101]))))), (1, (1, (.tmp 12))), (2, (1, (.tmp 16))), (3, (1, (.const (.string (.mk #[116, 114, 105, 101, 115]))))), (4, (1, (.tmp 19))), (5, (1, (.const (.string (.mk #[117, 110, 116, 105, 108]))))), (6, (1, (.tmp 20))), (7, (1, (.tmp 24))), (8, (1, (.const (.string (.mk #[98, 121, 116, 101, 115])))))])⟩, ⟨none, (some 26), (.call 23 [(.tmp 25)])⟩, ⟨none, (some 2), (.mv (.tmp 26))⟩])
 .ret))))
abbrev r11 : List RV := [(.tmp 2)]
theorem F11 : FnOk Go.Proofs.Tryz.prog 11 27 c11 r11 := ⟨_, Go.Proofs.Tryz.func11, by kernel_rfl, by kernel_rfl, by kernel_rfl, by kernel_rfl, by kernel_rfl⟩

noncomputable def c12 : CC := (.seq (.ops [⟨none, (some 1), (.box 44 (.tmp 0))⟩, ⟨none, (some 2), (.mv (.const (.string (.mk #[]))))⟩])
 (.seq (.ops [⟨none, (some 4), (.faddr 3 (.tmp 1))⟩, ⟨none, (some 5), (.load1 (.tmp 4))⟩, ⟨none, (some 6), (.call 28 [(.tmp 5)])⟩, ⟨none, (some 3), (.mv (.tmp 6))⟩])
 (.seq (.seq (.ops [⟨none, (some 7), (.faddr 3 (.tmp 1))⟩, ⟨none, (some 8), (.load1 (.tmp 7))⟩, ⟨none, (some 9), (.iop .eql (.tmp 8) (.const (.int .u64 0)))⟩])
 (.cond (.tmp 9)
 (.ops [⟨none, (some 3), (.mv (.const (.string (.mk #[110, 101, 118, 101, 114]))))⟩])
 .skip))
 (.seq (.draw 4 (opsOf (sub (bodyOf Go.Proofs.Tryz.f12) [1, 1, 1, 0])) [⟨none, (some 10), (.faddr 0 (.tmp 1))⟩, ⟨none, (some 11), (.load1 (.tmp 10))⟩, ⟨none, (some 12), (.call 27 [(.tmp 11)])⟩, ⟨none, (some 13), (.sop .add (.const (.string (.mk #[109, 101, 115, 115, 97, 103, 101, 32]))) (.tmp 12))⟩, ⟨none, (some 14), (.sop .add (.tmp 13) (.const (.string (.mk #[32, 35]))))⟩, ⟨none, (some 15), (.faddr 1 (.tmp 1))⟩, ⟨none, (some 16), (.load1 (.tmp 15))⟩, ⟨none, (some 17), (.call 28 [(.tmp 16)])⟩, ⟨none, (some 18), (.sop .add (.tmp 14) (.tmp 17))⟩, ⟨none, (some 19), (.sop .add (.tmp 18) (.const (.string (.mk #[32, 116, 114, 105, 101, 115, 32]))))⟩, ⟨none, (some 20), (.faddr 2 (.tmp 1))⟩, ⟨none, (some 21), (.load1 (.tmp 20))⟩, ⟨none, (some 22), (.conv .u64 (.tmp 21))⟩, ⟨none, (some 23), (.call 28 [(.tmp 22)])⟩, ⟨none, (some 24), (.sop .add (.tmp 19) (.tmp 23))⟩, ⟨none, (some 25), (.sop .add (.tmp 24) (.const (.string (.mk #[32, 117, 110, 116, 105, 108, 32]))))⟩, ⟨none, (some 26), (.mv (.tmp 3))⟩, ⟨none, (some 27), (.sop .add (.tmp 25) (.tmp 26))⟩, ⟨none, (some 28), (.sop .add (.tmp 27) (.const (.string (.mk #[32]))))⟩, ⟨none, (some 29), (.faddr 4 (.tmp 1))⟩, ⟨none, (some 30), (.load1 (.tmp 29))⟩, ⟨none, (some 31), (.lenS (.tmp 30))⟩, ⟨none, (some 32), (.conv .u64 (.tmp 31))⟩, ⟨none, (some 33), (.call 28 [(.tmp 32)])⟩, ⟨none, (some 34), (.sop .add (.tmp 28) (.tmp 33))⟩, ⟨none, (some 35), (.sop .add (.tmp 34) (.const (.string (.mk #[32, 98, 121, 116, 101, 115]))))⟩, ⟨none, (some 2), (.mv (.tmp 35))⟩])
 .ret))))
abbrev r12 : List RV := [(.tmp 2)]
theorem F12 : FnOk Go.Proofs.Tryz.prog 12 36 c12 r12 := ⟨_, Go.Proofs.Tryz.func12, by kernel_rfl, by kernel_rfl, by kernel_rfl, by kernel_rfl, by kernel_rfl⟩

noncomputable def c14 : CC := (.seq (.ops [⟨none, (some 1), (.box 49 (.tmp 0))⟩, ⟨none, (some 2), (.mv (.const (.string (.mk #[]))))⟩])
 (.seq (.seq (.ops [⟨none, (some 6), (.faddr 0 (.tmp 1))⟩, ⟨none, (some 7), (.load1 (.tmp 6))⟩, ⟨none, (some 8), (.iop .neq (.tmp 7) (.const (.int .i64 0)))⟩])
 (.cond (.tmp 8)
 (.seq (.ops [⟨none, (some 9), (.faddr 0 (.tmp 1))⟩, ⟨none, (some 10), (.load1 (.tmp 9))⟩, ⟨none, (some 11), (.call 32 [(.tmp 10)])⟩, ⟨none, (some 12), (.sop .add (.const (.string (.mk #[101, 114, 114, 111, 114, 32]))) (.tmp 11))⟩, ⟨none, (some 2), (.mv (.tmp 12))⟩])
 .ret)
 .skip))
 (.seq (.ops [⟨none, (some 13), (.faddr 1 (.tmp 1))⟩, ⟨none, (some 14), (.load1 (.tmp 13))⟩, ⟨none, (some 15), (.call 28 [(.tmp 14)])⟩, ⟨none, (some 16), (.sop .add (.const (.string (.mk #[111, 107, 32]))) (.tmp 15))⟩, ⟨none, (some 3), (.mv (.tmp 16))⟩])
 (.seq (.seq (.ops [⟨none, (some 17), (.faddr 2 (.tmp 1))⟩, ⟨none, (some 18), (.load1 (.tmp 17))⟩, ⟨none, (some 19), (.lenL (.tmp 18))⟩, ⟨none, (some 20), (.iop .gtr (.tmp 19) (.const (.int .i64 0)))⟩])
 (.cond (.tmp 20)
 (.ops [⟨none, (some 21), (.mv (.tmp 3))⟩, ⟨none, (some 22), (.sop .add (.tmp 21) (.const (.string (.mk #[32, 105, 100, 115, 32]))))⟩, ⟨none, (some 23), (.faddr 2 (.tmp 1))⟩, ⟨none, (some 24), (.load1 (.tmp 23))⟩, ⟨none, (some 25), (.call 33 [(.tmp 24)])⟩, ⟨none, (some 26), (.sop .add (.tmp 22) (.tmp 25))⟩, ⟨none, (some 3), (.mv (.tmp 26))⟩])
 .skip))
 (.seq (.seq (.ops [⟨none, (some 27), (.faddr 3 (.tmp 1))⟩, ⟨none, (some 28), (.load1 (.tmp 27))⟩, ⟨none, (some 29), (.lenL (.tmp 28))⟩, ⟨none, (some 30), (.iop .gtr (.tmp 29) (.const (.int .i64 0)))⟩])
 (.cond (.tmp 30)
 (.ops [⟨none, (some 31), (.mv (.tmp 3))⟩, ⟨none, (some 32), (.sop .add (.tmp 31) (.const (.string (.mk #[32, 108, 111, 115, 116, 32]))))⟩, ⟨none, (some 33), (.faddr 3 (.tmp 1))⟩, ⟨none, (some 34), (.load1 (.tmp 33))⟩, ⟨none, (some 35), (.call 33 [(.tmp 34)])⟩, ⟨none, (some 36), (.sop .add (.tmp 32) (.tmp 35))⟩, ⟨none, (some 3), (.mv (.tmp 36))⟩])
 .skip))
 (.seq (.seq (.ops [⟨none, (some 37), (.faddr 4 (.tmp 1))⟩, ⟨none, (some 38), (.load1 (.tmp 37))⟩, ⟨none, (some 39), (.lenL (.tmp 38))⟩, ⟨none, (some 40), (.iop .gtr (.tmp 39) (.const (.int .i64 0)))⟩])
 (.cond (.tmp 40)
 (.ops [⟨none, (some 41), (.mv (.tmp 3))⟩, ⟨none, (some 42), (.sop .add (.tmp 41) (.const (.string (.mk #[32, 100, 101, 97, 100, 32]))))⟩, ⟨none, (some 43), (.faddr 4 (.tmp 1))⟩, ⟨none, (some 44), (.load1 (.tmp 43))⟩, ⟨none, (some 45), (.call 33 [(.tmp 44)])⟩, ⟨none, (some 46), (.sop .add (.tmp 42) (.tmp 45))⟩, ⟨none, (some 3), (.mv (.tmp 46))⟩])
 .skip))
 (.seq (.seq (.ops [⟨none, (some 47), (.faddr 5 (.tmp 1))⟩, ⟨none, (some 48), (.load1 (.tmp 47))⟩, ⟨none, (some 49), (.lenL (.tmp 48))⟩, ⟨none, (some 50), (.mv (.const (.int .i64 0)))⟩])
 (.block 0
 (.loop
 (.seq (.ops [⟨none, (some 51), (.iop .lss (.tmp 50) (.tmp 49))⟩])
 (.seq (.cond (.tmp 51)
 .skip
 (.exit 0))
 (.seq (.block 1
 (.seq (.ops [⟨none, (some 52), (.iaddr 5 (.tmp 48) (.tmp 50))⟩, ⟨none, (some 53), (.loadN 5 (.tmp 52))⟩, ⟨none, (some 5), (.alloc 44 (.agg #[(.string (.mk #[])), (.int .u64 0), (.int .u32 0), (.int .u64 0), (.string (.mk #[]))]))⟩, ⟨none, none, (.storeN 5 (.tmp 5) (.tmp 53))⟩])
 (.ops [⟨none, (some 54), (.mv (.tmp 3))⟩, ⟨none, (some 55), (.sop .add (.tmp 54) (.const (.string (.mk #[10, 32, 32]))))⟩, ⟨none, (some 56), (.loadN 5 (.tmp 5))⟩, ⟨none, (some 57), (.call 12 [(.tmp 56)])⟩, ⟨none, (some 58), (.sop .add (.tmp 55) (.tmp 57))⟩, ⟨none, (some 3), (.mv (.tmp 58))⟩])))
 (.ops [⟨none, (some 59), (.iop .add (.tmp 50) (.const (.int .i64 1)))⟩, ⟨none, (some 50), (.mv (.tmp 59))⟩])))))))
 (.seq (.ops [⟨none, (some 60), (.mv (.tmp 3))⟩, ⟨none, (some 2), (.mv (.tmp 60))⟩])
 .ret))))))))
abbrev r14 : List RV := [(.tmp 2)]
theorem F14 : FnOk Go.Proofs.Tryz.prog 14 61 c14 r14 := ⟨_, Go.Proofs.Tryz.func14, by kernel_rfl, by kernel_rfl, by kernel_rfl, by kernel_rfl, by kernel_rfl⟩

noncomputable def c15 : CC := (.seq (.ops [⟨none, (some 1), (.box 27 (.tmp 0))⟩, ⟨none, (some 2), (.alloc 49 (.agg #[(.int .i64 0), (.int .u64 0), (.slice none 0 0), (.slice none 0 0), (.slice none 0 0), (.slice none 0 0)]))⟩])
 (.seq (.ops [⟨none, (some 3), (.faddr 0 (.tmp 1))⟩, ⟨none, (some 4), (.load1 (.tmp 3))⟩, ⟨none, (some 5), (.faddr 1 (.tmp 1))⟩, ⟨none, (some 6), (.load1 (.tmp 5))⟩, ⟨none, (some 7), (.faddr 2 (.tmp 1))⟩, ⟨none, (some 8), (.load1 (.tmp 7))⟩, ⟨none, (some 9), (.faddr 3 (.tmp 1))⟩, ⟨none, (some 10), (.load1 (.tmp 9))⟩, ⟨none, (some 11), (.faddr 4 (.tmp 1))⟩, ⟨none, (some 12), (.load1 (.tmp 11))⟩, ⟨none, (some 13), (.faddr 5 (.tmp 1))⟩, ⟨none, (some 14), (.load1 (.tmp 13))⟩, ⟨none, (some 15), (.build [(.int .i64 0), (.int .u64 0), (.slice none 0 0), (.slice none 0 0), (.slice none 0 0), (.slice none 0 0)] [(0, (1, (.tmp 4))), (1, (1, (.tmp 6))), (2, (1, (.tmp 8))), (3, (1, (.tmp 10))), (4, (1, (.tmp 12))), (5, (1, (.tmp 14)))])⟩, ⟨none, none, (.storeN 6 (.tmp 2) (.tmp 15))⟩])
 .ret))
abbrev r15 : List RV := [(.cN 2 6)]
theorem F15 : FnOk Go.Proofs.Tryz.prog 15 16 c15 r15 := ⟨_, Go.Proofs.Tryz.func15, by kernel_rfl, by kernel_rfl, by kernel_rfl, by kernel_rfl, by kernel_rfl⟩

noncomputable def c16 : CC := (.seq (.ops [⟨none, (some 1), (.box 31 (.tmp 0))⟩, ⟨none, (some 2), (.mv (.const (.string (.mk #[]))))⟩])
 (.seq (.draw 1 (opsOf (sub (bodyOf Go.Proofs.Tryz.f16) [1, 0])) [⟨none, (some 3), (.faddr 0 (.tmp 1))⟩, ⟨none, (some 4), (.load1 (.tmp 3))⟩, ⟨none, (some 5), (.call 26 [(.tmp 4)])⟩, ⟨none, (some 6), (.faddr 1 (.tmp 1))⟩, ⟨none, (some 7), (.load1 (.tmp 6))⟩, ⟨none, (some 8), (.call 26 [(.tmp 7)])⟩, ⟨none, (some 9), (.buildS 9 4 [(.string (.mk #[])), (.string (.mk #[])), (.string (.mk #[])), (.string (.mk #[]))] [(0, (1, (.const (.string (.mk #[99, 108, 111, 99, 107]))))), (1, (1, (.tmp 5))), (2, (1, (.const (.string (.mk #[108, 97, 115, 116]))))), (3, (1, (.tmp 8)))])⟩, ⟨none, (some 10), (.call 23 [(.tmp 9)])⟩, ⟨none, (some 11), (.sop .add (.tmp 10) (.const (.string (.mk #[10]))))⟩, ⟨none, (some 12), (.faddr 2 (.tmp 1))⟩, ⟨none, (some 13), (.load1 (.tmp 12))⟩, ⟨none, (some 14), (.call 34 [(.tmp 13), (.func 9)])⟩, ⟨none, (some 15), (.sop .add (.tmp 11) (.tmp 14))⟩, ⟨none, (some 16), (.faddr 3 (.tmp 1))⟩, ⟨none, (some 17), (.load1 (.tmp 16))⟩, ⟨none, (some 18), (.call 35 [(.tmp 17), (.func 36)])⟩, ⟨none, (some 19), (.sop .add (.tmp 15) (.tmp 18))⟩, ⟨none, (some 20), (.faddr 4 (.tmp 1))⟩, ⟨none, (some 21), (.load1 (.tmp 20))⟩, ⟨none, (some 22), (.call 37 [(.tmp 21), (.func 11)])⟩, ⟨none, (some 23), (.sop .add (.tmp 19) (.tmp 22))⟩, ⟨none, (some 2), (.mv (.tmp 23))⟩])
 .ret))
abbrev r16 : List RV := [(.tmp 2)]
theorem F16 : FnOk Go.Proofs.Tryz.prog 16 24 c16 r16 := ⟨_, Go.Proofs.Tryz.func16, by kernel_rfl, by kernel_rfl, by kernel_rfl, by kernel_rfl, by kernel_rfl⟩

noncomputable def c17 : CC := (.seq (.ops [⟨none, (some 1), (.box 53 (.tmp 0))⟩, ⟨none, (some 2), (.mv (.const (.string (.mk #[]))))⟩])
 (.seq (.draw 1 (opsOf (sub (bodyOf Go.Proofs.Tryz.f17) [1, 0])) [⟨none, (some 11), (.faddr 0 (.tmp 1))⟩, ⟨none, (some 12), (.load1 (.tmp 11))⟩, ⟨none, (some 13), (.call 28 [(.tmp 12)])⟩, ⟨none, (some 14), (.sop .add (.const (.string (.mk #[99, 108, 111, 99, 107, 32]))) (.tmp 13))⟩, ⟨none, (some 15), (.sop .add (.tmp 14) (.const (.string (.mk #[32, 108, 97, 115, 116, 32]))))⟩, ⟨none, (some 16), (.faddr 1 (.tmp 1))⟩, ⟨none, (some 17), (.load1 (.tmp 16))⟩, ⟨none, (some 18), (.call 28 [(.tmp 17)])⟩, ⟨none, (some 19), (.sop .add (.tmp 15) (.tmp 18))⟩, ⟨none, (some 20), (.sop .add (.tmp 19) (.const (.string (.mk #[10]))))⟩, ⟨none, (some 3), (.mv (.tmp 20))⟩])
 (.seq (.seq (.ops [⟨none, (some 21), (.faddr 2 (.tmp 1))⟩, ⟨none, (some 22), (.load1 (.tmp 21))⟩, ⟨none, (some 23), (.lenL (.tmp 22))⟩, ⟨none, (some 24), (.mv (.const (.int .i64 0)))⟩])
 (.block 0
 (.loop
 (.seq (.ops [⟨none, (some 25), (.iop .lss (.tmp 24) (.tmp 23))⟩])
 (.seq (.cond (.tmp 25)
 .skip
 (.exit 0))
 (.seq (.block 1
 (.seq (.ops [⟨none, (some 26), (.iaddr 5 (.tmp 22) (.tmp 24))⟩, ⟨none, (some 27), (.loadN 5 (.tmp 26))⟩, ⟨none, (some 5), (.alloc 41 (.agg #[(.string (.mk #[])), (.int .u32 0), (.int .u64 0), (.int .u32 0), (.string (.mk #[]))]))⟩, ⟨none, none, (.storeN 5 (.tmp 5) (.tmp 27))⟩])
 (.ops [⟨none, (some 28), (.mv (.tmp 3))⟩, ⟨none, (some 29), (.loadN 5 (.tmp 5))⟩, ⟨none, (some 30), (.call 10 [(.tmp 29)])⟩, ⟨none, (some 31), (.sop .add (.tmp 28) (.tmp 30))⟩, ⟨none, (some 32), (.sop .add (.tmp 31) (.const (.string (.mk #[10]))))⟩, ⟨none, (some 3), (.mv (.tmp 32))⟩])))
 (.ops [⟨none, (some 33), (.iop .add (.tmp 24) (.const (.int .i64 1)))⟩, ⟨none, (some 24), (.mv (.tmp 33))⟩])))))))
 (.seq (.seq (.ops [⟨none, (some 34), (.faddr 3 (.tmp 1))⟩, ⟨none, (some 35), (.load1 (.tmp 34))⟩, ⟨none, (some 36), (.lenL (.tmp 35))⟩, ⟨none, (some 37), (.mv (.const (.int .i64 0)))⟩])
 (.block 2
 (.loop
 (.seq (.ops [⟨none, (some 38), (.iop .lss (.tmp 37) (.tmp 36))⟩])
 (.seq (.cond (.tmp 38)
 .skip
 (.exit 2))
 (.seq (.block 3
 (.seq (.ops [⟨none, (some 39), (.iaddr 4 (.tmp 35) (.tmp 37))⟩, ⟨none, (some 40), (.loadN 4 (.tmp 39))⟩, ⟨none, (some 7), (.alloc 61 (.agg #[(.string (.mk #[])), (.int .i64 0), (.string (.mk #[])), (.string (.mk #[]))]))⟩, ⟨none, none, (.storeN 4 (.tmp 7) (.tmp 40))⟩])
 (.seq (.ops [⟨none, (some 41), (.faddr 1 (.tmp 7))⟩, ⟨none, (some 42), (.load1 (.tmp 41))⟩, ⟨none, (some 43), (.call 32 [(.tmp 42)])⟩, ⟨none, (some 44), (.sop .add (.const (.string (.mk #[107, 105, 110, 100]))) (.tmp 43))⟩, ⟨none, (some 8), (.mv (.tmp 44))⟩])
 (.seq (.seq (.ops [⟨none, (some 45), (.faddr 1 (.tmp 7))⟩, ⟨none, (some 46), (.load1 (.tmp 45))⟩])
 (.block 4
 (.seq (.ops [⟨none, (some 48), (.iop .eql (.tmp 46) (.const (.int .i64 1)))⟩, ⟨none, (some 47), (.mv (.tmp 48))⟩])
 (.cond (.tmp 47)
 (.ops [⟨none, (some 8), (.mv (.const (.string (.mk #[100, 105, 114, 101, 99, 116]))))⟩])
 (.seq (.ops [⟨none, (some 50), (.iop .eql (.tmp 46) (.const (.int .i64 2)))⟩, ⟨none, (some 49), (.mv (.tmp 50))⟩])
 (.cond (.tmp 49)
 (.ops [⟨none, (some 8), (.mv (.const (.string (.mk #[102, 97, 110, 111, 117, 116]))))⟩])
 (.seq (.ops [⟨none, (some 52), (.iop .eql (.tmp 46) (.const (.int .i64 3)))⟩, ⟨none, (some 51), (.mv (.tmp 52))⟩])
 (.cond (.tmp 51)
 (.ops [⟨none, (some 8), (.mv (.const (.string (.mk #[116, 111, 112, 105, 99]))))⟩])
 .skip))))))))
 (.draw 18 (opsOf (sub (bodyOf Go.Proofs.Tryz.f17) [1, 1, 1, 0, 1, 0, 0, 1, 1, 0, 0, 1, 1, 1])) [⟨none, (some 53), (.mv (.tmp 3))⟩, ⟨none, (some 54), (.sop .add (.tmp 53) (.const (.string (.mk #[98, 105, 110, 100, 32]))))⟩, ⟨none, (some 55), (.faddr 0 (.tmp 7))⟩, ⟨none, (some 56), (.load1 (.tmp 55))⟩, ⟨none, (some 57), (.call 27 [(.tmp 56)])⟩, ⟨none, (some 58), (.sop .add (.tmp 54) (.tmp 57))⟩, ⟨none, (some 59), (.sop .add (.tmp 58) (.const (.string (.mk #[32]))))⟩, ⟨none, (some 60), (.mv (.tmp 8))⟩, ⟨none, (some 61), (.sop .add (.tmp 59) (.tmp 60))⟩, ⟨none, (some 62), (.sop .add (.tmp 61) (.const (.string (.mk #[32]))))⟩, ⟨none, (some 63), (.faddr 2 (.tmp 7))⟩, ⟨none, (some 64), (.load1 (.tmp 63))⟩, ⟨none, (some 65), (.call 27 [(.tmp 64)])⟩, ⟨none, (some 66), (.sop .add (.tmp 62) (.tmp 65))⟩, ⟨none, (some 67), (.sop .add (.tmp 66) (.const (.string (.mk #[32, 116, 111, 32]))))⟩, ⟨none, (some 68), (.faddr 3 (.tmp 7))⟩, ⟨none, (some 69), (.load1 (.tmp 68))⟩, ⟨none, (some 70), (.call 27 [(.tmp 69)])⟩, ⟨none, (some 71), (.sop .add (.tmp 67) (.tmp 70))⟩, ⟨none, (some 72), (.sop .add (.tmp 71) (.const (.string (.mk #[10]))))⟩, ⟨none, (some 3), (.mv (.tmp 72))⟩])))))
 (.ops [⟨none, (some 73), (.iop .add (.tmp 37) (.const (.int .i64 1)))⟩, ⟨none, (some 37), (.mv (.tmp 73))⟩])))))))
 (.seq (.seq (.ops [⟨none, (some 74), (.faddr 4 (.tmp 1))⟩, ⟨none, (some 75), (.load1 (.tmp 74))⟩, ⟨none, (some 76), (.lenL (.tmp 75))⟩, ⟨none, (some 77), (.mv (.const (.int .i64 0)))⟩])
 (.block 5
 (.loop
 (.seq (.ops [⟨none, (some 78), (.iop .lss (.tmp 77) (.tmp 76))⟩])
 (.seq (.cond (.tmp 78)
 .skip
 (.exit 5))
 (.seq (.block 6
 (.seq (.ops [⟨none, (some 79), (.iaddr 5 (.tmp 75) (.tmp 77))⟩, ⟨none, (some 80), (.loadN 5 (.tmp 79))⟩, ⟨none, (some 10), (.alloc 44 (.agg #[(.string (.mk #[])), (.int .u64 0), (.int .u32 0), (.int .u64 0), (.string (.mk #[]))]))⟩, ⟨none, none, (.storeN 5 (.tmp 10) (.tmp 80))⟩])
 (.ops [⟨none, (some 81), (.mv (.tmp 3))⟩, ⟨none, (some 82), (.loadN 5 (.tmp 10))⟩, ⟨none, (some 83), (.call 12 [(.tmp 82)])⟩, ⟨none, (some 84), (.sop .add (.tmp 81) (.tmp 83))⟩, ⟨none, (some 85), (.sop .add (.tmp 84) (.const (.string (.mk #[10]))))⟩, ⟨none, (some 3), (.mv (.tmp 85))⟩])))
 (.ops [⟨none, (some 86), (.iop .add (.tmp 77) (.const (.int .i64 1)))⟩, ⟨none, (some 77), (.mv (.tmp 86))⟩])))))))
 (.seq (.ops [⟨none, (some 87), (.mv (.tmp 3))⟩, ⟨none, (some 2), (.mv (.tmp 87))⟩])
 .ret))))))
abbrev r17 : List RV := [(.tmp 2)]
theorem F17 : FnOk Go.Proofs.Tryz.prog 17 88 c17 r17 := ⟨_, Go.Proofs.Tryz.func17, by kernel_rfl, by kernel_rfl, by kernel_rfl, by kernel_rfl, by kernel_rfl⟩

noncomputable def c18 : CC := (.seq (.ops [⟨none, (some 1), (.box 34 (.tmp 0))⟩, ⟨none, (some 2), (.mv (.const (.string (.mk #[]))))⟩])
 (.seq (.draw 1 (opsOf (sub (bodyOf Go.Proofs.Tryz.f18) [1, 0])) [⟨none, (some 4), (.faddr 0 (.tmp 1))⟩, ⟨none, (some 5), (.load1 (.tmp 4))⟩, ⟨none, (some 6), (.lenL (.tmp 5))⟩, ⟨none, (some 7), (.call 29 [(.tmp 6)])⟩, ⟨none, (some 8), (.sop .add (.const (.string (.mk #[112, 97, 103, 101, 115, 58, 32, 116, 114, 101, 101, 32]))) (.tmp 7))⟩, ⟨none, (some 9), (.sop .add (.tmp 8) (.const (.string (.mk #[44, 32, 99, 104, 97, 105, 110, 115, 32]))))⟩, ⟨none, (some 10), (.faddr 1 (.tmp 1))⟩, ⟨none, (some 11), (.load1 (.tmp 10))⟩, ⟨none, (some 12), (.lenL (.tmp 11))⟩, ⟨none, (some 13), (.call 29 [(.tmp 12)])⟩, ⟨none, (some 14), (.sop .add (.tmp 9) (.tmp 13))⟩, ⟨none, (some 15), (.sop .add (.tmp 14) (.const (.string (.mk #[44, 32, 108, 101, 100, 103, 101, 114, 32]))))⟩, ⟨none, (some 16), (.faddr 2 (.tmp 1))⟩, ⟨none, (some 17), (.load1 (.tmp 16))⟩, ⟨none, (some 18), (.lenL (.tmp 17))⟩, ⟨none, (some 19), (.call 29 [(.tmp 18)])⟩, ⟨none, (some 20), (.sop .add (.tmp 15) (.tmp 19))⟩, ⟨none, (some 21), (.sop .add (.tmp 20) (.const (.string (.mk #[44, 32, 102, 114, 101, 101, 32]))))⟩, ⟨none, (some 22), (.faddr 3 (.tmp 1))⟩, ⟨none, (some 23), (.load1 (.tmp 22))⟩, ⟨none, (some 24), (.lenL (.tmp 23))⟩, ⟨none, (some 25), (.call 29 [(.tmp 24)])⟩, ⟨none, (some 26), (.sop .add (.tmp 21) (.tmp 25))⟩, ⟨none, (some 3), (.mv (.tmp 26))⟩])
 (.seq (.seq (.ops [⟨none, (some 27), (.faddr 4 (.tmp 1))⟩, ⟨none, (some 28), (.load1 (.tmp 27))⟩, ⟨none, (some 29), (.lenL (.tmp 28))⟩, ⟨none, (some 30), (.iop .gtr (.tmp 29) (.const (.int .i64 0)))⟩])
 (.cond (.tmp 30)
 (.ops [⟨none, (some 31), (.mv (.tmp 3))⟩, ⟨none, (some 32), (.faddr 4 (.tmp 1))⟩, ⟨none, (some 33), (.load1 (.tmp 32))⟩, ⟨none, (some 34), (.call 38 [(.tmp 33)])⟩, ⟨none, (some 35), (.sop .add (.const (.string (.mk #[44, 32, 108, 111, 115, 116, 32]))) (.tmp 34))⟩, ⟨none, (some 36), (.sop .add (.tmp 31) (.tmp 35))⟩, ⟨none, (some 3), (.mv (.tmp 36))⟩])
 .skip))
 (.seq (.seq (.ops [⟨none, (some 37), (.faddr 5 (.tmp 1))⟩, ⟨none, (some 38), (.load1 (.tmp 37))⟩, ⟨none, (some 39), (.lenL (.tmp 38))⟩, ⟨none, (some 40), (.iop .gtr (.tmp 39) (.const (.int .i64 0)))⟩])
 (.cond (.tmp 40)
 (.ops [⟨none, (some 41), (.mv (.tmp 3))⟩, ⟨none, (some 42), (.faddr 5 (.tmp 1))⟩, ⟨none, (some 43), (.load1 (.tmp 42))⟩, ⟨none, (some 44), (.call 38 [(.tmp 43)])⟩, ⟨none, (some 45), (.sop .add (.const (.string (.mk #[44, 32, 116, 119, 105, 99, 101, 32]))) (.tmp 44))⟩, ⟨none, (some 46), (.sop .add (.tmp 41) (.tmp 45))⟩, ⟨none, (some 3), (.mv (.tmp 46))⟩])
 .skip))
 (.seq (.draw 6 (opsOf (sub (bodyOf Go.Proofs.Tryz.f18) [1, 1, 1, 1, 0])) [⟨none, (some 47), (.mv (.tmp 3))⟩, ⟨none, (some 48), (.sop .add (.tmp 47) (.const (.string (.mk #[10, 112, 97, 105, 114, 115, 58, 32]))))⟩, ⟨none, (some 49), (.faddr 6 (.tmp 1))⟩, ⟨none, (some 50), (.load1 (.tmp 49))⟩, ⟨none, (some 51), (.call 30 [(.tmp 50)])⟩, ⟨none, (some 52), (.sop .add (.tmp 48) (.tmp 51))⟩, ⟨none, (some 53), (.sop .add (.tmp 52) (.const (.string (.mk #[32, 111, 102, 32]))))⟩, ⟨none, (some 54), (.faddr 7 (.tmp 1))⟩, ⟨none, (some 55), (.load1 (.tmp 54))⟩, ⟨none, (some 56), (.call 26 [(.tmp 55)])⟩, ⟨none, (some 57), (.sop .add (.tmp 53) (.tmp 56))⟩, ⟨none, (some 58), (.sop .add (.tmp 57) (.const (.string (.mk #[32, 98, 121, 116, 101, 115, 44, 32]))))⟩, ⟨none, (some 59), (.faddr 8 (.tmp 1))⟩, ⟨none, (some 60), (.load1 (.tmp 59))⟩, ⟨none, (some 61), (.call 30 [(.tmp 60)])⟩, ⟨none, (some 62), (.sop .add (.tmp 58) (.tmp 61))⟩, ⟨none, (some 63), (.sop .add (.tmp 62) (.const (.string (.mk #[32, 100, 101, 101, 112, 10]))))⟩, ⟨none, (some 2), (.mv (.tmp 63))⟩])
 .ret)))))
abbrev r18 : List RV := [(.tmp 2)]
theorem F18 : FnOk Go.Proofs.Tryz.prog 18 64 c18 r18 := ⟨_, Go.Proofs.Tryz.func18, by kernel_rfl, by kernel_rfl, by kernel_rfl, by kernel_rfl, by kernel_rfl⟩

noncomputable def c19 : CC := (.seq (.ops [⟨none, (some 18), (.mv (.const (.string (.mk #[]))))⟩])
 (.seq (.ops [⟨none, (some 20), (.mv (.tmp 0))⟩, ⟨none, (some 21), (.lenL (.tmp 20))⟩, ⟨none, (some 22), (.call 32 [(.tmp 21)])⟩, ⟨none, (some 23), (.sop .add (.const (.string (.mk #[112, 97, 103, 101, 115, 58, 32, 116, 114, 101, 101, 32]))) (.tmp 22))⟩, ⟨none, (some 24), (.sop .add (.tmp 23) (.const (.string (.mk #[44, 32, 99, 104, 97, 105, 110, 115, 32]))))⟩, ⟨none, (some 25), (.mv (.tmp 1))⟩, ⟨none, (some 26), (.lenL (.tmp 25))⟩, ⟨none, (some 27), (.call 32 [(.tmp 26)])⟩, ⟨none, (some 28), (.sop .add (.tmp 24) (.tmp 27))⟩, ⟨none, (some 29), (.sop .add (.tmp 28) (.const (.string (.mk #[44, 32, 108, 101, 100, 103, 101, 114, 32]))))⟩, ⟨none, (some 30), (.mv (.tmp 2))⟩, ⟨none, (some 31), (.lenL (.tmp 30))⟩, ⟨none, (some 32), (.call 32 [(.tmp 31)])⟩, ⟨none, (some 33), (.sop .add (.tmp 29) (.tmp 32))⟩, ⟨none, (some 34), (.sop .add (.tmp 33) (.const (.string (.mk #[44, 32, 102, 114, 101, 101, 32]))))⟩, ⟨none, (some 35), (.mv (.tmp 3))⟩, ⟨none, (some 36), (.lenL (.tmp 35))⟩, ⟨none, (some 37), (.call 32 [(.tmp 36)])⟩, ⟨none, (some 38), (.sop .add (.tmp 34) (.tmp 37))⟩, ⟨none, (some 19), (.mv (.tmp 38))⟩])
 (.seq (.seq (.ops [⟨none, (some 39), (.mv (.tmp 4))⟩, ⟨none, (some 40), (.lenL (.tmp 39))⟩, ⟨none, (some 41), (.iop .gtr (.tmp 40) (.const (.int .i64 0)))⟩])
 (.cond (.tmp 41)
 (.ops [⟨none, (some 42), (.mv (.tmp 19))⟩, ⟨none, (some 43), (.sop .add (.tmp 42) (.const (.string (.mk #[44, 32, 108, 111, 115, 116, 32]))))⟩, ⟨none, (some 44), (.mv (.tmp 4))⟩, ⟨none, (some 45), (.call 39 [(.tmp 44)])⟩, ⟨none, (some 46), (.call 33 [(.tmp 45)])⟩, ⟨none, (some 47), (.sop .add (.tmp 43) (.tmp 46))⟩, ⟨none, (some 19), (.mv (.tmp 47))⟩])
 .skip))
 (.seq (.seq (.ops [⟨none, (some 48), (.mv (.tmp 5))⟩, ⟨none, (some 49), (.lenL (.tmp 48))⟩, ⟨none, (some 50), (.iop .gtr (.tmp 49) (.const (.int .i64 0)))⟩])
 (.cond (.tmp 50)
 (.ops [⟨none, (some 51), (.mv (.tmp 19))⟩, ⟨none, (some 52), (.sop .add (.tmp 51) (.const (.string (.mk #[44, 32, 116, 119, 105, 99, 101, 32]))))⟩, ⟨none, (some 53), (.mv (.tmp 5))⟩, ⟨none, (some 54), (.call 39 [(.tmp 53)])⟩, ⟨none, (some 55), (.call 33 [(.tmp 54)])⟩, ⟨none, (some 56), (.sop .add (.tmp 52) (.tmp 55))⟩, ⟨none, (some 19), (.mv (.tmp 56))⟩])
 .skip))
 (.seq (.ops [⟨none, (some 57), (.mv (.tmp 19))⟩, ⟨none, (some 58), (.sop .add (.tmp 57) (.const (.string (.mk #[10, 112, 97, 105, 114, 115, 58, 32]))))⟩, ⟨none, (some 59), (.mv (.tmp 6))⟩, ⟨none, (some 60), (.call 32 [(.tmp 59)])⟩, ⟨none, (some 61), (.sop .add (.tmp 58) (.tmp 60))⟩, ⟨none, (some 62), (.sop .add (.tmp 61) (.const (.string (.mk #[32, 111, 102, 32]))))⟩, ⟨none, (some 63), (.mv (.tmp 7))⟩, ⟨none, (some 64), (.call 28 [(.tmp 63)])⟩, ⟨none, (some 65), (.sop .add (.tmp 62) (.tmp 64))⟩, ⟨none, (some 66), (.sop .add (.tmp 65) (.const (.string (.mk #[32, 98, 121, 116, 101, 115, 44, 32]))))⟩, ⟨none, (some 67), (.mv (.tmp 8))⟩, ⟨none, (some 68), (.call 32 [(.tmp 67)])⟩, ⟨none, (some 69), (.sop .add (.tmp 66) (.tmp 68))⟩, ⟨none, (some 70), (.sop .add (.tmp 69) (.const (.string (.mk #[32, 100, 101, 101, 112, 10]))))⟩, ⟨none, (some 18), (.mv (.tmp 70))⟩])
 .ret)))))
abbrev r19 : List RV := [(.tmp 18)]
theorem F19 : FnOk Go.Proofs.Tryz.prog 19 71 c19 r19 := ⟨_, Go.Proofs.Tryz.func19, by kernel_rfl, by kernel_rfl, by kernel_rfl, by kernel_rfl, by kernel_rfl⟩

noncomputable def c20 : CC := (.seq (.ops [⟨none, (some 2), (.mv (.const (.int .i64 0)))⟩])
 (.seq (.ops [⟨none, (some 3), (.mv (.tmp 0))⟩, ⟨none, (some 4), (.call 21 [(.tmp 3), (.const (.string (.mk #[10])))])⟩, ⟨none, (some 2), (.mv (.tmp 4))⟩])
 .ret))
abbrev r20 : List RV := [(.tmp 2)]
theorem F20 : FnOk Go.Proofs.Tryz.prog 20 5 c20 r20 := ⟨_, Go.Proofs.Tryz.func20, by kernel_rfl, by kernel_rfl, by kernel_rfl, by kernel_rfl, by kernel_rfl⟩

noncomputable def c24 : CC := (.seq (.ops [⟨none, (some 2), (.mv (.const (.string (.mk #[]))))⟩])
 (.seq (.ops [⟨none, (some 3), (.alloc 81 (.agg #[(.pointer none), (.slice none 0 0)]))⟩])
 (.seq (.ops [⟨none, (some 6), (.call 45 [(.tmp 3), (.const (.int .u8 34))])⟩])
 (.seq (.seq (.ops [⟨none, (some 7), (.mv (.tmp 0))⟩, ⟨none, (some 8), (.lenS (.tmp 7))⟩, ⟨none, (some 9), (.mv (.const (.int .i64 0)))⟩])
 (.block 0
 (.loop
 (.seq (.ops [⟨none, (some 10), (.iop .lss (.tmp 9) (.tmp 8))⟩])
 (.seq (.cond (.tmp 10)
 .skip
 (.exit 0))
 (.seq (.block 1
 (.seq (.ops [⟨none, (some 11), (.mv (.tmp 9))⟩, ⟨none, (some 4), (.mv (.tmp 11))⟩])
 (.seq (.ops [⟨none, (some 12), (.mv (.tmp 0))⟩, ⟨none, (some 13), (.mv (.tmp 4))⟩, ⟨none, (some 14), (.sidx (.tmp 12) (.tmp 13))⟩, ⟨none, (some 5), (.mv (.tmp 14))⟩])
 (.block 2
 (.seq (.ops [⟨none, (some 18), (.mv (.tmp 5))⟩, ⟨none, (some 19), (.iop .eql (.tmp 18) (.const (.int .u8 34)))⟩, ⟨none, (some 20), (.mv (.tmp 19))⟩, ⟨(some (20, false)), (some 21), (.mv (.tmp 5))⟩, ⟨(some (20, false)), (some 22), (.iop .eql (.tmp 21) (.const (.int .u8 92)))⟩, ⟨none, (some 23), (.pick (.tmp 20) (.const (.bool true)) (.tmp 22))⟩, ⟨none, (some 17), (.mv (.tmp 23))⟩])
 (.cond (.tmp 17)
 (.seq (.ops [⟨none, (some 24), (.call 45 [(.tmp 3), (.const (.int .u8 92))])⟩])
 (.ops [⟨none, (some 25), (.mv (.tmp 5))⟩, ⟨none, (some 26), (.call 45 [(.tmp 3), (.tmp 25)])⟩]))
 (.seq (.ops [⟨none, (some 28), (.mv (.tmp 5))⟩, ⟨none, (some 29), (.iop .eql (.tmp 28) (.const (.int .u8 10)))⟩, ⟨none, (some 27), (.mv (.tmp 29))⟩])
 (.cond (.tmp 27)
 (.ops [⟨none, (some 30), (.call 46 [(.tmp 3), (.const (.string (.mk #[92, 110])))])⟩])
 (.seq (.ops [⟨none, (some 32), (.mv (.tmp 5))⟩, ⟨none, (some 33), (.iop .lss (.tmp 32) (.const (.int .u8 32)))⟩, ⟨none, (some 34), (.mv (.tmp 33))⟩, ⟨(some (34, false)), (some 35), (.mv (.tmp 5))⟩, ⟨(some (34, false)), (some 36), (.iop .gtr (.tmp 35) (.const (.int .u8 126)))⟩, ⟨none, (some 37), (.pick (.tmp 34) (.const (.bool true)) (.tmp 36))⟩, ⟨none, (some 31), (.mv (.tmp 37))⟩])
 (.cond (.tmp 31)
 (.seq (.ops [⟨none, (some 38), (.call 46 [(.tmp 3), (.const (.string (.mk #[92, 120])))])⟩])
 (.seq (.ops [⟨none, (some 39), (.mv (.tmp 5))⟩, ⟨none, (some 40), (.iop .shr (.tmp 39) (.const (.int .u64 4)))⟩, ⟨none, (some 41), (.sidx (.const (.string (.mk #[48, 49, 50, 51, 52, 53, 54, 55, 56, 57, 97, 98, 99, 100, 101, 102]))) (.tmp 40))⟩, ⟨none, (some 42), (.call 45 [(.tmp 3), (.tmp 41)])⟩])
 (.ops [⟨none, (some 43), (.mv (.tmp 5))⟩, ⟨none, (some 44), (.iop .and (.tmp 43) (.const (.int .u8 15)))⟩, ⟨none, (some 45), (.sidx (.const (.string (.mk #[48, 49, 50, 51, 52, 53, 54, 55, 56, 57, 97, 98, 99, 100, 101, 102]))) (.tmp 44))⟩, ⟨none, (some 46), (.call 45 [(.tmp 3), (.tmp 45)])⟩])))
 (.ops [⟨none, (some 15), (.mv (.tmp 5))⟩, ⟨none, (some 16), (.call 45 [(.tmp 3), (.tmp 15)])⟩])))))))))))
 (.ops [⟨none, (some 47), (.iop .add (.tmp 9) (.const (.int .i64 1)))⟩, ⟨none, (some 9), (.mv (.tmp 47))⟩])))))))
 (.seq (.ops [⟨none, (some 48), (.call 45 [(.tmp 3), (.const (.int .u8 34))])⟩])
 (.seq (.ops [⟨none, (some 49), (.call 47 [(.tmp 3)])⟩, ⟨none, (some 2), (.mv (.tmp 49))⟩])
 .ret))))))
abbrev r24 : List RV := [(.tmp 2)]
theorem F24 : FnOk Go.Proofs.Tryz.prog 24 50 c24 r24 := ⟨_, Go.Proofs.Tryz.func24, by kernel_rfl, by kernel_rfl, by kernel_rfl, by kernel_rfl, by kernel_rfl⟩

noncomputable def c25 : CC := (.seq (.ops [⟨none, (some 2), (.mv (.const (.string (.mk #[]))))⟩])
 (.seq (.ops [⟨none, (some 3), (.mv (.tmp 0))⟩, ⟨none, (some 4), (.conv .u64 (.tmp 3))⟩, ⟨none, (some 5), (.call 48 [(.tmp 4), (.const (.int .i64 10))])⟩, ⟨none, (some 2), (.mv (.tmp 5))⟩])
 .ret))
abbrev r25 : List RV := [(.tmp 2)]
theorem F25 : FnOk Go.Proofs.Tryz.prog 25 6 c25 r25 := ⟨_, Go.Proofs.Tryz.func25, by kernel_rfl, by kernel_rfl, by kernel_rfl, by kernel_rfl, by kernel_rfl⟩

noncomputable def c27 : CC := (.seq (.ops [⟨none, (some 2), (.mv (.const (.string (.mk #[]))))⟩])
 (.seq (.ops [⟨none, (some 6), (.buildS 5 1 [(.int .u8 0)] [(0, (1, (.const (.int .u8 34))))])⟩, ⟨none, (some 3), (.mv (.tmp 6))⟩])
 (.seq (.seq (.ops [⟨none, (some 4), (.mv (.const (.int .i64 0)))⟩])
 (.block 0
 (.loop
 (.seq (.seq (.ops [⟨none, (some 7), (.mv (.tmp 4))⟩, ⟨none, (some 8), (.mv (.tmp 0))⟩, ⟨none, (some 9), (.lenS (.tmp 8))⟩, ⟨none, (some 10), (.iop .lss (.tmp 7) (.tmp 9))⟩])
 (.cond (.tmp 10)
 .skip
 (.exit 0)))
 (.seq (.block 1
 (.seq (.ops [⟨none, (some 13), (.mv (.tmp 0))⟩, ⟨none, (some 14), (.mv (.tmp 4))⟩, ⟨none, (some 15), (.sidx (.tmp 13) (.tmp 14))⟩, ⟨none, (some 5), (.mv (.tmp 15))⟩])
 (.seq (.ops [⟨none, (some 16), (.mv (.tmp 5))⟩, ⟨none, (some 17), (.iop .eql (.tmp 16) (.const (.int .u8 34)))⟩, ⟨none, (some 18), (.mv (.tmp 17))⟩, ⟨(some (18, false)), (some 19), (.mv (.tmp 5))⟩, ⟨(some (18, false)), (some 20), (.iop .eql (.tmp 19) (.const (.int .u8 92)))⟩, ⟨none, (some 21), (.pick (.tmp 18) (.const (.bool true)) (.tmp 20))⟩])
 (.cond (.tmp 21)
 (.ops [⟨none, (some 22), (.mv (.tmp 3))⟩, ⟨none, (some 23), (.mv (.tmp 5))⟩, ⟨none, (some 24), (.buildS 5 2 [(.int .u8 0), (.int .u8 0)] [(0, (1, (.const (.int .u8 92)))), (1, (1, (.tmp 23)))])⟩, ⟨none, (some 25), (.raw 54 (.mk (some 25) (.call (.mk (.builtin .append) #[(.tmp 22), (.tmp 24)] #[79, 79])) 79 "ref.go:47" #[(.mk 0 .data), (.mk 2 .data)] none))⟩, ⟨none, (some 3), (.mv (.tmp 25))⟩])
 (.seq (.ops [⟨none, (some 26), (.mv (.tmp 5))⟩, ⟨none, (some 27), (.iop .eql (.tmp 26) (.const (.int .u8 10)))⟩])
 (.cond (.tmp 27)
 (.ops [⟨none, (some 28), (.mv (.tmp 3))⟩, ⟨none, (some 29), (.buildS 5 2 [(.int .u8 0), (.int .u8 0)] [(0, (1, (.const (.int .u8 92)))), (1, (1, (.const (.int .u8 110))))])⟩, ⟨none, (some 30), (.raw 54 (.mk (some 30) (.call (.mk (.builtin .append) #[(.tmp 28), (.tmp 29)] #[79, 79])) 79 "ref.go:49" #[(.mk 0 .data), (.mk 1 .data)] none))⟩, ⟨none, (some 3), (.mv (.tmp 30))⟩])
 (.seq (.ops [⟨none, (some 31), (.mv (.tmp 5))⟩, ⟨none, (some 32), (.iop .lss (.tmp 31) (.const (.int .u8 32)))⟩, ⟨none, (some 33), (.mv (.tmp 32))⟩, ⟨(some (33, false)), (some 34), (.mv (.tmp 5))⟩, ⟨(some (33, false)), (some 35), (.iop .gtr (.tmp 34) (.const (.int .u8 126)))⟩, ⟨none, (some 36), (.pick (.tmp 33) (.const (.bool true)) (.tmp 35))⟩])
 (.cond (.tmp 36)
 (.draw 11 (opsOf (sub (bodyOf Go.Proofs.Tryz.f27) [1, 1, 0, 1, 0, 0, 1, 0, 0, 1, 1, 1, 1, 1, 1, 0])) [⟨none, (some 37), (.mv (.tmp 3))⟩, ⟨none, (some 38), (.mv (.tmp 5))⟩, ⟨none, (some 39), (.iop .quo (.tmp 38) (.const (.int .u8 16)))⟩, ⟨none, (some 40), (.sidx (.const (.string (.mk #[48, 49, 50, 51, 52, 53, 54, 55, 56, 57, 97, 98, 99, 100, 101, 102]))) (.tmp 39))⟩, ⟨none, (some 41), (.mv (.tmp 5))⟩, ⟨none, (some 42), (.iop .rem (.tmp 41) (.const (.int .u8 16)))⟩, ⟨none, (some 43), (.sidx (.const (.string (.mk #[48, 49, 50, 51, 52, 53, 54, 55, 56, 57, 97, 98, 99, 100, 101, 102]))) (.tmp 42))⟩, ⟨none, (some 44), (.buildS 5 4 [(.int .u8 0), (.int .u8 0), (.int .u8 0), (.int .u8 0)] [(0, (1, (.const (.int .u8 92)))), (1, (1, (.const (.int .u8 120)))), (2, (1, (.tmp 40))), (3, (1, (.tmp 43)))])⟩, ⟨none, (some 45), (.raw 54 (.mk (some 45) (.call (.mk (.builtin .append) #[(.tmp 37), (.tmp 44)] #[79, 79])) 79 "ref.go:51" #[(.mk 0 .data), (.mk 7 .data)] none))⟩, ⟨none, (some 3), (.mv (.tmp 45))⟩])
 (.ops [⟨none, (some 46), (.mv (.tmp 3))⟩, ⟨none, (some 47), (.mv (.tmp 5))⟩, ⟨none, (some 48), (.buildS 5 1 [(.int .u8 0)] [(0, (1, (.tmp 47)))])⟩, ⟨none, (some 49), (.raw 54 (.mk (some 49) (.call (.mk (.builtin .append) #[(.tmp 46), (.tmp 48)] #[79, 79])) 79 "ref.go:53" #[(.mk 0 .data), (.mk 2 .data)] none))⟩, ⟨none, (some 3), (.mv (.tmp 49))⟩])))))))))
 (.ops [⟨none, (some 11), (.mv (.tmp 4))⟩, ⟨none, (some 12), (.iop .add (.tmp 11) (.const (.int .i64 1)))⟩, ⟨none, (some 4), (.mv (.tmp 12))⟩]))))))
 (.seq (.ops [⟨none, (some 50), (.mv (.tmp 3))⟩, ⟨none, (some 51), (.buildS 5 1 [(.int .u8 0)] [(0, (1, (.const (.int .u8 34))))])⟩, ⟨none, (some 52), (.raw 54 (.mk (some 52) (.call (.mk (.builtin .append) #[(.tmp 50), (.tmp 51)] #[79, 79])) 79 "ref.go:56" #[(.mk 0 .data), (.mk 1 .data)] none))⟩, ⟨none, (some 53), (.raw 54 (.mk (some 53) (.convert 79 9 (.tmp 52)) 9 "ref.go:56" #[(.mk 2 .data)] none))⟩, ⟨none, (some 2), (.mv (.tmp 53))⟩])
 .ret))))
abbrev r27 : List RV := [(.tmp 2)]
theorem F27 : FnOk Go.Proofs.Tryz.prog 27 54 c27 r27 := ⟨_, Go.Proofs.Tryz.func27, by kernel_rfl, by kernel_rfl, by kernel_rfl, by kernel_rfl, by kernel_rfl⟩

noncomputable def c28 : CC := (.seq (.ops [⟨none, (some 2), (.mv (.const (.string (.mk #[]))))⟩])
 (.seq (.ops [⟨none, (some 3), (.mv (.const (.string (.mk #[]))))⟩])
 (.block 0
 (.loop
 (.block 1
 (.seq (.ops [⟨none, (some 4), (.mv (.tmp 0))⟩, ⟨none, (some 5), (.iop .rem (.tmp 4) (.const (.int .u64 10)))⟩, ⟨none, (some 6), (.iop .add (.const (.int .u64 48)) (.tmp 5))⟩, ⟨none, (some 7), (.conv .u8 (.tmp 6))⟩, ⟨none, (some 8), (.buildS 5 1 [(.int .u8 0)] [(0, (1, (.tmp 7)))])⟩, ⟨none, (some 9), (.raw 17 (.mk (some 9) (.convert 79 9 (.tmp 8)) 9 "ref.go:15" #[(.mk 4 .data)] none))⟩, ⟨none, (some 10), (.mv (.tmp 3))⟩, ⟨none, (some 11), (.sop .add (.tmp 9) (.tmp 10))⟩, ⟨none, (some 3), (.mv (.tmp 11))⟩])
 (.seq (.ops [⟨none, (some 12), (.mv (.tmp 0))⟩, ⟨none, (some 13), (.iop .quo (.tmp 12) (.const (.int .u64 10)))⟩, ⟨none, (some 0), (.mv (.tmp 13))⟩])
 (.seq (.ops [⟨none, (some 14), (.mv (.tmp 0))⟩, ⟨none, (some 15), (.iop .eql (.tmp 14) (.const (.int .u64 0)))⟩])
 (.cond (.tmp 15)
 (.seq (.ops [⟨none, (some 16), (.mv (.tmp 3))⟩, ⟨none, (some 2), (.mv (.tmp 16))⟩])
 .ret)
 .skip)))))))))
abbrev r28 : List RV := [(.tmp 2)]
theorem F28 : FnOk Go.Proofs.Tryz.prog 28 17 c28 r28 := ⟨_, Go.Proofs.Tryz.func28, by kernel_rfl, by kernel_rfl, by kernel_rfl, by kernel_rfl, by kernel_rfl⟩

noncomputable def c29 : CC := (.seq (.ops [⟨none, (some 2), (.mv (.const (.string (.mk #[]))))⟩])
 (.seq (.ops [⟨none, (some 3), (.mv (.tmp 0))⟩, ⟨none, (some 4), (.conv .u64 (.tmp 3))⟩, ⟨none, (some 5), (.call 48 [(.tmp 4), (.const (.int .i64 10))])⟩, ⟨none, (some 2), (.mv (.tmp 5))⟩])
 .ret))
abbrev r29 : List RV := [(.tmp 2)]
theorem F29 : FnOk Go.Proofs.Tryz.prog 29 6 c29 r29 := ⟨_, Go.Proofs.Tryz.func29, by kernel_rfl, by kernel_rfl, by kernel_rfl, by kernel_rfl, by kernel_rfl⟩

noncomputable def c32 : CC := (.seq (.ops [⟨none, (some 2), (.mv (.const (.string (.mk #[]))))⟩])
 (.seq (.seq (.ops [⟨none, (some 3), (.mv (.tmp 0))⟩, ⟨none, (some 4), (.iop .lss (.tmp 3) (.const (.int .i64 0)))⟩])
 (.cond (.tmp 4)
 (.seq (.ops [⟨none, (some 5), (.mv (.tmp 0))⟩, ⟨none, (some 6), (.iop .add (.tmp 5) (.const (.int .i64 1)))⟩, ⟨none, (some 7), (.raw 15 (.mk (some 7) (.unOp .neg 3 (.tmp 6)) 3 "ref.go:26" #[(.mk 1 .data)] none))⟩, ⟨none, (some 8), (.conv .u64 (.tmp 7))⟩, ⟨none, (some 9), (.iop .add (.tmp 8) (.const (.int .u64 1)))⟩, ⟨none, (some 10), (.call 28 [(.tmp 9)])⟩, ⟨none, (some 11), (.sop .add (.const (.string (.mk #[45]))) (.tmp 10))⟩, ⟨none, (some 2), (.mv (.tmp 11))⟩])
 .ret)
 .skip))
 (.seq (.ops [⟨none, (some 12), (.mv (.tmp 0))⟩, ⟨none, (some 13), (.conv .u64 (.tmp 12))⟩, ⟨none, (some 14), (.call 28 [(.tmp 13)])⟩, ⟨none, (some 2), (.mv (.tmp 14))⟩])
 .ret)))
abbrev r32 : List RV := [(.tmp 2)]
theorem F32 : FnOk Go.Proofs.Tryz.prog 32 15 c32 r32 := ⟨_, Go.Proofs.Tryz.func32, by kernel_rfl, by kernel_rfl, by kernel_rfl, by kernel_rfl, by kernel_rfl⟩

noncomputable def c33 : CC := (.seq (.ops [⟨none, (some 2), (.mv (.const (.string (.mk #[]))))⟩])
 (.seq (.ops [⟨none, (some 3), (.mv (.const (.string (.mk #[91]))))⟩])
 (.seq (.seq (.ops [⟨none, (some 6), (.mv (.tmp 0))⟩, ⟨none, (some 7), (.lenL (.tmp 6))⟩, ⟨none, (some 8), (.mv (.const (.int .i64 0)))⟩])
 (.block 0
 (.loop
 (.seq (.ops [⟨none, (some 9), (.iop .lss (.tmp 8) (.tmp 7))⟩])
 (.seq (.cond (.tmp 9)
 .skip
 (.exit 0))
 (.seq (.block 1
 (.seq (.ops [⟨none, (some 10), (.mv (.tmp 8))⟩, ⟨none, (some 11), (.iaddr 1 (.tmp 6) (.tmp 8))⟩, ⟨none, (some 12), (.load1 (.tmp 11))⟩, ⟨none, (some 4), (.mv (.tmp 10))⟩, ⟨none, (some 5), (.mv (.tmp 12))⟩])
 (.seq (.seq (.ops [⟨none, (some 13), (.mv (.tmp 4))⟩, ⟨none, (some 14), (.iop .gtr (.tmp 13) (.const (.int .i64 0)))⟩])
 (.cond (.tmp 14)
 (.ops [⟨none, (some 15), (.mv (.tmp 3))⟩, ⟨none, (some 16), (.sop .add (.tmp 15) (.const (.string (.mk #[32]))))⟩, ⟨none, (some 3), (.mv (.tmp 16))⟩])
 .skip))
 (.ops [⟨none, (some 17), (.mv (.tmp 3))⟩, ⟨none, (some 18), (.mv (.tmp 5))⟩, ⟨none, (some 19), (.call 28 [(.tmp 18)])⟩, ⟨none, (some 20), (.sop .add (.tmp 17) (.tmp 19))⟩, ⟨none, (some 3), (.mv (.tmp 20))⟩]))))
 (.ops [⟨none, (some 21), (.iop .add (.tmp 8) (.const (.int .i64 1)))⟩, ⟨none, (some 8), (.mv (.tmp 21))⟩])))))))
 (.seq (.ops [⟨none, (some 22), (.mv (.tmp 3))⟩, ⟨none, (some 23), (.sop .add (.tmp 22) (.const (.string (.mk #[93]))))⟩, ⟨none, (some 2), (.mv (.tmp 23))⟩])
 .ret))))
abbrev r33 : List RV := [(.tmp 2)]
theorem F33 : FnOk Go.Proofs.Tryz.prog 33 24 c33 r33 := ⟨_, Go.Proofs.Tryz.func33, by kernel_rfl, by kernel_rfl, by kernel_rfl, by kernel_rfl, by kernel_rfl⟩

noncomputable def c34 : CC := (.seq (.ops [⟨none, (some 4), (.mv (.const (.string (.mk #[]))))⟩])
 (.seq (.ops [⟨none, (some 5), (.alloc 81 (.agg #[(.pointer none), (.slice none 0 0)]))⟩])
 (.seq (.seq (.ops [⟨none, (some 8), (.mv (.tmp 0))⟩, ⟨none, (some 9), (.lenL (.tmp 8))⟩, ⟨none, (some 10), (.mv (.const (.int .i64 0)))⟩])
 (.block 0
 (.loop
 (.seq (.ops [⟨none, (some 11), (.iop .lss (.tmp 10) (.tmp 9))⟩])
 (.seq (.cond (.tmp 11)
 .skip
 (.exit 0))
 (.seq (.block 1
 (.seq (.ops [⟨none, (some 12), (.iaddr 5 (.tmp 8) (.tmp 10))⟩, ⟨none, (some 13), (.loadN 5 (.tmp 12))⟩, ⟨none, (some 7), (.alloc 41 (.agg #[(.string (.mk #[])), (.int .u32 0), (.int .u64 0), (.int .u32 0), (.string (.mk #[]))]))⟩, ⟨none, none, (.storeN 5 (.tmp 7) (.tmp 13))⟩])
 (.seq (.ops [⟨none, (some 14), (.mv (.tmp 1))⟩, ⟨none, (some 15), (.pnil 3 true (.tmp 14))⟩])
 (.cond (.tmp 15)
 (.ops [⟨none, (some 16), (.mv (.tmp 1))⟩, ⟨none, (some 17), (.loadN 5 (.tmp 7))⟩, ⟨none, (some 18), (.callv (.tmp 16) [(.tmp 17)])⟩, ⟨none, (some 19), (.sop .add (.tmp 18) (.const (.string (.mk #[10]))))⟩, ⟨none, (some 20), (.call 46 [(.tmp 5), (.tmp 19)])⟩])
 .skip))))
 (.ops [⟨none, (some 21), (.iop .add (.tmp 10) (.const (.int .i64 1)))⟩, ⟨none, (some 10), (.mv (.tmp 21))⟩])))))))
 (.seq (.ops [⟨none, (some 22), (.call 47 [(.tmp 5)])⟩, ⟨none, (some 4), (.mv (.tmp 22))⟩])
 .ret))))
abbrev r34 : List RV := [(.tmp 4)]
theorem F34 : FnOk Go.Proofs.Tryz.prog 34 23 c34 r34 := ⟨_, Go.Proofs.Tryz.func34, by kernel_rfl, by kernel_rfl, by kernel_rfl, by kernel_rfl, by kernel_rfl⟩

noncomputable def c35 : CC := (.seq (.ops [⟨none, (some 4), (.mv (.const (.string (.mk #[]))))⟩])
 (.seq (.ops [⟨none, (some 5), (.alloc 81 (.agg #[(.pointer none), (.slice none 0 0)]))⟩])
 (.seq (.seq (.ops [⟨none, (some 8), (.mv (.tmp 0))⟩, ⟨none, (some 9), (.lenL (.tmp 8))⟩, ⟨none, (some 10), (.mv (.const (.int .i64 0)))⟩])
 (.block 0
 (.loop
 (.seq (.ops [⟨none, (some 11), (.iop .lss (.tmp 10) (.tmp 9))⟩])
 (.seq (.cond (.tmp 11)
 .skip
 (.exit 0))
 (.seq (.block 1
 (.seq (.ops [⟨none, (some 12), (.iaddr 4 (.tmp 8) (.tmp 10))⟩, ⟨none, (some 13), (.loadN 4 (.tmp 12))⟩, ⟨none, (some 7), (.alloc 61 (.agg #[(.string (.mk #[])), (.int .i64 0), (.string (.mk #[])), (.string (.mk #[]))]))⟩, ⟨none, none, (.storeN 4 (.tmp 7) (.tmp 13))⟩])
 (.seq (.ops [⟨none, (some 14), (.mv (.tmp 1))⟩, ⟨none, (some 15), (.pnil 3 true (.tmp 14))⟩])
 (.cond (.tmp 15)
 (.ops [⟨none, (some 16), (.mv (.tmp 1))⟩, ⟨none, (some 17), (.loadN 4 (.tmp 7))⟩, ⟨none, (some 18), (.callv (.tmp 16) [(.tmp 17)])⟩, ⟨none, (some 19), (.sop .add (.tmp 18) (.const (.string (.mk #[10]))))⟩, ⟨none, (some 20), (.call 46 [(.tmp 5), (.tmp 19)])⟩])
 .skip))))
 (.ops [⟨none, (some 21), (.iop .add (.tmp 10) (.const (.int .i64 1)))⟩, ⟨none, (some 10), (.mv (.tmp 21))⟩])))))))
 (.seq (.ops [⟨none, (some 22), (.call 47 [(.tmp 5)])⟩, ⟨none, (some 4), (.mv (.tmp 22))⟩])
 .ret))))
abbrev r35 : List RV := [(.tmp 4)]
theorem F35 : FnOk Go.Proofs.Tryz.prog 35 23 c35 r35 := ⟨_, Go.Proofs.Tryz.func35, by kernel_rfl, by kernel_rfl, by kernel_rfl, by kernel_rfl, by kernel_rfl⟩

noncomputable def c36 : CC := (.seq (.ops [⟨none, (some 1), (.box 61 (.tmp 0))⟩, ⟨none, (some 2), (.mv (.const (.string (.mk #[]))))⟩])
 (.seq (.ops [⟨none, (some 4), (.faddr 1 (.tmp 1))⟩, ⟨none, (some 5), (.load1 (.tmp 4))⟩, ⟨none, (some 6), (.call 30 [(.tmp 5)])⟩, ⟨none, (some 7), (.sop .add (.const (.string (.mk #[107, 105, 110, 100]))) (.tmp 6))⟩, ⟨none, (some 3), (.mv (.tmp 7))⟩])
 (.seq (.seq (.ops [⟨none, (some 8), (.faddr 1 (.tmp 1))⟩, ⟨none, (some 9), (.load1 (.tmp 8))⟩])
 (.block 0
 (.seq (.ops [⟨none, (some 11), (.iop .eql (.tmp 9) (.const (.int .i64 1)))⟩, ⟨none, (some 10), (.mv (.tmp 11))⟩])
 (.cond (.tmp 10)
 (.ops [⟨none, (some 3), (.mv (.const (.string (.mk #[100, 105, 114, 101, 99, 116]))))⟩])
 (.seq (.ops [⟨none, (some 13), (.iop .eql (.tmp 9) (.const (.int .i64 2)))⟩, ⟨none, (some 12), (.mv (.tmp 13))⟩])
 (.cond (.tmp 12)
 (.ops [⟨none, (some 3), (.mv (.const (.string (.mk #[102, 97, 110, 111, 117, 116]))))⟩])
 (.seq (.ops [⟨none, (some 15), (.iop .eql (.tmp 9) (.const (.int .i64 3)))⟩, ⟨none, (some 14), (.mv (.tmp 15))⟩])
 (.cond (.tmp 14)
 (.ops [⟨none, (some 3), (.mv (.const (.string (.mk #[116, 111, 112, 105, 99]))))⟩])
 .skip))))))))
 (.seq (.draw 9 (opsOf (sub (bodyOf Go.Proofs.Tryz.f36) [1, 1, 1, 0])) [⟨none, (some 16), (.faddr 0 (.tmp 1))⟩, ⟨none, (some 17), (.load1 (.tmp 16))⟩, ⟨none, (some 18), (.call 24 [(.tmp 17)])⟩, ⟨none, (some 19), (.mv (.tmp 3))⟩, ⟨none, (some 20), (.faddr 2 (.tmp 1))⟩, ⟨none, (some 21), (.load1 (.tmp 20))⟩, ⟨none, (some 22), (.call 24 [(.tmp 21)])⟩, ⟨none, (some 23), (.faddr 3 (.tmp 1))⟩, ⟨none, (some 24), (.load1 (.tmp 23))⟩, ⟨none, (some 25), (.call 24 [(.tmp 24)])⟩, ⟨none, (some 26), (.buildS 9 6 [(.string (.mk #[])), (.string (.mk #[])), (.string (.mk #[])), (.string (.mk #[])), (.string (.mk #[])), (.string (.mk #[]))] [(0, (1, (.const (.string (.mk #[98, 105, 110, 100]))))), (1, (1, (.tmp 18))), (2, (1, (.tmp 19))), (3, (1, (.tmp 22))), (4, (1, (.const (.string (.mk #[116, 111]))))), (5, (1, (.tmp 25)))])⟩, ⟨none, (some 27), (.call 23 [(.tmp 26)])⟩, ⟨none, (some 2), (.mv (.tmp 27))⟩])
 .ret))))
abbrev r36 : List RV := [(.tmp 2)]
theorem F36 : FnOk Go.Proofs.Tryz.prog 36 28 c36 r36 := ⟨_, Go.Proofs.Tryz.func36, by kernel_rfl, by kernel_rfl, by kernel_rfl, by kernel_rfl, by kernel_rfl⟩

noncomputable def c37 : CC := (.seq (.ops [⟨none, (some 4), (.mv (.const (.string (.mk #[]))))⟩])
 (.seq (.ops [⟨none, (some 5), (.alloc 81 (.agg #[(.pointer none), (.slice none 0 0)]))⟩])
 (.seq (.seq (.ops [⟨none, (some 8), (.mv (.tmp 0))⟩, ⟨none, (some 9), (.lenL (.tmp 8))⟩, ⟨none, (some 10), (.mv (.const (.int .i64 0)))⟩])
 (.block 0
 (.loop
 (.seq (.ops [⟨none, (some 11), (.iop .lss (.tmp 10) (.tmp 9))⟩])
 (.seq (.cond (.tmp 11)
 .skip
 (.exit 0))
 (.seq (.block 1
 (.seq (.ops [⟨none, (some 12), (.iaddr 5 (.tmp 8) (.tmp 10))⟩, ⟨none, (some 13), (.loadN 5 (.tmp 12))⟩, ⟨none, (some 7), (.alloc 44 (.agg #[(.string (.mk #[])), (.int .u64 0), (.int .u32 0), (.int .u64 0), (.string (.mk #[]))]))⟩, ⟨none, none, (.storeN 5 (.tmp 7) (.tmp 13))⟩])
 (.seq (.ops [⟨none, (some 14), (.mv (.tmp 1))⟩, ⟨none, (some 15), (.pnil 3 true (.tmp 14))⟩])
 (.cond (.tmp 15)
 (.ops [⟨none, (some 16), (.mv (.tmp 1))⟩, ⟨none, (some 17), (.loadN 5 (.tmp 7))⟩, ⟨none, (some 18), (.callv (.tmp 16) [(.tmp 17)])⟩, ⟨none, (some 19), (.sop .add (.tmp 18) (.const (.string (.mk #[10]))))⟩, ⟨none, (some 20), (.call 46 [(.tmp 5), (.tmp 19)])⟩])
 .skip))))
 (.ops [⟨none, (some 21), (.iop .add (.tmp 10) (.const (.int .i64 1)))⟩, ⟨none, (some 10), (.mv (.tmp 21))⟩])))))))
 (.seq (.ops [⟨none, (some 22), (.call 47 [(.tmp 5)])⟩, ⟨none, (some 4), (.mv (.tmp 22))⟩])
 .ret))))
abbrev r37 : List RV := [(.tmp 4)]
theorem F37 : FnOk Go.Proofs.Tryz.prog 37 23 c37 r37 := ⟨_, Go.Proofs.Tryz.func37, by kernel_rfl, by kernel_rfl, by kernel_rfl, by kernel_rfl, by kernel_rfl⟩

noncomputable def c38 : CC := (.seq (.ops [⟨none, (some 2), (.mv (.const (.string (.mk #[]))))⟩])
 (.seq (.ops [⟨none, (some 3), (.mv (.const (.slice none 0 0)))⟩])
 (.seq (.seq (.ops [⟨none, (some 6), (.mv (.tmp 0))⟩, ⟨none, (some 7), (.lenL (.tmp 6))⟩, ⟨none, (some 8), (.mv (.const (.int .i64 0)))⟩])
 (.block 0
 (.loop
 (.seq (.ops [⟨none, (some 9), (.iop .lss (.tmp 8) (.tmp 7))⟩])
 (.seq (.cond (.tmp 9)
 .skip
 (.exit 0))
 (.seq (.block 1
 (.seq (.ops [⟨none, (some 10), (.iaddr 1 (.tmp 6) (.tmp 8))⟩, ⟨none, (some 11), (.load1 (.tmp 10))⟩, ⟨none, (some 5), (.mv (.tmp 11))⟩])
 (.ops [⟨none, (some 12), (.mv (.tmp 3))⟩, ⟨none, (some 13), (.mv (.tmp 5))⟩, ⟨none, (some 14), (.call 25 [(.tmp 13)])⟩, ⟨none, (some 15), (.buildS 9 1 [(.string (.mk #[]))] [(0, (1, (.tmp 14)))])⟩, ⟨none, (some 16), (.raw 22 (.mk (some 16) (.call (.mk (.builtin .append) #[(.tmp 12), (.tmp 15)] #[57, 57])) 57 "report.go:25" #[(.mk 0 .data), (.mk 3 .data), (.mk 2 .chain)] none))⟩, ⟨none, (some 3), (.mv (.tmp 16))⟩])))
 (.ops [⟨none, (some 17), (.iop .add (.tmp 8) (.const (.int .i64 1)))⟩, ⟨none, (some 8), (.mv (.tmp 17))⟩])))))))
 (.seq (.ops [⟨none, (some 18), (.mv (.tmp 3))⟩, ⟨none, (some 19), (.call 44 [(.tmp 18), (.const (.string (.mk #[32])))])⟩, ⟨none, (some 20), (.sop .add (.const (.string (.mk #[91]))) (.tmp 19))⟩, ⟨none, (some 21), (.sop .add (.tmp 20) (.const (.string (.mk #[93]))))⟩, ⟨none, (some 2), (.mv (.tmp 21))⟩])
 .ret))))
abbrev r38 : List RV := [(.tmp 2)]
theorem F38 : FnOk Go.Proofs.Tryz.prog 38 22 c38 r38 := ⟨_, Go.Proofs.Tryz.func38, by kernel_rfl, by kernel_rfl, by kernel_rfl, by kernel_rfl, by kernel_rfl⟩

noncomputable def c39 : CC := (.seq (.ops [⟨none, (some 2), (.mv (.const (.slice none 0 0)))⟩])
 (.seq (.ops [⟨none, (some 3), (.mv (.const (.slice none 0 0)))⟩])
 (.seq (.seq (.ops [⟨none, (some 6), (.mv (.tmp 0))⟩, ⟨none, (some 7), (.lenL (.tmp 6))⟩, ⟨none, (some 8), (.mv (.const (.int .i64 0)))⟩])
 (.block 0
 (.loop
 (.seq (.ops [⟨none, (some 9), (.iop .lss (.tmp 8) (.tmp 7))⟩])
 (.seq (.cond (.tmp 9)
 .skip
 (.exit 0))
 (.seq (.block 1
 (.seq (.ops [⟨none, (some 10), (.iaddr 1 (.tmp 6) (.tmp 8))⟩, ⟨none, (some 11), (.load1 (.tmp 10))⟩, ⟨none, (some 5), (.mv (.tmp 11))⟩])
 (.ops [⟨none, (some 12), (.mv (.tmp 3))⟩, ⟨none, (some 13), (.mv (.tmp 5))⟩, ⟨none, (some 14), (.conv .u64 (.tmp 13))⟩, ⟨none, (some 15), (.buildS 23 1 [(.int .u64 0)] [(0, (1, (.tmp 14)))])⟩, ⟨none, (some 16), (.raw 19 (.mk (some 16) (.call (.mk (.builtin .append) #[(.tmp 12), (.tmp 15)] #[24, 24])) 24 "ref.go:47" #[(.mk 0 .data), (.mk 3 .data)] none))⟩, ⟨none, (some 3), (.mv (.tmp 16))⟩])))
 (.ops [⟨none, (some 17), (.iop .add (.tmp 8) (.const (.int .i64 1)))⟩, ⟨none, (some 8), (.mv (.tmp 17))⟩])))))))
 (.seq (.ops [⟨none, (some 18), (.mv (.tmp 3))⟩, ⟨none, (some 2), (.mv (.tmp 18))⟩])
 .ret))))
abbrev r39 : List RV := [(.tmp 2)]
theorem F39 : FnOk Go.Proofs.Tryz.prog 39 19 c39 r39 := ⟨_, Go.Proofs.Tryz.func39, by kernel_rfl, by kernel_rfl, by kernel_rfl, by kernel_rfl, by kernel_rfl⟩

end Go.VrD
