import Derived.Test.YtbkddpckkgbbmaaGreatDoorProg
import Derived.Test.YtbkddpckkgbbmaaGreatDoorVcI
set_option linter.unusedSimpArgs false
set_option linter.unusedVariables false
set_option linter.unusedSectionVars false
set_option linter.unnecessarySimpa false
namespace Go.VrC
open Go Go.Vc
set_option maxRecDepth 100000
noncomputable def c21 : CC := (.seq (.ops [⟨none, (some 3), (.box 49 (.tmp 1))⟩, ⟨none, (some 4), (.mv (.const (.slice none 0 0)))⟩, ⟨none, (some 5), (.mv (.const (.int .i64 0)))⟩])
 (.seq (.ops [⟨none, (some 7), (.loadN 5 (.tmp 3))⟩, ⟨none, (some 8), (.call 63 [(.tmp 7)])⟩, ⟨none, (some 6), (.mv (.tmp 8))⟩])
 (.seq (.seq (.ops [⟨none, (some 9), (.mv (.tmp 6))⟩, ⟨none, (some 10), (.iop .neq (.tmp 9) (.const (.int .i64 0)))⟩])
 (.cond (.tmp 10)
 (.seq (.ops [⟨none, (some 11), (.mv (.tmp 0))⟩, ⟨none, (some 12), (.mv (.tmp 6))⟩, ⟨none, (some 4), (.mv (.tmp 11))⟩, ⟨none, (some 5), (.mv (.tmp 12))⟩])
 .ret)
 .skip))
 (.seq (.seq (.ops [⟨none, (some 13), (.mv (.tmp 0))⟩, ⟨none, (some 14), (.faddr 0 (.tmp 3))⟩, ⟨none, (some 15), (.load1 (.tmp 14))⟩, ⟨none, (some 16), (.faddr 1 (.tmp 3))⟩, ⟨none, (some 17), (.load1 (.tmp 16))⟩, ⟨none, (some 18), (.call 23 [(.tmp 13), (.tmp 15), (.tmp 17)])⟩, ⟨none, (some 19), (.iop .geq (.tmp 18) (.const (.int .i64 0)))⟩])
 (.cond (.tmp 19)
 (.seq (.ops [⟨none, (some 20), (.mv (.tmp 0))⟩, ⟨none, (some 4), (.mv (.tmp 20))⟩, ⟨none, (some 5), (.mv (.const (.int .i64 22)))⟩])
 .ret)
 .skip))
 (.seq (.ops [⟨none, (some 21), (.mv (.tmp 0))⟩, ⟨none, (some 22), (.loadN 5 (.tmp 3))⟩, ⟨none, (some 23), (.call 64 [(.tmp 21), (.tmp 22)])⟩, ⟨none, (some 4), (.mv (.tmp 23))⟩, ⟨none, (some 5), (.mv (.const (.int .i64 0)))⟩])
 .ret)))))
abbrev r21 : List RV := [(.tmp 4), (.tmp 5)]
theorem F21 : FnOk Go.Proofs.Tryz.prog 21 24 c21 r21 := ⟨_, Go.Proofs.Tryz.func21, by kernel_rfl, by kernel_rfl, by kernel_rfl, by kernel_rfl, by kernel_rfl⟩

noncomputable def c23 : CC := (.seq (.ops [⟨none, (some 6), (.mv (.const (.int .i64 0)))⟩])
 (.seq (.seq (.ops [⟨none, (some 9), (.mv (.tmp 0))⟩, ⟨none, (some 10), (.lenL (.tmp 9))⟩, ⟨none, (some 11), (.mv (.const (.int .i64 0)))⟩])
 (.block 0
 (.loop
 (.seq (.ops [⟨none, (some 12), (.iop .lss (.tmp 11) (.tmp 10))⟩])
 (.seq (.cond (.tmp 12)
 .skip
 (.exit 0))
 (.seq (.block 1
 (.seq (.ops [⟨none, (some 13), (.mv (.tmp 11))⟩, ⟨none, (some 14), (.iaddr 5 (.tmp 9) (.tmp 11))⟩, ⟨none, (some 15), (.loadN 5 (.tmp 14))⟩, ⟨none, (some 8), (.alloc 49 (.agg #[(.string (.mk #[])), (.int .u64 0), (.int .u32 0), (.int .u64 0), (.string (.mk #[]))]))⟩, ⟨none, (some 7), (.mv (.tmp 13))⟩, ⟨none, none, (.storeN 5 (.tmp 8) (.tmp 15))⟩])
 (.seq (.ops [⟨none, (some 16), (.faddr 0 (.tmp 8))⟩, ⟨none, (some 17), (.load1 (.tmp 16))⟩, ⟨none, (some 18), (.mv (.tmp 1))⟩, ⟨none, (some 19), (.sop .eql (.tmp 17) (.tmp 18))⟩, ⟨none, (some 20), (.mv (.tmp 19))⟩, ⟨(some (20, true)), (some 21), (.faddr 1 (.tmp 8))⟩, ⟨(some (20, true)), (some 22), (.load1 (.tmp 21))⟩, ⟨(some (20, true)), (some 23), (.mv (.tmp 2))⟩, ⟨(some (20, true)), (some 24), (.iop .eql (.tmp 22) (.tmp 23))⟩, ⟨none, (some 25), (.pick (.tmp 20) (.tmp 24) (.const (.bool false)))⟩])
 (.cond (.tmp 25)
 (.seq (.ops [⟨none, (some 26), (.mv (.tmp 7))⟩, ⟨none, (some 6), (.mv (.tmp 26))⟩])
 .ret)
 .skip))))
 (.ops [⟨none, (some 27), (.iop .add (.tmp 11) (.const (.int .i64 1)))⟩, ⟨none, (some 11), (.mv (.tmp 27))⟩])))))))
 (.seq (.ops [⟨none, (some 6), (.mv (.const (.int .i64 (-1))))⟩])
 .ret)))
abbrev r23 : List RV := [(.tmp 6)]
theorem F23 : FnOk Go.Proofs.Tryz.prog 23 28 c23 r23 := ⟨_, Go.Proofs.Tryz.func23, by kernel_rfl, by kernel_rfl, by kernel_rfl, by kernel_rfl, by kernel_rfl⟩

noncomputable def c26 : CC := (.seq (.ops [⟨none, (some 4), (.mv (.const (.slice none 0 0)))⟩])
 (.seq (.ops [⟨none, (some 5), (.mv (.const (.slice none 0 0)))⟩])
 (.seq (.seq (.ops [⟨none, (some 12), (.mv (.tmp 0))⟩, ⟨none, (some 13), (.lenL (.tmp 12))⟩, ⟨none, (some 14), (.mv (.const (.int .i64 0)))⟩])
 (.block 0
 (.loop
 (.seq (.ops [⟨none, (some 15), (.iop .lss (.tmp 14) (.tmp 13))⟩])
 (.seq (.cond (.tmp 15)
 .skip
 (.exit 0))
 (.seq (.block 1
 (.seq (.ops [⟨none, (some 16), (.iaddr 5 (.tmp 12) (.tmp 14))⟩, ⟨none, (some 17), (.loadN 5 (.tmp 16))⟩, ⟨none, (some 7), (.alloc 49 (.agg #[(.string (.mk #[])), (.int .u64 0), (.int .u32 0), (.int .u64 0), (.string (.mk #[]))]))⟩, ⟨none, none, (.storeN 5 (.tmp 7) (.tmp 17))⟩])
 (.seq (.seq (.ops [⟨none, (some 18), (.faddr 3 (.tmp 7))⟩, ⟨none, (some 19), (.load1 (.tmp 18))⟩, ⟨none, (some 20), (.iop .eql (.tmp 19) (.const (.int .u64 0)))⟩, ⟨none, (some 21), (.mv (.tmp 20))⟩, ⟨(some (21, false)), (some 22), (.faddr 3 (.tmp 7))⟩, ⟨(some (21, false)), (some 23), (.load1 (.tmp 22))⟩, ⟨(some (21, false)), (some 24), (.mv (.tmp 1))⟩, ⟨(some (21, false)), (some 25), (.iop .gtr (.tmp 23) (.tmp 24))⟩, ⟨none, (some 26), (.pick (.tmp 21) (.const (.bool true)) (.tmp 25))⟩])
 (.cond (.tmp 26)
 (.exit 1)
 .skip))
 (.seq (.ops [⟨none, (some 8), (.mv (.const (.slice none 0 0)))⟩])
 (.seq (.ops [⟨none, (some 9), (.mv (.const (.bool false)))⟩])
 (.seq (.seq (.ops [⟨none, (some 27), (.mv (.tmp 5))⟩, ⟨none, (some 28), (.lenL (.tmp 27))⟩, ⟨none, (some 29), (.mv (.const (.int .i64 0)))⟩])
 (.block 2
 (.loop
 (.seq (.ops [⟨none, (some 30), (.iop .lss (.tmp 29) (.tmp 28))⟩])
 (.seq (.cond (.tmp 30)
 .skip
 (.exit 2))
 (.seq (.block 3
 (.seq (.ops [⟨none, (some 31), (.iaddr 5 (.tmp 27) (.tmp 29))⟩, ⟨none, (some 32), (.loadN 5 (.tmp 31))⟩, ⟨none, (some 11), (.alloc 49 (.agg #[(.string (.mk #[])), (.int .u64 0), (.int .u32 0), (.int .u64 0), (.string (.mk #[]))]))⟩, ⟨none, none, (.storeN 5 (.tmp 11) (.tmp 32))⟩])
 (.seq (.seq (.ops [⟨none, (some 33), (.mv (.tmp 9))⟩, ⟨none, (some 34), (.not (.tmp 33))⟩, ⟨none, (some 35), (.mv (.tmp 34))⟩, ⟨(some (35, true)), (some 36), (.faddr 3 (.tmp 7))⟩, ⟨(some (35, true)), (some 37), (.load1 (.tmp 36))⟩, ⟨(some (35, true)), (some 38), (.faddr 3 (.tmp 11))⟩, ⟨(some (35, true)), (some 39), (.load1 (.tmp 38))⟩, ⟨(some (35, true)), (some 40), (.iop .lss (.tmp 37) (.tmp 39))⟩, ⟨(some (35, true)), (some 41), (.mv (.tmp 40))⟩, ⟨(some (41, false)), (some 42), (.faddr 3 (.tmp 7))⟩, ⟨(some (41, false)), (some 43), (.load1 (.tmp 42))⟩, ⟨(some (41, false)), (some 44), (.faddr 3 (.tmp 11))⟩, ⟨(some (41, false)), (some 45), (.load1 (.tmp 44))⟩, ⟨(some (41, false)), (some 46), (.iop .eql (.tmp 43) (.tmp 45))⟩, ⟨(some (41, false)), (some 47), (.mv (.tmp 46))⟩, ⟨(some (47, true)), (some 48), (.loadN 5 (.tmp 7))⟩, ⟨(some (47, true)), (some 49), (.loadN 5 (.tmp 11))⟩, ⟨(some (47, true)), (some 50), (.call 68 [(.tmp 48), (.tmp 49)])⟩, ⟨(some (41, false)), (some 51), (.pick (.tmp 47) (.tmp 50) (.const (.bool false)))⟩, ⟨(some (35, true)), (some 52), (.pick (.tmp 41) (.const (.bool true)) (.tmp 51))⟩, ⟨none, (some 53), (.pick (.tmp 35) (.tmp 52) (.const (.bool false)))⟩])
 (.cond (.tmp 53)
 (.seq (.ops [⟨none, (some 54), (.mv (.tmp 8))⟩, ⟨none, (some 55), (.loadN 5 (.tmp 7))⟩, ⟨none, (some 56), (.buildS 49 1 [(.string (.mk #[])), (.int .u64 0), (.int .u32 0), (.int .u64 0), (.string (.mk #[]))] [(0, (5, (.tmp 55)))])⟩, ⟨none, (some 57), (.raw 72 (.mk (some 57) (.call (.mk (.builtin .append) #[(.tmp 54), (.tmp 56)] #[47, 47])) 47 "ref.go:121" #[(.mk 0 .data), (.mk 2 .data)] none))⟩, ⟨none, (some 8), (.mv (.tmp 57))⟩])
 (.ops [⟨none, (some 9), (.mv (.const (.bool true)))⟩]))
 .skip))
 (.ops [⟨none, (some 58), (.mv (.tmp 8))⟩, ⟨none, (some 59), (.loadN 5 (.tmp 11))⟩, ⟨none, (some 60), (.buildS 49 1 [(.string (.mk #[])), (.int .u64 0), (.int .u32 0), (.int .u64 0), (.string (.mk #[]))] [(0, (5, (.tmp 59)))])⟩, ⟨none, (some 61), (.raw 72 (.mk (some 61) (.call (.mk (.builtin .append) #[(.tmp 58), (.tmp 60)] #[47, 47])) 47 "ref.go:124" #[(.mk 0 .data), (.mk 2 .data)] none))⟩, ⟨none, (some 8), (.mv (.tmp 61))⟩]))))
 (.ops [⟨none, (some 62), (.iop .add (.tmp 29) (.const (.int .i64 1)))⟩, ⟨none, (some 29), (.mv (.tmp 62))⟩])))))))
 (.seq (.seq (.ops [⟨none, (some 63), (.mv (.tmp 9))⟩, ⟨none, (some 64), (.not (.tmp 63))⟩])
 (.cond (.tmp 64)
 (.ops [⟨none, (some 65), (.mv (.tmp 8))⟩, ⟨none, (some 66), (.loadN 5 (.tmp 7))⟩, ⟨none, (some 67), (.buildS 49 1 [(.string (.mk #[])), (.int .u64 0), (.int .u32 0), (.int .u64 0), (.string (.mk #[]))] [(0, (5, (.tmp 66)))])⟩, ⟨none, (some 68), (.raw 72 (.mk (some 68) (.call (.mk (.builtin .append) #[(.tmp 65), (.tmp 67)] #[47, 47])) 47 "ref.go:127" #[(.mk 0 .data), (.mk 2 .data)] none))⟩, ⟨none, (some 8), (.mv (.tmp 68))⟩])
 .skip))
 (.ops [⟨none, (some 69), (.mv (.tmp 8))⟩, ⟨none, (some 5), (.mv (.tmp 69))⟩]))))))))
 (.ops [⟨none, (some 70), (.iop .add (.tmp 14) (.const (.int .i64 1)))⟩, ⟨none, (some 14), (.mv (.tmp 70))⟩])))))))
 (.seq (.ops [⟨none, (some 71), (.mv (.tmp 5))⟩, ⟨none, (some 4), (.mv (.tmp 71))⟩])
 .ret))))
abbrev r26 : List RV := [(.tmp 4)]
theorem F26 : FnOk Go.Proofs.Tryz.prog 26 72 c26 r26 := ⟨_, Go.Proofs.Tryz.func26, by kernel_rfl, by kernel_rfl, by kernel_rfl, by kernel_rfl, by kernel_rfl⟩

noncomputable def c63 : CC := (.seq (.ops [⟨none, (some 1), (.box 49 (.tmp 0))⟩, ⟨none, (some 2), (.mv (.const (.int .i64 0)))⟩])
 (.seq (.ops [⟨none, (some 6), (.faddr 0 (.tmp 1))⟩, ⟨none, (some 7), (.load1 (.tmp 6))⟩, ⟨none, (some 8), (.faddr 1 (.tmp 1))⟩, ⟨none, (some 9), (.load1 (.tmp 8))⟩, ⟨none, (some 10), (.build [(.string (.mk #[])), (.string (.mk #[])), (.int .u64 0), (.int .u64 0), (.string (.mk #[])), (.int .i64 0), (.string (.mk #[])), (.string (.mk #[])), (.string (.mk #[]))] [(0, (1, (.const (.string (.mk #[109]))))), (1, (1, (.tmp 7))), (2, (1, (.tmp 9)))])⟩, ⟨none, (some 11), (.call 135 [(.tmp 10)])⟩, ⟨none, (some 5), (.mv (.tmp 11))⟩, ⟨none, (some 12), (.ext (.tmp 5) 0)⟩, ⟨none, (some 13), (.ext (.tmp 5) 1)⟩, ⟨none, (some 3), (.mv (.tmp 12))⟩, ⟨none, (some 4), (.mv (.tmp 13))⟩])
 (.seq (.seq (.ops [⟨none, (some 14), (.mv (.tmp 4))⟩, ⟨none, (some 15), (.iop .eql (.tmp 14) (.const (.int .i64 0)))⟩, ⟨none, (some 16), (.mv (.tmp 15))⟩, ⟨(some (16, true)), (some 17), (.faddr 3 (.tmp 1))⟩, ⟨(some (16, true)), (some 18), (.load1 (.tmp 17))⟩, ⟨(some (16, true)), (some 19), (.iop .neq (.tmp 18) (.const (.int .u64 0)))⟩, ⟨none, (some 20), (.pick (.tmp 16) (.tmp 19) (.const (.bool false)))⟩])
 (.cond (.tmp 20)
 (.ops [⟨none, (some 22), (.faddr 0 (.tmp 1))⟩, ⟨none, (some 23), (.load1 (.tmp 22))⟩, ⟨none, (some 24), (.faddr 1 (.tmp 1))⟩, ⟨none, (some 25), (.load1 (.tmp 24))⟩, ⟨none, (some 26), (.faddr 3 (.tmp 1))⟩, ⟨none, (some 27), (.load1 (.tmp 26))⟩, ⟨none, (some 28), (.build [(.string (.mk #[])), (.string (.mk #[])), (.int .u64 0), (.int .u64 0), (.string (.mk #[])), (.int .i64 0), (.string (.mk #[])), (.string (.mk #[])), (.string (.mk #[]))] [(0, (1, (.const (.string (.mk #[101]))))), (1, (1, (.tmp 23))), (2, (1, (.tmp 25))), (3, (1, (.tmp 27)))])⟩, ⟨none, (some 29), (.call 135 [(.tmp 28)])⟩, ⟨none, (some 21), (.mv (.tmp 29))⟩, ⟨none, (some 30), (.ext (.tmp 21) 0)⟩, ⟨none, (some 31), (.ext (.tmp 21) 1)⟩, ⟨none, (some 4), (.mv (.tmp 31))⟩])
 .skip))
 (.seq (.ops [⟨none, (some 32), (.mv (.tmp 4))⟩, ⟨none, (some 2), (.mv (.tmp 32))⟩])
 .ret))))
abbrev r63 : List RV := [(.tmp 2)]
theorem F63 : FnOk Go.Proofs.Tryz.prog 63 33 c63 r63 := ⟨_, Go.Proofs.Tryz.func63, by kernel_rfl, by kernel_rfl, by kernel_rfl, by kernel_rfl, by kernel_rfl⟩

noncomputable def c64 : CC := (.seq (.ops [⟨none, (some 3), (.box 49 (.tmp 1))⟩, ⟨none, (some 4), (.mv (.const (.slice none 0 0)))⟩])
 (.seq (.ops [⟨none, (some 5), (.mv (.const (.slice none 0 0)))⟩])
 (.seq (.ops [⟨none, (some 6), (.mv (.const (.bool false)))⟩])
 (.seq (.seq (.ops [⟨none, (some 9), (.mv (.tmp 0))⟩, ⟨none, (some 10), (.lenL (.tmp 9))⟩, ⟨none, (some 11), (.mv (.const (.int .i64 0)))⟩])
 (.block 0
 (.loop
 (.seq (.ops [⟨none, (some 12), (.iop .lss (.tmp 11) (.tmp 10))⟩])
 (.seq (.cond (.tmp 12)
 .skip
 (.exit 0))
 (.seq (.block 1
 (.seq (.ops [⟨none, (some 13), (.iaddr 5 (.tmp 9) (.tmp 11))⟩, ⟨none, (some 14), (.loadN 5 (.tmp 13))⟩, ⟨none, (some 8), (.alloc 49 (.agg #[(.string (.mk #[])), (.int .u64 0), (.int .u32 0), (.int .u64 0), (.string (.mk #[]))]))⟩, ⟨none, none, (.storeN 5 (.tmp 8) (.tmp 14))⟩])
 (.seq (.seq (.ops [⟨none, (some 15), (.mv (.tmp 6))⟩, ⟨none, (some 16), (.not (.tmp 15))⟩, ⟨none, (some 17), (.mv (.tmp 16))⟩, ⟨(some (17, true)), (some 18), (.loadN 5 (.tmp 3))⟩, ⟨(some (17, true)), (some 19), (.loadN 5 (.tmp 8))⟩, ⟨(some (17, true)), (some 20), (.call 68 [(.tmp 18), (.tmp 19)])⟩, ⟨none, (some 21), (.pick (.tmp 17) (.tmp 20) (.const (.bool false)))⟩])
 (.cond (.tmp 21)
 (.seq (.ops [⟨none, (some 22), (.mv (.tmp 5))⟩, ⟨none, (some 23), (.loadN 5 (.tmp 3))⟩, ⟨none, (some 24), (.buildS 49 1 [(.string (.mk #[])), (.int .u64 0), (.int .u32 0), (.int .u64 0), (.string (.mk #[]))] [(0, (5, (.tmp 23)))])⟩, ⟨none, (some 25), (.raw 38 (.mk (some 25) (.call (.mk (.builtin .append) #[(.tmp 22), (.tmp 24)] #[50, 50])) 50 "ref.go:54" #[(.mk 0 .data), (.mk 2 .data)] none))⟩, ⟨none, (some 5), (.mv (.tmp 25))⟩])
 (.ops [⟨none, (some 6), (.mv (.const (.bool true)))⟩]))
 .skip))
 (.ops [⟨none, (some 26), (.mv (.tmp 5))⟩, ⟨none, (some 27), (.loadN 5 (.tmp 8))⟩, ⟨none, (some 28), (.buildS 49 1 [(.string (.mk #[])), (.int .u64 0), (.int .u32 0), (.int .u64 0), (.string (.mk #[]))] [(0, (5, (.tmp 27)))])⟩, ⟨none, (some 29), (.raw 38 (.mk (some 29) (.call (.mk (.builtin .append) #[(.tmp 26), (.tmp 28)] #[50, 50])) 50 "ref.go:57" #[(.mk 0 .data), (.mk 2 .data)] none))⟩, ⟨none, (some 5), (.mv (.tmp 29))⟩]))))
 (.ops [⟨none, (some 30), (.iop .add (.tmp 11) (.const (.int .i64 1)))⟩, ⟨none, (some 11), (.mv (.tmp 30))⟩])))))))
 (.seq (.seq (.ops [⟨none, (some 31), (.mv (.tmp 6))⟩, ⟨none, (some 32), (.not (.tmp 31))⟩])
 (.cond (.tmp 32)
 (.ops [⟨none, (some 33), (.mv (.tmp 5))⟩, ⟨none, (some 34), (.loadN 5 (.tmp 3))⟩, ⟨none, (some 35), (.buildS 49 1 [(.string (.mk #[])), (.int .u64 0), (.int .u32 0), (.int .u64 0), (.string (.mk #[]))] [(0, (5, (.tmp 34)))])⟩, ⟨none, (some 36), (.raw 38 (.mk (some 36) (.call (.mk (.builtin .append) #[(.tmp 33), (.tmp 35)] #[50, 50])) 50 "ref.go:60" #[(.mk 0 .data), (.mk 2 .data)] none))⟩, ⟨none, (some 5), (.mv (.tmp 36))⟩])
 .skip))
 (.seq (.ops [⟨none, (some 37), (.mv (.tmp 5))⟩, ⟨none, (some 4), (.mv (.tmp 37))⟩])
 .ret))))))
abbrev r64 : List RV := [(.tmp 4)]
theorem F64 : FnOk Go.Proofs.Tryz.prog 64 38 c64 r64 := ⟨_, Go.Proofs.Tryz.func64, by kernel_rfl, by kernel_rfl, by kernel_rfl, by kernel_rfl, by kernel_rfl⟩

noncomputable def c68 : CC := (.seq (.ops [⟨none, (some 2), (.box 49 (.tmp 0))⟩, ⟨none, (some 3), (.box 49 (.tmp 1))⟩, ⟨none, (some 4), (.mv (.const (.bool false)))⟩])
 (.seq (.draw 1 (opsOf (sub (bodyOf Go.Proofs.Tryz.f68) [1, 0])) [⟨none, (some 5), (.faddr 0 (.tmp 2))⟩, ⟨none, (some 6), (.load1 (.tmp 5))⟩, ⟨none, (some 7), (.call 138 [(.tmp 6)])⟩, ⟨none, (some 8), (.faddr 1 (.tmp 2))⟩, ⟨none, (some 9), (.load1 (.tmp 8))⟩, ⟨none, (some 10), (.call 139 [(.tmp 9)])⟩, ⟨none, (some 11), (.buildS 234 2 [(.bool false), (.int .u64 0), (.string (.mk #[])), (.bool false), (.int .u64 0), (.string (.mk #[]))] [(0, (3, (.tmp 7))), (3, (3, (.tmp 10)))])⟩, ⟨none, (some 12), (.faddr 0 (.tmp 3))⟩, ⟨none, (some 13), (.load1 (.tmp 12))⟩, ⟨none, (some 14), (.call 138 [(.tmp 13)])⟩, ⟨none, (some 15), (.faddr 1 (.tmp 3))⟩, ⟨none, (some 16), (.load1 (.tmp 15))⟩, ⟨none, (some 17), (.call 139 [(.tmp 16)])⟩, ⟨none, (some 18), (.buildS 234 2 [(.bool false), (.int .u64 0), (.string (.mk #[])), (.bool false), (.int .u64 0), (.string (.mk #[]))] [(0, (3, (.tmp 14))), (3, (3, (.tmp 17)))])⟩, ⟨none, (some 19), (.call 137 [(.tmp 11), (.tmp 18)])⟩, ⟨none, (some 4), (.mv (.tmp 19))⟩])
 .ret))
abbrev r68 : List RV := [(.tmp 4)]
theorem F68 : FnOk Go.Proofs.Tryz.prog 68 20 c68 r68 := ⟨_, Go.Proofs.Tryz.func68, by kernel_rfl, by kernel_rfl, by kernel_rfl, by kernel_rfl, by kernel_rfl⟩

noncomputable def c135 : CC := (.seq (.ops [⟨none, (some 1), (.box 232 (.tmp 0))⟩, ⟨none, (some 2), (.mv (.const (.string (.mk #[]))))⟩, ⟨none, (some 3), (.mv (.const (.int .i64 0)))⟩])
 (.seq (.ops [⟨none, (some 4), (.loadN 9 (.tmp 1))⟩, ⟨none, (some 5), (.call 189 [(.tmp 4)])⟩, ⟨none, (some 6), (.call 188 [(.tmp 5)])⟩, ⟨none, (some 7), (.ext (.tmp 6) 0)⟩, ⟨none, (some 8), (.ext (.tmp 6) 1)⟩, ⟨none, (some 2), (.mv (.tmp 7))⟩, ⟨none, (some 3), (.mv (.tmp 8))⟩])
 .ret))
abbrev r135 : List RV := [(.tmp 2), (.tmp 3)]
theorem F135 : FnOk Go.Proofs.Tryz.prog 135 9 c135 r135 := ⟨_, Go.Proofs.Tryz.func135, by kernel_rfl, by kernel_rfl, by kernel_rfl, by kernel_rfl, by kernel_rfl⟩

noncomputable def c189 : CC := (.seq (.ops [⟨none, (some 1), (.box 232 (.tmp 0))⟩, ⟨none, (some 2), (.mv (.const (.slice none 0 0)))⟩])
 (.seq (.ops [⟨none, (some 4), (.faddr 0 (.tmp 1))⟩, ⟨none, (some 5), (.load1 (.tmp 4))⟩, ⟨none, (some 6), (.call 138 [(.tmp 5)])⟩, ⟨none, (some 7), (.buildS 234 1 [(.bool false), (.int .u64 0), (.string (.mk #[]))] [(0, (3, (.tmp 6)))])⟩, ⟨none, (some 3), (.mv (.tmp 7))⟩])
 (.seq (.seq (.ops [⟨none, (some 8), (.faddr 0 (.tmp 1))⟩, ⟨none, (some 9), (.load1 (.tmp 8))⟩])
 (.block 0
 (.seq (.ops [⟨none, (some 11), (.sop .eql (.tmp 9) (.const (.string (.mk #[113]))))⟩, ⟨none, (some 10), (.mv (.tmp 11))⟩])
 (.cond (.tmp 10)
 (.ops [⟨none, (some 12), (.mv (.tmp 3))⟩, ⟨none, (some 13), (.faddr 1 (.tmp 1))⟩, ⟨none, (some 14), (.load1 (.tmp 13))⟩, ⟨none, (some 15), (.call 138 [(.tmp 14)])⟩, ⟨none, (some 16), (.buildS 234 1 [(.bool false), (.int .u64 0), (.string (.mk #[]))] [(0, (3, (.tmp 15)))])⟩, ⟨none, (some 17), (.raw 74 (.mk (some 17) (.call (.mk (.builtin .append) #[(.tmp 12), (.tmp 16)] #[237, 237])) 237 "ref.go:23" #[(.mk 0 .data), (.mk 4 .data), (.mk 3 .chain)] none))⟩, ⟨none, (some 3), (.mv (.tmp 17))⟩])
 (.seq (.ops [⟨none, (some 19), (.sop .eql (.tmp 9) (.const (.string (.mk #[109]))))⟩, ⟨none, (some 18), (.mv (.tmp 19))⟩])
 (.cond (.tmp 18)
 (.draw 6 (opsOf (sub (bodyOf Go.Proofs.Tryz.f189) [1, 1, 0, 1, 0, 1, 1, 1, 0])) [⟨none, (some 20), (.mv (.tmp 3))⟩, ⟨none, (some 21), (.faddr 1 (.tmp 1))⟩, ⟨none, (some 22), (.load1 (.tmp 21))⟩, ⟨none, (some 23), (.call 138 [(.tmp 22)])⟩, ⟨none, (some 24), (.faddr 2 (.tmp 1))⟩, ⟨none, (some 25), (.load1 (.tmp 24))⟩, ⟨none, (some 26), (.call 139 [(.tmp 25)])⟩, ⟨none, (some 27), (.buildS 234 2 [(.bool false), (.int .u64 0), (.string (.mk #[])), (.bool false), (.int .u64 0), (.string (.mk #[]))] [(0, (3, (.tmp 23))), (3, (3, (.tmp 26)))])⟩, ⟨none, (some 28), (.raw 74 (.mk (some 28) (.call (.mk (.builtin .append) #[(.tmp 20), (.tmp 27)] #[237, 237])) 237 "ref.go:25" #[(.mk 0 .data), (.mk 7 .data), (.mk 6 .chain)] none))⟩, ⟨none, (some 3), (.mv (.tmp 28))⟩])
 (.seq (.ops [⟨none, (some 30), (.sop .eql (.tmp 9) (.const (.string (.mk #[101]))))⟩, ⟨none, (some 29), (.mv (.tmp 30))⟩])
 (.cond (.tmp 29)
 (.draw 8 (opsOf (sub (bodyOf Go.Proofs.Tryz.f189) [1, 1, 0, 1, 0, 1, 1, 1, 1, 1, 0])) [⟨none, (some 31), (.mv (.tmp 3))⟩, ⟨none, (some 32), (.faddr 3 (.tmp 1))⟩, ⟨none, (some 33), (.load1 (.tmp 32))⟩, ⟨none, (some 34), (.call 139 [(.tmp 33)])⟩, ⟨none, (some 35), (.faddr 1 (.tmp 1))⟩, ⟨none, (some 36), (.load1 (.tmp 35))⟩, ⟨none, (some 37), (.call 138 [(.tmp 36)])⟩, ⟨none, (some 38), (.faddr 2 (.tmp 1))⟩, ⟨none, (some 39), (.load1 (.tmp 38))⟩, ⟨none, (some 40), (.call 139 [(.tmp 39)])⟩, ⟨none, (some 41), (.buildS 234 3 [(.bool false), (.int .u64 0), (.string (.mk #[])), (.bool false), (.int .u64 0), (.string (.mk #[])), (.bool false), (.int .u64 0), (.string (.mk #[]))] [(0, (3, (.tmp 34))), (3, (3, (.tmp 37))), (6, (3, (.tmp 40)))])⟩, ⟨none, (some 42), (.raw 74 (.mk (some 42) (.call (.mk (.builtin .append) #[(.tmp 31), (.tmp 41)] #[237, 237])) 237 "ref.go:27" #[(.mk 0 .data), (.mk 10 .data), (.mk 9 .chain)] none))⟩, ⟨none, (some 3), (.mv (.tmp 42))⟩])
 (.seq (.ops [⟨none, (some 44), (.sop .eql (.tmp 9) (.const (.string (.mk #[98]))))⟩, ⟨none, (some 43), (.mv (.tmp 44))⟩])
 (.cond (.tmp 43)
 (.draw 10 (opsOf (sub (bodyOf Go.Proofs.Tryz.f189) [1, 1, 0, 1, 0, 1, 1, 1, 1, 1, 1, 1, 0])) [⟨none, (some 45), (.mv (.tmp 3))⟩, ⟨none, (some 46), (.faddr 4 (.tmp 1))⟩, ⟨none, (some 47), (.faddr 0 (.tmp 46))⟩, ⟨none, (some 48), (.load1 (.tmp 47))⟩, ⟨none, (some 49), (.call 138 [(.tmp 48)])⟩, ⟨none, (some 50), (.faddr 4 (.tmp 1))⟩, ⟨none, (some 51), (.faddr 1 (.tmp 50))⟩, ⟨none, (some 52), (.load1 (.tmp 51))⟩, ⟨none, (some 53), (.conv .u64 (.tmp 52))⟩, ⟨none, (some 54), (.call 139 [(.tmp 53)])⟩, ⟨none, (some 55), (.faddr 4 (.tmp 1))⟩, ⟨none, (some 56), (.faddr 2 (.tmp 55))⟩, ⟨none, (some 57), (.load1 (.tmp 56))⟩, ⟨none, (some 58), (.call 138 [(.tmp 57)])⟩, ⟨none, (some 59), (.faddr 4 (.tmp 1))⟩, ⟨none, (some 60), (.faddr 3 (.tmp 59))⟩, ⟨none, (some 61), (.load1 (.tmp 60))⟩, ⟨none, (some 62), (.call 138 [(.tmp 61)])⟩, ⟨none, (some 63), (.buildS 234 4 [(.bool false), (.int .u64 0), (.string (.mk #[])), (.bool false), (.int .u64 0), (.string (.mk #[])), (.bool false), (.int .u64 0), (.string (.mk #[])), (.bool false), (.int .u64 0), (.string (.mk #[]))] [(0, (3, (.tmp 49))), (3, (3, (.tmp 54))), (6, (3, (.tmp 58))), (9, (3, (.tmp 62)))])⟩, ⟨none, (some 64), (.raw 74 (.mk (some 64) (.call (.mk (.builtin .append) #[(.tmp 45), (.tmp 63)] #[237, 237])) 237 "ref.go:29" #[(.mk 0 .data), (.mk 18 .data), (.mk 17 .chain)] none))⟩, ⟨none, (some 3), (.mv (.tmp 64))⟩])
 (.seq (.ops [⟨none, (some 66), (.sop .eql (.tmp 9) (.const (.string (.mk #[99]))))⟩, ⟨none, (some 65), (.mv (.tmp 66))⟩])
 (.cond (.tmp 65)
 (.ops [⟨none, (some 67), (.mv (.tmp 3))⟩, ⟨none, (some 68), (.faddr 8 (.tmp 1))⟩, ⟨none, (some 69), (.load1 (.tmp 68))⟩, ⟨none, (some 70), (.call 138 [(.tmp 69)])⟩, ⟨none, (some 71), (.buildS 234 1 [(.bool false), (.int .u64 0), (.string (.mk #[]))] [(0, (3, (.tmp 70)))])⟩, ⟨none, (some 72), (.raw 74 (.mk (some 72) (.call (.mk (.builtin .append) #[(.tmp 67), (.tmp 71)] #[237, 237])) 237 "ref.go:31" #[(.mk 0 .data), (.mk 4 .data), (.mk 3 .chain)] none))⟩, ⟨none, (some 3), (.mv (.tmp 72))⟩])
 .skip))))))))))))
 (.seq (.ops [⟨none, (some 73), (.mv (.tmp 3))⟩, ⟨none, (some 2), (.mv (.tmp 73))⟩])
 .ret))))
abbrev r189 : List RV := [(.tmp 2)]
theorem F189 : FnOk Go.Proofs.Tryz.prog 189 74 c189 r189 := ⟨_, Go.Proofs.Tryz.func189, by kernel_rfl, by kernel_rfl, by kernel_rfl, by kernel_rfl, by kernel_rfl⟩

noncomputable def c137 : CC := (.seq (.ops [⟨none, (some 4), (.mv (.const (.bool false)))⟩])
 (.seq (.seq (.ops [⟨none, (some 5), (.mv (.const (.int .i64 0)))⟩])
 (.block 0
 (.loop
 (.seq (.seq (.ops [⟨none, (some 8), (.mv (.tmp 5))⟩, ⟨none, (some 9), (.mv (.tmp 0))⟩, ⟨none, (some 10), (.lenL (.tmp 9))⟩, ⟨none, (some 11), (.iop .lss (.tmp 8) (.tmp 10))⟩, ⟨none, (some 12), (.mv (.tmp 11))⟩, ⟨(some (12, true)), (some 13), (.mv (.tmp 5))⟩, ⟨(some (12, true)), (some 14), (.mv (.tmp 1))⟩, ⟨(some (12, true)), (some 15), (.lenL (.tmp 14))⟩, ⟨(some (12, true)), (some 16), (.iop .lss (.tmp 13) (.tmp 15))⟩, ⟨none, (some 17), (.pick (.tmp 12) (.tmp 16) (.const (.bool false)))⟩])
 (.cond (.tmp 17)
 .skip
 (.exit 0)))
 (.seq (.block 1
 (.seq (.draw 4 (opsOf (sub (bodyOf Go.Proofs.Tryz.f137) [1, 0, 1, 0, 0, 1, 0, 0, 0])) [⟨none, (some 20), (.mv (.tmp 0))⟩, ⟨none, (some 21), (.mv (.tmp 5))⟩, ⟨none, (some 22), (.iaddr 3 (.tmp 20) (.tmp 21))⟩, ⟨none, (some 23), (.loadN 3 (.tmp 22))⟩, ⟨none, (some 24), (.mv (.tmp 1))⟩, ⟨none, (some 25), (.mv (.tmp 5))⟩, ⟨none, (some 26), (.iaddr 3 (.tmp 24) (.tmp 25))⟩, ⟨none, (some 27), (.loadN 3 (.tmp 26))⟩, ⟨none, (some 6), (.alloc 234 (.agg #[(.bool false), (.int .u64 0), (.string (.mk #[]))]))⟩, ⟨none, (some 7), (.alloc 234 (.agg #[(.bool false), (.int .u64 0), (.string (.mk #[]))]))⟩, ⟨none, none, (.storeN 3 (.tmp 6) (.tmp 23))⟩, ⟨none, none, (.storeN 3 (.tmp 7) (.tmp 27))⟩])
 (.seq (.seq (.ops [⟨none, (some 28), (.faddr 0 (.tmp 6))⟩, ⟨none, (some 29), (.load1 (.tmp 28))⟩, ⟨none, (some 30), (.faddr 0 (.tmp 7))⟩, ⟨none, (some 31), (.load1 (.tmp 30))⟩, ⟨none, (some 32), (.bop true (.tmp 29) (.tmp 31))⟩])
 (.cond (.tmp 32)
 (.seq (.ops [⟨none, (some 33), (.faddr 0 (.tmp 7))⟩, ⟨none, (some 34), (.load1 (.tmp 33))⟩, ⟨none, (some 4), (.mv (.tmp 34))⟩])
 .ret)
 .skip))
 (.seq (.seq (.ops [⟨none, (some 35), (.faddr 0 (.tmp 6))⟩, ⟨none, (some 36), (.load1 (.tmp 35))⟩, ⟨none, (some 37), (.mv (.tmp 36))⟩, ⟨(some (37, true)), (some 38), (.faddr 2 (.tmp 6))⟩, ⟨(some (37, true)), (some 39), (.load1 (.tmp 38))⟩, ⟨(some (37, true)), (some 40), (.faddr 2 (.tmp 7))⟩, ⟨(some (37, true)), (some 41), (.load1 (.tmp 40))⟩, ⟨(some (37, true)), (some 42), (.sop .neq (.tmp 39) (.tmp 41))⟩, ⟨none, (some 43), (.pick (.tmp 37) (.tmp 42) (.const (.bool false)))⟩])
 (.cond (.tmp 43)
 (.seq (.ops [⟨none, (some 44), (.faddr 2 (.tmp 6))⟩, ⟨none, (some 45), (.load1 (.tmp 44))⟩, ⟨none, (some 46), (.faddr 2 (.tmp 7))⟩, ⟨none, (some 47), (.load1 (.tmp 46))⟩, ⟨none, (some 48), (.sop .lss (.tmp 45) (.tmp 47))⟩, ⟨none, (some 4), (.mv (.tmp 48))⟩])
 .ret)
 .skip))
 (.seq (.ops [⟨none, (some 49), (.faddr 0 (.tmp 6))⟩, ⟨none, (some 50), (.load1 (.tmp 49))⟩, ⟨none, (some 51), (.not (.tmp 50))⟩, ⟨none, (some 52), (.mv (.tmp 51))⟩, ⟨(some (52, true)), (some 53), (.faddr 1 (.tmp 6))⟩, ⟨(some (52, true)), (some 54), (.load1 (.tmp 53))⟩, ⟨(some (52, true)), (some 55), (.faddr 1 (.tmp 7))⟩, ⟨(some (52, true)), (some 56), (.load1 (.tmp 55))⟩, ⟨(some (52, true)), (some 57), (.iop .neq (.tmp 54) (.tmp 56))⟩, ⟨none, (some 58), (.pick (.tmp 52) (.tmp 57) (.const (.bool false)))⟩])
 (.cond (.tmp 58)
 (.seq (.ops [⟨none, (some 59), (.faddr 1 (.tmp 6))⟩, ⟨none, (some 60), (.load1 (.tmp 59))⟩, ⟨none, (some 61), (.faddr 1 (.tmp 7))⟩, ⟨none, (some 62), (.load1 (.tmp 61))⟩, ⟨none, (some 63), (.iop .lss (.tmp 60) (.tmp 62))⟩, ⟨none, (some 4), (.mv (.tmp 63))⟩])
 .ret)
 .skip))))))
 (.ops [⟨none, (some 18), (.mv (.tmp 5))⟩, ⟨none, (some 19), (.iop .add (.tmp 18) (.const (.int .i64 1)))⟩, ⟨none, (some 5), (.mv (.tmp 19))⟩]))))))
 (.seq (.ops [⟨none, (some 64), (.mv (.tmp 0))⟩, ⟨none, (some 65), (.lenL (.tmp 64))⟩, ⟨none, (some 66), (.mv (.tmp 1))⟩, ⟨none, (some 67), (.lenL (.tmp 66))⟩, ⟨none, (some 68), (.iop .lss (.tmp 65) (.tmp 67))⟩, ⟨none, (some 4), (.mv (.tmp 68))⟩])
 .ret)))
abbrev r137 : List RV := [(.tmp 4)]
theorem F137 : FnOk Go.Proofs.Tryz.prog 137 69 c137 r137 := ⟨_, Go.Proofs.Tryz.func137, by kernel_rfl, by kernel_rfl, by kernel_rfl, by kernel_rfl, by kernel_rfl⟩

noncomputable def c138 : CC := (.seq (.ops [⟨none, (some 2), (.alloc 234 (.agg #[(.bool false), (.int .u64 0), (.string (.mk #[]))]))⟩])
 (.seq (.ops [⟨none, (some 3), (.mv (.tmp 0))⟩, ⟨none, (some 4), (.build [(.bool false), (.int .u64 0), (.string (.mk #[]))] [(0, (1, (.const (.bool true)))), (2, (1, (.tmp 3)))])⟩, ⟨none, none, (.storeN 3 (.tmp 2) (.tmp 4))⟩])
 .ret))
abbrev r138 : List RV := [(.cN 2 3)]
theorem F138 : FnOk Go.Proofs.Tryz.prog 138 5 c138 r138 := ⟨_, Go.Proofs.Tryz.func138, by kernel_rfl, by kernel_rfl, by kernel_rfl, by kernel_rfl, by kernel_rfl⟩

noncomputable def c139 : CC := (.seq (.ops [⟨none, (some 2), (.alloc 234 (.agg #[(.bool false), (.int .u64 0), (.string (.mk #[]))]))⟩])
 (.seq (.ops [⟨none, (some 3), (.mv (.tmp 0))⟩, ⟨none, (some 4), (.build [(.bool false), (.int .u64 0), (.string (.mk #[]))] [(1, (1, (.tmp 3)))])⟩, ⟨none, none, (.storeN 3 (.tmp 2) (.tmp 4))⟩])
 .ret))
abbrev r139 : List RV := [(.cN 2 3)]
theorem F139 : FnOk Go.Proofs.Tryz.prog 139 5 c139 r139 := ⟨_, Go.Proofs.Tryz.func139, by kernel_rfl, by kernel_rfl, by kernel_rfl, by kernel_rfl, by kernel_rfl⟩

noncomputable def c188 : CC := (.seq (.ops [⟨none, (some 2), (.mv (.const (.string (.mk #[]))))⟩, ⟨none, (some 3), (.mv (.const (.int .i64 0)))⟩])
 (.seq (.ops [⟨none, (some 4), (.mv (.const (.string (.mk #[]))))⟩])
 (.seq (.seq (.ops [⟨none, (some 8), (.mv (.tmp 0))⟩, ⟨none, (some 9), (.lenL (.tmp 8))⟩, ⟨none, (some 10), (.mv (.const (.int .i64 0)))⟩])
 (.block 0
 (.loop
 (.seq (.ops [⟨none, (some 11), (.iop .lss (.tmp 10) (.tmp 9))⟩])
 (.seq (.cond (.tmp 11)
 .skip
 (.exit 0))
 (.seq (.block 1
 (.seq (.ops [⟨none, (some 12), (.iaddr 3 (.tmp 8) (.tmp 10))⟩, ⟨none, (some 13), (.loadN 3 (.tmp 12))⟩, ⟨none, (some 6), (.alloc 234 (.agg #[(.bool false), (.int .u64 0), (.string (.mk #[]))]))⟩, ⟨none, none, (.storeN 3 (.tmp 6) (.tmp 13))⟩])
 (.seq (.seq (.ops [⟨none, (some 14), (.faddr 0 (.tmp 6))⟩, ⟨none, (some 15), (.load1 (.tmp 14))⟩, ⟨none, (some 16), (.not (.tmp 15))⟩])
 (.cond (.tmp 16)
 (.draw 6 (opsOf (sub (bodyOf Go.Proofs.Tryz.f188) [1, 1, 0, 1, 0, 0, 1, 1, 0, 0, 1, 0, 1, 0])) [⟨none, (some 17), (.mv (.tmp 4))⟩, ⟨none, (some 18), (.call 215 [(.const (.int .u64 1)), (.const (.int .i64 1))])⟩, ⟨none, (some 19), (.sop .add (.tmp 17) (.tmp 18))⟩, ⟨none, (some 20), (.faddr 1 (.tmp 6))⟩, ⟨none, (some 21), (.load1 (.tmp 20))⟩, ⟨none, (some 22), (.call 215 [(.tmp 21), (.const (.int .i64 8))])⟩, ⟨none, (some 23), (.sop .add (.tmp 19) (.tmp 22))⟩, ⟨none, (some 4), (.mv (.tmp 23))⟩])
 (.seq (.ops [⟨none, (some 24), (.mv (.tmp 4))⟩, ⟨none, (some 25), (.call 215 [(.const (.int .u64 2)), (.const (.int .i64 1))])⟩, ⟨none, (some 26), (.sop .add (.tmp 24) (.tmp 25))⟩, ⟨none, (some 4), (.mv (.tmp 26))⟩])
 (.seq (.seq (.ops [⟨none, (some 7), (.mv (.const (.int .i64 0)))⟩])
 (.block 2
 (.loop
 (.seq (.seq (.ops [⟨none, (some 27), (.mv (.tmp 7))⟩, ⟨none, (some 28), (.faddr 2 (.tmp 6))⟩, ⟨none, (some 29), (.load1 (.tmp 28))⟩, ⟨none, (some 30), (.lenS (.tmp 29))⟩, ⟨none, (some 31), (.iop .lss (.tmp 27) (.tmp 30))⟩])
 (.cond (.tmp 31)
 .skip
 (.exit 2)))
 (.seq (.block 3
 (.seq (.ops [⟨none, (some 34), (.mv (.tmp 4))⟩, ⟨none, (some 35), (.faddr 2 (.tmp 6))⟩, ⟨none, (some 36), (.load1 (.tmp 35))⟩, ⟨none, (some 37), (.mv (.tmp 7))⟩, ⟨none, (some 38), (.mv (.tmp 7))⟩, ⟨none, (some 39), (.iop .add (.tmp 38) (.const (.int .i64 1)))⟩, ⟨none, (some 40), (.slS (.tmp 36) (some (.tmp 37)) (some (.tmp 39)))⟩, ⟨none, (some 41), (.sop .add (.tmp 34) (.tmp 40))⟩, ⟨none, (some 4), (.mv (.tmp 41))⟩])
 (.seq (.ops [⟨none, (some 42), (.faddr 2 (.tmp 6))⟩, ⟨none, (some 43), (.load1 (.tmp 42))⟩, ⟨none, (some 44), (.mv (.tmp 7))⟩, ⟨none, (some 45), (.sidx (.tmp 43) (.tmp 44))⟩, ⟨none, (some 46), (.iop .eql (.tmp 45) (.const (.int .u8 0)))⟩])
 (.cond (.tmp 46)
 (.ops [⟨none, (some 47), (.mv (.tmp 4))⟩, ⟨none, (some 48), (.call 215 [(.const (.int .u64 255)), (.const (.int .i64 1))])⟩, ⟨none, (some 49), (.sop .add (.tmp 47) (.tmp 48))⟩, ⟨none, (some 4), (.mv (.tmp 49))⟩])
 .skip))))
 (.ops [⟨none, (some 32), (.mv (.tmp 7))⟩, ⟨none, (some 33), (.iop .add (.tmp 32) (.const (.int .i64 1)))⟩, ⟨none, (some 7), (.mv (.tmp 33))⟩]))))))
 (.ops [⟨none, (some 50), (.mv (.tmp 4))⟩, ⟨none, (some 51), (.call 215 [(.const (.int .u64 0)), (.const (.int .i64 2))])⟩, ⟨none, (some 52), (.sop .add (.tmp 50) (.tmp 51))⟩, ⟨none, (some 4), (.mv (.tmp 52))⟩])))))
 (.seq (.ops [⟨none, (some 53), (.mv (.tmp 4))⟩, ⟨none, (some 54), (.lenS (.tmp 53))⟩, ⟨none, (some 55), (.iop .gtr (.tmp 54) (.const (.int .i64 255)))⟩])
 (.cond (.tmp 55)
 (.seq (.ops [⟨none, (some 2), (.mv (.const (.string (.mk #[]))))⟩, ⟨none, (some 3), (.mv (.const (.int .i64 5)))⟩])
 .ret)
 .skip)))))
 (.ops [⟨none, (some 56), (.iop .add (.tmp 10) (.const (.int .i64 1)))⟩, ⟨none, (some 10), (.mv (.tmp 56))⟩])))))))
 (.seq (.ops [⟨none, (some 57), (.mv (.tmp 4))⟩, ⟨none, (some 2), (.mv (.tmp 57))⟩, ⟨none, (some 3), (.mv (.const (.int .i64 0)))⟩])
 .ret))))
abbrev r188 : List RV := [(.tmp 2), (.tmp 3)]
theorem F188 : FnOk Go.Proofs.Tryz.prog 188 58 c188 r188 := ⟨_, Go.Proofs.Tryz.func188, by kernel_rfl, by kernel_rfl, by kernel_rfl, by kernel_rfl, by kernel_rfl⟩

noncomputable def c215 : CC := (.seq (.ops [⟨none, (some 4), (.mv (.const (.string (.mk #[]))))⟩])
 (.seq (.ops [⟨none, (some 5), (.alloc 288 (.agg #[(.int .u8 0), (.int .u8 0), (.int .u8 0), (.int .u8 0), (.int .u8 0), (.int .u8 0), (.int .u8 0), (.int .u8 0)]))⟩])
 (.seq (.seq (.ops [⟨none, (some 6), (.mv (.const (.int .i64 7)))⟩])
 (.block 0
 (.loop
 (.seq (.seq (.ops [⟨none, (some 7), (.mv (.tmp 6))⟩, ⟨none, (some 8), (.iop .geq (.tmp 7) (.const (.int .i64 0)))⟩])
 (.cond (.tmp 8)
 .skip
 (.exit 0)))
 (.seq (.block 1
 (.seq (.ops [⟨none, (some 11), (.mv (.tmp 6))⟩, ⟨none, (some 12), (.mv (.tmp 0))⟩, ⟨none, (some 13), (.iop .rem (.tmp 12) (.const (.int .u64 256)))⟩, ⟨none, (some 14), (.conv .u8 (.tmp 13))⟩, ⟨none, (some 15), (.iaddrA 8 1 (.tmp 5) (.tmp 11))⟩, ⟨none, none, (.store1 (.tmp 15) (.tmp 14))⟩])
 (.ops [⟨none, (some 16), (.mv (.tmp 0))⟩, ⟨none, (some 17), (.iop .quo (.tmp 16) (.const (.int .u64 256)))⟩, ⟨none, (some 0), (.mv (.tmp 17))⟩])))
 (.ops [⟨none, (some 9), (.mv (.tmp 6))⟩, ⟨none, (some 10), (.iop .sub (.tmp 9) (.const (.int .i64 1)))⟩, ⟨none, (some 6), (.mv (.tmp 10))⟩]))))))
 (.seq (.ops [⟨none, (some 18), (.mv (.tmp 1))⟩, ⟨none, (some 19), (.iop .sub (.const (.int .i64 8)) (.tmp 18))⟩, ⟨none, (some 20), (.slA 8 1 (.tmp 5) (some (.tmp 19)) none)⟩, ⟨none, (some 21), (.raw 22 (.mk (some 21) (.convert 110 9 (.tmp 20)) 9 "ref.go:11" #[(.mk 2 .data)] none))⟩, ⟨none, (some 4), (.mv (.tmp 21))⟩])
 .ret))))
abbrev r215 : List RV := [(.tmp 4)]
theorem F215 : FnOk Go.Proofs.Tryz.prog 215 22 c215 r215 := ⟨_, Go.Proofs.Tryz.func215, by kernel_rfl, by kernel_rfl, by kernel_rfl, by kernel_rfl, by kernel_rfl⟩

end Go.VrC
