import Derived.Test.YtnpfllldeoiadaaGreatDoorProg
import Derived.Test.YtnpfllldeoiadaaGreatDoorVcI
set_option linter.unusedSimpArgs false
set_option linter.unusedVariables false
set_option linter.unusedSectionVars false
set_option linter.unnecessarySimpa false
namespace Go.VrB
open Go Go.Vc
set_option maxRecDepth 100000
noncomputable def c43 : CC := (.seq (.ops [⟨none, (some 0), (.mv (.const (.bool false)))⟩])
 (.seq (.ops [⟨none, (some 7), (.call 51 [(.const (.slice none 0 0))])⟩, ⟨none, (some 1), (.mv (.tmp 7))⟩])
 (.seq (.seq (.ops [⟨none, (some 8), (.mv (.tmp 1))⟩, ⟨none, (some 9), (.pnil 0 false (.tmp 8))⟩, ⟨none, (some 10), (.mv (.tmp 9))⟩, ⟨(some (10, false)), (some 11), (.call 52 [])⟩, ⟨(some (10, false)), (some 12), (.not (.tmp 11))⟩, ⟨none, (some 13), (.pick (.tmp 10) (.const (.bool true)) (.tmp 12))⟩])
 (.cond (.tmp 13)
 (.seq (.ops [⟨none, (some 0), (.mv (.const (.bool false)))⟩])
 .ret)
 .skip))
 (.seq (.ops [⟨none, (some 14), (.mv (.tmp 1))⟩, ⟨none, (some 15), (.mkI 90 (.tmp 14))⟩, ⟨none, (some 16), (.build [(.string (.mk #[])), (.int .u64 0), (.int .u32 0), (.int .u64 0), (.string (.mk #[]))] [(0, (1, (.const (.string (.mk #[97]))))), (1, (1, (.const (.int .u64 1)))), (3, (1, (.const (.int .u64 5))))])⟩, ⟨none, (some 17), (.call 53 [(.tmp 15), (.tmp 16)])⟩, ⟨none, (some 2), (.mv (.tmp 17))⟩])
 (.seq (.ops [⟨none, (some 19), (.mv (.tmp 1))⟩, ⟨none, (some 20), (.mkI 90 (.tmp 19))⟩, ⟨none, (some 21), (.call 55 [(.tmp 20), (.const (.int .u64 4))])⟩, ⟨none, (some 22), (.call 54 [(.tmp 21)])⟩, ⟨none, (some 18), (.mv (.tmp 22))⟩, ⟨none, (some 23), (.ext (.tmp 18) 0)⟩, ⟨none, (some 24), (.ext (.tmp 18) 1)⟩, ⟨none, (some 3), (.mv (.tmp 23))⟩, ⟨none, (some 4), (.mv (.tmp 24))⟩])
 (.seq (.ops [⟨none, (some 26), (.mv (.tmp 1))⟩, ⟨none, (some 27), (.mkI 90 (.tmp 26))⟩, ⟨none, (some 28), (.call 55 [(.tmp 27), (.const (.int .u64 5))])⟩, ⟨none, (some 29), (.call 54 [(.tmp 28)])⟩, ⟨none, (some 25), (.mv (.tmp 29))⟩, ⟨none, (some 30), (.ext (.tmp 25) 0)⟩, ⟨none, (some 31), (.ext (.tmp 25) 1)⟩, ⟨none, (some 5), (.mv (.tmp 30))⟩, ⟨none, (some 6), (.mv (.tmp 31))⟩])
 (.seq (.ops [⟨none, (some 32), (.mv (.tmp 2))⟩, ⟨none, (some 33), (.iop .eql (.tmp 32) (.const (.int .i64 0)))⟩, ⟨none, (some 34), (.mv (.tmp 33))⟩, ⟨(some (34, true)), (some 35), (.mv (.tmp 4))⟩, ⟨(some (34, true)), (some 36), (.iop .eql (.tmp 35) (.const (.int .i64 0)))⟩, ⟨none, (some 37), (.pick (.tmp 34) (.tmp 36) (.const (.bool false)))⟩, ⟨none, (some 38), (.mv (.tmp 37))⟩, ⟨(some (38, true)), (some 39), (.mv (.tmp 3))⟩, ⟨(some (38, true)), (some 40), (.lenL (.tmp 39))⟩, ⟨(some (38, true)), (some 41), (.iop .eql (.tmp 40) (.const (.int .i64 0)))⟩, ⟨none, (some 42), (.pick (.tmp 38) (.tmp 41) (.const (.bool false)))⟩, ⟨none, (some 43), (.mv (.tmp 42))⟩, ⟨(some (43, true)), (some 44), (.mv (.tmp 6))⟩, ⟨(some (43, true)), (some 45), (.iop .eql (.tmp 44) (.const (.int .i64 0)))⟩, ⟨none, (some 46), (.pick (.tmp 43) (.tmp 45) (.const (.bool false)))⟩, ⟨none, (some 47), (.mv (.tmp 46))⟩, ⟨(some (47, true)), (some 48), (.mv (.tmp 5))⟩, ⟨(some (47, true)), (some 49), (.lenL (.tmp 48))⟩, ⟨(some (47, true)), (some 50), (.iop .eql (.tmp 49) (.const (.int .i64 1)))⟩, ⟨none, (some 51), (.pick (.tmp 47) (.tmp 50) (.const (.bool false)))⟩, ⟨none, (some 0), (.mv (.tmp 51))⟩])
 .ret)))))))
abbrev r43 : List RV := [(.tmp 0)]
theorem F43 : FnOk Go.Proofs.Tryz.prog 43 52 c43 r43 := ⟨_, Go.Proofs.Tryz.func43, by kernel_rfl, by kernel_rfl, by kernel_rfl, by kernel_rfl, by kernel_rfl⟩

noncomputable def c53 : CC := (.seq (.ops [⟨none, (some 3), (.box 44 (.tmp 1))⟩, ⟨none, (some 4), (.mv (.const (.int .i64 0)))⟩])
 (.seq (.ops [⟨none, (some 12), (.loadN 5 (.tmp 3))⟩, ⟨none, (some 13), (.call 65 [(.tmp 12)])⟩, ⟨none, (some 11), (.mv (.tmp 13))⟩, ⟨none, (some 14), (.ext (.tmp 11) 0)⟩, ⟨none, (some 15), (.ext (.tmp 11) 1)⟩, ⟨none, (some 16), (.ext (.tmp 11) 2)⟩, ⟨none, (some 5), (.mv (.tmp 14))⟩, ⟨none, (some 6), (.mv (.tmp 15))⟩, ⟨none, (some 7), (.mv (.tmp 16))⟩])
 (.seq (.seq (.ops [⟨none, (some 17), (.mv (.tmp 7))⟩, ⟨none, (some 18), (.iop .neq (.tmp 17) (.const (.int .i64 0)))⟩])
 (.cond (.tmp 18)
 (.seq (.ops [⟨none, (some 19), (.mv (.tmp 7))⟩, ⟨none, (some 4), (.mv (.tmp 19))⟩])
 .ret)
 .skip))
 (.seq (.seq (.ops [⟨none, (some 21), (.mv (.tmp 0))⟩, ⟨none, (some 22), (.mv (.tmp 5))⟩, ⟨none, (some 23), (.inv (.tmp 21) "Get" [(.tmp 22)])⟩, ⟨none, (some 20), (.mv (.tmp 23))⟩, ⟨none, (some 24), (.ext (.tmp 20) 0)⟩, ⟨none, (some 25), (.ext (.tmp 20) 1)⟩, ⟨none, (some 26), (.ext (.tmp 20) 2)⟩, ⟨none, (some 8), (.mv (.tmp 24))⟩, ⟨none, (some 9), (.mv (.tmp 25))⟩, ⟨none, (some 10), (.mv (.tmp 26))⟩])
 (.block 0
 (.seq (.ops [⟨none, (some 28), (.mv (.tmp 10))⟩, ⟨none, (some 29), (.iop .neq (.tmp 28) (.const (.int .i64 0)))⟩, ⟨none, (some 27), (.mv (.tmp 29))⟩])
 (.cond (.tmp 27)
 (.seq (.ops [⟨none, (some 30), (.mv (.tmp 10))⟩, ⟨none, (some 4), (.mv (.tmp 30))⟩])
 .ret)
 (.seq (.ops [⟨none, (some 32), (.mv (.tmp 9))⟩, ⟨none, (some 31), (.mv (.tmp 32))⟩])
 (.cond (.tmp 31)
 (.seq (.ops [⟨none, (some 4), (.mv (.const (.int .i64 22)))⟩])
 .ret)
 .skip))))))
 (.seq (.ops [⟨none, (some 33), (.mv (.tmp 0))⟩, ⟨none, (some 34), (.loadN 5 (.tmp 3))⟩, ⟨none, (some 35), (.call 66 [(.tmp 33), (.tmp 34)])⟩, ⟨none, (some 4), (.mv (.tmp 35))⟩])
 .ret)))))
abbrev r53 : List RV := [(.tmp 4)]
theorem F53 : FnOk Go.Proofs.Tryz.prog 53 36 c53 r53 := ⟨_, Go.Proofs.Tryz.func53, by kernel_rfl, by kernel_rfl, by kernel_rfl, by kernel_rfl, by kernel_rfl⟩

noncomputable def c83 : CC := (.seq (.ops [⟨none, (some 6), (.mv (.const (.string (.mk #[]))))⟩, ⟨none, (some 7), (.mv (.const (.int .i64 0)))⟩])
 (.seq (.ops [⟨none, (some 8), (.mv (.tmp 0))⟩, ⟨none, (some 9), (.call 68 [(.tmp 8)])⟩, ⟨none, (some 10), (.mv (.tmp 1))⟩, ⟨none, (some 11), (.call 109 [(.tmp 10)])⟩, ⟨none, (some 12), (.mv (.tmp 2))⟩, ⟨none, (some 13), (.call 68 [(.tmp 12)])⟩, ⟨none, (some 14), (.buildS 119 3 [(.bool false), (.int .u64 0), (.string (.mk #[])), (.bool false), (.int .u64 0), (.string (.mk #[])), (.bool false), (.int .u64 0), (.string (.mk #[]))] [(0, (3, (.tmp 9))), (3, (3, (.tmp 11))), (6, (3, (.tmp 13)))])⟩, ⟨none, (some 15), (.call 86 [(.const (.string (.mk #[101]))), (.tmp 14)])⟩, ⟨none, (some 16), (.ext (.tmp 15) 0)⟩, ⟨none, (some 17), (.ext (.tmp 15) 1)⟩, ⟨none, (some 6), (.mv (.tmp 16))⟩, ⟨none, (some 7), (.mv (.tmp 17))⟩])
 .ret))
abbrev r83 : List RV := [(.tmp 6), (.tmp 7)]
theorem F83 : FnOk Go.Proofs.Tryz.prog 83 18 c83 r83 := ⟨_, Go.Proofs.Tryz.func83, by kernel_rfl, by kernel_rfl, by kernel_rfl, by kernel_rfl, by kernel_rfl⟩

noncomputable def c55 : CC := (.seq (.ops [⟨none, (some 2), (.box 115 (.tmp 0))⟩, ⟨none, (some 4), (.mv (.const .nilFunc))⟩])
 (.seq (.ops [⟨none, (some 8), (.call 67 [(.const (.string (.mk #[101]))), (.const (.slice none 0 0))])⟩, ⟨none, (some 7), (.mv (.tmp 8))⟩, ⟨none, (some 9), (.ext (.tmp 7) 0)⟩, ⟨none, (some 10), (.ext (.tmp 7) 1)⟩, ⟨none, (some 5), (.mv (.tmp 9))⟩, ⟨none, (some 6), (.mv (.tmp 10))⟩])
 (.seq (.seq (.ops [⟨none, (some 11), (.mv (.tmp 1))⟩, ⟨none, (some 12), (.iop .lss (.tmp 11) (.const (.int .u64 18446744073709551615)))⟩])
 (.cond (.tmp 12)
 (.ops [⟨none, (some 14), (.mv (.tmp 1))⟩, ⟨none, (some 15), (.iop .add (.tmp 14) (.const (.int .u64 1)))⟩, ⟨none, (some 16), (.call 68 [(.tmp 15)])⟩, ⟨none, (some 17), (.buildS 119 1 [(.bool false), (.int .u64 0), (.string (.mk #[]))] [(0, (3, (.tmp 16)))])⟩, ⟨none, (some 18), (.call 67 [(.const (.string (.mk #[101]))), (.tmp 17)])⟩, ⟨none, (some 13), (.mv (.tmp 18))⟩, ⟨none, (some 19), (.ext (.tmp 13) 0)⟩, ⟨none, (some 20), (.ext (.tmp 13) 1)⟩, ⟨none, (some 6), (.mv (.tmp 19))⟩])
 .skip))
 (.seq (.ops [⟨none, (some 21), (.load1 (.tmp 2))⟩, ⟨none, (some 22), (.mv (.tmp 5))⟩, ⟨none, (some 23), (.mv (.tmp 6))⟩, ⟨none, (some 24), (.inv (.tmp 21) "Range" [(.tmp 22), (.tmp 23)])⟩, ⟨none, (some 25), (.mkF (.func 70) [] [(.tmp 2)])⟩, ⟨none, (some 26), (.call 69 [(.tmp 24), (.tmp 25)])⟩, ⟨none, (some 4), (.mv (.tmp 26))⟩])
 .ret))))
abbrev r55 : List RV := [(.tmp 4)]
theorem F55 : FnOk Go.Proofs.Tryz.prog 55 27 c55 r55 := ⟨_, Go.Proofs.Tryz.func55, by kernel_rfl, by kernel_rfl, by kernel_rfl, by kernel_rfl, by kernel_rfl⟩

noncomputable def c71 : CC := (.seq (.ops [⟨none, (some 6), (.alloc 44 (.agg #[(.string (.mk #[])), (.int .u64 0), (.int .u32 0), (.int .u64 0), (.string (.mk #[]))]))⟩, ⟨none, (some 7), (.mv (.const (.int .i64 0)))⟩])
 (.seq (.ops [⟨none, (some 13), (.mv (.tmp 1))⟩, ⟨none, (some 14), (.mv (.tmp 2))⟩, ⟨none, (some 15), (.call 82 [(.tmp 13), (.tmp 14)])⟩, ⟨none, (some 12), (.mv (.tmp 15))⟩, ⟨none, (some 16), (.ext (.tmp 12) 0)⟩, ⟨none, (some 17), (.ext (.tmp 12) 1)⟩, ⟨none, (some 8), (.mv (.tmp 16))⟩, ⟨none, (some 9), (.mv (.tmp 17))⟩])
 (.seq (.seq (.ops [⟨none, (some 18), (.mv (.tmp 9))⟩, ⟨none, (some 19), (.iop .neq (.tmp 18) (.const (.int .i64 0)))⟩])
 (.cond (.tmp 19)
 (.seq (.ops [⟨none, (some 20), (.build [(.string (.mk #[])), (.int .u64 0), (.int .u32 0), (.int .u64 0), (.string (.mk #[]))] [])⟩, ⟨none, none, (.storeN 5 (.tmp 6) (.tmp 20))⟩, ⟨none, (some 7), (.mv (.const (.int .i64 21)))⟩])
 .ret)
 .skip))
 (.seq (.ops [⟨none, (some 22), (.mv (.tmp 0))⟩, ⟨none, (some 23), (.mv (.tmp 8))⟩, ⟨none, (some 24), (.inv (.tmp 22) "Get" [(.tmp 23)])⟩, ⟨none, (some 21), (.mv (.tmp 24))⟩, ⟨none, (some 25), (.ext (.tmp 21) 0)⟩, ⟨none, (some 26), (.ext (.tmp 21) 1)⟩, ⟨none, (some 27), (.ext (.tmp 21) 2)⟩, ⟨none, (some 10), (.mv (.tmp 25))⟩, ⟨none, (some 11), (.mv (.tmp 26))⟩, ⟨none, (some 9), (.mv (.tmp 27))⟩])
 (.seq (.block 0
 (.seq (.ops [⟨none, (some 29), (.mv (.tmp 9))⟩, ⟨none, (some 30), (.iop .neq (.tmp 29) (.const (.int .i64 0)))⟩, ⟨none, (some 28), (.mv (.tmp 30))⟩])
 (.cond (.tmp 28)
 (.seq (.ops [⟨none, (some 31), (.build [(.string (.mk #[])), (.int .u64 0), (.int .u32 0), (.int .u64 0), (.string (.mk #[]))] [])⟩, ⟨none, (some 32), (.mv (.tmp 9))⟩, ⟨none, none, (.storeN 5 (.tmp 6) (.tmp 31))⟩, ⟨none, (some 7), (.mv (.tmp 32))⟩])
 .ret)
 (.seq (.ops [⟨none, (some 34), (.mv (.tmp 11))⟩, ⟨none, (some 35), (.not (.tmp 34))⟩, ⟨none, (some 33), (.mv (.tmp 35))⟩])
 (.cond (.tmp 33)
 (.seq (.ops [⟨none, (some 36), (.build [(.string (.mk #[])), (.int .u64 0), (.int .u32 0), (.int .u64 0), (.string (.mk #[]))] [])⟩, ⟨none, none, (.storeN 5 (.tmp 6) (.tmp 36))⟩, ⟨none, (some 7), (.mv (.const (.int .i64 21)))⟩])
 .ret)
 .skip)))))
 (.seq (.ops [⟨none, (some 37), (.mv (.tmp 1))⟩, ⟨none, (some 38), (.mv (.tmp 2))⟩, ⟨none, (some 39), (.call 84 [(.tmp 37), (.tmp 38)])⟩, ⟨none, (some 40), (.mv (.tmp 10))⟩, ⟨none, (some 41), (.call 90 [(.tmp 39), (.tmp 40)])⟩, ⟨none, (some 42), (.ext (.tmp 41) 0)⟩, ⟨none, (some 43), (.ext (.tmp 41) 1)⟩, ⟨none, none, (.storeN 5 (.tmp 6) (.tmp 42))⟩, ⟨none, (some 7), (.mv (.tmp 43))⟩])
 .ret))))))
abbrev r71 : List RV := [(.cN 6 5), (.tmp 7)]
theorem F71 : FnOk Go.Proofs.Tryz.prog 71 44 c71 r71 := ⟨_, Go.Proofs.Tryz.func71, by kernel_rfl, by kernel_rfl, by kernel_rfl, by kernel_rfl, by kernel_rfl⟩

noncomputable def c54 : CC := (.seq (.ops [⟨none, (some 2), (.alloc 25 (.slice none 0 0))⟩, ⟨none, (some 3), (.alloc 22 (.int .i64 0))⟩])
 (.seq (.ops [⟨none, (some 4), (.alloc 25 (.slice none 0 0))⟩])
 (.seq (.seq (.ops [⟨none, (some 7), (.mv (.tmp 0))⟩])
 (.block 0
 (.range (.tmp 7) #[8, 9] (sub (bodyOf Go.Proofs.Tryz.f54) [1, 1, 0, 1, 0, 0]) (sub (bodyOf Go.Proofs.Tryz.f54) [1, 1, 0, 1, 0, 1])
 (.seq (.ops [⟨none, (some 5), (.alloc 44 (.agg #[(.string (.mk #[])), (.int .u64 0), (.int .u32 0), (.int .u64 0), (.string (.mk #[]))]))⟩, ⟨none, none, (.storeN 5 (.tmp 5) (.tmp 8))⟩])
 (.ops [⟨none, (some 6), (.mv (.tmp 9))⟩]))
 (.block 1
 (.seq (.seq (.ops [⟨none, (some 10), (.mv (.tmp 6))⟩, ⟨none, (some 11), (.iop .neq (.tmp 10) (.const (.int .i64 0)))⟩])
 (.cond (.tmp 11)
 (.seq (.ops [⟨none, (some 12), (.mv (.tmp 6))⟩, ⟨none, none, (.store1 (.tmp 2) (.const (.slice none 0 0)))⟩, ⟨none, none, (.store1 (.tmp 3) (.tmp 12))⟩])
 .ret)
 .skip))
 (.ops [⟨none, (some 13), (.load1 (.tmp 4))⟩, ⟨none, (some 14), (.loadN 5 (.tmp 5))⟩, ⟨none, (some 15), (.buildS 44 1 [(.string (.mk #[])), (.int .u64 0), (.int .u32 0), (.int .u64 0), (.string (.mk #[]))] [(0, (5, (.tmp 14)))])⟩, ⟨none, (some 16), (.raw 18 (.mk (some 16) (.call (.mk (.builtin .append) #[(.tmp 13), (.tmp 15)] #[25, 25])) 25 "law.go:38" #[(.mk 0 .data), (.mk 2 .data)] none))⟩, ⟨none, none, (.store1 (.tmp 4) (.tmp 16))⟩]))))))
 (.seq (.ops [⟨none, (some 17), (.load1 (.tmp 4))⟩, ⟨none, none, (.store1 (.tmp 2) (.tmp 17))⟩, ⟨none, none, (.store1 (.tmp 3) (.const (.int .i64 0)))⟩])
 .ret))))
abbrev r54 : List RV := [(.c1 2), (.c1 3)]
theorem F54 : FnOk Go.Proofs.Tryz.prog 54 18 c54 r54 := ⟨_, Go.Proofs.Tryz.func54, by kernel_rfl, by kernel_rfl, by kernel_rfl, by kernel_rfl, by kernel_rfl⟩

noncomputable def c5 : CC := (.seq (.ops [⟨none, (some 0), (.mv (.const (.bool false)))⟩])
 (.seq (.ops [⟨none, (some 1), (.call 22 [])⟩, ⟨none, (some 2), (.mv (.tmp 1))⟩, ⟨(some (2, true)), (some 3), (.buildS 23 1 [(.int .u64 0)] [(0, (1, (.const (.int .u64 5))))])⟩, ⟨(some (2, true)), (some 4), (.build [(.int .i64 0), (.int .u64 0), (.slice none 0 0), (.slice none 0 0), (.slice none 0 0), (.slice none 0 0)] [(1, (1, (.const (.int .u64 1)))), (2, (1, (.tmp 3)))])⟩, ⟨(some (2, true)), (some 5), (.call 13 [(.tmp 4)])⟩, ⟨(some (2, true)), (some 6), (.sop .eql (.tmp 5) (.const (.string (.mk #[111, 107, 32, 49, 32, 105, 100, 115, 32, 91, 53, 93]))))⟩, ⟨none, (some 7), (.pick (.tmp 2) (.tmp 6) (.const (.bool false)))⟩, ⟨none, (some 0), (.mv (.tmp 7))⟩])
 .ret))
abbrev r5 : List RV := [(.tmp 0)]
theorem F5 : FnOk Go.Proofs.Tryz.prog 5 8 c5 r5 := ⟨_, Go.Proofs.Tryz.func5, by kernel_rfl, by kernel_rfl, by kernel_rfl, by kernel_rfl, by kernel_rfl⟩

noncomputable def c52 : CC := (.seq (.ops [⟨none, (some 0), (.mv (.const (.bool false)))⟩])
 (.seq (.ops [⟨none, (some 1), (.call 64 [])⟩, ⟨none, (some 0), (.mv (.tmp 1))⟩])
 .ret))
abbrev r52 : List RV := [(.tmp 0)]
theorem F52 : FnOk Go.Proofs.Tryz.prog 52 2 c52 r52 := ⟨_, Go.Proofs.Tryz.func52, by kernel_rfl, by kernel_rfl, by kernel_rfl, by kernel_rfl, by kernel_rfl⟩

noncomputable def c65 : CC := (.seq (.ops [⟨none, (some 1), (.box 44 (.tmp 0))⟩, ⟨none, (some 2), (.mv (.const (.string (.mk #[]))))⟩, ⟨none, (some 3), (.mv (.const (.string (.mk #[]))))⟩, ⟨none, (some 4), (.mv (.const (.int .i64 0)))⟩])
 (.seq (.ops [⟨none, (some 9), (.faddr 0 (.tmp 1))⟩, ⟨none, (some 10), (.load1 (.tmp 9))⟩, ⟨none, (some 11), (.faddr 1 (.tmp 1))⟩, ⟨none, (some 12), (.load1 (.tmp 11))⟩, ⟨none, (some 13), (.call 82 [(.tmp 10), (.tmp 12)])⟩, ⟨none, (some 8), (.mv (.tmp 13))⟩, ⟨none, (some 14), (.ext (.tmp 8) 0)⟩, ⟨none, (some 15), (.ext (.tmp 8) 1)⟩, ⟨none, (some 5), (.mv (.tmp 14))⟩, ⟨none, (some 6), (.mv (.tmp 15))⟩])
 (.seq (.seq (.ops [⟨none, (some 16), (.mv (.tmp 6))⟩, ⟨none, (some 17), (.iop .neq (.tmp 16) (.const (.int .i64 0)))⟩, ⟨none, (some 18), (.mv (.tmp 17))⟩, ⟨(some (18, false)), (some 19), (.faddr 3 (.tmp 1))⟩, ⟨(some (18, false)), (some 20), (.load1 (.tmp 19))⟩, ⟨(some (18, false)), (some 21), (.iop .eql (.tmp 20) (.const (.int .u64 0)))⟩, ⟨none, (some 22), (.pick (.tmp 18) (.const (.bool true)) (.tmp 21))⟩])
 (.cond (.tmp 22)
 (.seq (.ops [⟨none, (some 23), (.mv (.tmp 5))⟩, ⟨none, (some 24), (.mv (.tmp 6))⟩, ⟨none, (some 2), (.mv (.tmp 23))⟩, ⟨none, (some 3), (.mv (.const (.string (.mk #[]))))⟩, ⟨none, (some 4), (.mv (.tmp 24))⟩])
 .ret)
 .skip))
 (.seq (.ops [⟨none, (some 26), (.faddr 3 (.tmp 1))⟩, ⟨none, (some 27), (.load1 (.tmp 26))⟩, ⟨none, (some 28), (.faddr 0 (.tmp 1))⟩, ⟨none, (some 29), (.load1 (.tmp 28))⟩, ⟨none, (some 30), (.faddr 1 (.tmp 1))⟩, ⟨none, (some 31), (.load1 (.tmp 30))⟩, ⟨none, (some 32), (.call 83 [(.tmp 27), (.tmp 29), (.tmp 31)])⟩, ⟨none, (some 25), (.mv (.tmp 32))⟩, ⟨none, (some 33), (.ext (.tmp 25) 0)⟩, ⟨none, (some 34), (.ext (.tmp 25) 1)⟩, ⟨none, (some 7), (.mv (.tmp 33))⟩, ⟨none, (some 6), (.mv (.tmp 34))⟩])
 (.seq (.ops [⟨none, (some 35), (.mv (.tmp 5))⟩, ⟨none, (some 36), (.mv (.tmp 7))⟩, ⟨none, (some 37), (.mv (.tmp 6))⟩, ⟨none, (some 2), (.mv (.tmp 35))⟩, ⟨none, (some 3), (.mv (.tmp 36))⟩, ⟨none, (some 4), (.mv (.tmp 37))⟩])
 .ret)))))
abbrev r65 : List RV := [(.tmp 2), (.tmp 3), (.tmp 4)]
theorem F65 : FnOk Go.Proofs.Tryz.prog 65 38 c65 r65 := ⟨_, Go.Proofs.Tryz.func65, by kernel_rfl, by kernel_rfl, by kernel_rfl, by kernel_rfl, by kernel_rfl⟩

noncomputable def c66 : CC := (.seq (.ops [⟨none, (some 3), (.box 44 (.tmp 1))⟩, ⟨none, (some 4), (.mv (.const (.int .i64 0)))⟩])
 (.seq (.ops [⟨none, (some 10), (.loadN 5 (.tmp 3))⟩, ⟨none, (some 11), (.call 65 [(.tmp 10)])⟩, ⟨none, (some 9), (.mv (.tmp 11))⟩, ⟨none, (some 12), (.ext (.tmp 9) 0)⟩, ⟨none, (some 13), (.ext (.tmp 9) 1)⟩, ⟨none, (some 14), (.ext (.tmp 9) 2)⟩, ⟨none, (some 5), (.mv (.tmp 12))⟩, ⟨none, (some 6), (.mv (.tmp 13))⟩, ⟨none, (some 7), (.mv (.tmp 14))⟩])
 (.seq (.seq (.ops [⟨none, (some 15), (.mv (.tmp 7))⟩, ⟨none, (some 16), (.iop .neq (.tmp 15) (.const (.int .i64 0)))⟩])
 (.cond (.tmp 16)
 (.seq (.ops [⟨none, (some 17), (.mv (.tmp 7))⟩, ⟨none, (some 4), (.mv (.tmp 17))⟩])
 .ret)
 .skip))
 (.seq (.seq (.draw 4 (opsOf (sub (bodyOf Go.Proofs.Tryz.f66) [1, 1, 1, 0, 0])) [⟨none, (some 18), (.mv (.tmp 0))⟩, ⟨none, (some 19), (.mv (.tmp 5))⟩, ⟨none, (some 20), (.faddr 0 (.tmp 3))⟩, ⟨none, (some 21), (.load1 (.tmp 20))⟩, ⟨none, (some 22), (.faddr 1 (.tmp 3))⟩, ⟨none, (some 23), (.load1 (.tmp 22))⟩, ⟨none, (some 24), (.call 84 [(.tmp 21), (.tmp 23)])⟩, ⟨none, (some 25), (.loadN 5 (.tmp 3))⟩, ⟨none, (some 26), (.call 85 [(.tmp 24), (.tmp 25)])⟩, ⟨none, (some 27), (.mkF (.method "Put") [(.tmp 18)] [])⟩, ⟨none, (some 28), (.nilc (.tmp 27))⟩, ⟨none, (some 29), (.mv (.tmp 18))⟩, ⟨none, (some 30), (.inv (.tmp 29) "Put" [(.tmp 19), (.tmp 26)])⟩, ⟨none, (some 8), (.mv (.tmp 30))⟩])
 (.seq (.ops [⟨none, (some 31), (.mv (.tmp 8))⟩, ⟨none, (some 32), (.iop .neq (.tmp 31) (.const (.int .i64 0)))⟩, ⟨none, (some 33), (.mv (.tmp 32))⟩, ⟨(some (33, false)), (some 34), (.mv (.tmp 6))⟩, ⟨(some (33, false)), (some 35), (.sop .eql (.tmp 34) (.const (.string (.mk #[]))))⟩, ⟨none, (some 36), (.pick (.tmp 33) (.const (.bool true)) (.tmp 35))⟩])
 (.cond (.tmp 36)
 (.seq (.ops [⟨none, (some 37), (.mv (.tmp 8))⟩, ⟨none, (some 4), (.mv (.tmp 37))⟩])
 .ret)
 .skip)))
 (.seq (.ops [⟨none, (some 38), (.mv (.tmp 0))⟩, ⟨none, (some 39), (.mv (.tmp 6))⟩, ⟨none, (some 40), (.inv (.tmp 38) "Put" [(.tmp 39), (.const (.string (.mk #[])))])⟩, ⟨none, (some 4), (.mv (.tmp 40))⟩])
 .ret)))))
abbrev r66 : List RV := [(.tmp 4)]
theorem F66 : FnOk Go.Proofs.Tryz.prog 66 41 c66 r66 := ⟨_, Go.Proofs.Tryz.func66, by kernel_rfl, by kernel_rfl, by kernel_rfl, by kernel_rfl, by kernel_rfl⟩

noncomputable def c69 : CC := (.seq (.ops [⟨none, (some 2), (.box 123 (.tmp 0))⟩, ⟨none, (some 3), (.box 129 (.tmp 1))⟩, ⟨none, (some 4), (.mv (.const .nilFunc))⟩])
 (.seq (.ops [⟨none, (some 5), (.mkF (.func 88) [] [(.tmp 2), (.tmp 3)])⟩, ⟨none, (some 4), (.mv (.tmp 5))⟩])
 .ret))
abbrev r69 : List RV := [(.tmp 4)]
theorem F69 : FnOk Go.Proofs.Tryz.prog 69 6 c69 r69 := ⟨_, Go.Proofs.Tryz.func69, by kernel_rfl, by kernel_rfl, by kernel_rfl, by kernel_rfl, by kernel_rfl⟩

noncomputable def c70 : CC := (.seq (.ops [⟨none, (some 3), (.box 126 (.tmp 0))⟩, ⟨none, (some 5), (.alloc 44 (.agg #[(.string (.mk #[])), (.int .u64 0), (.int .u32 0), (.int .u64 0), (.string (.mk #[]))]))⟩, ⟨none, (some 6), (.mv (.const (.int .i64 0)))⟩])
 (.seq (.ops [⟨none, (some 10), (.load1 (.tmp 2))⟩, ⟨none, (some 11), (.faddr 1 (.tmp 3))⟩, ⟨none, (some 12), (.load1 (.tmp 11))⟩, ⟨none, (some 13), (.faddr 2 (.tmp 3))⟩, ⟨none, (some 14), (.load1 (.tmp 13))⟩, ⟨none, (some 15), (.call 71 [(.tmp 10), (.tmp 12), (.tmp 14)])⟩, ⟨none, (some 9), (.mv (.tmp 15))⟩, ⟨none, (some 16), (.ext (.tmp 9) 0)⟩, ⟨none, (some 17), (.ext (.tmp 9) 1)⟩, ⟨none, (some 7), (.alloc 44 (.agg #[(.string (.mk #[])), (.int .u64 0), (.int .u32 0), (.int .u64 0), (.string (.mk #[]))]))⟩, ⟨none, none, (.storeN 5 (.tmp 7) (.tmp 16))⟩, ⟨none, (some 8), (.mv (.tmp 17))⟩])
 (.seq (.seq (.ops [⟨none, (some 18), (.mv (.tmp 8))⟩, ⟨none, (some 19), (.iop .eql (.tmp 18) (.const (.int .i64 21)))⟩, ⟨none, (some 20), (.mv (.tmp 19))⟩, ⟨(some (20, false)), (some 21), (.mv (.tmp 8))⟩, ⟨(some (20, false)), (some 22), (.iop .eql (.tmp 21) (.const (.int .i64 0)))⟩, ⟨(some (20, false)), (some 23), (.mv (.tmp 22))⟩, ⟨(some (23, true)), (some 24), (.faddr 3 (.tmp 7))⟩, ⟨(some (23, true)), (some 25), (.load1 (.tmp 24))⟩, ⟨(some (23, true)), (some 26), (.faddr 3 (.tmp 3))⟩, ⟨(some (23, true)), (some 27), (.load1 (.tmp 26))⟩, ⟨(some (23, true)), (some 28), (.iop .neq (.tmp 25) (.tmp 27))⟩, ⟨(some (20, false)), (some 29), (.pick (.tmp 23) (.tmp 28) (.const (.bool false)))⟩, ⟨none, (some 30), (.pick (.tmp 20) (.const (.bool true)) (.tmp 29))⟩])
 (.cond (.tmp 30)
 (.seq (.ops [⟨none, (some 31), (.build [(.string (.mk #[])), (.int .u64 0), (.int .u32 0), (.int .u64 0), (.string (.mk #[]))] [])⟩, ⟨none, none, (.storeN 5 (.tmp 5) (.tmp 31))⟩, ⟨none, (some 6), (.mv (.const (.int .i64 31)))⟩])
 .ret)
 .skip))
 (.seq (.ops [⟨none, (some 32), (.loadN 5 (.tmp 7))⟩, ⟨none, (some 33), (.mv (.tmp 8))⟩, ⟨none, none, (.storeN 5 (.tmp 5) (.tmp 32))⟩, ⟨none, (some 6), (.mv (.tmp 33))⟩])
 .ret))))
abbrev r70 : List RV := [(.cN 5 5), (.tmp 6)]
theorem F70 : FnOk Go.Proofs.Tryz.prog 70 34 c70 r70 := ⟨_, Go.Proofs.Tryz.func70, by kernel_rfl, by kernel_rfl, by kernel_rfl, by kernel_rfl, by kernel_rfl⟩

noncomputable def c82 : CC := (.seq (.ops [⟨none, (some 4), (.mv (.const (.string (.mk #[]))))⟩, ⟨none, (some 5), (.mv (.const (.int .i64 0)))⟩])
 (.seq (.ops [⟨none, (some 6), (.mv (.tmp 0))⟩, ⟨none, (some 7), (.call 109 [(.tmp 6)])⟩, ⟨none, (some 8), (.mv (.tmp 1))⟩, ⟨none, (some 9), (.call 68 [(.tmp 8)])⟩, ⟨none, (some 10), (.buildS 119 2 [(.bool false), (.int .u64 0), (.string (.mk #[])), (.bool false), (.int .u64 0), (.string (.mk #[]))] [(0, (3, (.tmp 7))), (3, (3, (.tmp 9)))])⟩, ⟨none, (some 11), (.call 86 [(.const (.string (.mk #[109]))), (.tmp 10)])⟩, ⟨none, (some 12), (.ext (.tmp 11) 0)⟩, ⟨none, (some 13), (.ext (.tmp 11) 1)⟩, ⟨none, (some 4), (.mv (.tmp 12))⟩, ⟨none, (some 5), (.mv (.tmp 13))⟩])
 .ret))
abbrev r82 : List RV := [(.tmp 4), (.tmp 5)]
theorem F82 : FnOk Go.Proofs.Tryz.prog 82 14 c82 r82 := ⟨_, Go.Proofs.Tryz.func82, by kernel_rfl, by kernel_rfl, by kernel_rfl, by kernel_rfl, by kernel_rfl⟩

noncomputable def c84 : CC := (.seq (.ops [⟨none, (some 2), (.box 9 (.tmp 0))⟩, ⟨none, (some 3), (.box 23 (.tmp 1))⟩, ⟨none, (some 4), (.alloc 148 (.agg #[.nilFunc, .nilFunc]))⟩])
 (.seq (.ops [⟨none, (some 5), (.mkF (.func 115) [] [(.tmp 2), (.tmp 3)])⟩, ⟨none, (some 6), (.call 110 [(.func 111), (.tmp 5)])⟩, ⟨none, none, (.storeN 2 (.tmp 4) (.tmp 6))⟩])
 .ret))
abbrev r84 : List RV := [(.cN 4 2)]
theorem F84 : FnOk Go.Proofs.Tryz.prog 84 7 c84 r84 := ⟨_, Go.Proofs.Tryz.func84, by kernel_rfl, by kernel_rfl, by kernel_rfl, by kernel_rfl, by kernel_rfl⟩

noncomputable def c90 : CC := (.seq (.ops [⟨none, (some 2), (.box 148 (.tmp 0))⟩, ⟨none, (some 4), (.alloc 44 (.agg #[(.string (.mk #[])), (.int .u64 0), (.int .u32 0), (.int .u64 0), (.string (.mk #[]))]))⟩, ⟨none, (some 5), (.mv (.const (.int .i64 0)))⟩])
 (.seq (.ops [⟨none, (some 6), (.alloc 44 (.agg #[(.string (.mk #[])), (.int .u64 0), (.int .u32 0), (.int .u64 0), (.string (.mk #[]))]))⟩])
 (.seq (.seq (.ops [⟨none, (some 10), (.faddr 1 (.tmp 2))⟩, ⟨none, (some 11), (.load1 (.tmp 10))⟩, ⟨none, (some 12), (.pnil 3 false (.tmp 11))⟩])
 (.cond (.tmp 12)
 (.seq (.ops [⟨none, (some 13), (.loadN 5 (.tmp 6))⟩, ⟨none, none, (.storeN 5 (.tmp 4) (.tmp 13))⟩, ⟨none, (some 5), (.mv (.const (.int .i64 2)))⟩])
 .ret)
 .skip))
 (.seq (.ops [⟨none, (some 14), (.mv (.tmp 1))⟩, ⟨none, (some 15), (.call 124 [(.tmp 14)])⟩, ⟨none, (some 7), (.mv (.tmp 15))⟩])
 (.seq (.ops [⟨none, (some 16), (.faddr 1 (.tmp 2))⟩, ⟨none, (some 17), (.load1 (.tmp 16))⟩, ⟨none, (some 18), (.mv (.tmp 7))⟩, ⟨none, (some 19), (.callv (.tmp 17) [(.tmp 18)])⟩, ⟨none, (some 8), (.alloc 44 (.agg #[(.string (.mk #[])), (.int .u64 0), (.int .u32 0), (.int .u64 0), (.string (.mk #[]))]))⟩, ⟨none, none, (.storeN 5 (.tmp 8) (.tmp 19))⟩])
 (.seq (.seq (.ops [⟨none, (some 20), (.mv (.tmp 7))⟩, ⟨none, (some 21), (.call 125 [(.tmp 20)])⟩, ⟨none, (some 9), (.mv (.tmp 21))⟩])
 (.seq (.ops [⟨none, (some 22), (.mv (.tmp 9))⟩, ⟨none, (some 23), (.iop .neq (.tmp 22) (.const (.int .i64 0)))⟩])
 (.cond (.tmp 23)
 (.seq (.ops [⟨none, (some 24), (.loadN 5 (.tmp 6))⟩, ⟨none, (some 25), (.mv (.tmp 9))⟩, ⟨none, none, (.storeN 5 (.tmp 4) (.tmp 24))⟩, ⟨none, (some 5), (.mv (.tmp 25))⟩])
 .ret)
 .skip)))
 (.seq (.ops [⟨none, (some 26), (.loadN 5 (.tmp 8))⟩, ⟨none, none, (.storeN 5 (.tmp 4) (.tmp 26))⟩, ⟨none, (some 5), (.mv (.const (.int .i64 0)))⟩])
 .ret)))))))
abbrev r90 : List RV := [(.cN 4 5), (.tmp 5)]
theorem F90 : FnOk Go.Proofs.Tryz.prog 90 27 c90 r90 := ⟨_, Go.Proofs.Tryz.func90, by kernel_rfl, by kernel_rfl, by kernel_rfl, by kernel_rfl, by kernel_rfl⟩

noncomputable def c22 : CC := (.seq (.ops [⟨none, (some 0), (.mv (.const (.bool false)))⟩])
 (.seq (.ops [⟨none, (some 1), (.call 43 [])⟩, ⟨none, (some 0), (.mv (.tmp 1))⟩])
 .ret))
abbrev r22 : List RV := [(.tmp 0)]
theorem F22 : FnOk Go.Proofs.Tryz.prog 22 2 c22 r22 := ⟨_, Go.Proofs.Tryz.func22, by kernel_rfl, by kernel_rfl, by kernel_rfl, by kernel_rfl, by kernel_rfl⟩

noncomputable def c13 : CC := (.seq (.ops [⟨none, (some 1), (.box 27 (.tmp 0))⟩, ⟨none, (some 2), (.mv (.const (.string (.mk #[]))))⟩])
 (.seq (.seq (.ops [⟨none, (some 8), (.faddr 0 (.tmp 1))⟩, ⟨none, (some 9), (.load1 (.tmp 8))⟩, ⟨none, (some 10), (.iop .neq (.tmp 9) (.const (.int .i64 0)))⟩])
 (.cond (.tmp 10)
 (.seq (.ops [⟨none, (some 11), (.faddr 0 (.tmp 1))⟩, ⟨none, (some 12), (.load1 (.tmp 11))⟩, ⟨none, (some 13), (.call 30 [(.tmp 12)])⟩, ⟨none, (some 14), (.buildS 9 2 [(.string (.mk #[])), (.string (.mk #[]))] [(0, (1, (.const (.string (.mk #[101, 114, 114, 111, 114]))))), (1, (1, (.tmp 13)))])⟩, ⟨none, (some 15), (.call 23 [(.tmp 14)])⟩, ⟨none, (some 2), (.mv (.tmp 15))⟩])
 .ret)
 .skip))
 (.seq (.ops [⟨none, (some 16), (.faddr 1 (.tmp 1))⟩, ⟨none, (some 17), (.load1 (.tmp 16))⟩, ⟨none, (some 18), (.call 26 [(.tmp 17)])⟩, ⟨none, (some 19), (.buildS 9 2 [(.string (.mk #[])), (.string (.mk #[]))] [(0, (1, (.const (.string (.mk #[111, 107]))))), (1, (1, (.tmp 18)))])⟩, ⟨none, (some 20), (.call 23 [(.tmp 19)])⟩, ⟨none, (some 3), (.mv (.tmp 20))⟩])
 (.seq (.seq (.ops [⟨none, (some 21), (.faddr 2 (.tmp 1))⟩, ⟨none, (some 22), (.load1 (.tmp 21))⟩, ⟨none, (some 23), (.build [(.string (.mk #[])), (.slice none 0 0)] [(0, (1, (.const (.string (.mk #[105, 100, 115]))))), (1, (1, (.tmp 22)))])⟩, ⟨none, (some 24), (.faddr 3 (.tmp 1))⟩, ⟨none, (some 25), (.load1 (.tmp 24))⟩, ⟨none, (some 26), (.build [(.string (.mk #[])), (.slice none 0 0)] [(0, (1, (.const (.string (.mk #[108, 111, 115, 116]))))), (1, (1, (.tmp 25)))])⟩, ⟨none, (some 27), (.faddr 4 (.tmp 1))⟩, ⟨none, (some 28), (.load1 (.tmp 27))⟩, ⟨none, (some 29), (.build [(.string (.mk #[])), (.slice none 0 0)] [(0, (1, (.const (.string (.mk #[100, 101, 97, 100]))))), (1, (1, (.tmp 28)))])⟩, ⟨none, (some 30), (.buildS 67 3 [(.string (.mk #[])), (.slice none 0 0), (.string (.mk #[])), (.slice none 0 0), (.string (.mk #[])), (.slice none 0 0)] [(0, (2, (.tmp 23))), (2, (2, (.tmp 26))), (4, (2, (.tmp 29)))])⟩, ⟨none, (some 31), (.lenL (.tmp 30))⟩, ⟨none, (some 32), (.mv (.const (.int .i64 0)))⟩])
 (.block 0
 (.loop
 (.seq (.ops [⟨none, (some 33), (.iop .lss (.tmp 32) (.tmp 31))⟩])
 (.seq (.cond (.tmp 33)
 .skip
 (.exit 0))
 (.seq (.block 1
 (.seq (.ops [⟨none, (some 34), (.iaddr 2 (.tmp 30) (.tmp 32))⟩, ⟨none, (some 35), (.loadN 2 (.tmp 34))⟩, ⟨none, (some 5), (.alloc 67 (.agg #[(.string (.mk #[])), (.slice none 0 0)]))⟩, ⟨none, none, (.storeN 2 (.tmp 5) (.tmp 35))⟩])
 (.seq (.ops [⟨none, (some 36), (.faddr 1 (.tmp 5))⟩, ⟨none, (some 37), (.load1 (.tmp 36))⟩, ⟨none, (some 38), (.lenL (.tmp 37))⟩, ⟨none, (some 39), (.iop .gtr (.tmp 38) (.const (.int .i64 0)))⟩])
 (.cond (.tmp 39)
 (.draw 8 (opsOf (sub (bodyOf Go.Proofs.Tryz.f13) [1, 1, 1, 0, 1, 0, 0, 1, 1, 0, 0, 1, 1, 0])) [⟨none, (some 40), (.mv (.tmp 3))⟩, ⟨none, (some 41), (.faddr 0 (.tmp 5))⟩, ⟨none, (some 42), (.load1 (.tmp 41))⟩, ⟨none, (some 43), (.faddr 1 (.tmp 5))⟩, ⟨none, (some 44), (.load1 (.tmp 43))⟩, ⟨none, (some 45), (.call 31 [(.tmp 44)])⟩, ⟨none, (some 46), (.buildS 9 3 [(.string (.mk #[])), (.string (.mk #[])), (.string (.mk #[]))] [(0, (1, (.tmp 40))), (1, (1, (.tmp 42))), (2, (1, (.tmp 45)))])⟩, ⟨none, (some 47), (.call 23 [(.tmp 46)])⟩, ⟨none, (some 3), (.mv (.tmp 47))⟩])
 .skip))))
 (.ops [⟨none, (some 48), (.iop .add (.tmp 32) (.const (.int .i64 1)))⟩, ⟨none, (some 32), (.mv (.tmp 48))⟩])))))))
 (.seq (.seq (.ops [⟨none, (some 49), (.faddr 5 (.tmp 1))⟩, ⟨none, (some 50), (.load1 (.tmp 49))⟩, ⟨none, (some 51), (.lenL (.tmp 50))⟩, ⟨none, (some 52), (.mv (.const (.int .i64 0)))⟩])
 (.block 2
 (.loop
 (.seq (.ops [⟨none, (some 53), (.iop .lss (.tmp 52) (.tmp 51))⟩])
 (.seq (.cond (.tmp 53)
 .skip
 (.exit 2))
 (.seq (.block 3
 (.seq (.ops [⟨none, (some 54), (.iaddr 5 (.tmp 50) (.tmp 52))⟩, ⟨none, (some 55), (.loadN 5 (.tmp 54))⟩, ⟨none, (some 7), (.alloc 44 (.agg #[(.string (.mk #[])), (.int .u64 0), (.int .u32 0), (.int .u64 0), (.string (.mk #[]))]))⟩, ⟨none, none, (.storeN 5 (.tmp 7) (.tmp 55))⟩])
 (.ops [⟨none, (some 56), (.mv (.tmp 3))⟩, ⟨none, (some 57), (.loadN 5 (.tmp 7))⟩, ⟨none, (some 58), (.call 11 [(.tmp 57)])⟩, ⟨none, (some 59), (.sop .add (.const (.string (.mk #[10, 32, 32]))) (.tmp 58))⟩, ⟨none, (some 60), (.sop .add (.tmp 56) (.tmp 59))⟩, ⟨none, (some 3), (.mv (.tmp 60))⟩])))
 (.ops [⟨none, (some 61), (.iop .add (.tmp 52) (.const (.int .i64 1)))⟩, ⟨none, (some 52), (.mv (.tmp 61))⟩])))))))
 (.seq (.ops [⟨none, (some 62), (.mv (.tmp 3))⟩, ⟨none, (some 2), (.mv (.tmp 62))⟩])
 .ret))))))
abbrev r13 : List RV := [(.tmp 2)]
theorem F13 : FnOk Go.Proofs.Tryz.prog 13 63 c13 r13 := ⟨_, Go.Proofs.Tryz.func13, by kernel_rfl, by kernel_rfl, by kernel_rfl, by kernel_rfl, by kernel_rfl⟩

noncomputable def c85 : CC := (.seq (.ops [⟨none, (some 2), (.box 148 (.tmp 0))⟩, ⟨none, (some 3), (.box 44 (.tmp 1))⟩, ⟨none, (some 4), (.mv (.const (.string (.mk #[]))))⟩])
 (.seq (.seq (.ops [⟨none, (some 5), (.faddr 0 (.tmp 2))⟩, ⟨none, (some 6), (.load1 (.tmp 5))⟩, ⟨none, (some 7), (.pnil 3 false (.tmp 6))⟩])
 (.cond (.tmp 7)
 (.seq (.ops [⟨none, (some 4), (.mv (.const (.string (.mk #[]))))⟩])
 .ret)
 .skip))
 (.seq (.ops [⟨none, (some 8), (.faddr 0 (.tmp 2))⟩, ⟨none, (some 9), (.load1 (.tmp 8))⟩, ⟨none, (some 10), (.loadN 5 (.tmp 3))⟩, ⟨none, (some 11), (.callv (.tmp 9) [(.tmp 10)])⟩, ⟨none, (some 4), (.mv (.tmp 11))⟩])
 .ret)))
abbrev r85 : List RV := [(.tmp 4)]
theorem F85 : FnOk Go.Proofs.Tryz.prog 85 12 c85 r85 := ⟨_, Go.Proofs.Tryz.func85, by kernel_rfl, by kernel_rfl, by kernel_rfl, by kernel_rfl, by kernel_rfl⟩

noncomputable def c88 : CC := (.seq (.ops [⟨none, (some 3), (.box 154 (.tmp 0))⟩])
 (.seq (.ops [⟨none, (some 8), (.load1 (.tmp 1))⟩])
 (.block 0
 (.range (.tmp 8) #[9, 10] (sub (bodyOf Go.Proofs.Tryz.f88) [1, 1, 0, 0]) (sub (bodyOf Go.Proofs.Tryz.f88) [1, 1, 0, 1])
 (.seq (.ops [⟨none, (some 4), (.alloc 107 (.agg #[(.string (.mk #[])), (.string (.mk #[]))]))⟩, ⟨none, none, (.storeN 2 (.tmp 4) (.tmp 9))⟩])
 (.ops [⟨none, (some 5), (.mv (.tmp 10))⟩]))
 (.block 1
 (.seq (.ops [⟨none, (some 6), (.alloc 126 (.agg #[(.string (.mk #[])), (.string (.mk #[])), (.int .u64 0), (.int .u64 0), (.string (.mk #[])), (.int .i64 0), (.string (.mk #[])), (.string (.mk #[])), (.string (.mk #[]))]))⟩])
 (.seq (.ops [⟨none, (some 7), (.alloc 44 (.agg #[(.string (.mk #[])), (.int .u64 0), (.int .u32 0), (.int .u64 0), (.string (.mk #[]))]))⟩])
 (.seq (.seq (.ops [⟨none, (some 11), (.mv (.tmp 5))⟩, ⟨none, (some 12), (.iop .eql (.tmp 11) (.const (.int .i64 0)))⟩])
 (.cond (.tmp 12)
 (.ops [⟨none, (some 14), (.faddr 0 (.tmp 4))⟩, ⟨none, (some 15), (.load1 (.tmp 14))⟩, ⟨none, (some 16), (.call 89 [(.tmp 15)])⟩, ⟨none, (some 13), (.mv (.tmp 16))⟩, ⟨none, (some 17), (.ext (.tmp 13) 0)⟩, ⟨none, (some 18), (.ext (.tmp 13) 1)⟩, ⟨none, none, (.storeN 9 (.tmp 6) (.tmp 17))⟩, ⟨none, (some 5), (.mv (.tmp 18))⟩])
 .skip))
 (.seq (.seq (.ops [⟨none, (some 19), (.mv (.tmp 5))⟩, ⟨none, (some 20), (.iop .eql (.tmp 19) (.const (.int .i64 0)))⟩])
 (.cond (.tmp 20)
 (.ops [⟨none, (some 22), (.load1 (.tmp 2))⟩, ⟨none, (some 23), (.loadN 9 (.tmp 6))⟩, ⟨none, (some 24), (.faddr 1 (.tmp 4))⟩, ⟨none, (some 25), (.load1 (.tmp 24))⟩, ⟨none, (some 26), (.callv (.tmp 22) [(.tmp 23), (.tmp 25)])⟩, ⟨none, (some 21), (.mv (.tmp 26))⟩, ⟨none, (some 27), (.ext (.tmp 21) 0)⟩, ⟨none, (some 28), (.ext (.tmp 21) 1)⟩, ⟨none, none, (.storeN 5 (.tmp 7) (.tmp 27))⟩, ⟨none, (some 5), (.mv (.tmp 28))⟩])
 .skip))
 (.seq (.ops [⟨none, (some 29), (.load1 (.tmp 3))⟩, ⟨none, (some 30), (.loadN 5 (.tmp 7))⟩, ⟨none, (some 31), (.mv (.tmp 5))⟩, ⟨none, (some 32), (.callv (.tmp 29) [(.tmp 30), (.tmp 31)])⟩, ⟨none, (some 33), (.not (.tmp 32))⟩, ⟨none, (some 34), (.mv (.tmp 33))⟩, ⟨(some (34, false)), (some 35), (.mv (.tmp 5))⟩, ⟨(some (34, false)), (some 36), (.iop .neq (.tmp 35) (.const (.int .i64 0)))⟩, ⟨none, (some 37), (.pick (.tmp 34) (.const (.bool true)) (.tmp 36))⟩])
 (.cond (.tmp 37)
 .ret
 .skip)))))))))))
abbrev r88 : List RV := []
theorem F88 : FnOk Go.Proofs.Tryz.prog 88 38 c88 r88 := ⟨_, Go.Proofs.Tryz.func88, by kernel_rfl, by kernel_rfl, by kernel_rfl, by kernel_rfl, by kernel_rfl⟩

noncomputable def c111 : CC := (.seq (.ops [⟨none, (some 1), (.box 44 (.tmp 0))⟩, ⟨none, (some 2), (.mv (.const (.string (.mk #[]))))⟩])
 (.seq (.draw 1 (opsOf (sub (bodyOf Go.Proofs.Tryz.f111) [1, 0])) [⟨none, (some 3), (.faddr 2 (.tmp 1))⟩, ⟨none, (some 4), (.load1 (.tmp 3))⟩, ⟨none, (some 5), (.call 112 [(.tmp 4)])⟩, ⟨none, (some 6), (.faddr 3 (.tmp 1))⟩, ⟨none, (some 7), (.load1 (.tmp 6))⟩, ⟨none, (some 8), (.call 113 [(.tmp 7)])⟩, ⟨none, (some 9), (.sop .add (.tmp 5) (.tmp 8))⟩, ⟨none, (some 10), (.faddr 4 (.tmp 1))⟩, ⟨none, (some 11), (.load1 (.tmp 10))⟩, ⟨none, (some 12), (.call 114 [(.tmp 11)])⟩, ⟨none, (some 13), (.sop .add (.tmp 9) (.tmp 12))⟩, ⟨none, (some 2), (.mv (.tmp 13))⟩])
 .ret))
abbrev r111 : List RV := [(.tmp 2)]
theorem F111 : FnOk Go.Proofs.Tryz.prog 111 14 c111 r111 := ⟨_, Go.Proofs.Tryz.func111, by kernel_rfl, by kernel_rfl, by kernel_rfl, by kernel_rfl, by kernel_rfl⟩

noncomputable def c115 : CC := (.seq (.ops [⟨none, (some 4), (.alloc 44 (.agg #[(.string (.mk #[])), (.int .u64 0), (.int .u32 0), (.int .u64 0), (.string (.mk #[]))]))⟩])
 (.seq (.draw 1 (opsOf (sub (bodyOf Go.Proofs.Tryz.f115) [1, 0])) [⟨none, (some 5), (.load1 (.tmp 1))⟩, ⟨none, (some 6), (.load1 (.tmp 2))⟩, ⟨none, (some 7), (.mv (.tmp 0))⟩, ⟨none, (some 8), (.call 116 [(.tmp 7)])⟩, ⟨none, (some 9), (.mv (.tmp 0))⟩, ⟨none, (some 10), (.call 117 [(.tmp 9)])⟩, ⟨none, (some 11), (.mv (.tmp 0))⟩, ⟨none, (some 12), (.call 118 [(.tmp 11), (.const (.int .i64 32768))])⟩, ⟨none, (some 13), (.build [(.string (.mk #[])), (.int .u64 0), (.int .u32 0), (.int .u64 0), (.string (.mk #[]))] [(0, (1, (.tmp 5))), (1, (1, (.tmp 6))), (2, (1, (.tmp 8))), (3, (1, (.tmp 10))), (4, (1, (.tmp 12)))])⟩, ⟨none, none, (.storeN 5 (.tmp 4) (.tmp 13))⟩])
 .ret))
abbrev r115 : List RV := [(.cN 4 5)]
theorem F115 : FnOk Go.Proofs.Tryz.prog 115 14 c115 r115 := ⟨_, Go.Proofs.Tryz.func115, by kernel_rfl, by kernel_rfl, by kernel_rfl, by kernel_rfl, by kernel_rfl⟩

noncomputable def c110 : CC := (.seq (.ops [⟨none, (some 2), (.box 45 (.tmp 0))⟩, ⟨none, (some 3), (.box 146 (.tmp 1))⟩, ⟨none, (some 4), (.alloc 148 (.agg #[.nilFunc, .nilFunc]))⟩])
 (.seq (.ops [⟨none, (some 5), (.mkF (.func 147) [] [(.tmp 2)])⟩, ⟨none, (some 6), (.mkF (.func 148) [] [(.tmp 3)])⟩, ⟨none, (some 7), (.build [.nilFunc, .nilFunc] [(0, (1, (.tmp 5))), (1, (1, (.tmp 6)))])⟩, ⟨none, none, (.storeN 2 (.tmp 4) (.tmp 7))⟩])
 .ret))
abbrev r110 : List RV := [(.cN 4 2)]
theorem F110 : FnOk Go.Proofs.Tryz.prog 110 8 c110 r110 := ⟨_, Go.Proofs.Tryz.func110, by kernel_rfl, by kernel_rfl, by kernel_rfl, by kernel_rfl, by kernel_rfl⟩

noncomputable def c23 : CC := (.seq (.ops [⟨none, (some 2), (.mv (.const (.string (.mk #[]))))⟩])
 (.seq (.ops [⟨none, (some 3), (.mv (.tmp 0))⟩, ⟨none, (some 4), (.call 44 [(.tmp 3), (.const (.string (.mk #[32])))])⟩, ⟨none, (some 2), (.mv (.tmp 4))⟩])
 .ret))
abbrev r23 : List RV := [(.tmp 2)]
theorem F23 : FnOk Go.Proofs.Tryz.prog 23 5 c23 r23 := ⟨_, Go.Proofs.Tryz.func23, by kernel_rfl, by kernel_rfl, by kernel_rfl, by kernel_rfl, by kernel_rfl⟩

noncomputable def c26 : CC := (.seq (.ops [⟨none, (some 2), (.mv (.const (.string (.mk #[]))))⟩])
 (.seq (.ops [⟨none, (some 3), (.mv (.tmp 0))⟩, ⟨none, (some 4), (.call 48 [(.tmp 3), (.const (.int .i64 10))])⟩, ⟨none, (some 2), (.mv (.tmp 4))⟩])
 .ret))
abbrev r26 : List RV := [(.tmp 2)]
theorem F26 : FnOk Go.Proofs.Tryz.prog 26 5 c26 r26 := ⟨_, Go.Proofs.Tryz.func26, by kernel_rfl, by kernel_rfl, by kernel_rfl, by kernel_rfl, by kernel_rfl⟩

noncomputable def c31 : CC := (.seq (.ops [⟨none, (some 2), (.mv (.const (.string (.mk #[]))))⟩])
 (.seq (.ops [⟨none, (some 3), (.mv (.const (.slice none 0 0)))⟩])
 (.seq (.seq (.ops [⟨none, (some 6), (.mv (.tmp 0))⟩, ⟨none, (some 7), (.lenL (.tmp 6))⟩, ⟨none, (some 8), (.mv (.const (.int .i64 0)))⟩])
 (.block 0
 (.loop
 (.seq (.ops [⟨none, (some 9), (.iop .lss (.tmp 8) (.tmp 7))⟩])
 (.seq (.cond (.tmp 9)
 .skip
 (.exit 0))
 (.seq (.block 1
 (.seq (.ops [⟨none, (some 10), (.iaddr 1 (.tmp 6) (.tmp 8))⟩, ⟨none, (some 11), (.load1 (.tmp 10))⟩, ⟨none, (some 5), (.mv (.tmp 11))⟩])
 (.ops [⟨none, (some 12), (.mv (.tmp 3))⟩, ⟨none, (some 13), (.mv (.tmp 5))⟩, ⟨none, (some 14), (.call 26 [(.tmp 13)])⟩, ⟨none, (some 15), (.buildS 9 1 [(.string (.mk #[]))] [(0, (1, (.tmp 14)))])⟩, ⟨none, (some 16), (.raw 22 (.mk (some 16) (.call (.mk (.builtin .append) #[(.tmp 12), (.tmp 15)] #[57, 57])) 57 "report.go:25" #[(.mk 0 .data), (.mk 3 .data), (.mk 2 .chain)] none))⟩, ⟨none, (some 3), (.mv (.tmp 16))⟩])))
 (.ops [⟨none, (some 17), (.iop .add (.tmp 8) (.const (.int .i64 1)))⟩, ⟨none, (some 8), (.mv (.tmp 17))⟩])))))))
 (.seq (.ops [⟨none, (some 18), (.mv (.tmp 3))⟩, ⟨none, (some 19), (.call 44 [(.tmp 18), (.const (.string (.mk #[32])))])⟩, ⟨none, (some 20), (.sop .add (.const (.string (.mk #[91]))) (.tmp 19))⟩, ⟨none, (some 21), (.sop .add (.tmp 20) (.const (.string (.mk #[93]))))⟩, ⟨none, (some 2), (.mv (.tmp 21))⟩])
 .ret))))
abbrev r31 : List RV := [(.tmp 2)]
theorem F31 : FnOk Go.Proofs.Tryz.prog 31 22 c31 r31 := ⟨_, Go.Proofs.Tryz.func31, by kernel_rfl, by kernel_rfl, by kernel_rfl, by kernel_rfl, by kernel_rfl⟩

noncomputable def c147 : CC := (.seq (.ops [⟨none, (some 2), (.box 44 (.tmp 0))⟩, ⟨none, (some 3), (.mv (.const (.string (.mk #[]))))⟩])
 (.seq (.draw 1 (opsOf (sub (bodyOf Go.Proofs.Tryz.f147) [1, 0])) [⟨none, (some 4), (.call 120 [(.const (.int .u8 1))])⟩, ⟨none, (some 5), (.load1 (.tmp 1))⟩, ⟨none, (some 6), (.loadN 5 (.tmp 2))⟩, ⟨none, (some 7), (.callv (.tmp 5) [(.tmp 6)])⟩, ⟨none, (some 8), (.sop .add (.tmp 4) (.tmp 7))⟩, ⟨none, (some 3), (.mv (.tmp 8))⟩])
 .ret))
abbrev r147 : List RV := [(.tmp 3)]
theorem F147 : FnOk Go.Proofs.Tryz.prog 147 9 c147 r147 := ⟨_, Go.Proofs.Tryz.func147, by kernel_rfl, by kernel_rfl, by kernel_rfl, by kernel_rfl, by kernel_rfl⟩

noncomputable def c148 : CC := (.seq (.ops [⟨none, (some 3), (.alloc 44 (.agg #[(.string (.mk #[])), (.int .u64 0), (.int .u32 0), (.int .u64 0), (.string (.mk #[]))]))⟩])
 (.seq (.seq (.ops [⟨none, (some 4), (.mv (.tmp 0))⟩, ⟨none, (some 5), (.call 149 [(.tmp 4)])⟩, ⟨none, (some 6), (.iop .neq (.tmp 5) (.const (.int .u8 1)))⟩])
 (.cond (.tmp 6)
 (.ops [⟨none, (some 7), (.mv (.tmp 0))⟩, ⟨none, (some 8), (.call 150 [(.tmp 7), (.const (.int .i64 4))])⟩])
 .skip))
 (.seq (.ops [⟨none, (some 9), (.load1 (.tmp 1))⟩, ⟨none, (some 10), (.mv (.tmp 0))⟩, ⟨none, (some 11), (.callv (.tmp 9) [(.tmp 10)])⟩, ⟨none, none, (.storeN 5 (.tmp 3) (.tmp 11))⟩])
 .ret)))
abbrev r148 : List RV := [(.cN 3 5)]
theorem F148 : FnOk Go.Proofs.Tryz.prog 148 12 c148 r148 := ⟨_, Go.Proofs.Tryz.func148, by kernel_rfl, by kernel_rfl, by kernel_rfl, by kernel_rfl, by kernel_rfl⟩

noncomputable def c48 : CC := (.seq (.ops [⟨none, (some 4), (.mv (.const (.string (.mk #[]))))⟩])
 (.seq (.ops [⟨none, (some 5), (.mv (.tmp 0))⟩, ⟨none, (some 6), (.mv (.tmp 1))⟩, ⟨none, (some 7), (.call 58 [(.tmp 5), (.tmp 6)])⟩, ⟨none, (some 4), (.mv (.tmp 7))⟩])
 .ret))
abbrev r48 : List RV := [(.tmp 4)]
theorem F48 : FnOk Go.Proofs.Tryz.prog 48 8 c48 r48 := ⟨_, Go.Proofs.Tryz.func48, by kernel_rfl, by kernel_rfl, by kernel_rfl, by kernel_rfl, by kernel_rfl⟩

noncomputable def c58 : CC := (.seq (.ops [⟨none, (some 4), (.mv (.const (.string (.mk #[]))))⟩])
 (.seq (.seq (.ops [⟨none, (some 9), (.mv (.tmp 1))⟩, ⟨none, (some 10), (.iop .eql (.tmp 9) (.const (.int .i64 10)))⟩])
 (.cond (.tmp 10)
 (.seq (.seq (.ops [⟨none, (some 11), (.mv (.tmp 0))⟩, ⟨none, (some 12), (.iop .lss (.tmp 11) (.const (.int .u64 100)))⟩])
 (.cond (.tmp 12)
 (.seq (.ops [⟨none, (some 13), (.mv (.tmp 0))⟩, ⟨none, (some 14), (.conv .i64 (.tmp 13))⟩, ⟨none, (some 15), (.call 74 [(.tmp 14)])⟩, ⟨none, (some 4), (.mv (.tmp 15))⟩])
 .ret)
 .skip))
 (.seq (.ops [⟨none, (some 5), (.alloc 132 (.agg #[(.int .u8 0), (.int .u8 0), (.int .u8 0), (.int .u8 0), (.int .u8 0), (.int .u8 0), (.int .u8 0), (.int .u8 0), (.int .u8 0), (.int .u8 0), (.int .u8 0), (.int .u8 0), (.int .u8 0), (.int .u8 0), (.int .u8 0), (.int .u8 0), (.int .u8 0), (.int .u8 0), (.int .u8 0), (.int .u8 0), (.int .u8 0), (.int .u8 0), (.int .u8 0), (.int .u8 0)]))⟩])
 (.seq (.ops [⟨none, (some 16), (.mv (.tmp 0))⟩, ⟨none, (some 17), (.call 75 [(.tmp 16)])⟩, ⟨none, (some 6), (.mv (.tmp 17))⟩])
 (.seq (.ops [⟨none, (some 18), (.mv (.tmp 6))⟩, ⟨none, (some 19), (.slA 24 1 (.tmp 5) none (some (.tmp 18)))⟩, ⟨none, (some 20), (.mv (.tmp 0))⟩, ⟨none, (some 21), (.call 76 [(.tmp 19), (.tmp 20)])⟩])
 (.seq (.ops [⟨none, (some 22), (.mv (.tmp 6))⟩, ⟨none, (some 23), (.slA 24 1 (.tmp 5) none (some (.tmp 22)))⟩, ⟨none, (some 24), (.raw 32 (.mk (some 24) (.convert 79 9 (.tmp 23)) 9 "itoa.go:20" #[(.mk 1 .data)] none))⟩, ⟨none, (some 4), (.mv (.tmp 24))⟩])
 .ret)))))
 .skip))
 (.seq (.ops [⟨none, (some 26), (.mv (.tmp 0))⟩, ⟨none, (some 27), (.mv (.tmp 1))⟩, ⟨none, (some 28), (.call 77 [(.const (.slice none 0 0)), (.tmp 26), (.tmp 27), (.const (.bool false)), (.const (.bool false))])⟩, ⟨none, (some 25), (.mv (.tmp 28))⟩, ⟨none, (some 29), (.ext (.tmp 25) 0)⟩, ⟨none, (some 30), (.ext (.tmp 25) 1)⟩, ⟨none, (some 7), (.mv (.tmp 29))⟩, ⟨none, (some 8), (.mv (.tmp 30))⟩])
 (.seq (.ops [⟨none, (some 31), (.mv (.tmp 8))⟩, ⟨none, (some 4), (.mv (.tmp 31))⟩])
 .ret))))
abbrev r58 : List RV := [(.tmp 4)]
theorem F58 : FnOk Go.Proofs.Tryz.prog 58 32 c58 r58 := ⟨_, Go.Proofs.Tryz.func58, by kernel_rfl, by kernel_rfl, by kernel_rfl, by kernel_rfl, by kernel_rfl⟩

end Go.VrB
