import Derived.Test.YtbkddpckkgbbmaaGreatDoorProg
import Derived.Test.YtbkddpckkgbbmaaGreatDoorVcI
set_option linter.unusedSimpArgs false
set_option linter.unusedVariables false
set_option linter.unusedSectionVars false
set_option linter.unnecessarySimpa false
namespace Go.VrB
open Go Go.Vc
set_option maxRecDepth 100000
noncomputable def c20 : CC := (.seq (.ops [⟨none, (some 0), (.mv (.const (.bool false)))⟩])
 (.seq (.ops [⟨none, (some 7), (.call 12 [(.const (.slice none 0 0))])⟩, ⟨none, (some 1), (.mv (.tmp 7))⟩])
 (.seq (.seq (.ops [⟨none, (some 8), (.mv (.tmp 1))⟩, ⟨none, (some 9), (.pnil 0 false (.tmp 8))⟩, ⟨none, (some 10), (.mv (.tmp 9))⟩, ⟨(some (10, false)), (some 11), (.call 62 [])⟩, ⟨(some (10, false)), (some 12), (.not (.tmp 11))⟩, ⟨none, (some 13), (.pick (.tmp 10) (.const (.bool true)) (.tmp 12))⟩])
 (.cond (.tmp 13)
 (.seq (.ops [⟨none, (some 0), (.mv (.const (.bool false)))⟩])
 .ret)
 .skip))
 (.seq (.ops [⟨none, (some 14), (.mv (.tmp 1))⟩, ⟨none, (some 15), (.mkI 26 (.tmp 14))⟩, ⟨none, (some 16), (.build [(.string (.mk #[])), (.int .u64 0), (.int .u32 0), (.int .u64 0), (.string (.mk #[]))] [(0, (1, (.const (.string (.mk #[97]))))), (1, (1, (.const (.int .u64 1)))), (3, (1, (.const (.int .u64 5))))])⟩, ⟨none, (some 17), (.call 22 [(.tmp 15), (.tmp 16)])⟩, ⟨none, (some 2), (.mv (.tmp 17))⟩])
 (.seq (.ops [⟨none, (some 19), (.mv (.tmp 1))⟩, ⟨none, (some 20), (.mkI 26 (.tmp 19))⟩, ⟨none, (some 21), (.call 27 [(.tmp 20), (.const (.int .u64 4))])⟩, ⟨none, (some 22), (.call 39 [(.tmp 21)])⟩, ⟨none, (some 18), (.mv (.tmp 22))⟩, ⟨none, (some 23), (.ext (.tmp 18) 0)⟩, ⟨none, (some 24), (.ext (.tmp 18) 1)⟩, ⟨none, (some 3), (.mv (.tmp 23))⟩, ⟨none, (some 4), (.mv (.tmp 24))⟩])
 (.seq (.ops [⟨none, (some 26), (.mv (.tmp 1))⟩, ⟨none, (some 27), (.mkI 26 (.tmp 26))⟩, ⟨none, (some 28), (.call 27 [(.tmp 27), (.const (.int .u64 5))])⟩, ⟨none, (some 29), (.call 39 [(.tmp 28)])⟩, ⟨none, (some 25), (.mv (.tmp 29))⟩, ⟨none, (some 30), (.ext (.tmp 25) 0)⟩, ⟨none, (some 31), (.ext (.tmp 25) 1)⟩, ⟨none, (some 5), (.mv (.tmp 30))⟩, ⟨none, (some 6), (.mv (.tmp 31))⟩])
 (.seq (.ops [⟨none, (some 32), (.mv (.tmp 2))⟩, ⟨none, (some 33), (.iop .eql (.tmp 32) (.const (.int .i64 0)))⟩, ⟨none, (some 34), (.mv (.tmp 33))⟩, ⟨(some (34, true)), (some 35), (.mv (.tmp 4))⟩, ⟨(some (34, true)), (some 36), (.iop .eql (.tmp 35) (.const (.int .i64 0)))⟩, ⟨none, (some 37), (.pick (.tmp 34) (.tmp 36) (.const (.bool false)))⟩, ⟨none, (some 38), (.mv (.tmp 37))⟩, ⟨(some (38, true)), (some 39), (.mv (.tmp 3))⟩, ⟨(some (38, true)), (some 40), (.lenL (.tmp 39))⟩, ⟨(some (38, true)), (some 41), (.iop .eql (.tmp 40) (.const (.int .i64 0)))⟩, ⟨none, (some 42), (.pick (.tmp 38) (.tmp 41) (.const (.bool false)))⟩, ⟨none, (some 43), (.mv (.tmp 42))⟩, ⟨(some (43, true)), (some 44), (.mv (.tmp 6))⟩, ⟨(some (43, true)), (some 45), (.iop .eql (.tmp 44) (.const (.int .i64 0)))⟩, ⟨none, (some 46), (.pick (.tmp 43) (.tmp 45) (.const (.bool false)))⟩, ⟨none, (some 47), (.mv (.tmp 46))⟩, ⟨(some (47, true)), (some 48), (.mv (.tmp 5))⟩, ⟨(some (47, true)), (some 49), (.lenL (.tmp 48))⟩, ⟨(some (47, true)), (some 50), (.iop .eql (.tmp 49) (.const (.int .i64 1)))⟩, ⟨none, (some 51), (.pick (.tmp 47) (.tmp 50) (.const (.bool false)))⟩, ⟨none, (some 0), (.mv (.tmp 51))⟩])
 .ret)))))))
abbrev r20 : List RV := [(.tmp 0)]
theorem F20 : FnOk Go.Proofs.Tryz.prog 20 52 c20 r20 := ⟨_, Go.Proofs.Tryz.func20, by kernel_rfl, by kernel_rfl, by kernel_rfl, by kernel_rfl, by kernel_rfl⟩

noncomputable def c22 : CC := (.seq (.ops [⟨none, (some 3), (.box 49 (.tmp 1))⟩, ⟨none, (some 4), (.mv (.const (.int .i64 0)))⟩])
 (.seq (.ops [⟨none, (some 12), (.loadN 5 (.tmp 3))⟩, ⟨none, (some 13), (.call 65 [(.tmp 12)])⟩, ⟨none, (some 11), (.mv (.tmp 13))⟩, ⟨none, (some 14), (.ext (.tmp 11) 0)⟩, ⟨none, (some 15), (.ext (.tmp 11) 1)⟩, ⟨none, (some 16), (.ext (.tmp 11) 2)⟩, ⟨none, (some 5), (.mv (.tmp 14))⟩, ⟨none, (some 6), (.mv (.tmp 15))⟩, ⟨none, (some 7), (.mv (.tmp 16))⟩])
 (.seq (.seq (.ops [⟨none, (some 17), (.mv (.tmp 7))⟩, ⟨none, (some 18), (.iop .neq (.tmp 17) (.const (.int .i64 0)))⟩])
 (.cond (.tmp 18)
 (.seq (.ops [⟨none, (some 19), (.mv (.tmp 7))⟩, ⟨none, (some 4), (.mv (.tmp 19))⟩])
 .ret)
 .skip))
 (.seq (.seq (.ops [⟨none, (some 21), (.mv (.tmp 0))⟩, ⟨none, (some 22), (.mv (.tmp 5))⟩, ⟨none, (some 23), (.inv (.tmp 21) "Get" [(.tmp 22)])⟩, ⟨none, (some 20), (.mv (.tmp 23))⟩, ⟨none, (some 24), (.ext (.tmp 20) 0)⟩, ⟨none, (some 25), (.ext (.tmp 20) 1)⟩, ⟨none, (some 26), (.ext (.tmp 20) 2)⟩, ⟨none, (some 8), (.mv (.tmp 24))⟩, ⟨none, (some 9), (.mv (.tmp 25))⟩, ⟨none, (some 10), (.mv (.tmp 26))⟩])
 (.block 0
 (.seq (.ops [⟨none, (some 28), (.mv (.tmp 10))⟩, ⟨none, (some 29), (.iop .neq (.tmp 28) (.const (.int .i64 0)))⟩, ⟨none, (some 27), (.mv (.tmp 29))⟩])
 (.cond (.tmp 27)
 (.seq (.ops [⟨none, (some 30), (.mv (.tmp 10))⟩, ⟨none, (some 4), (.mv (.tmp 30))⟩])
 .ret)
 (.seq (.ops [⟨none, (some 32), (.mv (.tmp 9))⟩, ⟨none, (some 31), (.mv (.tmp 32))⟩])
 (.cond (.tmp 31)
 (.seq (.ops [⟨none, (some 4), (.mv (.const (.int .i64 22)))⟩])
 .ret)
 .skip))))))
 (.seq (.ops [⟨none, (some 33), (.mv (.tmp 0))⟩, ⟨none, (some 34), (.loadN 5 (.tmp 3))⟩, ⟨none, (some 35), (.call 66 [(.tmp 33), (.tmp 34)])⟩, ⟨none, (some 4), (.mv (.tmp 35))⟩])
 .ret)))))
abbrev r22 : List RV := [(.tmp 4)]
theorem F22 : FnOk Go.Proofs.Tryz.prog 22 36 c22 r22 := ⟨_, Go.Proofs.Tryz.func22, by kernel_rfl, by kernel_rfl, by kernel_rfl, by kernel_rfl, by kernel_rfl⟩

noncomputable def c24 : CC := (.seq (.ops [⟨none, (some 6), (.mv (.const (.string (.mk #[]))))⟩, ⟨none, (some 7), (.mv (.const (.int .i64 0)))⟩])
 (.seq (.ops [⟨none, (some 8), (.mv (.tmp 0))⟩, ⟨none, (some 9), (.call 67 [(.tmp 8)])⟩, ⟨none, (some 10), (.mv (.tmp 1))⟩, ⟨none, (some 11), (.call 51 [(.tmp 10)])⟩, ⟨none, (some 12), (.mv (.tmp 2))⟩, ⟨none, (some 13), (.call 67 [(.tmp 12)])⟩, ⟨none, (some 14), (.buildS 118 3 [(.bool false), (.int .u64 0), (.string (.mk #[])), (.bool false), (.int .u64 0), (.string (.mk #[])), (.bool false), (.int .u64 0), (.string (.mk #[]))] [(0, (3, (.tmp 9))), (3, (3, (.tmp 11))), (6, (3, (.tmp 13)))])⟩, ⟨none, (some 15), (.call 50 [(.const (.string (.mk #[101]))), (.tmp 14)])⟩, ⟨none, (some 16), (.ext (.tmp 15) 0)⟩, ⟨none, (some 17), (.ext (.tmp 15) 1)⟩, ⟨none, (some 6), (.mv (.tmp 16))⟩, ⟨none, (some 7), (.mv (.tmp 17))⟩])
 .ret))
abbrev r24 : List RV := [(.tmp 6), (.tmp 7)]
theorem F24 : FnOk Go.Proofs.Tryz.prog 24 18 c24 r24 := ⟨_, Go.Proofs.Tryz.func24, by kernel_rfl, by kernel_rfl, by kernel_rfl, by kernel_rfl, by kernel_rfl⟩

noncomputable def c27 : CC := (.seq (.ops [⟨none, (some 2), (.box 125 (.tmp 0))⟩, ⟨none, (some 4), (.mv (.const .nilFunc))⟩])
 (.seq (.ops [⟨none, (some 8), (.call 69 [(.const (.string (.mk #[101]))), (.const (.slice none 0 0))])⟩, ⟨none, (some 7), (.mv (.tmp 8))⟩, ⟨none, (some 9), (.ext (.tmp 7) 0)⟩, ⟨none, (some 10), (.ext (.tmp 7) 1)⟩, ⟨none, (some 5), (.mv (.tmp 9))⟩, ⟨none, (some 6), (.mv (.tmp 10))⟩])
 (.seq (.seq (.ops [⟨none, (some 11), (.mv (.tmp 1))⟩, ⟨none, (some 12), (.iop .lss (.tmp 11) (.const (.int .u64 18446744073709551615)))⟩])
 (.cond (.tmp 12)
 (.ops [⟨none, (some 14), (.mv (.tmp 1))⟩, ⟨none, (some 15), (.iop .add (.tmp 14) (.const (.int .u64 1)))⟩, ⟨none, (some 16), (.call 67 [(.tmp 15)])⟩, ⟨none, (some 17), (.buildS 118 1 [(.bool false), (.int .u64 0), (.string (.mk #[]))] [(0, (3, (.tmp 16)))])⟩, ⟨none, (some 18), (.call 69 [(.const (.string (.mk #[101]))), (.tmp 17)])⟩, ⟨none, (some 13), (.mv (.tmp 18))⟩, ⟨none, (some 19), (.ext (.tmp 13) 0)⟩, ⟨none, (some 20), (.ext (.tmp 13) 1)⟩, ⟨none, (some 6), (.mv (.tmp 19))⟩])
 .skip))
 (.seq (.ops [⟨none, (some 21), (.load1 (.tmp 2))⟩, ⟨none, (some 22), (.mv (.tmp 5))⟩, ⟨none, (some 23), (.mv (.tmp 6))⟩, ⟨none, (some 24), (.inv (.tmp 21) "Range" [(.tmp 22), (.tmp 23)])⟩, ⟨none, (some 25), (.mkF (.func 71) [] [(.tmp 2)])⟩, ⟨none, (some 26), (.call 70 [(.tmp 24), (.tmp 25)])⟩, ⟨none, (some 4), (.mv (.tmp 26))⟩])
 .ret))))
abbrev r27 : List RV := [(.tmp 4)]
theorem F27 : FnOk Go.Proofs.Tryz.prog 27 27 c27 r27 := ⟨_, Go.Proofs.Tryz.func27, by kernel_rfl, by kernel_rfl, by kernel_rfl, by kernel_rfl, by kernel_rfl⟩

noncomputable def c36 : CC := (.seq (.ops [⟨none, (some 6), (.alloc 49 (.agg #[(.string (.mk #[])), (.int .u64 0), (.int .u32 0), (.int .u64 0), (.string (.mk #[]))]))⟩, ⟨none, (some 7), (.mv (.const (.int .i64 0)))⟩])
 (.seq (.ops [⟨none, (some 13), (.mv (.tmp 1))⟩, ⟨none, (some 14), (.mv (.tmp 2))⟩, ⟨none, (some 15), (.call 100 [(.tmp 13), (.tmp 14)])⟩, ⟨none, (some 12), (.mv (.tmp 15))⟩, ⟨none, (some 16), (.ext (.tmp 12) 0)⟩, ⟨none, (some 17), (.ext (.tmp 12) 1)⟩, ⟨none, (some 8), (.mv (.tmp 16))⟩, ⟨none, (some 9), (.mv (.tmp 17))⟩])
 (.seq (.seq (.ops [⟨none, (some 18), (.mv (.tmp 9))⟩, ⟨none, (some 19), (.iop .neq (.tmp 18) (.const (.int .i64 0)))⟩])
 (.cond (.tmp 19)
 (.seq (.ops [⟨none, (some 20), (.build [(.string (.mk #[])), (.int .u64 0), (.int .u32 0), (.int .u64 0), (.string (.mk #[]))] [])⟩, ⟨none, none, (.storeN 5 (.tmp 6) (.tmp 20))⟩, ⟨none, (some 7), (.mv (.const (.int .i64 21)))⟩])
 .ret)
 .skip))
 (.seq (.ops [⟨none, (some 22), (.mv (.tmp 0))⟩, ⟨none, (some 23), (.mv (.tmp 8))⟩, ⟨none, (some 24), (.inv (.tmp 22) "Get" [(.tmp 23)])⟩, ⟨none, (some 21), (.mv (.tmp 24))⟩, ⟨none, (some 25), (.ext (.tmp 21) 0)⟩, ⟨none, (some 26), (.ext (.tmp 21) 1)⟩, ⟨none, (some 27), (.ext (.tmp 21) 2)⟩, ⟨none, (some 10), (.mv (.tmp 25))⟩, ⟨none, (some 11), (.mv (.tmp 26))⟩, ⟨none, (some 9), (.mv (.tmp 27))⟩])
 (.seq (.block 0
 (.seq (.ops [⟨none, (some 29), (.mv (.tmp 9))⟩, ⟨none, (some 30), (.iop .neq (.tmp 29) (.const (.int .i64 0)))⟩, ⟨none, (some 28), (.mv (.tmp 30))⟩])
 (.cond (.tmp 28)
 (.seq (.ops [⟨none, (some 31), (.build [(.string (.mk #[])), (.int .u64 0), (.int .u32 0), (.int .u64 0), (.string (.mk #[]))] [])⟩, ⟨none, (some 32), (.mv (.tmp 9))⟩, ⟨none, none, (.storeN 5 (.tmp 6) (.tmp 31))⟩, ⟨none, (some 7), (.mv (.tmp 32))⟩])
 .ret)
 (.seq (.ops [⟨none, (some 34), (.mv (.tmp 11))⟩, ⟨none, (some 35), (.not (.tmp 34))⟩, ⟨none, (some 33), (.mv (.tmp 35))⟩])
 (.cond (.tmp 33)
 (.seq (.ops [⟨none, (some 36), (.build [(.string (.mk #[])), (.int .u64 0), (.int .u32 0), (.int .u64 0), (.string (.mk #[]))] [])⟩, ⟨none, none, (.storeN 5 (.tmp 6) (.tmp 36))⟩, ⟨none, (some 7), (.mv (.const (.int .i64 21)))⟩])
 .ret)
 .skip)))))
 (.seq (.ops [⟨none, (some 37), (.mv (.tmp 1))⟩, ⟨none, (some 38), (.mv (.tmp 2))⟩, ⟨none, (some 39), (.call 101 [(.tmp 37), (.tmp 38)])⟩, ⟨none, (some 40), (.mv (.tmp 10))⟩, ⟨none, (some 41), (.call 102 [(.tmp 39), (.tmp 40)])⟩, ⟨none, (some 42), (.ext (.tmp 41) 0)⟩, ⟨none, (some 43), (.ext (.tmp 41) 1)⟩, ⟨none, none, (.storeN 5 (.tmp 6) (.tmp 42))⟩, ⟨none, (some 7), (.mv (.tmp 43))⟩])
 .ret))))))
abbrev r36 : List RV := [(.cN 6 5), (.tmp 7)]
theorem F36 : FnOk Go.Proofs.Tryz.prog 36 44 c36 r36 := ⟨_, Go.Proofs.Tryz.func36, by kernel_rfl, by kernel_rfl, by kernel_rfl, by kernel_rfl, by kernel_rfl⟩

noncomputable def c39 : CC := (.seq (.ops [⟨none, (some 2), (.alloc 47 (.slice none 0 0))⟩, ⟨none, (some 3), (.alloc 23 (.int .i64 0))⟩])
 (.seq (.ops [⟨none, (some 4), (.alloc 47 (.slice none 0 0))⟩])
 (.seq (.seq (.ops [⟨none, (some 7), (.mv (.tmp 0))⟩])
 (.block 0
 (.range (.tmp 7) #[8, 9] (sub (bodyOf Go.Proofs.Tryz.f39) [1, 1, 0, 1, 0, 0]) (sub (bodyOf Go.Proofs.Tryz.f39) [1, 1, 0, 1, 0, 1])
 (.seq (.ops [⟨none, (some 5), (.alloc 49 (.agg #[(.string (.mk #[])), (.int .u64 0), (.int .u32 0), (.int .u64 0), (.string (.mk #[]))]))⟩, ⟨none, none, (.storeN 5 (.tmp 5) (.tmp 8))⟩])
 (.ops [⟨none, (some 6), (.mv (.tmp 9))⟩]))
 (.block 1
 (.seq (.seq (.ops [⟨none, (some 10), (.mv (.tmp 6))⟩, ⟨none, (some 11), (.iop .neq (.tmp 10) (.const (.int .i64 0)))⟩])
 (.cond (.tmp 11)
 (.seq (.ops [⟨none, (some 12), (.mv (.tmp 6))⟩, ⟨none, none, (.store1 (.tmp 2) (.const (.slice none 0 0)))⟩, ⟨none, none, (.store1 (.tmp 3) (.tmp 12))⟩])
 .ret)
 .skip))
 (.ops [⟨none, (some 13), (.load1 (.tmp 4))⟩, ⟨none, (some 14), (.loadN 5 (.tmp 5))⟩, ⟨none, (some 15), (.buildS 49 1 [(.string (.mk #[])), (.int .u64 0), (.int .u32 0), (.int .u64 0), (.string (.mk #[]))] [(0, (5, (.tmp 14)))])⟩, ⟨none, (some 16), (.raw 18 (.mk (some 16) (.call (.mk (.builtin .append) #[(.tmp 13), (.tmp 15)] #[47, 47])) 47 "law.go:38" #[(.mk 0 .data), (.mk 2 .data)] none))⟩, ⟨none, none, (.store1 (.tmp 4) (.tmp 16))⟩]))))))
 (.seq (.ops [⟨none, (some 17), (.load1 (.tmp 4))⟩, ⟨none, none, (.store1 (.tmp 2) (.tmp 17))⟩, ⟨none, none, (.store1 (.tmp 3) (.const (.int .i64 0)))⟩])
 .ret))))
abbrev r39 : List RV := [(.c1 2), (.c1 3)]
theorem F39 : FnOk Go.Proofs.Tryz.prog 39 18 c39 r39 := ⟨_, Go.Proofs.Tryz.func39, by kernel_rfl, by kernel_rfl, by kernel_rfl, by kernel_rfl, by kernel_rfl⟩

noncomputable def c62 : CC := (.seq (.ops [⟨none, (some 0), (.mv (.const (.bool false)))⟩])
 (.seq (.ops [⟨none, (some 1), (.call 9 [])⟩, ⟨none, (some 0), (.mv (.tmp 1))⟩])
 .ret))
abbrev r62 : List RV := [(.tmp 0)]
theorem F62 : FnOk Go.Proofs.Tryz.prog 62 2 c62 r62 := ⟨_, Go.Proofs.Tryz.func62, by kernel_rfl, by kernel_rfl, by kernel_rfl, by kernel_rfl, by kernel_rfl⟩

noncomputable def c65 : CC := (.seq (.ops [⟨none, (some 1), (.box 49 (.tmp 0))⟩, ⟨none, (some 2), (.mv (.const (.string (.mk #[]))))⟩, ⟨none, (some 3), (.mv (.const (.string (.mk #[]))))⟩, ⟨none, (some 4), (.mv (.const (.int .i64 0)))⟩])
 (.seq (.ops [⟨none, (some 9), (.faddr 0 (.tmp 1))⟩, ⟨none, (some 10), (.load1 (.tmp 9))⟩, ⟨none, (some 11), (.faddr 1 (.tmp 1))⟩, ⟨none, (some 12), (.load1 (.tmp 11))⟩, ⟨none, (some 13), (.call 100 [(.tmp 10), (.tmp 12)])⟩, ⟨none, (some 8), (.mv (.tmp 13))⟩, ⟨none, (some 14), (.ext (.tmp 8) 0)⟩, ⟨none, (some 15), (.ext (.tmp 8) 1)⟩, ⟨none, (some 5), (.mv (.tmp 14))⟩, ⟨none, (some 6), (.mv (.tmp 15))⟩])
 (.seq (.seq (.ops [⟨none, (some 16), (.mv (.tmp 6))⟩, ⟨none, (some 17), (.iop .neq (.tmp 16) (.const (.int .i64 0)))⟩, ⟨none, (some 18), (.mv (.tmp 17))⟩, ⟨(some (18, false)), (some 19), (.faddr 3 (.tmp 1))⟩, ⟨(some (18, false)), (some 20), (.load1 (.tmp 19))⟩, ⟨(some (18, false)), (some 21), (.iop .eql (.tmp 20) (.const (.int .u64 0)))⟩, ⟨none, (some 22), (.pick (.tmp 18) (.const (.bool true)) (.tmp 21))⟩])
 (.cond (.tmp 22)
 (.seq (.ops [⟨none, (some 23), (.mv (.tmp 5))⟩, ⟨none, (some 24), (.mv (.tmp 6))⟩, ⟨none, (some 2), (.mv (.tmp 23))⟩, ⟨none, (some 3), (.mv (.const (.string (.mk #[]))))⟩, ⟨none, (some 4), (.mv (.tmp 24))⟩])
 .ret)
 .skip))
 (.seq (.ops [⟨none, (some 26), (.faddr 3 (.tmp 1))⟩, ⟨none, (some 27), (.load1 (.tmp 26))⟩, ⟨none, (some 28), (.faddr 0 (.tmp 1))⟩, ⟨none, (some 29), (.load1 (.tmp 28))⟩, ⟨none, (some 30), (.faddr 1 (.tmp 1))⟩, ⟨none, (some 31), (.load1 (.tmp 30))⟩, ⟨none, (some 32), (.call 24 [(.tmp 27), (.tmp 29), (.tmp 31)])⟩, ⟨none, (some 25), (.mv (.tmp 32))⟩, ⟨none, (some 33), (.ext (.tmp 25) 0)⟩, ⟨none, (some 34), (.ext (.tmp 25) 1)⟩, ⟨none, (some 7), (.mv (.tmp 33))⟩, ⟨none, (some 6), (.mv (.tmp 34))⟩])
 (.seq (.ops [⟨none, (some 35), (.mv (.tmp 5))⟩, ⟨none, (some 36), (.mv (.tmp 7))⟩, ⟨none, (some 37), (.mv (.tmp 6))⟩, ⟨none, (some 2), (.mv (.tmp 35))⟩, ⟨none, (some 3), (.mv (.tmp 36))⟩, ⟨none, (some 4), (.mv (.tmp 37))⟩])
 .ret)))))
abbrev r65 : List RV := [(.tmp 2), (.tmp 3), (.tmp 4)]
theorem F65 : FnOk Go.Proofs.Tryz.prog 65 38 c65 r65 := ⟨_, Go.Proofs.Tryz.func65, by kernel_rfl, by kernel_rfl, by kernel_rfl, by kernel_rfl, by kernel_rfl⟩

noncomputable def c66 : CC := (.seq (.ops [⟨none, (some 3), (.box 49 (.tmp 1))⟩, ⟨none, (some 4), (.mv (.const (.int .i64 0)))⟩])
 (.seq (.ops [⟨none, (some 10), (.loadN 5 (.tmp 3))⟩, ⟨none, (some 11), (.call 65 [(.tmp 10)])⟩, ⟨none, (some 9), (.mv (.tmp 11))⟩, ⟨none, (some 12), (.ext (.tmp 9) 0)⟩, ⟨none, (some 13), (.ext (.tmp 9) 1)⟩, ⟨none, (some 14), (.ext (.tmp 9) 2)⟩, ⟨none, (some 5), (.mv (.tmp 12))⟩, ⟨none, (some 6), (.mv (.tmp 13))⟩, ⟨none, (some 7), (.mv (.tmp 14))⟩])
 (.seq (.seq (.ops [⟨none, (some 15), (.mv (.tmp 7))⟩, ⟨none, (some 16), (.iop .neq (.tmp 15) (.const (.int .i64 0)))⟩])
 (.cond (.tmp 16)
 (.seq (.ops [⟨none, (some 17), (.mv (.tmp 7))⟩, ⟨none, (some 4), (.mv (.tmp 17))⟩])
 .ret)
 .skip))
 (.seq (.seq (.draw 4 (opsOf (sub (bodyOf Go.Proofs.Tryz.f66) [1, 1, 1, 0, 0])) [⟨none, (some 18), (.mv (.tmp 0))⟩, ⟨none, (some 19), (.mv (.tmp 5))⟩, ⟨none, (some 20), (.faddr 0 (.tmp 3))⟩, ⟨none, (some 21), (.load1 (.tmp 20))⟩, ⟨none, (some 22), (.faddr 1 (.tmp 3))⟩, ⟨none, (some 23), (.load1 (.tmp 22))⟩, ⟨none, (some 24), (.call 101 [(.tmp 21), (.tmp 23)])⟩, ⟨none, (some 25), (.loadN 5 (.tmp 3))⟩, ⟨none, (some 26), (.call 136 [(.tmp 24), (.tmp 25)])⟩, ⟨none, (some 27), (.mkF (.method "Put") [(.tmp 18)] [])⟩, ⟨none, (some 28), (.nilc (.tmp 27))⟩, ⟨none, (some 29), (.mv (.tmp 18))⟩, ⟨none, (some 30), (.inv (.tmp 29) "Put" [(.tmp 19), (.tmp 26)])⟩, ⟨none, (some 8), (.mv (.tmp 30))⟩])
 (.seq (.ops [⟨none, (some 31), (.mv (.tmp 8))⟩, ⟨none, (some 32), (.iop .neq (.tmp 31) (.const (.int .i64 0)))⟩, ⟨none, (some 33), (.mv (.tmp 32))⟩, ⟨(some (33, false)), (some 34), (.mv (.tmp 6))⟩, ⟨(some (33, false)), (some 35), (.sop .eql (.tmp 34) (.const (.string (.mk #[]))))⟩, ⟨none, (some 36), (.pick (.tmp 33) (.const (.bool true)) (.tmp 35))⟩])
 (.cond (.tmp 36)
 (.seq (.ops [⟨none, (some 37), (.mv (.tmp 8))⟩, ⟨none, (some 4), (.mv (.tmp 37))⟩])
 .ret)
 .skip)))
 (.seq (.ops [⟨none, (some 38), (.mv (.tmp 0))⟩, ⟨none, (some 39), (.mv (.tmp 6))⟩, ⟨none, (some 40), (.inv (.tmp 38) "Put" [(.tmp 39), (.const (.string (.mk #[])))])⟩, ⟨none, (some 4), (.mv (.tmp 40))⟩])
 .ret)))))
abbrev r66 : List RV := [(.tmp 4)]
theorem F66 : FnOk Go.Proofs.Tryz.prog 66 41 c66 r66 := ⟨_, Go.Proofs.Tryz.func66, by kernel_rfl, by kernel_rfl, by kernel_rfl, by kernel_rfl, by kernel_rfl⟩

noncomputable def c70 : CC := (.seq (.ops [⟨none, (some 2), (.box 95 (.tmp 0))⟩, ⟨none, (some 3), (.box 156 (.tmp 1))⟩, ⟨none, (some 4), (.mv (.const .nilFunc))⟩])
 (.seq (.ops [⟨none, (some 5), (.mkF (.func 141) [] [(.tmp 2), (.tmp 3)])⟩, ⟨none, (some 4), (.mv (.tmp 5))⟩])
 .ret))
abbrev r70 : List RV := [(.tmp 4)]
theorem F70 : FnOk Go.Proofs.Tryz.prog 70 6 c70 r70 := ⟨_, Go.Proofs.Tryz.func70, by kernel_rfl, by kernel_rfl, by kernel_rfl, by kernel_rfl, by kernel_rfl⟩

noncomputable def c71 : CC := (.seq (.ops [⟨none, (some 3), (.box 98 (.tmp 0))⟩, ⟨none, (some 5), (.alloc 49 (.agg #[(.string (.mk #[])), (.int .u64 0), (.int .u32 0), (.int .u64 0), (.string (.mk #[]))]))⟩, ⟨none, (some 6), (.mv (.const (.int .i64 0)))⟩])
 (.seq (.ops [⟨none, (some 10), (.load1 (.tmp 2))⟩, ⟨none, (some 11), (.faddr 1 (.tmp 3))⟩, ⟨none, (some 12), (.load1 (.tmp 11))⟩, ⟨none, (some 13), (.faddr 2 (.tmp 3))⟩, ⟨none, (some 14), (.load1 (.tmp 13))⟩, ⟨none, (some 15), (.call 36 [(.tmp 10), (.tmp 12), (.tmp 14)])⟩, ⟨none, (some 9), (.mv (.tmp 15))⟩, ⟨none, (some 16), (.ext (.tmp 9) 0)⟩, ⟨none, (some 17), (.ext (.tmp 9) 1)⟩, ⟨none, (some 7), (.alloc 49 (.agg #[(.string (.mk #[])), (.int .u64 0), (.int .u32 0), (.int .u64 0), (.string (.mk #[]))]))⟩, ⟨none, none, (.storeN 5 (.tmp 7) (.tmp 16))⟩, ⟨none, (some 8), (.mv (.tmp 17))⟩])
 (.seq (.seq (.ops [⟨none, (some 18), (.mv (.tmp 8))⟩, ⟨none, (some 19), (.iop .eql (.tmp 18) (.const (.int .i64 21)))⟩, ⟨none, (some 20), (.mv (.tmp 19))⟩, ⟨(some (20, false)), (some 21), (.mv (.tmp 8))⟩, ⟨(some (20, false)), (some 22), (.iop .eql (.tmp 21) (.const (.int .i64 0)))⟩, ⟨(some (20, false)), (some 23), (.mv (.tmp 22))⟩, ⟨(some (23, true)), (some 24), (.faddr 3 (.tmp 7))⟩, ⟨(some (23, true)), (some 25), (.load1 (.tmp 24))⟩, ⟨(some (23, true)), (some 26), (.faddr 3 (.tmp 3))⟩, ⟨(some (23, true)), (some 27), (.load1 (.tmp 26))⟩, ⟨(some (23, true)), (some 28), (.iop .neq (.tmp 25) (.tmp 27))⟩, ⟨(some (20, false)), (some 29), (.pick (.tmp 23) (.tmp 28) (.const (.bool false)))⟩, ⟨none, (some 30), (.pick (.tmp 20) (.const (.bool true)) (.tmp 29))⟩])
 (.cond (.tmp 30)
 (.seq (.ops [⟨none, (some 31), (.build [(.string (.mk #[])), (.int .u64 0), (.int .u32 0), (.int .u64 0), (.string (.mk #[]))] [])⟩, ⟨none, none, (.storeN 5 (.tmp 5) (.tmp 31))⟩, ⟨none, (some 6), (.mv (.const (.int .i64 31)))⟩])
 .ret)
 .skip))
 (.seq (.ops [⟨none, (some 32), (.loadN 5 (.tmp 7))⟩, ⟨none, (some 33), (.mv (.tmp 8))⟩, ⟨none, none, (.storeN 5 (.tmp 5) (.tmp 32))⟩, ⟨none, (some 6), (.mv (.tmp 33))⟩])
 .ret))))
abbrev r71 : List RV := [(.cN 5 5), (.tmp 6)]
theorem F71 : FnOk Go.Proofs.Tryz.prog 71 34 c71 r71 := ⟨_, Go.Proofs.Tryz.func71, by kernel_rfl, by kernel_rfl, by kernel_rfl, by kernel_rfl, by kernel_rfl⟩

noncomputable def c100 : CC := (.seq (.ops [⟨none, (some 4), (.mv (.const (.string (.mk #[]))))⟩, ⟨none, (some 5), (.mv (.const (.int .i64 0)))⟩])
 (.seq (.ops [⟨none, (some 6), (.mv (.tmp 0))⟩, ⟨none, (some 7), (.call 51 [(.tmp 6)])⟩, ⟨none, (some 8), (.mv (.tmp 1))⟩, ⟨none, (some 9), (.call 67 [(.tmp 8)])⟩, ⟨none, (some 10), (.buildS 118 2 [(.bool false), (.int .u64 0), (.string (.mk #[])), (.bool false), (.int .u64 0), (.string (.mk #[]))] [(0, (3, (.tmp 7))), (3, (3, (.tmp 9)))])⟩, ⟨none, (some 11), (.call 50 [(.const (.string (.mk #[109]))), (.tmp 10)])⟩, ⟨none, (some 12), (.ext (.tmp 11) 0)⟩, ⟨none, (some 13), (.ext (.tmp 11) 1)⟩, ⟨none, (some 4), (.mv (.tmp 12))⟩, ⟨none, (some 5), (.mv (.tmp 13))⟩])
 .ret))
abbrev r100 : List RV := [(.tmp 4), (.tmp 5)]
theorem F100 : FnOk Go.Proofs.Tryz.prog 100 14 c100 r100 := ⟨_, Go.Proofs.Tryz.func100, by kernel_rfl, by kernel_rfl, by kernel_rfl, by kernel_rfl, by kernel_rfl⟩

noncomputable def c101 : CC := (.seq (.ops [⟨none, (some 2), (.box 9 (.tmp 0))⟩, ⟨none, (some 3), (.box 31 (.tmp 1))⟩, ⟨none, (some 4), (.alloc 192 (.agg #[.nilFunc, .nilFunc]))⟩])
 (.seq (.ops [⟨none, (some 5), (.mkF (.func 163) [] [(.tmp 2), (.tmp 3)])⟩, ⟨none, (some 6), (.call 161 [(.func 162), (.tmp 5)])⟩, ⟨none, none, (.storeN 2 (.tmp 4) (.tmp 6))⟩])
 .ret))
abbrev r101 : List RV := [(.cN 4 2)]
theorem F101 : FnOk Go.Proofs.Tryz.prog 101 7 c101 r101 := ⟨_, Go.Proofs.Tryz.func101, by kernel_rfl, by kernel_rfl, by kernel_rfl, by kernel_rfl, by kernel_rfl⟩

noncomputable def c102 : CC := (.seq (.ops [⟨none, (some 2), (.box 192 (.tmp 0))⟩, ⟨none, (some 4), (.alloc 49 (.agg #[(.string (.mk #[])), (.int .u64 0), (.int .u32 0), (.int .u64 0), (.string (.mk #[]))]))⟩, ⟨none, (some 5), (.mv (.const (.int .i64 0)))⟩])
 (.seq (.ops [⟨none, (some 6), (.alloc 49 (.agg #[(.string (.mk #[])), (.int .u64 0), (.int .u32 0), (.int .u64 0), (.string (.mk #[]))]))⟩])
 (.seq (.seq (.ops [⟨none, (some 10), (.faddr 1 (.tmp 2))⟩, ⟨none, (some 11), (.load1 (.tmp 10))⟩, ⟨none, (some 12), (.pnil 3 false (.tmp 11))⟩])
 (.cond (.tmp 12)
 (.seq (.ops [⟨none, (some 13), (.loadN 5 (.tmp 6))⟩, ⟨none, none, (.storeN 5 (.tmp 4) (.tmp 13))⟩, ⟨none, (some 5), (.mv (.const (.int .i64 2)))⟩])
 .ret)
 .skip))
 (.seq (.ops [⟨none, (some 14), (.mv (.tmp 1))⟩, ⟨none, (some 15), (.call 17 [(.tmp 14)])⟩, ⟨none, (some 7), (.mv (.tmp 15))⟩])
 (.seq (.ops [⟨none, (some 16), (.faddr 1 (.tmp 2))⟩, ⟨none, (some 17), (.load1 (.tmp 16))⟩, ⟨none, (some 18), (.mv (.tmp 7))⟩, ⟨none, (some 19), (.callv (.tmp 17) [(.tmp 18)])⟩, ⟨none, (some 8), (.alloc 49 (.agg #[(.string (.mk #[])), (.int .u64 0), (.int .u32 0), (.int .u64 0), (.string (.mk #[]))]))⟩, ⟨none, none, (.storeN 5 (.tmp 8) (.tmp 19))⟩])
 (.seq (.seq (.ops [⟨none, (some 20), (.mv (.tmp 7))⟩, ⟨none, (some 21), (.call 129 [(.tmp 20)])⟩, ⟨none, (some 9), (.mv (.tmp 21))⟩])
 (.seq (.ops [⟨none, (some 22), (.mv (.tmp 9))⟩, ⟨none, (some 23), (.iop .neq (.tmp 22) (.const (.int .i64 0)))⟩])
 (.cond (.tmp 23)
 (.seq (.ops [⟨none, (some 24), (.loadN 5 (.tmp 6))⟩, ⟨none, (some 25), (.mv (.tmp 9))⟩, ⟨none, none, (.storeN 5 (.tmp 4) (.tmp 24))⟩, ⟨none, (some 5), (.mv (.tmp 25))⟩])
 .ret)
 .skip)))
 (.seq (.ops [⟨none, (some 26), (.loadN 5 (.tmp 8))⟩, ⟨none, none, (.storeN 5 (.tmp 4) (.tmp 26))⟩, ⟨none, (some 5), (.mv (.const (.int .i64 0)))⟩])
 .ret)))))))
abbrev r102 : List RV := [(.cN 4 5), (.tmp 5)]
theorem F102 : FnOk Go.Proofs.Tryz.prog 102 27 c102 r102 := ⟨_, Go.Proofs.Tryz.func102, by kernel_rfl, by kernel_rfl, by kernel_rfl, by kernel_rfl, by kernel_rfl⟩

noncomputable def c136 : CC := (.seq (.ops [⟨none, (some 2), (.box 192 (.tmp 0))⟩, ⟨none, (some 3), (.box 49 (.tmp 1))⟩, ⟨none, (some 4), (.mv (.const (.string (.mk #[]))))⟩])
 (.seq (.seq (.ops [⟨none, (some 5), (.faddr 0 (.tmp 2))⟩, ⟨none, (some 6), (.load1 (.tmp 5))⟩, ⟨none, (some 7), (.pnil 3 false (.tmp 6))⟩])
 (.cond (.tmp 7)
 (.seq (.ops [⟨none, (some 4), (.mv (.const (.string (.mk #[]))))⟩])
 .ret)
 .skip))
 (.seq (.ops [⟨none, (some 8), (.faddr 0 (.tmp 2))⟩, ⟨none, (some 9), (.load1 (.tmp 8))⟩, ⟨none, (some 10), (.loadN 5 (.tmp 3))⟩, ⟨none, (some 11), (.callv (.tmp 9) [(.tmp 10)])⟩, ⟨none, (some 4), (.mv (.tmp 11))⟩])
 .ret)))
abbrev r136 : List RV := [(.tmp 4)]
theorem F136 : FnOk Go.Proofs.Tryz.prog 136 12 c136 r136 := ⟨_, Go.Proofs.Tryz.func136, by kernel_rfl, by kernel_rfl, by kernel_rfl, by kernel_rfl, by kernel_rfl⟩

noncomputable def c141 : CC := (.seq (.ops [⟨none, (some 3), (.box 202 (.tmp 0))⟩])
 (.seq (.ops [⟨none, (some 8), (.load1 (.tmp 1))⟩])
 (.block 0
 (.range (.tmp 8) #[9, 10] (sub (bodyOf Go.Proofs.Tryz.f141) [1, 1, 0, 0]) (sub (bodyOf Go.Proofs.Tryz.f141) [1, 1, 0, 1])
 (.seq (.ops [⟨none, (some 4), (.alloc 29 (.agg #[(.string (.mk #[])), (.string (.mk #[]))]))⟩, ⟨none, none, (.storeN 2 (.tmp 4) (.tmp 9))⟩])
 (.ops [⟨none, (some 5), (.mv (.tmp 10))⟩]))
 (.block 1
 (.seq (.ops [⟨none, (some 6), (.alloc 98 (.agg #[(.string (.mk #[])), (.string (.mk #[])), (.int .u64 0), (.int .u64 0), (.string (.mk #[])), (.int .i64 0), (.string (.mk #[])), (.string (.mk #[])), (.string (.mk #[]))]))⟩])
 (.seq (.ops [⟨none, (some 7), (.alloc 49 (.agg #[(.string (.mk #[])), (.int .u64 0), (.int .u32 0), (.int .u64 0), (.string (.mk #[]))]))⟩])
 (.seq (.seq (.ops [⟨none, (some 11), (.mv (.tmp 5))⟩, ⟨none, (some 12), (.iop .eql (.tmp 11) (.const (.int .i64 0)))⟩])
 (.cond (.tmp 12)
 (.ops [⟨none, (some 14), (.faddr 0 (.tmp 4))⟩, ⟨none, (some 15), (.load1 (.tmp 14))⟩, ⟨none, (some 16), (.call 38 [(.tmp 15)])⟩, ⟨none, (some 13), (.mv (.tmp 16))⟩, ⟨none, (some 17), (.ext (.tmp 13) 0)⟩, ⟨none, (some 18), (.ext (.tmp 13) 1)⟩, ⟨none, none, (.storeN 9 (.tmp 6) (.tmp 17))⟩, ⟨none, (some 5), (.mv (.tmp 18))⟩])
 .skip))
 (.seq (.seq (.ops [⟨none, (some 19), (.mv (.tmp 5))⟩, ⟨none, (some 20), (.iop .eql (.tmp 19) (.const (.int .i64 0)))⟩])
 (.cond (.tmp 20)
 (.ops [⟨none, (some 22), (.load1 (.tmp 2))⟩, ⟨none, (some 23), (.loadN 9 (.tmp 6))⟩, ⟨none, (some 24), (.faddr 1 (.tmp 4))⟩, ⟨none, (some 25), (.load1 (.tmp 24))⟩, ⟨none, (some 26), (.callv (.tmp 22) [(.tmp 23), (.tmp 25)])⟩, ⟨none, (some 21), (.mv (.tmp 26))⟩, ⟨none, (some 27), (.ext (.tmp 21) 0)⟩, ⟨none, (some 28), (.ext (.tmp 21) 1)⟩, ⟨none, none, (.storeN 5 (.tmp 7) (.tmp 27))⟩, ⟨none, (some 5), (.mv (.tmp 28))⟩])
 .skip))
 (.seq (.ops [⟨none, (some 29), (.load1 (.tmp 3))⟩, ⟨none, (some 30), (.loadN 5 (.tmp 7))⟩, ⟨none, (some 31), (.mv (.tmp 5))⟩, ⟨none, (some 32), (.callv (.tmp 29) [(.tmp 30), (.tmp 31)])⟩, ⟨none, (some 33), (.not (.tmp 32))⟩, ⟨none, (some 34), (.mv (.tmp 33))⟩, ⟨(some (34, false)), (some 35), (.mv (.tmp 5))⟩, ⟨(some (34, false)), (some 36), (.iop .neq (.tmp 35) (.const (.int .i64 0)))⟩, ⟨none, (some 37), (.pick (.tmp 34) (.const (.bool true)) (.tmp 36))⟩])
 (.cond (.tmp 37)
 .ret
 .skip)))))))))))
abbrev r141 : List RV := []
theorem F141 : FnOk Go.Proofs.Tryz.prog 141 38 c141 r141 := ⟨_, Go.Proofs.Tryz.func141, by kernel_rfl, by kernel_rfl, by kernel_rfl, by kernel_rfl, by kernel_rfl⟩

noncomputable def c162 : CC := (.seq (.ops [⟨none, (some 1), (.box 49 (.tmp 0))⟩, ⟨none, (some 2), (.mv (.const (.string (.mk #[]))))⟩])
 (.seq (.draw 1 (opsOf (sub (bodyOf Go.Proofs.Tryz.f162) [1, 0])) [⟨none, (some 3), (.faddr 2 (.tmp 1))⟩, ⟨none, (some 4), (.load1 (.tmp 3))⟩, ⟨none, (some 5), (.call 123 [(.tmp 4)])⟩, ⟨none, (some 6), (.faddr 3 (.tmp 1))⟩, ⟨none, (some 7), (.load1 (.tmp 6))⟩, ⟨none, (some 8), (.call 124 [(.tmp 7)])⟩, ⟨none, (some 9), (.sop .add (.tmp 5) (.tmp 8))⟩, ⟨none, (some 10), (.faddr 4 (.tmp 1))⟩, ⟨none, (some 11), (.load1 (.tmp 10))⟩, ⟨none, (some 12), (.call 125 [(.tmp 11)])⟩, ⟨none, (some 13), (.sop .add (.tmp 9) (.tmp 12))⟩, ⟨none, (some 2), (.mv (.tmp 13))⟩])
 .ret))
abbrev r162 : List RV := [(.tmp 2)]
theorem F162 : FnOk Go.Proofs.Tryz.prog 162 14 c162 r162 := ⟨_, Go.Proofs.Tryz.func162, by kernel_rfl, by kernel_rfl, by kernel_rfl, by kernel_rfl, by kernel_rfl⟩

noncomputable def c163 : CC := (.seq (.ops [⟨none, (some 4), (.alloc 49 (.agg #[(.string (.mk #[])), (.int .u64 0), (.int .u32 0), (.int .u64 0), (.string (.mk #[]))]))⟩])
 (.seq (.draw 1 (opsOf (sub (bodyOf Go.Proofs.Tryz.f163) [1, 0])) [⟨none, (some 5), (.load1 (.tmp 1))⟩, ⟨none, (some 6), (.load1 (.tmp 2))⟩, ⟨none, (some 7), (.mv (.tmp 0))⟩, ⟨none, (some 8), (.call 127 [(.tmp 7)])⟩, ⟨none, (some 9), (.mv (.tmp 0))⟩, ⟨none, (some 10), (.call 19 [(.tmp 9)])⟩, ⟨none, (some 11), (.mv (.tmp 0))⟩, ⟨none, (some 12), (.call 128 [(.tmp 11), (.const (.int .i64 32768))])⟩, ⟨none, (some 13), (.build [(.string (.mk #[])), (.int .u64 0), (.int .u32 0), (.int .u64 0), (.string (.mk #[]))] [(0, (1, (.tmp 5))), (1, (1, (.tmp 6))), (2, (1, (.tmp 8))), (3, (1, (.tmp 10))), (4, (1, (.tmp 12)))])⟩, ⟨none, none, (.storeN 5 (.tmp 4) (.tmp 13))⟩])
 .ret))
abbrev r163 : List RV := [(.cN 4 5)]
theorem F163 : FnOk Go.Proofs.Tryz.prog 163 14 c163 r163 := ⟨_, Go.Proofs.Tryz.func163, by kernel_rfl, by kernel_rfl, by kernel_rfl, by kernel_rfl, by kernel_rfl⟩

noncomputable def c161 : CC := (.seq (.ops [⟨none, (some 2), (.box 189 (.tmp 0))⟩, ⟨none, (some 3), (.box 190 (.tmp 1))⟩, ⟨none, (some 4), (.alloc 192 (.agg #[.nilFunc, .nilFunc]))⟩])
 (.seq (.ops [⟨none, (some 5), (.mkF (.func 202) [] [(.tmp 2)])⟩, ⟨none, (some 6), (.mkF (.func 203) [] [(.tmp 3)])⟩, ⟨none, (some 7), (.build [.nilFunc, .nilFunc] [(0, (1, (.tmp 5))), (1, (1, (.tmp 6)))])⟩, ⟨none, none, (.storeN 2 (.tmp 4) (.tmp 7))⟩])
 .ret))
abbrev r161 : List RV := [(.cN 4 2)]
theorem F161 : FnOk Go.Proofs.Tryz.prog 161 8 c161 r161 := ⟨_, Go.Proofs.Tryz.func161, by kernel_rfl, by kernel_rfl, by kernel_rfl, by kernel_rfl, by kernel_rfl⟩

noncomputable def c202 : CC := (.seq (.ops [⟨none, (some 2), (.box 49 (.tmp 0))⟩, ⟨none, (some 3), (.mv (.const (.string (.mk #[]))))⟩])
 (.seq (.draw 1 (opsOf (sub (bodyOf Go.Proofs.Tryz.f202) [1, 0])) [⟨none, (some 4), (.call 182 [(.const (.int .u8 1))])⟩, ⟨none, (some 5), (.load1 (.tmp 1))⟩, ⟨none, (some 6), (.loadN 5 (.tmp 2))⟩, ⟨none, (some 7), (.callv (.tmp 5) [(.tmp 6)])⟩, ⟨none, (some 8), (.sop .add (.tmp 4) (.tmp 7))⟩, ⟨none, (some 3), (.mv (.tmp 8))⟩])
 .ret))
abbrev r202 : List RV := [(.tmp 3)]
theorem F202 : FnOk Go.Proofs.Tryz.prog 202 9 c202 r202 := ⟨_, Go.Proofs.Tryz.func202, by kernel_rfl, by kernel_rfl, by kernel_rfl, by kernel_rfl, by kernel_rfl⟩

noncomputable def c203 : CC := (.seq (.ops [⟨none, (some 3), (.alloc 49 (.agg #[(.string (.mk #[])), (.int .u64 0), (.int .u32 0), (.int .u64 0), (.string (.mk #[]))]))⟩])
 (.seq (.seq (.ops [⟨none, (some 4), (.mv (.tmp 0))⟩, ⟨none, (some 5), (.call 167 [(.tmp 4)])⟩, ⟨none, (some 6), (.iop .neq (.tmp 5) (.const (.int .u8 1)))⟩])
 (.cond (.tmp 6)
 (.ops [⟨none, (some 7), (.mv (.tmp 0))⟩, ⟨none, (some 8), (.call 169 [(.tmp 7), (.const (.int .i64 4))])⟩])
 .skip))
 (.seq (.ops [⟨none, (some 9), (.load1 (.tmp 1))⟩, ⟨none, (some 10), (.mv (.tmp 0))⟩, ⟨none, (some 11), (.callv (.tmp 9) [(.tmp 10)])⟩, ⟨none, none, (.storeN 5 (.tmp 3) (.tmp 11))⟩])
 .ret)))
abbrev r203 : List RV := [(.cN 3 5)]
theorem F203 : FnOk Go.Proofs.Tryz.prog 203 12 c203 r203 := ⟨_, Go.Proofs.Tryz.func203, by kernel_rfl, by kernel_rfl, by kernel_rfl, by kernel_rfl, by kernel_rfl⟩

end Go.VrB
