import Derived.Test.YtbkddpckkgbbmaaGreatDoorProg
import Derived.Test.YtbkddpckkgbbmaaGreatDoorVcI
set_option linter.unusedSimpArgs false
set_option linter.unusedVariables false
set_option linter.unusedSectionVars false
set_option linter.unnecessarySimpa false
namespace Go.VrF
open Go Go.Vc
set_option maxRecDepth 100000
noncomputable def c5 : CC:=(.seq (.ops [⟨none,some 4,.box 66 (.tmp 1)⟩,⟨none,some 6,.mv (.const (.bool false))⟩])
 (.seq (.seq (.ops [⟨none,some 16,.call 9 []⟩,⟨none,some 17,.not (.tmp 16)⟩])
 (.cond (.tmp 17)
 (.seq (.ops [⟨none,some 6,.mv (.const (.bool false))⟩])
 .ret)
 .skip))
 (.seq (.seq (.ops [⟨none,some 18,.mv (.tmp 0)⟩,⟨none,some 19,.call 28 [.tmp 18,.const (.int .i64 20)]⟩,⟨none,some 20,.not (.tmp 19)⟩,⟨none,some 21,.mv (.tmp 20)⟩,⟨some (21,false),some 22,.loadN 10 (.tmp 4)⟩,⟨some (21,false),some 23,.buildS 66 1 [.int .i64 0,.string (.mk #[]),.int .u32 0,.int .u64 0,.int .u32 0,.string (.mk #[]),.string (.mk #[]),.int .i64 0,.string (.mk #[]),.string (.mk #[])] [(0,(10,.tmp 22))]⟩,⟨some (21,false),some 24,.call 28 [.tmp 23,.const (.int .i64 1)]⟩,⟨some (21,false),some 25,.not (.tmp 24)⟩,⟨none,some 26,.pick (.tmp 21) (.const (.bool true)) (.tmp 25)⟩])
 (.cond (.tmp 26)
 (.seq (.ops [⟨none,some 6,.mv (.const (.bool true))⟩])
 .ret)
 .skip))
 (.seq (.ops [⟨none,some 27,.call 12 [.const (.slice none 0 0)]⟩,⟨none,some 28,.call 12 [.const (.slice none 0 0)]⟩,⟨none,some 7,.mv (.tmp 27)⟩,⟨none,some 8,.mv (.tmp 28)⟩])
 (.seq (.ops [⟨none,some 29,.build [.slice none 0 0,.slice none 0 0,.slice none 0 0] []⟩,⟨none,some 30,.box 73 (.tmp 29)⟩,⟨none,some 9,.mv (.tmp 30)⟩])
 (.seq (.seq (.ops [⟨none,some 31,.mv (.tmp 0)⟩,⟨none,some 32,.lenL (.tmp 31)⟩,⟨none,some 33,.mv (.const (.int .i64 0))⟩])
 (.block 0
 (.loop
 (.seq (.ops [⟨none,some 34,.iop .lss (.tmp 33) (.tmp 32)⟩])
 (.seq (.cond (.tmp 34)
 .skip
 (.exit 0))
 (.seq (.block 1
 (.seq (.ops [⟨none,some 35,.iaddr 10 (.tmp 31) (.tmp 33)⟩,⟨none,some 36,.loadN 10 (.tmp 35)⟩,⟨none,some 11,.alloc 66 (.agg #[.int .i64 0,.string (.mk #[]),.int .u32 0,.int .u64 0,.int .u32 0,.string (.mk #[]),.string (.mk #[]),.int .i64 0,.string (.mk #[]),.string (.mk #[])])⟩,⟨none,none,.storeN 10 (.tmp 11) (.tmp 36)⟩])
 (.seq (.ops [⟨none,some 37,.mv (.tmp 7)⟩,⟨none,some 38,.mkI 26 (.tmp 37)⟩,⟨none,some 39,.mv (.tmp 9)⟩,⟨none,some 40,.loadN 10 (.tmp 11)⟩,⟨none,some 41,.call 29 [.tmp 38,.tmp 39,.tmp 40]⟩])
 (.ops [⟨none,some 42,.mv (.tmp 8)⟩,⟨none,some 43,.mkI 26 (.tmp 42)⟩,⟨none,some 44,.mv (.tmp 9)⟩,⟨none,some 45,.loadN 10 (.tmp 11)⟩,⟨none,some 46,.call 29 [.tmp 43,.tmp 44,.tmp 45]⟩]))))
 (.ops [⟨none,some 47,.iop .add (.tmp 33) (.const (.int .i64 1))⟩,⟨none,some 33,.mv (.tmp 47)⟩])))))))
 (.seq (.ops [⟨none,some 48,.mv (.tmp 2)⟩,⟨none,some 49,.iop .rem (.tmp 48) (.const (.int .u8 12))⟩,⟨none,some 50,.conv .i64 (.tmp 49)⟩,⟨none,some 12,.alloc 3 (.int .i64 0)⟩,⟨none,none,.store1 (.tmp 12) (.tmp 50)⟩])
 (.seq (.ops [⟨none,some 51,.mv (.tmp 7)⟩,⟨none,some 52,.build [.pointer none,.pointer none] [(0,(1,.tmp 51)),(1,(1,.tmp 12))]⟩,⟨none,some 13,.alloc 77 (.agg #[.pointer none,.pointer none])⟩,⟨none,none,.storeN 2 (.tmp 13) (.tmp 52)⟩])
 (.seq (.ops [⟨none,some 14,.mv (.const (.int .i64 0))⟩,⟨none,some 15,.mv (.const (.int .i64 0))⟩])
 (.seq (.seq (.ops [⟨none,some 53,.faddr 0 (.tmp 4)⟩,⟨none,some 54,.load1 (.tmp 53)⟩,⟨none,some 55,.iop .rem (.tmp 54) (.const (.int .i64 4))⟩])
 (.block 2
 (.seq (.seq (.ops [⟨none,some 67,.iop .eql (.tmp 55) (.const (.int .i64 1))⟩,⟨none,some 66,.mv (.tmp 67)⟩])
 (.cond (.tmp 66)
 .skip
 (.ops [⟨none,some 68,.iop .eql (.tmp 55) (.const (.int .i64 (-1)))⟩,⟨none,some 66,.mv (.tmp 68)⟩])))
 (.cond (.tmp 66)
 (.draw 20 (opsOf (sub (bodyOf Go.Proofs.Tryz.f5) [1,1,1,1,1,1,1,1,1,0,1,0,1,0])) [⟨none,some 69,.loadN 2 (.tmp 13)⟩,⟨none,some 70,.mkI 77 (.tmp 69)⟩,⟨none,some 71,.faddr 1 (.tmp 4)⟩,⟨none,some 72,.faddr 0 (.tmp 71)⟩,⟨none,some 73,.load1 (.tmp 72)⟩,⟨none,some 74,.call 30 [.tmp 70,.tmp 73]⟩,⟨none,some 75,.mv (.tmp 8)⟩,⟨none,some 76,.mkI 26 (.tmp 75)⟩,⟨none,some 77,.faddr 1 (.tmp 4)⟩,⟨none,some 78,.faddr 0 (.tmp 77)⟩,⟨none,some 79,.load1 (.tmp 78)⟩,⟨none,some 80,.call 30 [.tmp 76,.tmp 79]⟩,⟨none,some 14,.mv (.tmp 74)⟩,⟨none,some 15,.mv (.tmp 80)⟩])
 (.seq (.seq (.ops [⟨none,some 82,.iop .eql (.tmp 55) (.const (.int .i64 2))⟩,⟨none,some 81,.mv (.tmp 82)⟩])
 (.cond (.tmp 81)
 .skip
 (.ops [⟨none,some 83,.iop .eql (.tmp 55) (.const (.int .i64 (-2)))⟩,⟨none,some 81,.mv (.tmp 83)⟩])))
 (.cond (.tmp 81)
 (.draw 23 (opsOf (sub (bodyOf Go.Proofs.Tryz.f5) [1,1,1,1,1,1,1,1,1,0,1,0,1,1,1,0])) [⟨none,some 84,.loadN 2 (.tmp 13)⟩,⟨none,some 85,.mkI 77 (.tmp 84)⟩,⟨none,some 86,.faddr 6 (.tmp 4)⟩,⟨none,some 87,.loadN 4 (.tmp 86)⟩,⟨none,some 88,.call 31 [.tmp 85,.tmp 87]⟩,⟨none,some 89,.mv (.tmp 8)⟩,⟨none,some 90,.mkI 26 (.tmp 89)⟩,⟨none,some 91,.faddr 6 (.tmp 4)⟩,⟨none,some 92,.loadN 4 (.tmp 91)⟩,⟨none,some 93,.call 31 [.tmp 90,.tmp 92]⟩,⟨none,some 14,.mv (.tmp 88)⟩,⟨none,some 15,.mv (.tmp 93)⟩])
 (.seq (.seq (.ops [⟨none,some 95,.iop .eql (.tmp 55) (.const (.int .i64 3))⟩,⟨none,some 94,.mv (.tmp 95)⟩])
 (.cond (.tmp 94)
 .skip
 (.ops [⟨none,some 96,.iop .eql (.tmp 55) (.const (.int .i64 (-3)))⟩,⟨none,some 94,.mv (.tmp 96)⟩])))
 (.cond (.tmp 94)
 (.seq (.ops [⟨none,some 98,.loadN 2 (.tmp 13)⟩,⟨none,some 99,.mkI 77 (.tmp 98)⟩,⟨none,some 100,.faddr 6 (.tmp 4)⟩,⟨none,some 101,.faddr 0 (.tmp 100)⟩,⟨none,some 102,.load1 (.tmp 101)⟩,⟨none,some 103,.faddr 6 (.tmp 4)⟩,⟨none,some 104,.faddr 2 (.tmp 103)⟩,⟨none,some 105,.load1 (.tmp 104)⟩,⟨none,some 106,.call 32 [.tmp 99,.tmp 102,.tmp 105]⟩,⟨none,some 97,.mv (.tmp 106)⟩,⟨none,some 107,.ext (.tmp 97) 0⟩,⟨none,some 108,.ext (.tmp 97) 1⟩,⟨none,some 14,.mv (.tmp 108)⟩])
 (.ops [⟨none,some 110,.mv (.tmp 8)⟩,⟨none,some 111,.mkI 26 (.tmp 110)⟩,⟨none,some 112,.faddr 6 (.tmp 4)⟩,⟨none,some 113,.faddr 0 (.tmp 112)⟩,⟨none,some 114,.load1 (.tmp 113)⟩,⟨none,some 115,.faddr 6 (.tmp 4)⟩,⟨none,some 116,.faddr 2 (.tmp 115)⟩,⟨none,some 117,.load1 (.tmp 116)⟩,⟨none,some 118,.call 32 [.tmp 111,.tmp 114,.tmp 117]⟩,⟨none,some 109,.mv (.tmp 118)⟩,⟨none,some 119,.ext (.tmp 109) 0⟩,⟨none,some 120,.ext (.tmp 109) 1⟩,⟨none,some 15,.mv (.tmp 120)⟩]))
 (.draw 17 (opsOf (sub (bodyOf Go.Proofs.Tryz.f5) [1,1,1,1,1,1,1,1,1,0,1,0,1,1,1,1,1,1])) [⟨none,some 56,.loadN 2 (.tmp 13)⟩,⟨none,some 57,.mkI 77 (.tmp 56)⟩,⟨none,some 58,.faddr 1 (.tmp 4)⟩,⟨none,some 59,.loadN 5 (.tmp 58)⟩,⟨none,some 60,.call 16 [.tmp 57,.tmp 59]⟩,⟨none,some 61,.mv (.tmp 8)⟩,⟨none,some 62,.mkI 26 (.tmp 61)⟩,⟨none,some 63,.faddr 1 (.tmp 4)⟩,⟨none,some 64,.loadN 5 (.tmp 63)⟩,⟨none,some 65,.call 16 [.tmp 62,.tmp 64]⟩,⟨none,some 14,.mv (.tmp 60)⟩,⟨none,some 15,.mv (.tmp 65)⟩])))))))))
 (.seq (.seq (.ops [⟨none,some 121,.load1 (.tmp 12)⟩,⟨none,some 122,.iop .lss (.tmp 121) (.const (.int .i64 0))⟩])
 (.cond (.tmp 122)
 (.seq (.ops [⟨none,some 123,.mv (.tmp 14)⟩,⟨none,some 124,.iop .eql (.tmp 123) (.const (.int .i64 10))⟩,⟨none,some 125,.mv (.tmp 124)⟩,⟨some (125,false),some 126,.mv (.tmp 14)⟩,⟨some (125,false),some 127,.iop .eql (.tmp 126) (.const (.int .i64 14))⟩,⟨none,some 128,.pick (.tmp 125) (.const (.bool true)) (.tmp 127)⟩,⟨none,some 6,.mv (.tmp 128)⟩])
 .ret)
 .skip))
 (.seq (.ops [⟨none,some 129,.mv (.tmp 14)⟩,⟨none,some 130,.mv (.tmp 15)⟩,⟨none,some 131,.iop .eql (.tmp 129) (.tmp 130)⟩,⟨none,some 6,.mv (.tmp 131)⟩])
 .ret))))))))))))
abbrev r5 : List RV:=[(.tmp 6)]
theorem F5 : FnOk Go.Proofs.Tryz.prog 5 132 c5 r5:=⟨_,Go.Proofs.Tryz.func5,by kernel_rfl,by kernel_rfl,by kernel_rfl,by kernel_rfl,by kernel_rfl⟩
noncomputable def c28 : CC:=(.seq (.ops [⟨none,some 4,.mv (.const (.bool false))⟩])
 (.seq (.seq (.ops [⟨none,some 7,.mv (.tmp 0)⟩,⟨none,some 8,.lenL (.tmp 7)⟩,⟨none,some 9,.mv (.const (.int .i64 0))⟩])
 (.block 0
 (.loop
 (.seq (.ops [⟨none,some 10,.iop .lss (.tmp 9) (.tmp 8)⟩])
 (.seq (.cond (.tmp 10)
 .skip
 (.exit 0))
 (.seq (.block 1
 (.seq (.ops [⟨none,some 11,.iaddr 10 (.tmp 7) (.tmp 9)⟩,⟨none,some 12,.loadN 10 (.tmp 11)⟩,⟨none,some 6,.alloc 66 (.agg #[.int .i64 0,.string (.mk #[]),.int .u32 0,.int .u64 0,.int .u32 0,.string (.mk #[]),.string (.mk #[]),.int .i64 0,.string (.mk #[]),.string (.mk #[])])⟩,⟨none,none,.storeN 10 (.tmp 6) (.tmp 12)⟩])
 (.seq (.ops [⟨none,some 13,.mv (.tmp 0)⟩,⟨none,some 14,.lenL (.tmp 13)⟩,⟨none,some 15,.mv (.tmp 1)⟩,⟨none,some 16,.iop .gtr (.tmp 14) (.tmp 15)⟩,⟨none,some 17,.mv (.tmp 16)⟩,⟨some (17,false),some 18,.faddr 1 (.tmp 6)⟩,⟨some (17,false),some 19,.faddr 0 (.tmp 18)⟩,⟨some (17,false),some 20,.load1 (.tmp 19)⟩,⟨some (17,false),some 21,.lenS (.tmp 20)⟩,⟨some (17,false),some 22,.faddr 1 (.tmp 6)⟩,⟨some (17,false),some 23,.faddr 4 (.tmp 22)⟩,⟨some (17,false),some 24,.load1 (.tmp 23)⟩,⟨some (17,false),some 25,.lenS (.tmp 24)⟩,⟨some (17,false),some 26,.faddr 6 (.tmp 6)⟩,⟨some (17,false),some 27,.faddr 0 (.tmp 26)⟩,⟨some (17,false),some 28,.load1 (.tmp 27)⟩,⟨some (17,false),some 29,.lenS (.tmp 28)⟩,⟨some (17,false),some 30,.faddr 6 (.tmp 6)⟩,⟨some (17,false),some 31,.faddr 2 (.tmp 30)⟩,⟨some (17,false),some 32,.load1 (.tmp 31)⟩,⟨some (17,false),some 33,.lenS (.tmp 32)⟩,⟨some (17,false),some 34,.faddr 6 (.tmp 6)⟩,⟨some (17,false),some 35,.faddr 3 (.tmp 34)⟩,⟨some (17,false),some 36,.load1 (.tmp 35)⟩,⟨some (17,false),some 37,.lenS (.tmp 36)⟩,⟨some (17,false),some 38,.raw 42 (.mk (some 38) (.call (.mk (.builtin .max) #[.tmp 21,.tmp 25,.tmp 29,.tmp 33,.tmp 37] #[3,3,3,3,3])) 3 "law.go:40" #[.mk 8 .data,.mk 12 .data,.mk 16 .data,.mk 20 .data,.mk 24 .data,.mk 4 .guard] (some (4,false)))⟩,⟨some (17,false),some 39,.iop .gtr (.tmp 38) (.const (.int .i64 400))⟩,⟨none,some 40,.pick (.tmp 17) (.const (.bool true)) (.tmp 39)⟩])
 (.cond (.tmp 40)
 (.seq (.ops [⟨none,some 4,.mv (.const (.bool false))⟩])
 .ret)
 .skip))))
 (.ops [⟨none,some 41,.iop .add (.tmp 9) (.const (.int .i64 1))⟩,⟨none,some 9,.mv (.tmp 41)⟩])))))))
 (.seq (.ops [⟨none,some 4,.mv (.const (.bool true))⟩])
 .ret)))
abbrev r28 : List RV:=[(.tmp 4)]
theorem F28 : FnOk Go.Proofs.Tryz.prog 28 42 c28 r28:=⟨_,Go.Proofs.Tryz.func28,by kernel_rfl,by kernel_rfl,by kernel_rfl,by kernel_rfl,by kernel_rfl⟩
noncomputable def c29 : CC:=(.seq (.ops [⟨none,some 5,.box 66 (.tmp 2)⟩,⟨none,some 6,.mv (.const (.bool false))⟩])
 (.seq (.seq (.ops [⟨none,some 15,.faddr 0 (.tmp 5)⟩,⟨none,some 16,.load1 (.tmp 15)⟩,⟨none,some 17,.iop .rem (.tmp 16) (.const (.int .i64 6))⟩])
 (.block 0
 (.seq (.seq (.ops [⟨none,some 19,.iop .eql (.tmp 17) (.const (.int .i64 1))⟩,⟨none,some 18,.mv (.tmp 19)⟩])
 (.cond (.tmp 18)
 .skip
 (.ops [⟨none,some 20,.iop .eql (.tmp 17) (.const (.int .i64 (-1)))⟩,⟨none,some 18,.mv (.tmp 20)⟩])))
 (.cond (.tmp 18)
 (.seq (.draw 4 (opsOf (sub (bodyOf Go.Proofs.Tryz.f29) [1,0,1,0,1,0,0])) [⟨none,some 21,.mv (.tmp 0)⟩,⟨none,some 22,.faddr 1 (.tmp 5)⟩,⟨none,some 23,.faddr 0 (.tmp 22)⟩,⟨none,some 24,.load1 (.tmp 23)⟩,⟨none,some 25,.call 30 [.tmp 21,.tmp 24]⟩,⟨none,some 26,.mv (.tmp 1)⟩,⟨none,some 27,.faddr 1 (.tmp 5)⟩,⟨none,some 28,.faddr 0 (.tmp 27)⟩,⟨none,some 29,.load1 (.tmp 28)⟩,⟨none,some 30,.call 72 [.tmp 26,.tmp 29]⟩,⟨none,some 31,.iop .eql (.tmp 25) (.tmp 30)⟩,⟨none,some 6,.mv (.tmp 31)⟩])
 .ret)
 (.seq (.seq (.ops [⟨none,some 33,.iop .eql (.tmp 17) (.const (.int .i64 2))⟩,⟨none,some 32,.mv (.tmp 33)⟩])
 (.cond (.tmp 32)
 .skip
 (.ops [⟨none,some 34,.iop .eql (.tmp 17) (.const (.int .i64 (-2)))⟩,⟨none,some 32,.mv (.tmp 34)⟩])))
 (.cond (.tmp 32)
 (.seq (.draw 7 (opsOf (sub (bodyOf Go.Proofs.Tryz.f29) [1,0,1,0,1,1,1,0,0])) [⟨none,some 35,.mv (.tmp 0)⟩,⟨none,some 36,.faddr 6 (.tmp 5)⟩,⟨none,some 37,.loadN 4 (.tmp 36)⟩,⟨none,some 38,.call 31 [.tmp 35,.tmp 37]⟩,⟨none,some 39,.mv (.tmp 1)⟩,⟨none,some 40,.faddr 6 (.tmp 5)⟩,⟨none,some 41,.loadN 4 (.tmp 40)⟩,⟨none,some 42,.call 73 [.tmp 39,.tmp 41]⟩,⟨none,some 43,.iop .eql (.tmp 38) (.tmp 42)⟩,⟨none,some 6,.mv (.tmp 43)⟩])
 .ret)
 (.seq (.seq (.ops [⟨none,some 45,.iop .eql (.tmp 17) (.const (.int .i64 3))⟩,⟨none,some 44,.mv (.tmp 45)⟩])
 (.cond (.tmp 44)
 .skip
 (.ops [⟨none,some 46,.iop .eql (.tmp 17) (.const (.int .i64 (-3)))⟩,⟨none,some 44,.mv (.tmp 46)⟩])))
 (.cond (.tmp 44)
 (.seq (.draw 10 (opsOf (sub (bodyOf Go.Proofs.Tryz.f29) [1,0,1,0,1,1,1,1,1,0,0])) [⟨none,some 47,.mv (.tmp 0)⟩,⟨none,some 48,.faddr 6 (.tmp 5)⟩,⟨none,some 49,.loadN 4 (.tmp 48)⟩,⟨none,some 50,.call 74 [.tmp 47,.tmp 49]⟩,⟨none,some 51,.mv (.tmp 1)⟩,⟨none,some 52,.faddr 6 (.tmp 5)⟩,⟨none,some 53,.loadN 4 (.tmp 52)⟩,⟨none,some 54,.call 75 [.tmp 51,.tmp 53]⟩,⟨none,some 55,.iop .eql (.tmp 50) (.tmp 54)⟩,⟨none,some 6,.mv (.tmp 55)⟩])
 .ret)
 (.seq (.seq (.ops [⟨none,some 57,.iop .eql (.tmp 17) (.const (.int .i64 4))⟩,⟨none,some 56,.mv (.tmp 57)⟩])
 (.cond (.tmp 56)
 .skip
 (.ops [⟨none,some 58,.iop .eql (.tmp 17) (.const (.int .i64 (-4)))⟩,⟨none,some 56,.mv (.tmp 58)⟩])))
 (.cond (.tmp 56)
 (.seq (.ops [⟨none,some 60,.mv (.tmp 0)⟩,⟨none,some 61,.faddr 6 (.tmp 5)⟩,⟨none,some 62,.faddr 0 (.tmp 61)⟩,⟨none,some 63,.load1 (.tmp 62)⟩,⟨none,some 64,.faddr 6 (.tmp 5)⟩,⟨none,some 65,.faddr 2 (.tmp 64)⟩,⟨none,some 66,.load1 (.tmp 65)⟩,⟨none,some 67,.call 32 [.tmp 60,.tmp 63,.tmp 66]⟩,⟨none,some 59,.mv (.tmp 67)⟩,⟨none,some 68,.ext (.tmp 59) 0⟩,⟨none,some 69,.ext (.tmp 59) 1⟩,⟨none,some 7,.mv (.tmp 68)⟩,⟨none,some 8,.mv (.tmp 69)⟩])
 (.seq (.ops [⟨none,some 71,.mv (.tmp 1)⟩,⟨none,some 72,.faddr 6 (.tmp 5)⟩,⟨none,some 73,.faddr 0 (.tmp 72)⟩,⟨none,some 74,.load1 (.tmp 73)⟩,⟨none,some 75,.faddr 6 (.tmp 5)⟩,⟨none,some 76,.faddr 2 (.tmp 75)⟩,⟨none,some 77,.load1 (.tmp 76)⟩,⟨none,some 78,.call 76 [.tmp 71,.tmp 74,.tmp 77]⟩,⟨none,some 70,.mv (.tmp 78)⟩,⟨none,some 79,.ext (.tmp 70) 0⟩,⟨none,some 80,.ext (.tmp 70) 1⟩,⟨none,some 9,.mv (.tmp 79)⟩,⟨none,some 10,.mv (.tmp 80)⟩])
 (.seq (.ops [⟨none,some 81,.mv (.tmp 7)⟩,⟨none,some 82,.mv (.tmp 9)⟩,⟨none,some 83,.call 77 [.tmp 81,.tmp 82]⟩,⟨none,some 84,.mv (.tmp 83)⟩,⟨some (84,true),some 85,.mv (.tmp 8)⟩,⟨some (84,true),some 86,.mv (.tmp 10)⟩,⟨some (84,true),some 87,.iop .eql (.tmp 85) (.tmp 86)⟩,⟨none,some 88,.pick (.tmp 84) (.tmp 87) (.const (.bool false))⟩,⟨none,some 6,.mv (.tmp 88)⟩])
 .ret)))
 (.seq (.seq (.ops [⟨none,some 90,.iop .eql (.tmp 17) (.const (.int .i64 5))⟩,⟨none,some 89,.mv (.tmp 90)⟩])
 (.cond (.tmp 89)
 .skip
 (.ops [⟨none,some 91,.iop .eql (.tmp 17) (.const (.int .i64 (-5)))⟩,⟨none,some 89,.mv (.tmp 91)⟩])))
 (.cond (.tmp 89)
 (.seq (.ops [⟨none,some 93,.mv (.tmp 0)⟩,⟨none,some 94,.faddr 1 (.tmp 5)⟩,⟨none,some 95,.faddr 0 (.tmp 94)⟩,⟨none,some 96,.load1 (.tmp 95)⟩,⟨none,some 97,.call 14 [.tmp 93,.tmp 96]⟩,⟨none,some 92,.mv (.tmp 97)⟩,⟨none,some 98,.ext (.tmp 92) 0⟩,⟨none,some 99,.ext (.tmp 92) 1⟩,⟨none,some 11,.mv (.tmp 98)⟩,⟨none,some 12,.mv (.tmp 99)⟩])
 (.seq (.ops [⟨none,some 101,.mv (.tmp 1)⟩,⟨none,some 102,.faddr 1 (.tmp 5)⟩,⟨none,some 103,.faddr 0 (.tmp 102)⟩,⟨none,some 104,.load1 (.tmp 103)⟩,⟨none,some 105,.call 78 [.tmp 101,.tmp 104]⟩,⟨none,some 100,.mv (.tmp 105)⟩,⟨none,some 106,.ext (.tmp 100) 0⟩,⟨none,some 107,.ext (.tmp 100) 1⟩,⟨none,some 13,.mv (.tmp 106)⟩,⟨none,some 14,.mv (.tmp 107)⟩])
 (.seq (.ops [⟨none,some 108,.mv (.tmp 11)⟩,⟨none,some 109,.mv (.tmp 13)⟩,⟨none,some 110,.iop .eql (.tmp 108) (.tmp 109)⟩,⟨none,some 111,.mv (.tmp 110)⟩,⟨some (111,true),some 112,.mv (.tmp 12)⟩,⟨some (111,true),some 113,.mv (.tmp 14)⟩,⟨some (111,true),some 114,.iop .eql (.tmp 112) (.tmp 113)⟩,⟨none,some 115,.pick (.tmp 111) (.tmp 114) (.const (.bool false))⟩,⟨none,some 6,.mv (.tmp 115)⟩])
 .ret)))
 .skip))))))))))))
 (.seq (.draw 21 (opsOf (sub (bodyOf Go.Proofs.Tryz.f29) [1,1,0])) [⟨none,some 116,.mv (.tmp 0)⟩,⟨none,some 117,.faddr 1 (.tmp 5)⟩,⟨none,some 118,.loadN 5 (.tmp 117)⟩,⟨none,some 119,.call 16 [.tmp 116,.tmp 118]⟩,⟨none,some 120,.mv (.tmp 1)⟩,⟨none,some 121,.faddr 1 (.tmp 5)⟩,⟨none,some 122,.loadN 5 (.tmp 121)⟩,⟨none,some 123,.call 79 [.tmp 120,.tmp 122]⟩,⟨none,some 124,.iop .eql (.tmp 119) (.tmp 123)⟩,⟨none,some 6,.mv (.tmp 124)⟩])
 .ret)))
abbrev r29 : List RV:=[(.tmp 6)]
theorem F29 : FnOk Go.Proofs.Tryz.prog 29 125 c29 r29:=⟨_,Go.Proofs.Tryz.func29,by kernel_rfl,by kernel_rfl,by kernel_rfl,by kernel_rfl,by kernel_rfl⟩
noncomputable def c30 : CC:=(.seq (.ops [⟨none,some 3,.box 9 (.tmp 1)⟩,⟨none,some 4,.alloc 23 (.int .i64 0)⟩])
 (.seq (.seq (.ops [⟨none,some 19,.mv (.tmp 0)⟩,⟨none,some 20,.load1 (.tmp 3)⟩,⟨none,some 21,.call 13 [.tmp 19,.tmp 20]⟩,⟨none,some 18,.mv (.tmp 21)⟩,⟨none,some 22,.ext (.tmp 18) 0⟩,⟨none,some 23,.ext (.tmp 18) 1⟩,⟨none,some 5,.alloc 33 (.agg #[.string (.mk #[]),.int .u32 0,.int .u64 0,.int .u32 0,.string (.mk #[])])⟩,⟨none,none,.storeN 5 (.tmp 5) (.tmp 22)⟩,⟨none,some 6,.mv (.tmp 23)⟩])
 (.seq (.ops [⟨none,some 24,.mv (.tmp 6)⟩,⟨none,some 25,.iop .neq (.tmp 24) (.const (.int .i64 0))⟩])
 (.cond (.tmp 25)
 (.seq (.ops [⟨none,some 26,.mv (.tmp 6)⟩,⟨none,none,.store1 (.tmp 4) (.tmp 26)⟩])
 .ret)
 .skip)))
 (.seq (.ops [⟨none,some 7,.alloc 80 (.slice none 0 0)⟩])
 (.seq (.seq (.ops [⟨none,some 27,.mv (.tmp 0)⟩,⟨none,some 28,(.call 80 [.tmp 27,(.func 81),.const (.string (.mk #[98])),.const (.slice none 0 0)])⟩])
 (.block 0
 (.range (.tmp 28) #[29,30] (sub (bodyOf Go.Proofs.Tryz.f30) [1,1,1,0,1,0,0]) (sub (bodyOf Go.Proofs.Tryz.f30) [1,1,1,0,1,0,1])
 (.seq (.ops [⟨none,some 8,.alloc 64 (.agg #[.string (.mk #[]),.int .i64 0,.string (.mk #[]),.string (.mk #[])])⟩,⟨none,none,.storeN 4 (.tmp 8) (.tmp 29)⟩])
 (.ops [⟨none,some 9,.mv (.tmp 30)⟩]))
 (.block 1
 (.seq (.seq (.ops [⟨none,some 31,.mv (.tmp 9)⟩,⟨none,some 32,.iop .neq (.tmp 31) (.const (.int .i64 0))⟩])
 (.cond (.tmp 32)
 (.seq (.ops [⟨none,some 33,.mv (.tmp 9)⟩,⟨none,none,.store1 (.tmp 4) (.tmp 33)⟩])
 .ret)
 .skip))
 (.seq (.ops [⟨none,some 34,.faddr 3 (.tmp 8)⟩,⟨none,some 35,.load1 (.tmp 34)⟩,⟨none,some 36,.load1 (.tmp 3)⟩,⟨none,some 37,.sop .eql (.tmp 35) (.tmp 36)⟩])
 (.cond (.tmp 37)
 (.seq (.ops [⟨none,some 39,.loadN 4 (.tmp 8)⟩,⟨none,some 40,.call 82 [.tmp 39]⟩,⟨none,some 38,.mv (.tmp 40)⟩,⟨none,some 41,.ext (.tmp 38) 0⟩,⟨none,some 42,.ext (.tmp 38) 1⟩,⟨none,some 10,.mv (.tmp 41)⟩,⟨none,some 11,.mv (.tmp 42)⟩])
 (.ops [⟨none,some 43,.load1 (.tmp 7)⟩,⟨none,some 44,.mv (.tmp 10)⟩,⟨none,some 45,.buildS 9 1 [.string (.mk #[])] [(0,(1,.tmp 44))]⟩,⟨none,some 46,.raw 71 (.mk (some 46) (.call (.mk (.builtin .append) #[.tmp 43,.tmp 45] #[80,80])) 80 "registry.go:174" #[.mk 0 .data,.mk 2 .data] none)⟩,⟨none,none,.store1 (.tmp 7) (.tmp 46)⟩]))
 .skip)))))))
 (.seq (.ops [⟨none,some 48,.load1 (.tmp 3)⟩,⟨none,some 49,.call 10 [.tmp 48]⟩,⟨none,some 47,.mv (.tmp 49)⟩,⟨none,some 50,.ext (.tmp 47) 0⟩,⟨none,some 51,.ext (.tmp 47) 1⟩,⟨none,some 12,.mv (.tmp 50)⟩,⟨none,some 13,.mv (.tmp 51)⟩])
 (.seq (.seq (.ops [⟨none,some 52,.load1 (.tmp 7)⟩,⟨none,some 53,.mv (.tmp 12)⟩,⟨none,some 54,.buildS 9 1 [.string (.mk #[])] [(0,(1,.tmp 53))]⟩,⟨none,some 55,.raw 71 (.mk (some 55) (.call (.mk (.builtin .append) #[.tmp 52,.tmp 54] #[80,80])) 80 "registry.go:178" #[.mk 0 .data,.mk 2 .data] none)⟩,⟨none,some 56,.lenL (.tmp 55)⟩,⟨none,some 57,.mv (.const (.int .i64 0))⟩])
 (.block 2
 (.loop
 (.seq (.ops [⟨none,some 58,.iop .lss (.tmp 57) (.tmp 56)⟩])
 (.seq (.cond (.tmp 58)
 .skip
 (.exit 2))
 (.seq (.block 3
 (.seq (.ops [⟨none,some 59,.iaddr 1 (.tmp 55) (.tmp 57)⟩,⟨none,some 60,.load1 (.tmp 59)⟩,⟨none,some 15,.mv (.tmp 60)⟩])
 (.seq (.ops [⟨none,some 62,.mv (.tmp 0)⟩,⟨none,some 63,.mv (.tmp 15)⟩,⟨none,some 64,.inv (.tmp 62) "Cut" [.tmp 63]⟩,⟨none,some 61,.mv (.tmp 64)⟩,⟨none,some 65,.ext (.tmp 61) 0⟩,⟨none,some 66,.ext (.tmp 61) 1⟩,⟨none,some 16,.mv (.tmp 65)⟩,⟨none,some 17,.mv (.tmp 66)⟩])
 (.seq (.ops [⟨none,some 67,.mv (.tmp 17)⟩,⟨none,some 68,.iop .neq (.tmp 67) (.const (.int .i64 0))⟩])
 (.cond (.tmp 68)
 (.seq (.ops [⟨none,some 69,.mv (.tmp 17)⟩,⟨none,none,.store1 (.tmp 4) (.tmp 69)⟩])
 .ret)
 .skip)))))
 (.ops [⟨none,some 70,.iop .add (.tmp 57) (.const (.int .i64 1))⟩,⟨none,some 57,.mv (.tmp 70)⟩])))))))
 (.seq (.ops [⟨none,none,.store1 (.tmp 4) (.const (.int .i64 0))⟩])
 .ret)))))))
abbrev r30 : List RV:=[(.c1 4)]
theorem F30 : FnOk Go.Proofs.Tryz.prog 30 71 c30 r30:=⟨_,Go.Proofs.Tryz.func30,by kernel_rfl,by kernel_rfl,by kernel_rfl,by kernel_rfl,by kernel_rfl⟩
noncomputable def c31 : CC:=(.seq (.ops [⟨none,some 3,.box 64 (.tmp 1)⟩,⟨none,some 4,.mv (.const (.int .i64 0))⟩])
 (.seq (.block 0
 (.seq (.ops [⟨none,some 14,.faddr 0 (.tmp 3)⟩,⟨none,some 15,.load1 (.tmp 14)⟩,⟨none,some 16,.call 59 [.tmp 15]⟩,⟨none,some 17,.not (.tmp 16)⟩,⟨none,some 18,.mv (.tmp 17)⟩,⟨some (18,false),some 19,.faddr 3 (.tmp 3)⟩,⟨some (18,false),some 20,.load1 (.tmp 19)⟩,⟨some (18,false),some 21,.call 59 [.tmp 20]⟩,⟨some (18,false),some 22,.not (.tmp 21)⟩,⟨none,some 23,.pick (.tmp 18) (.const (.bool true)) (.tmp 22)⟩,⟨none,some 13,.mv (.tmp 23)⟩])
 (.cond (.tmp 13)
 (.seq (.ops [⟨none,some 4,.mv (.const (.int .i64 23))⟩])
 .ret)
 (.seq (.ops [⟨none,some 25,.faddr 1 (.tmp 3)⟩,⟨none,some 26,.load1 (.tmp 25)⟩,⟨none,some 27,.iop .lss (.tmp 26) (.const (.int .i64 1))⟩,⟨none,some 28,.mv (.tmp 27)⟩,⟨some (28,false),some 29,.faddr 1 (.tmp 3)⟩,⟨some (28,false),some 30,.load1 (.tmp 29)⟩,⟨some (28,false),some 31,.iop .gtr (.tmp 30) (.const (.int .i64 3))⟩,⟨none,some 32,.pick (.tmp 28) (.const (.bool true)) (.tmp 31)⟩,⟨none,some 24,.mv (.tmp 32)⟩])
 (.cond (.tmp 24)
 (.seq (.ops [⟨none,some 4,.mv (.const (.int .i64 11))⟩])
 .ret)
 (.seq (.ops [⟨none,some 34,.faddr 1 (.tmp 3)⟩,⟨none,some 35,.load1 (.tmp 34)⟩,⟨none,some 36,.faddr 2 (.tmp 3)⟩,⟨none,some 37,.load1 (.tmp 36)⟩,⟨none,some 38,.call 83 [.tmp 35,.tmp 37]⟩,⟨none,some 39,.not (.tmp 38)⟩,⟨none,some 33,.mv (.tmp 39)⟩])
 (.cond (.tmp 33)
 (.seq (.ops [⟨none,some 4,.mv (.const (.int .i64 24))⟩])
 .ret)
 .skip)))))))
 (.seq (.seq (.ops [⟨none,some 41,.mv (.tmp 0)⟩,⟨none,some 42,.faddr 3 (.tmp 3)⟩,⟨none,some 43,.load1 (.tmp 42)⟩,⟨none,some 44,.call 13 [.tmp 41,.tmp 43]⟩,⟨none,some 40,.mv (.tmp 44)⟩,⟨none,some 45,.ext (.tmp 40) 0⟩,⟨none,some 46,.ext (.tmp 40) 1⟩,⟨none,some 5,.alloc 33 (.agg #[.string (.mk #[]),.int .u32 0,.int .u64 0,.int .u32 0,.string (.mk #[])])⟩,⟨none,none,.storeN 5 (.tmp 5) (.tmp 45)⟩,⟨none,some 6,.mv (.tmp 46)⟩])
 (.seq (.ops [⟨none,some 47,.mv (.tmp 6)⟩,⟨none,some 48,.iop .neq (.tmp 47) (.const (.int .i64 0))⟩])
 (.cond (.tmp 48)
 (.seq (.ops [⟨none,some 49,.mv (.tmp 6)⟩,⟨none,some 4,.mv (.tmp 49)⟩])
 .ret)
 .skip)))
 (.seq (.seq (.ops [⟨none,some 50,.mv (.tmp 0)⟩,⟨none,some 51,.loadN 4 (.tmp 3)⟩,⟨none,some 52,.call 84 [.tmp 50,.tmp 51]⟩,⟨none,some 7,.mv (.tmp 52)⟩])
 (.seq (.ops [⟨none,some 53,.mv (.tmp 7)⟩,⟨none,some 54,.iop .neq (.tmp 53) (.const (.int .i64 0))⟩])
 (.cond (.tmp 54)
 (.seq (.ops [⟨none,some 55,.mv (.tmp 7)⟩,⟨none,some 4,.mv (.tmp 55)⟩])
 .ret)
 .skip)))
 (.seq (.ops [⟨none,some 57,.loadN 4 (.tmp 3)⟩,⟨none,some 58,.call 82 [.tmp 57]⟩,⟨none,some 56,.mv (.tmp 58)⟩,⟨none,some 59,.ext (.tmp 56) 0⟩,⟨none,some 60,.ext (.tmp 56) 1⟩,⟨none,some 8,.mv (.tmp 59)⟩,⟨none,some 9,.mv (.tmp 60)⟩])
 (.seq (.seq (.ops [⟨none,some 61,.mv (.tmp 9)⟩,⟨none,some 62,.iop .neq (.tmp 61) (.const (.int .i64 0))⟩])
 (.cond (.tmp 62)
 (.seq (.ops [⟨none,some 63,.mv (.tmp 9)⟩,⟨none,some 4,.mv (.tmp 63)⟩])
 .ret)
 .skip))
 (.seq (.seq (.ops [⟨none,some 65,.mv (.tmp 0)⟩,⟨none,some 66,.mv (.tmp 8)⟩,⟨none,some 67,.inv (.tmp 65) "Get" [.tmp 66]⟩,⟨none,some 64,.mv (.tmp 67)⟩,⟨none,some 68,.ext (.tmp 64) 0⟩,⟨none,some 69,.ext (.tmp 64) 1⟩,⟨none,some 70,.ext (.tmp 64) 2⟩,⟨none,some 10,.mv (.tmp 68)⟩,⟨none,some 11,.mv (.tmp 69)⟩,⟨none,some 12,.mv (.tmp 70)⟩])
 (.block 1
 (.seq (.ops [⟨none,some 72,.mv (.tmp 12)⟩,⟨none,some 73,.iop .neq (.tmp 72) (.const (.int .i64 0))⟩,⟨none,some 71,.mv (.tmp 73)⟩])
 (.cond (.tmp 71)
 (.seq (.ops [⟨none,some 74,.mv (.tmp 12)⟩,⟨none,some 4,.mv (.tmp 74)⟩])
 .ret)
 (.seq (.ops [⟨none,some 76,.mv (.tmp 11)⟩,⟨none,some 75,.mv (.tmp 76)⟩])
 (.cond (.tmp 75)
 (.seq (.ops [⟨none,some 4,.mv (.const (.int .i64 22))⟩])
 .ret)
 .skip))))))
 (.seq (.ops [⟨none,some 77,.mv (.tmp 0)⟩,⟨none,some 78,.mv (.tmp 8)⟩,⟨none,some 79,.inv (.tmp 77) "Put" [.tmp 78,.const (.string (.mk #[]))]⟩,⟨none,some 4,.mv (.tmp 79)⟩])
 .ret))))))))
abbrev r31 : List RV:=[(.tmp 4)]
theorem F31 : FnOk Go.Proofs.Tryz.prog 31 80 c31 r31:=⟨_,Go.Proofs.Tryz.func31,by kernel_rfl,by kernel_rfl,by kernel_rfl,by kernel_rfl,by kernel_rfl⟩
noncomputable def c72 : CC:=(.seq (.ops [⟨none,some 4,.mv (.const (.int .i64 0))⟩])
 (.seq (.seq (.ops [⟨none,some 11,.mv (.tmp 0)⟩,⟨none,some 12,.mv (.tmp 1)⟩,⟨none,some 13,.call 92 [.tmp 11,.tmp 12]⟩,⟨none,some 14,.iop .lss (.tmp 13) (.const (.int .i64 0))⟩])
 (.cond (.tmp 14)
 (.seq (.ops [⟨none,some 4,.mv (.const (.int .i64 21))⟩])
 .ret)
 .skip))
 (.seq (.ops [⟨none,some 5,.mv (.const (.slice none 0 0))⟩])
 (.seq (.seq (.ops [⟨none,some 15,.mv (.tmp 0)⟩,⟨none,some 16,.nilc (.tmp 15)⟩,⟨none,some 17,.faddr 0 (.tmp 16)⟩,⟨none,some 18,.load1 (.tmp 17)⟩,⟨none,some 19,.lenL (.tmp 18)⟩,⟨none,some 20,.mv (.const (.int .i64 0))⟩])
 (.block 0
 (.loop
 (.seq (.ops [⟨none,some 21,.iop .lss (.tmp 20) (.tmp 19)⟩])
 (.seq (.cond (.tmp 21)
 .skip
 (.exit 0))
 (.seq (.block 1
 (.seq (.ops [⟨none,some 22,.iaddr 5 (.tmp 18) (.tmp 20)⟩,⟨none,some 23,.loadN 5 (.tmp 22)⟩,⟨none,some 7,.alloc 33 (.agg #[.string (.mk #[]),.int .u32 0,.int .u64 0,.int .u32 0,.string (.mk #[])])⟩,⟨none,none,.storeN 5 (.tmp 7) (.tmp 23)⟩])
 (.seq (.ops [⟨none,some 24,.faddr 0 (.tmp 7)⟩,⟨none,some 25,.load1 (.tmp 24)⟩,⟨none,some 26,.mv (.tmp 1)⟩,⟨none,some 27,.sop .neq (.tmp 25) (.tmp 26)⟩])
 (.cond (.tmp 27)
 (.ops [⟨none,some 28,.mv (.tmp 5)⟩,⟨none,some 29,.loadN 5 (.tmp 7)⟩,⟨none,some 30,.buildS 33 1 [.string (.mk #[]),.int .u32 0,.int .u64 0,.int .u32 0,.string (.mk #[])] [(0,(5,.tmp 29))]⟩,⟨none,some 31,.raw 59 (.mk (some 31) (.call (.mk (.builtin .append) #[.tmp 28,.tmp 30] #[69,69])) 69 "ref.go:62" #[.mk 0 .data,.mk 2 .data] none)⟩,⟨none,some 5,.mv (.tmp 31)⟩])
 .skip))))
 (.ops [⟨none,some 32,.iop .add (.tmp 20) (.const (.int .i64 1))⟩,⟨none,some 20,.mv (.tmp 32)⟩])))))))
 (.seq (.ops [⟨none,some 33,.mv (.tmp 0)⟩,⟨none,some 34,.mv (.tmp 5)⟩,⟨none,some 35,.nilc (.tmp 33)⟩,⟨none,some 36,.faddr 0 (.tmp 35)⟩,⟨none,none,.store1 (.tmp 36) (.tmp 34)⟩])
 (.seq (.ops [⟨none,some 8,.mv (.const (.slice none 0 0))⟩])
 (.seq (.seq (.ops [⟨none,some 37,.mv (.tmp 0)⟩,⟨none,some 38,.nilc (.tmp 37)⟩,⟨none,some 39,.faddr 1 (.tmp 38)⟩,⟨none,some 40,.load1 (.tmp 39)⟩,⟨none,some 41,.lenL (.tmp 40)⟩,⟨none,some 42,.mv (.const (.int .i64 0))⟩])
 (.block 2
 (.loop
 (.seq (.ops [⟨none,some 43,.iop .lss (.tmp 42) (.tmp 41)⟩])
 (.seq (.cond (.tmp 43)
 .skip
 (.exit 2))
 (.seq (.block 3
 (.seq (.ops [⟨none,some 44,.iaddr 4 (.tmp 40) (.tmp 42)⟩,⟨none,some 45,.loadN 4 (.tmp 44)⟩,⟨none,some 10,.alloc 64 (.agg #[.string (.mk #[]),.int .i64 0,.string (.mk #[]),.string (.mk #[])])⟩,⟨none,none,.storeN 4 (.tmp 10) (.tmp 45)⟩])
 (.seq (.ops [⟨none,some 46,.faddr 3 (.tmp 10)⟩,⟨none,some 47,.load1 (.tmp 46)⟩,⟨none,some 48,.mv (.tmp 1)⟩,⟨none,some 49,.sop .neq (.tmp 47) (.tmp 48)⟩])
 (.cond (.tmp 49)
 (.ops [⟨none,some 50,.mv (.tmp 8)⟩,⟨none,some 51,.loadN 4 (.tmp 10)⟩,⟨none,some 52,.buildS 64 1 [.string (.mk #[]),.int .i64 0,.string (.mk #[]),.string (.mk #[])] [(0,(4,.tmp 51))]⟩,⟨none,some 53,.raw 59 (.mk (some 53) (.call (.mk (.builtin .append) #[.tmp 50,.tmp 52] #[70,70])) 70 "ref.go:69" #[.mk 0 .data,.mk 2 .data] none)⟩,⟨none,some 8,.mv (.tmp 53)⟩])
 .skip))))
 (.ops [⟨none,some 54,.iop .add (.tmp 42) (.const (.int .i64 1))⟩,⟨none,some 42,.mv (.tmp 54)⟩])))))))
 (.seq (.ops [⟨none,some 55,.mv (.tmp 0)⟩,⟨none,some 56,.mv (.tmp 8)⟩,⟨none,some 57,.nilc (.tmp 55)⟩,⟨none,some 58,.faddr 1 (.tmp 57)⟩,⟨none,none,.store1 (.tmp 58) (.tmp 56)⟩])
 (.seq (.ops [⟨none,some 4,.mv (.const (.int .i64 0))⟩])
 .ret)))))))))
abbrev r72 : List RV:=[(.tmp 4)]
theorem F72 : FnOk Go.Proofs.Tryz.prog 72 59 c72 r72:=⟨_,Go.Proofs.Tryz.func72,by kernel_rfl,by kernel_rfl,by kernel_rfl,by kernel_rfl,by kernel_rfl⟩
noncomputable def c73 : CC:=(.seq (.ops [⟨none,some 3,.box 64 (.tmp 1)⟩,⟨none,some 4,.mv (.const (.int .i64 0))⟩])
 (.seq (.seq (.ops [⟨none,some 10,.faddr 0 (.tmp 3)⟩,⟨none,some 11,.load1 (.tmp 10)⟩,⟨none,some 12,.call 142 [.tmp 11]⟩,⟨none,some 13,.not (.tmp 12)⟩,⟨none,some 14,.mv (.tmp 13)⟩,⟨some (14,false),some 15,.faddr 3 (.tmp 3)⟩,⟨some (14,false),some 16,.load1 (.tmp 15)⟩,⟨some (14,false),some 17,.call 142 [.tmp 16]⟩,⟨some (14,false),some 18,.not (.tmp 17)⟩,⟨none,some 19,.pick (.tmp 14) (.const (.bool true)) (.tmp 18)⟩])
 (.cond (.tmp 19)
 (.seq (.ops [⟨none,some 4,.mv (.const (.int .i64 23))⟩])
 .ret)
 .skip))
 (.seq (.seq (.ops [⟨none,some 20,.faddr 1 (.tmp 3)⟩,⟨none,some 21,.load1 (.tmp 20)⟩,⟨none,some 22,.iop .lss (.tmp 21) (.const (.int .i64 1))⟩,⟨none,some 23,.mv (.tmp 22)⟩,⟨some (23,false),some 24,.faddr 1 (.tmp 3)⟩,⟨some (23,false),some 25,.load1 (.tmp 24)⟩,⟨some (23,false),some 26,.iop .gtr (.tmp 25) (.const (.int .i64 3))⟩,⟨none,some 27,.pick (.tmp 23) (.const (.bool true)) (.tmp 26)⟩])
 (.cond (.tmp 27)
 (.seq (.ops [⟨none,some 4,.mv (.const (.int .i64 11))⟩])
 .ret)
 .skip))
 (.seq (.seq (.ops [⟨none,some 28,.faddr 1 (.tmp 3)⟩,⟨none,some 29,.load1 (.tmp 28)⟩,⟨none,some 30,.faddr 2 (.tmp 3)⟩,⟨none,some 31,.load1 (.tmp 30)⟩,⟨none,some 32,.call 143 [.tmp 29,.tmp 31]⟩,⟨none,some 33,.not (.tmp 32)⟩])
 (.cond (.tmp 33)
 (.seq (.ops [⟨none,some 4,.mv (.const (.int .i64 24))⟩])
 .ret)
 .skip))
 (.seq (.seq (.ops [⟨none,some 34,.mv (.tmp 0)⟩,⟨none,some 35,.faddr 3 (.tmp 3)⟩,⟨none,some 36,.load1 (.tmp 35)⟩,⟨none,some 37,.call 92 [.tmp 34,.tmp 36]⟩,⟨none,some 38,.iop .lss (.tmp 37) (.const (.int .i64 0))⟩])
 (.cond (.tmp 38)
 (.seq (.ops [⟨none,some 4,.mv (.const (.int .i64 21))⟩])
 .ret)
 .skip))
 (.seq (.ops [⟨none,some 5,.mv (.const (.bool false))⟩])
 (.seq (.seq (.ops [⟨none,some 39,.mv (.tmp 0)⟩,⟨none,some 40,.nilc (.tmp 39)⟩,⟨none,some 41,.faddr 1 (.tmp 40)⟩,⟨none,some 42,.load1 (.tmp 41)⟩,⟨none,some 43,.lenL (.tmp 42)⟩,⟨none,some 44,.mv (.const (.int .i64 0))⟩])
 (.block 0
 (.loop
 (.seq (.ops [⟨none,some 45,.iop .lss (.tmp 44) (.tmp 43)⟩])
 (.seq (.cond (.tmp 45)
 .skip
 (.exit 0))
 (.seq (.block 1
 (.seq (.ops [⟨none,some 46,.iaddr 4 (.tmp 42) (.tmp 44)⟩,⟨none,some 47,.loadN 4 (.tmp 46)⟩,⟨none,some 7,.alloc 64 (.agg #[.string (.mk #[]),.int .i64 0,.string (.mk #[]),.string (.mk #[])])⟩,⟨none,none,.storeN 4 (.tmp 7) (.tmp 47)⟩])
 (.seq (.seq (.ops [⟨none,some 48,.faddr 0 (.tmp 7)⟩,⟨none,some 49,.load1 (.tmp 48)⟩,⟨none,some 50,.faddr 0 (.tmp 3)⟩,⟨none,some 51,.load1 (.tmp 50)⟩,⟨none,some 52,.sop .eql (.tmp 49) (.tmp 51)⟩,⟨none,some 53,.mv (.tmp 52)⟩,⟨some (53,true),some 54,.faddr 1 (.tmp 7)⟩,⟨some (53,true),some 55,.load1 (.tmp 54)⟩,⟨some (53,true),some 56,.faddr 1 (.tmp 3)⟩,⟨some (53,true),some 57,.load1 (.tmp 56)⟩,⟨some (53,true),some 58,.iop .neq (.tmp 55) (.tmp 57)⟩,⟨none,some 59,.pick (.tmp 53) (.tmp 58) (.const (.bool false))⟩])
 (.cond (.tmp 59)
 (.seq (.ops [⟨none,some 4,.mv (.const (.int .i64 11))⟩])
 .ret)
 .skip))
 (.ops [⟨none,some 60,.mv (.tmp 5)⟩,⟨none,some 61,.mv (.tmp 60)⟩,⟨some (61,false),some 62,.loadN 4 (.tmp 3)⟩,⟨some (61,false),some 63,.loadN 4 (.tmp 7)⟩,⟨some (61,false),some 64,.raw 98 (.mk (some 64) (.binOp .eql 64 (.tmp 62) (.tmp 63) 64) 4 "ref.go:95" #[.mk 2 .data,.mk 3 .data,.mk 1 .guard] (some (1,false)))⟩,⟨none,some 65,.pick (.tmp 61) (.const (.bool true)) (.tmp 64)⟩,⟨none,some 5,.mv (.tmp 65)⟩]))))
 (.ops [⟨none,some 66,.iop .add (.tmp 44) (.const (.int .i64 1))⟩,⟨none,some 44,.mv (.tmp 66)⟩])))))))
 (.seq (.ops [⟨none,some 68,.loadN 4 (.tmp 3)⟩,⟨none,some 69,.build [.string (.mk #[]),.string (.mk #[]),.int .u64 0,.int .u64 0,.string (.mk #[]),.int .i64 0,.string (.mk #[]),.string (.mk #[]),.string (.mk #[])] [(0,(1,.const (.string (.mk #[98])))),(4,(4,.tmp 68))]⟩,⟨none,some 70,.call 135 [.tmp 69]⟩,⟨none,some 67,.mv (.tmp 70)⟩,⟨none,some 71,.ext (.tmp 67) 0⟩,⟨none,some 72,.ext (.tmp 67) 1⟩,⟨none,some 8,.mv (.tmp 71)⟩,⟨none,some 9,.mv (.tmp 72)⟩])
 (.seq (.seq (.ops [⟨none,some 73,.mv (.tmp 9)⟩,⟨none,some 74,.iop .neq (.tmp 73) (.const (.int .i64 0))⟩])
 (.cond (.tmp 74)
 (.seq (.ops [⟨none,some 75,.mv (.tmp 9)⟩,⟨none,some 4,.mv (.tmp 75)⟩])
 .ret)
 .skip))
 (.seq (.seq (.ops [⟨none,some 76,.mv (.tmp 5)⟩])
 (.cond (.tmp 76)
 (.seq (.ops [⟨none,some 4,.mv (.const (.int .i64 22))⟩])
 .ret)
 .skip))
 (.seq (.draw 22 (opsOf (sub (bodyOf Go.Proofs.Tryz.f73) [1,1,1,1,1,1,1,1,1,1,0])) [⟨none,some 77,.mv (.tmp 0)⟩,⟨none,some 78,.mv (.tmp 0)⟩,⟨none,some 79,.nilc (.tmp 78)⟩,⟨none,some 80,.faddr 1 (.tmp 79)⟩,⟨none,some 81,.load1 (.tmp 80)⟩,⟨none,some 82,.mv (.tmp 0)⟩,⟨none,some 83,.nilc (.tmp 82)⟩,⟨none,some 84,.faddr 1 (.tmp 83)⟩,⟨none,some 85,.load1 (.tmp 84)⟩,⟨none,some 86,.lenL (.tmp 85)⟩,⟨none,some 87,.mv (.tmp 0)⟩,⟨none,some 88,.nilc (.tmp 87)⟩,⟨none,some 89,.faddr 1 (.tmp 88)⟩,⟨none,some 90,.load1 (.tmp 89)⟩,⟨none,some 91,.lenL (.tmp 90)⟩,⟨none,some 92,.raw 98 (.mk (some 92) (.slice 70 (.tmp 81) none (some (.tmp 86)) (some (.tmp 91))) 70 "ref.go:104" #[.mk 4 .data,.mk 9 .data,.mk 14 .data] none)⟩,⟨none,some 93,.loadN 4 (.tmp 3)⟩,⟨none,some 94,.buildS 64 1 [.string (.mk #[]),.int .i64 0,.string (.mk #[]),.string (.mk #[])] [(0,(4,.tmp 93))]⟩,⟨none,some 95,.raw 98 (.mk (some 95) (.call (.mk (.builtin .append) #[.tmp 92,.tmp 94] #[70,70])) 70 "ref.go:104" #[.mk 15 .data,.mk 17 .data] none)⟩,⟨none,some 96,.nilc (.tmp 77)⟩,⟨none,some 97,.faddr 1 (.tmp 96)⟩,⟨none,none,.store1 (.tmp 97) (.tmp 95)⟩])
 (.seq (.ops [⟨none,some 4,.mv (.const (.int .i64 0))⟩])
 .ret))))))))))))
abbrev r73 : List RV:=[(.tmp 4)]
theorem F73 : FnOk Go.Proofs.Tryz.prog 73 98 c73 r73:=⟨_,Go.Proofs.Tryz.func73,by kernel_rfl,by kernel_rfl,by kernel_rfl,by kernel_rfl,by kernel_rfl⟩
noncomputable def c74 : CC:=(.seq (.ops [⟨none,some 3,.box 64 (.tmp 1)⟩,⟨none,some 4,.mv (.const (.int .i64 0))⟩])
 (.seq (.ops [⟨none,some 9,.loadN 4 (.tmp 3)⟩,⟨none,some 10,.call 82 [.tmp 9]⟩,⟨none,some 8,.mv (.tmp 10)⟩,⟨none,some 11,.ext (.tmp 8) 0⟩,⟨none,some 12,.ext (.tmp 8) 1⟩,⟨none,some 5,.mv (.tmp 11)⟩,⟨none,some 6,.mv (.tmp 12)⟩])
 (.seq (.seq (.ops [⟨none,some 13,.mv (.tmp 6)⟩,⟨none,some 14,.iop .neq (.tmp 13) (.const (.int .i64 0))⟩])
 (.cond (.tmp 14)
 (.seq (.ops [⟨none,some 4,.mv (.const (.int .i64 21))⟩])
 .ret)
 .skip))
 (.seq (.ops [⟨none,some 16,.mv (.tmp 0)⟩,⟨none,some 17,.mv (.tmp 5)⟩,⟨none,some 18,.inv (.tmp 16) "Cut" [.tmp 17]⟩,⟨none,some 15,.mv (.tmp 18)⟩,⟨none,some 19,.ext (.tmp 15) 0⟩,⟨none,some 20,.ext (.tmp 15) 1⟩,⟨none,some 7,.mv (.tmp 19)⟩,⟨none,some 6,.mv (.tmp 20)⟩])
 (.seq (.seq (.ops [⟨none,some 21,.mv (.tmp 6)⟩,⟨none,some 22,.iop .eql (.tmp 21) (.const (.int .i64 0))⟩,⟨none,some 23,.mv (.tmp 22)⟩,⟨some (23,true),some 24,.mv (.tmp 7)⟩,⟨some (23,true),some 25,.not (.tmp 24)⟩,⟨none,some 26,.pick (.tmp 23) (.tmp 25) (.const (.bool false))⟩])
 (.cond (.tmp 26)
 (.seq (.ops [⟨none,some 4,.mv (.const (.int .i64 21))⟩])
 .ret)
 .skip))
 (.seq (.ops [⟨none,some 27,.mv (.tmp 6)⟩,⟨none,some 4,.mv (.tmp 27)⟩])
 .ret))))))
abbrev r74 : List RV:=[(.tmp 4)]
theorem F74 : FnOk Go.Proofs.Tryz.prog 74 28 c74 r74:=⟨_,Go.Proofs.Tryz.func74,by kernel_rfl,by kernel_rfl,by kernel_rfl,by kernel_rfl,by kernel_rfl⟩
noncomputable def c75 : CC:=(.seq (.ops [⟨none,some 3,.box 64 (.tmp 1)⟩,⟨none,some 4,.mv (.const (.int .i64 0))⟩])
 (.seq (.ops [⟨none,some 5,.mv (.const (.slice none 0 0))⟩])
 (.seq (.seq (.ops [⟨none,some 8,.mv (.tmp 0)⟩,⟨none,some 9,.nilc (.tmp 8)⟩,⟨none,some 10,.faddr 1 (.tmp 9)⟩,⟨none,some 11,.load1 (.tmp 10)⟩,⟨none,some 12,.lenL (.tmp 11)⟩,⟨none,some 13,.mv (.const (.int .i64 0))⟩])
 (.block 0
 (.loop
 (.seq (.ops [⟨none,some 14,.iop .lss (.tmp 13) (.tmp 12)⟩])
 (.seq (.cond (.tmp 14)
 .skip
 (.exit 0))
 (.seq (.block 1
 (.seq (.ops [⟨none,some 15,.iaddr 4 (.tmp 11) (.tmp 13)⟩,⟨none,some 16,.loadN 4 (.tmp 15)⟩,⟨none,some 7,.alloc 64 (.agg #[.string (.mk #[]),.int .i64 0,.string (.mk #[]),.string (.mk #[])])⟩,⟨none,none,.storeN 4 (.tmp 7) (.tmp 16)⟩])
 (.seq (.ops [⟨none,some 17,.loadN 4 (.tmp 7)⟩,⟨none,some 18,.loadN 4 (.tmp 3)⟩,⟨none,some 19,.raw 37 (.mk (some 19) (.binOp .neq 64 (.tmp 17) (.tmp 18) 64) 4 "ref.go:112" #[.mk 0 .data,.mk 1 .data] none)⟩])
 (.cond (.tmp 19)
 (.ops [⟨none,some 20,.mv (.tmp 5)⟩,⟨none,some 21,.loadN 4 (.tmp 7)⟩,⟨none,some 22,.buildS 64 1 [.string (.mk #[]),.int .i64 0,.string (.mk #[]),.string (.mk #[])] [(0,(4,.tmp 21))]⟩,⟨none,some 23,.raw 37 (.mk (some 23) (.call (.mk (.builtin .append) #[.tmp 20,.tmp 22] #[70,70])) 70 "ref.go:113" #[.mk 0 .data,.mk 2 .data] none)⟩,⟨none,some 5,.mv (.tmp 23)⟩])
 .skip))))
 (.ops [⟨none,some 24,.iop .add (.tmp 13) (.const (.int .i64 1))⟩,⟨none,some 13,.mv (.tmp 24)⟩])))))))
 (.seq (.seq (.ops [⟨none,some 25,.mv (.tmp 5)⟩,⟨none,some 26,.lenL (.tmp 25)⟩,⟨none,some 27,.mv (.tmp 0)⟩,⟨none,some 28,.nilc (.tmp 27)⟩,⟨none,some 29,.faddr 1 (.tmp 28)⟩,⟨none,some 30,.load1 (.tmp 29)⟩,⟨none,some 31,.lenL (.tmp 30)⟩,⟨none,some 32,.iop .eql (.tmp 26) (.tmp 31)⟩])
 (.cond (.tmp 32)
 (.seq (.ops [⟨none,some 4,.mv (.const (.int .i64 21))⟩])
 .ret)
 .skip))
 (.seq (.ops [⟨none,some 33,.mv (.tmp 0)⟩,⟨none,some 34,.mv (.tmp 5)⟩,⟨none,some 35,.nilc (.tmp 33)⟩,⟨none,some 36,.faddr 1 (.tmp 35)⟩,⟨none,none,.store1 (.tmp 36) (.tmp 34)⟩])
 (.seq (.ops [⟨none,some 4,.mv (.const (.int .i64 0))⟩])
 .ret))))))
abbrev r75 : List RV:=[(.tmp 4)]
theorem F75 : FnOk Go.Proofs.Tryz.prog 75 37 c75 r75:=⟨_,Go.Proofs.Tryz.func75,by kernel_rfl,by kernel_rfl,by kernel_rfl,by kernel_rfl,by kernel_rfl⟩
noncomputable def c76 : CC:=(.seq (.ops [⟨none,some 6,.mv (.const (.slice none 0 0))⟩,⟨none,some 7,.mv (.const (.int .i64 0))⟩])
 (.seq (.seq (.ops [⟨none,some 12,.mv (.tmp 1)⟩,⟨none,some 13,.sop .eql (.tmp 12) (.const (.string (.mk #[])))⟩])
 (.cond (.tmp 13)
 (.seq (.seq (.ops [⟨none,some 14,.mv (.tmp 0)⟩,⟨none,some 15,.mv (.tmp 2)⟩,⟨none,some 16,.call 92 [.tmp 14,.tmp 15]⟩,⟨none,some 17,.iop .lss (.tmp 16) (.const (.int .i64 0))⟩])
 (.cond (.tmp 17)
 (.seq (.ops [⟨none,some 6,.mv (.const (.slice none 0 0))⟩,⟨none,some 7,.mv (.const (.int .i64 21))⟩])
 .ret)
 .skip))
 (.seq (.ops [⟨none,some 18,.mv (.tmp 2)⟩,⟨none,some 19,.buildS 9 1 [.string (.mk #[])] [(0,(1,.tmp 18))]⟩,⟨none,some 6,.mv (.tmp 19)⟩,⟨none,some 7,.mv (.const (.int .i64 0))⟩])
 .ret))
 .skip))
 (.seq (.seq (.ops [⟨none,some 20,.mv (.tmp 1)⟩,⟨none,some 21,.call 142 [.tmp 20]⟩,⟨none,some 22,.not (.tmp 21)⟩])
 (.cond (.tmp 22)
 (.seq (.ops [⟨none,some 6,.mv (.const (.slice none 0 0))⟩,⟨none,some 7,.mv (.const (.int .i64 23))⟩])
 .ret)
 .skip))
 (.seq (.seq (.ops [⟨none,some 23,.mv (.tmp 2)⟩,⟨none,some 24,.call 144 [.tmp 23]⟩,⟨none,some 25,.not (.tmp 24)⟩])
 (.cond (.tmp 25)
 (.seq (.ops [⟨none,some 6,.mv (.const (.slice none 0 0))⟩,⟨none,some 7,.mv (.const (.int .i64 4))⟩])
 .ret)
 .skip))
 (.seq (.ops [⟨none,some 8,.mv (.const (.slice none 0 0))⟩])
 (.seq (.ops [⟨none,some 9,.mv (.const (.int .i64 0))⟩])
 (.seq (.seq (.ops [⟨none,some 26,.mv (.tmp 0)⟩,⟨none,some 27,.nilc (.tmp 26)⟩,⟨none,some 28,.faddr 1 (.tmp 27)⟩,⟨none,some 29,.load1 (.tmp 28)⟩,⟨none,some 30,.lenL (.tmp 29)⟩,⟨none,some 31,.mv (.const (.int .i64 0))⟩])
 (.block 0
 (.loop
 (.seq (.ops [⟨none,some 32,.iop .lss (.tmp 31) (.tmp 30)⟩])
 (.seq (.cond (.tmp 32)
 .skip
 (.exit 0))
 (.seq (.block 1
 (.seq (.ops [⟨none,some 33,.iaddr 4 (.tmp 29) (.tmp 31)⟩,⟨none,some 34,.loadN 4 (.tmp 33)⟩,⟨none,some 11,.alloc 64 (.agg #[.string (.mk #[]),.int .i64 0,.string (.mk #[]),.string (.mk #[])])⟩,⟨none,none,.storeN 4 (.tmp 11) (.tmp 34)⟩])
 (.seq (.seq (.ops [⟨none,some 35,.faddr 0 (.tmp 11)⟩,⟨none,some 36,.load1 (.tmp 35)⟩,⟨none,some 37,.mv (.tmp 1)⟩,⟨none,some 38,.sop .neq (.tmp 36) (.tmp 37)⟩])
 (.cond (.tmp 38)
 (.exit 1)
 .skip))
 (.seq (.ops [⟨none,some 39,.mv (.tmp 9)⟩,⟨none,some 40,.iop .add (.tmp 39) (.const (.int .i64 1))⟩,⟨none,some 9,.mv (.tmp 40)⟩])
 (.seq (.ops [⟨none,some 41,.faddr 1 (.tmp 11)⟩,⟨none,some 42,.load1 (.tmp 41)⟩,⟨none,some 43,.faddr 2 (.tmp 11)⟩,⟨none,some 44,.load1 (.tmp 43)⟩,⟨none,some 45,.mv (.tmp 2)⟩,⟨none,some 46,.call 145 [.tmp 42,.tmp 44,.tmp 45]⟩])
 (.cond (.tmp 46)
 (.ops [⟨none,some 47,.mv (.tmp 8)⟩,⟨none,some 48,.faddr 3 (.tmp 11)⟩,⟨none,some 49,.load1 (.tmp 48)⟩,⟨none,some 50,.call 146 [.tmp 47,.tmp 49]⟩,⟨none,some 8,.mv (.tmp 50)⟩])
 .skip))))))
 (.ops [⟨none,some 51,.iop .add (.tmp 31) (.const (.int .i64 1))⟩,⟨none,some 31,.mv (.tmp 51)⟩])))))))
 (.seq (.seq (.ops [⟨none,some 52,.mv (.tmp 9)⟩,⟨none,some 53,.iop .eql (.tmp 52) (.const (.int .i64 0))⟩])
 (.cond (.tmp 53)
 (.seq (.ops [⟨none,some 6,.mv (.const (.slice none 0 0))⟩,⟨none,some 7,.mv (.const (.int .i64 21))⟩])
 .ret)
 .skip))
 (.seq (.ops [⟨none,some 54,.mv (.tmp 8)⟩,⟨none,some 6,.mv (.tmp 54)⟩,⟨none,some 7,.mv (.const (.int .i64 0))⟩])
 .ret)))))))))
abbrev r76 : List RV:=[(.tmp 6),(.tmp 7)]
theorem F76 : FnOk Go.Proofs.Tryz.prog 76 55 c76 r76:=⟨_,Go.Proofs.Tryz.func76,by kernel_rfl,by kernel_rfl,by kernel_rfl,by kernel_rfl,by kernel_rfl⟩
noncomputable def c78 : CC:=(.seq (.ops [⟨none,some 4,.mv (.const (.int .u64 0))⟩,⟨none,some 5,.mv (.const (.int .i64 0))⟩])
 (.seq (.ops [⟨none,some 13,.mv (.tmp 1)⟩,⟨none,some 14,.build [.string (.mk #[]),.string (.mk #[]),.int .u64 0,.int .u64 0,.string (.mk #[]),.int .i64 0,.string (.mk #[]),.string (.mk #[]),.string (.mk #[])] [(0,(1,.const (.string (.mk #[99])))),(8,(1,.tmp 13))]⟩,⟨none,some 15,.call 135 [.tmp 14]⟩,⟨none,some 12,.mv (.tmp 15)⟩,⟨none,some 16,.ext (.tmp 12) 0⟩,⟨none,some 17,.ext (.tmp 12) 1⟩,⟨none,some 6,.mv (.tmp 16)⟩,⟨none,some 7,.mv (.tmp 17)⟩])
 (.seq (.seq (.ops [⟨none,some 18,.mv (.tmp 7)⟩,⟨none,some 19,.iop .neq (.tmp 18) (.const (.int .i64 0))⟩])
 (.cond (.tmp 19)
 (.seq (.ops [⟨none,some 20,.mv (.tmp 7)⟩,⟨none,some 4,.mv (.const (.int .u64 0))⟩,⟨none,some 5,.mv (.tmp 20)⟩])
 .ret)
 .skip))
 (.seq (.ops [⟨none,some 8,.mv (.const (.int .u64 0))⟩])
 (.seq (.ops [⟨none,some 9,.mv (.const (.slice none 0 0))⟩])
 (.seq (.seq (.ops [⟨none,some 21,.mv (.tmp 0)⟩,⟨none,some 22,.nilc (.tmp 21)⟩,⟨none,some 23,.faddr 2 (.tmp 22)⟩,⟨none,some 24,.load1 (.tmp 23)⟩,⟨none,some 25,.lenL (.tmp 24)⟩,⟨none,some 26,.mv (.const (.int .i64 0))⟩])
 (.block 0
 (.loop
 (.seq (.ops [⟨none,some 27,.iop .lss (.tmp 26) (.tmp 25)⟩])
 (.seq (.cond (.tmp 27)
 .skip
 (.exit 0))
 (.seq (.block 1
 (.seq (.ops [⟨none,some 28,.iaddr 2 (.tmp 24) (.tmp 26)⟩,⟨none,some 29,.loadN 2 (.tmp 28)⟩,⟨none,some 11,.alloc 242 (.agg #[.string (.mk #[]),.int .u64 0])⟩,⟨none,none,.storeN 2 (.tmp 11) (.tmp 29)⟩])
 (.seq (.ops [⟨none,some 30,.faddr 0 (.tmp 11)⟩,⟨none,some 31,.load1 (.tmp 30)⟩,⟨none,some 32,.mv (.tmp 1)⟩,⟨none,some 33,.sop .eql (.tmp 31) (.tmp 32)⟩])
 (.cond (.tmp 33)
 (.ops [⟨none,some 34,.faddr 1 (.tmp 11)⟩,⟨none,some 35,.load1 (.tmp 34)⟩,⟨none,some 8,.mv (.tmp 35)⟩])
 (.ops [⟨none,some 36,.mv (.tmp 9)⟩,⟨none,some 37,.loadN 2 (.tmp 11)⟩,⟨none,some 38,.buildS 242 1 [.string (.mk #[]),.int .u64 0] [(0,(2,.tmp 37))]⟩,⟨none,some 39,.raw 55 (.mk (some 39) (.call (.mk (.builtin .append) #[.tmp 36,.tmp 38] #[71,71])) 71 "ref.go:185" #[.mk 0 .data,.mk 2 .data] none)⟩,⟨none,some 9,.mv (.tmp 39)⟩])))))
 (.ops [⟨none,some 40,.iop .add (.tmp 26) (.const (.int .i64 1))⟩,⟨none,some 26,.mv (.tmp 40)⟩])))))))
 (.seq (.seq (.ops [⟨none,some 41,.mv (.tmp 8)⟩,⟨none,some 42,.iop .eql (.tmp 41) (.const (.int .u64 18446744073709551615))⟩])
 (.cond (.tmp 42)
 (.seq (.ops [⟨none,some 4,.mv (.const (.int .u64 0))⟩,⟨none,some 5,.mv (.const (.int .i64 8))⟩])
 .ret)
 .skip))
 (.seq (.ops [⟨none,some 43,.mv (.tmp 0)⟩,⟨none,some 44,.mv (.tmp 9)⟩,⟨none,some 45,.mv (.tmp 1)⟩,⟨none,some 46,.mv (.tmp 8)⟩,⟨none,some 47,.iop .add (.tmp 46) (.const (.int .u64 1))⟩,⟨none,some 48,.build [.string (.mk #[]),.int .u64 0] [(0,(1,.tmp 45)),(1,(1,.tmp 47))]⟩,⟨none,some 49,.buildS 242 1 [.string (.mk #[]),.int .u64 0] [(0,(2,.tmp 48))]⟩,⟨none,some 50,.raw 55 (.mk (some 50) (.call (.mk (.builtin .append) #[.tmp 44,.tmp 49] #[71,71])) 71 "ref.go:191" #[.mk 1 .data,.mk 6 .data] none)⟩,⟨none,some 51,.nilc (.tmp 43)⟩,⟨none,some 52,.faddr 2 (.tmp 51)⟩,⟨none,none,.store1 (.tmp 52) (.tmp 50)⟩])
 (.seq (.ops [⟨none,some 53,.mv (.tmp 8)⟩,⟨none,some 54,.iop .add (.tmp 53) (.const (.int .u64 1))⟩,⟨none,some 4,.mv (.tmp 54)⟩,⟨none,some 5,.mv (.const (.int .i64 0))⟩])
 .ret)))))))))
abbrev r78 : List RV:=[(.tmp 4),(.tmp 5)]
theorem F78 : FnOk Go.Proofs.Tryz.prog 78 55 c78 r78:=⟨_,Go.Proofs.Tryz.func78,by kernel_rfl,by kernel_rfl,by kernel_rfl,by kernel_rfl,by kernel_rfl⟩
noncomputable def c79 : CC:=(.seq (.ops [⟨none,some 3,.box 33 (.tmp 1)⟩,⟨none,some 4,.mv (.const (.int .i64 0))⟩])
 (.seq (.seq (.ops [⟨none,some 5,.faddr 0 (.tmp 3)⟩,⟨none,some 6,.load1 (.tmp 5)⟩,⟨none,some 7,.call 142 [.tmp 6]⟩,⟨none,some 8,.not (.tmp 7)⟩,⟨none,some 9,.mv (.tmp 8)⟩,⟨some (9,false),some 10,.faddr 4 (.tmp 3)⟩,⟨some (9,false),some 11,.load1 (.tmp 10)⟩,⟨some (9,false),some 12,.sop .neq (.tmp 11) (.const (.string (.mk #[])))⟩,⟨some (9,false),some 13,.mv (.tmp 12)⟩,⟨some (13,true),some 14,.faddr 4 (.tmp 3)⟩,⟨some (13,true),some 15,.load1 (.tmp 14)⟩,⟨some (13,true),some 16,.call 142 [.tmp 15]⟩,⟨some (13,true),some 17,.not (.tmp 16)⟩,⟨some (9,false),some 18,.pick (.tmp 13) (.tmp 17) (.const (.bool false))⟩,⟨none,some 19,.pick (.tmp 9) (.const (.bool true)) (.tmp 18)⟩])
 (.cond (.tmp 19)
 (.seq (.ops [⟨none,some 4,.mv (.const (.int .i64 23))⟩])
 .ret)
 .skip))
 (.seq (.seq (.ops [⟨none,some 20,.faddr 4 (.tmp 3)⟩,⟨none,some 21,.load1 (.tmp 20)⟩,⟨none,some 22,.faddr 0 (.tmp 3)⟩,⟨none,some 23,.load1 (.tmp 22)⟩,⟨none,some 24,.sop .eql (.tmp 21) (.tmp 23)⟩])
 (.cond (.tmp 24)
 (.seq (.ops [⟨none,some 4,.mv (.const (.int .i64 2))⟩])
 .ret)
 .skip))
 (.seq (.seq (.ops [⟨none,some 25,.faddr 2 (.tmp 3)⟩,⟨none,some 26,.load1 (.tmp 25)⟩,⟨none,some 27,.iop .gtr (.tmp 26) (.const (.int .u64 1099511627776))⟩])
 (.cond (.tmp 27)
 (.seq (.ops [⟨none,some 4,.mv (.const (.int .i64 29))⟩])
 .ret)
 .skip))
 (.seq (.seq (.ops [⟨none,some 28,.mv (.tmp 0)⟩,⟨none,some 29,.faddr 0 (.tmp 3)⟩,⟨none,some 30,.load1 (.tmp 29)⟩,⟨none,some 31,.call 92 [.tmp 28,.tmp 30]⟩,⟨none,some 32,.iop .geq (.tmp 31) (.const (.int .i64 0))⟩])
 (.cond (.tmp 32)
 (.seq (.ops [⟨none,some 4,.mv (.const (.int .i64 22))⟩])
 .ret)
 .skip))
 (.seq (.seq (.ops [⟨none,some 33,.faddr 4 (.tmp 3)⟩,⟨none,some 34,.load1 (.tmp 33)⟩,⟨none,some 35,.sop .neq (.tmp 34) (.const (.string (.mk #[])))⟩,⟨none,some 36,.mv (.tmp 35)⟩,⟨some (36,true),some 37,.mv (.tmp 0)⟩,⟨some (36,true),some 38,.faddr 4 (.tmp 3)⟩,⟨some (36,true),some 39,.load1 (.tmp 38)⟩,⟨some (36,true),some 40,.call 92 [.tmp 37,.tmp 39]⟩,⟨some (36,true),some 41,.iop .lss (.tmp 40) (.const (.int .i64 0))⟩,⟨none,some 42,.pick (.tmp 36) (.tmp 41) (.const (.bool false))⟩])
 (.cond (.tmp 42)
 (.seq (.ops [⟨none,some 4,.mv (.const (.int .i64 21))⟩])
 .ret)
 .skip))
 (.seq (.draw 11 (opsOf (sub (bodyOf Go.Proofs.Tryz.f79) [1,1,1,1,1,1,0])) [⟨none,some 43,.mv (.tmp 0)⟩,⟨none,some 44,.mv (.tmp 0)⟩,⟨none,some 45,.nilc (.tmp 44)⟩,⟨none,some 46,.faddr 0 (.tmp 45)⟩,⟨none,some 47,.load1 (.tmp 46)⟩,⟨none,some 48,.mv (.tmp 0)⟩,⟨none,some 49,.nilc (.tmp 48)⟩,⟨none,some 50,.faddr 0 (.tmp 49)⟩,⟨none,some 51,.load1 (.tmp 50)⟩,⟨none,some 52,.lenL (.tmp 51)⟩,⟨none,some 53,.mv (.tmp 0)⟩,⟨none,some 54,.nilc (.tmp 53)⟩,⟨none,some 55,.faddr 0 (.tmp 54)⟩,⟨none,some 56,.load1 (.tmp 55)⟩,⟨none,some 57,.lenL (.tmp 56)⟩,⟨none,some 58,.raw 64 (.mk (some 58) (.slice 69 (.tmp 47) none (some (.tmp 52)) (some (.tmp 57))) 69 "ref.go:50" #[.mk 4 .data,.mk 9 .data,.mk 14 .data] none)⟩,⟨none,some 59,.loadN 5 (.tmp 3)⟩,⟨none,some 60,.buildS 33 1 [.string (.mk #[]),.int .u32 0,.int .u64 0,.int .u32 0,.string (.mk #[])] [(0,(5,.tmp 59))]⟩,⟨none,some 61,.raw 64 (.mk (some 61) (.call (.mk (.builtin .append) #[.tmp 58,.tmp 60] #[69,69])) 69 "ref.go:50" #[.mk 15 .data,.mk 17 .data] none)⟩,⟨none,some 62,.nilc (.tmp 43)⟩,⟨none,some 63,.faddr 0 (.tmp 62)⟩,⟨none,none,.store1 (.tmp 63) (.tmp 61)⟩])
 (.seq (.ops [⟨none,some 4,.mv (.const (.int .i64 0))⟩])
 .ret))))))))
abbrev r79 : List RV:=[(.tmp 4)]
theorem F79 : FnOk Go.Proofs.Tryz.prog 79 64 c79 r79:=⟨_,Go.Proofs.Tryz.func79,by kernel_rfl,by kernel_rfl,by kernel_rfl,by kernel_rfl,by kernel_rfl⟩
noncomputable def c80 : CC:=(.seq (.ops [⟨none,some 4,.box 125 (.tmp 0)⟩,⟨none,some 5,.box 168 (.tmp 1)⟩,⟨none,some 6,.box 9 (.tmp 2)⟩,⟨none,some 7,.box 197 (.tmp 3)⟩,⟨none,some 8,.mv (.const .nilFunc)⟩])
 (.seq (.ops [⟨none,some 9,(.mkF (.func 147) [] [.tmp 6,.tmp 7,.tmp 4,.tmp 5])⟩,⟨none,some 8,.mv (.tmp 9)⟩])
 .ret))
abbrev r80 : List RV:=[(.tmp 8)]
theorem F80 : FnOk Go.Proofs.Tryz.prog 80 10 c80 r80:=⟨_,Go.Proofs.Tryz.func80,by kernel_rfl,by kernel_rfl,by kernel_rfl,by kernel_rfl,by kernel_rfl⟩
noncomputable def c82 : CC:=(.seq (.ops [⟨none,some 1,.box 64 (.tmp 0)⟩,⟨none,some 2,.mv (.const (.string (.mk #[])))⟩,⟨none,some 3,.mv (.const (.int .i64 0))⟩])
 (.seq (.draw 1 (opsOf (sub (bodyOf Go.Proofs.Tryz.f82) [1,0])) [⟨none,some 4,.faddr 0 (.tmp 1)⟩,⟨none,some 5,.load1 (.tmp 4)⟩,⟨none,some 6,.call 51 [.tmp 5]⟩,⟨none,some 7,.faddr 1 (.tmp 1)⟩,⟨none,some 8,.load1 (.tmp 7)⟩,⟨none,some 9,.conv .u64 (.tmp 8)⟩,⟨none,some 10,.call 67 [.tmp 9]⟩,⟨none,some 11,.faddr 2 (.tmp 1)⟩,⟨none,some 12,.load1 (.tmp 11)⟩,⟨none,some 13,.call 51 [.tmp 12]⟩,⟨none,some 14,.faddr 3 (.tmp 1)⟩,⟨none,some 15,.load1 (.tmp 14)⟩,⟨none,some 16,.call 51 [.tmp 15]⟩,⟨none,some 17,.buildS 118 4 [.bool false,.int .u64 0,.string (.mk #[]),.bool false,.int .u64 0,.string (.mk #[]),.bool false,.int .u64 0,.string (.mk #[]),.bool false,.int .u64 0,.string (.mk #[])] [(0,(3,.tmp 6)),(3,(3,.tmp 10)),(6,(3,.tmp 13)),(9,(3,.tmp 16))]⟩,⟨none,some 18,.call 50 [.const (.string (.mk #[98])),.tmp 17]⟩,⟨none,some 19,.ext (.tmp 18) 0⟩,⟨none,some 20,.ext (.tmp 18) 1⟩,⟨none,some 2,.mv (.tmp 19)⟩,⟨none,some 3,.mv (.tmp 20)⟩])
 .ret))
abbrev r82 : List RV:=[(.tmp 2),(.tmp 3)]
theorem F82 : FnOk Go.Proofs.Tryz.prog 82 21 c82 r82:=⟨_,Go.Proofs.Tryz.func82,by kernel_rfl,by kernel_rfl,by kernel_rfl,by kernel_rfl,by kernel_rfl⟩
noncomputable def c83 : CC:=(.seq (.ops [⟨none,some 4,.mv (.const (.bool false))⟩])
 (.seq (.seq (.ops [⟨none,some 5,.mv (.tmp 0)⟩])
 (.block 0
 (.seq (.ops [⟨none,some 7,.iop .eql (.tmp 5) (.const (.int .i64 1))⟩,⟨none,some 6,.mv (.tmp 7)⟩])
 (.cond (.tmp 6)
 (.seq (.ops [⟨none,some 8,.mv (.tmp 1)⟩,⟨none,some 9,.call 85 [.tmp 8]⟩,⟨none,some 4,.mv (.tmp 9)⟩])
 .ret)
 (.seq (.ops [⟨none,some 11,.iop .eql (.tmp 5) (.const (.int .i64 2))⟩,⟨none,some 10,.mv (.tmp 11)⟩])
 (.cond (.tmp 10)
 (.seq (.ops [⟨none,some 12,.mv (.tmp 1)⟩,⟨none,some 13,.sop .eql (.tmp 12) (.const (.string (.mk #[])))⟩,⟨none,some 4,.mv (.tmp 13)⟩])
 .ret)
 (.seq (.ops [⟨none,some 15,.iop .eql (.tmp 5) (.const (.int .i64 3))⟩,⟨none,some 14,.mv (.tmp 15)⟩])
 (.cond (.tmp 14)
 (.seq (.ops [⟨none,some 16,.mv (.tmp 1)⟩,⟨none,some 17,.call 148 [.tmp 16]⟩,⟨none,some 4,.mv (.tmp 17)⟩])
 .ret)
 .skip))))))))
 (.seq (.ops [⟨none,some 4,.mv (.const (.bool false))⟩])
 .ret)))
abbrev r83 : List RV:=[(.tmp 4)]
theorem F83 : FnOk Go.Proofs.Tryz.prog 83 18 c83 r83:=⟨_,Go.Proofs.Tryz.func83,by kernel_rfl,by kernel_rfl,by kernel_rfl,by kernel_rfl,by kernel_rfl⟩
noncomputable def c84 : CC:=(.seq (.ops [⟨none,some 3,.box 64 (.tmp 1)⟩,⟨none,some 4,.alloc 23 (.int .i64 0)⟩])
 (.seq (.seq (.ops [⟨none,some 7,.mv (.tmp 0)⟩,⟨none,some 8,.faddr 0 (.tmp 3)⟩,⟨none,some 9,.load1 (.tmp 8)⟩,⟨none,some 10,.call 87 [.tmp 7,.tmp 9]⟩])
 (.block 0
 (.range (.tmp 10) #[11,12] (sub (bodyOf Go.Proofs.Tryz.f84) [1,0,1,0,0]) (sub (bodyOf Go.Proofs.Tryz.f84) [1,0,1,0,1])
 (.seq (.ops [⟨none,some 5,.alloc 64 (.agg #[.string (.mk #[]),.int .i64 0,.string (.mk #[]),.string (.mk #[])])⟩,⟨none,none,.storeN 4 (.tmp 5) (.tmp 11)⟩])
 (.ops [⟨none,some 6,.mv (.tmp 12)⟩]))
 (.block 1
 (.seq (.seq (.ops [⟨none,some 13,.mv (.tmp 6)⟩,⟨none,some 14,.iop .neq (.tmp 13) (.const (.int .i64 0))⟩])
 (.cond (.tmp 14)
 (.seq (.ops [⟨none,some 15,.mv (.tmp 6)⟩,⟨none,none,.store1 (.tmp 4) (.tmp 15)⟩])
 .ret)
 .skip))
 (.seq (.ops [⟨none,some 16,.faddr 1 (.tmp 5)⟩,⟨none,some 17,.load1 (.tmp 16)⟩,⟨none,some 18,.faddr 1 (.tmp 3)⟩,⟨none,some 19,.load1 (.tmp 18)⟩,⟨none,some 20,.iop .neq (.tmp 17) (.tmp 19)⟩])
 (.cond (.tmp 20)
 (.seq (.ops [⟨none,none,.store1 (.tmp 4) (.const (.int .i64 11))⟩])
 .ret)
 .skip)))))))
 (.seq (.ops [⟨none,none,.store1 (.tmp 4) (.const (.int .i64 0))⟩])
 .ret)))
abbrev r84 : List RV:=[(.c1 4)]
theorem F84 : FnOk Go.Proofs.Tryz.prog 84 21 c84 r84:=⟨_,Go.Proofs.Tryz.func84,by kernel_rfl,by kernel_rfl,by kernel_rfl,by kernel_rfl,by kernel_rfl⟩
noncomputable def c85 : CC:=(.seq (.ops [⟨none,some 2,.mv (.const (.bool false))⟩])
 (.seq (.ops [⟨none,some 3,.mv (.tmp 0)⟩,⟨none,some 4,(.call 149 [.tmp 3,(.func 59)])⟩,⟨none,some 2,.mv (.tmp 4)⟩])
 .ret))
abbrev r85 : List RV:=[(.tmp 2)]
theorem F85 : FnOk Go.Proofs.Tryz.prog 85 5 c85 r85:=⟨_,Go.Proofs.Tryz.func85,by kernel_rfl,by kernel_rfl,by kernel_rfl,by kernel_rfl,by kernel_rfl⟩
noncomputable def c86 : CC:=(.seq (.ops [⟨none,some 2,.mv (.const (.pointer none))⟩])
 (.seq (.ops [⟨none,some 3,.mv (.tmp 0)⟩,⟨none,some 4,.call 150 [.tmp 3]⟩,⟨none,some 0,.mv (.tmp 4)⟩])
 (.seq (.ops [⟨none,some 5,.mv (.tmp 0)⟩,⟨none,some 6,.call 151 [.tmp 5]⟩])
 (.seq (.ops [⟨none,some 7,.mv (.tmp 0)⟩,⟨none,some 8,.call 152 [.tmp 7]⟩,⟨none,some 9,.build [.slice none 0 0] [(0,(1,.tmp 8))]⟩,⟨none,some 10,.box 249 (.tmp 9)⟩,⟨none,some 2,.mv (.tmp 10)⟩])
 .ret))))
abbrev r86 : List RV:=[(.tmp 2)]
theorem F86 : FnOk Go.Proofs.Tryz.prog 86 11 c86 r86:=⟨_,Go.Proofs.Tryz.func86,by kernel_rfl,by kernel_rfl,by kernel_rfl,by kernel_rfl,by kernel_rfl⟩
noncomputable def c87 : CC:=(.seq (.ops [⟨none,some 4,.mv (.const .nilFunc)⟩])
 (.seq (.ops [⟨none,some 5,.mv (.tmp 0)⟩,⟨none,some 6,.mv (.tmp 1)⟩,⟨none,some 7,.call 51 [.tmp 6]⟩,⟨none,some 8,.buildS 118 1 [.bool false,.int .u64 0,.string (.mk #[])] [(0,(3,.tmp 7))]⟩,⟨none,some 9,(.call 80 [.tmp 5,(.func 81),.const (.string (.mk #[98])),.tmp 8])⟩,⟨none,some 4,.mv (.tmp 9)⟩])
 .ret))
abbrev r87 : List RV:=[(.tmp 4)]
theorem F87 : FnOk Go.Proofs.Tryz.prog 87 10 c87 r87:=⟨_,Go.Proofs.Tryz.func87,by kernel_rfl,by kernel_rfl,by kernel_rfl,by kernel_rfl,by kernel_rfl⟩
noncomputable def c88 : CC:=(.seq (.ops [⟨none,some 6,.mv (.const (.bool false))⟩])
 (.seq (.seq (.ops [⟨none,some 7,.mv (.tmp 0)⟩])
 (.block 0
 (.seq (.ops [⟨none,some 9,.iop .eql (.tmp 7) (.const (.int .i64 1))⟩,⟨none,some 8,.mv (.tmp 9)⟩])
 (.cond (.tmp 8)
 (.seq (.ops [⟨none,some 10,.mv (.tmp 1)⟩,⟨none,some 11,.mv (.tmp 2)⟩,⟨none,some 12,.sop .eql (.tmp 10) (.tmp 11)⟩,⟨none,some 6,.mv (.tmp 12)⟩])
 .ret)
 (.seq (.ops [⟨none,some 14,.iop .eql (.tmp 7) (.const (.int .i64 2))⟩,⟨none,some 13,.mv (.tmp 14)⟩])
 (.cond (.tmp 13)
 (.seq (.ops [⟨none,some 6,.mv (.const (.bool true))⟩])
 .ret)
 (.seq (.ops [⟨none,some 16,.iop .eql (.tmp 7) (.const (.int .i64 3))⟩,⟨none,some 15,.mv (.tmp 16)⟩])
 (.cond (.tmp 15)
 (.seq (.ops [⟨none,some 17,.mv (.tmp 1)⟩,⟨none,some 18,.mv (.tmp 2)⟩,⟨none,some 19,.call 153 [.tmp 17,.tmp 18]⟩,⟨none,some 6,.mv (.tmp 19)⟩])
 .ret)
 .skip))))))))
 (.seq (.ops [⟨none,some 6,.mv (.const (.bool false))⟩])
 .ret)))
abbrev r88 : List RV:=[(.tmp 6)]
theorem F88 : FnOk Go.Proofs.Tryz.prog 88 20 c88 r88:=⟨_,Go.Proofs.Tryz.func88,by kernel_rfl,by kernel_rfl,by kernel_rfl,by kernel_rfl,by kernel_rfl⟩
noncomputable def c89 : CC:=(.seq (.ops [⟨none,some 4,.mv (.const (.bool false))⟩])
 (.seq (.ops [⟨none,some 8,.mv (.tmp 0)⟩,⟨none,some 9,.mv (.tmp 1)⟩,⟨none,some 10,.call 154 [.tmp 8,.tmp 9]⟩,⟨none,some 7,.mv (.tmp 10)⟩,⟨none,some 11,.ext (.tmp 7) 0⟩,⟨none,some 12,.ext (.tmp 7) 1⟩,⟨none,some 5,.mv (.tmp 11)⟩,⟨none,some 6,.mv (.tmp 12)⟩])
 (.seq (.seq (.ops [⟨none,some 13,.mv (.tmp 0)⟩,⟨none,some 14,.pnil 0 false (.tmp 13)⟩,⟨none,some 15,.mv (.tmp 14)⟩,⟨some (15,false),some 16,.mv (.tmp 6)⟩,⟨none,some 17,.pick (.tmp 15) (.const (.bool true)) (.tmp 16)⟩])
 (.cond (.tmp 17)
 (.seq (.ops [⟨none,some 4,.mv (.const (.bool false))⟩])
 .ret)
 .skip))
 (.seq (.ops [⟨none,some 18,.mv (.tmp 0)⟩,⟨none,some 19,.mv (.tmp 0)⟩,⟨none,some 20,.nilc (.tmp 19)⟩,⟨none,some 21,.faddr 0 (.tmp 20)⟩,⟨none,some 22,.load1 (.tmp 21)⟩,⟨none,some 23,.mv (.tmp 5)⟩,⟨none,some 24,.mv (.tmp 1)⟩,⟨none,some 25,.buildS 9 1 [.string (.mk #[])] [(0,(1,.tmp 24))]⟩,⟨none,some 26,.call 155 [.tmp 22,.tmp 23,.tmp 25]⟩,⟨none,some 27,.nilc (.tmp 18)⟩,⟨none,some 28,.faddr 0 (.tmp 27)⟩,⟨none,none,.store1 (.tmp 28) (.tmp 26)⟩])
 (.seq (.ops [⟨none,some 4,.mv (.const (.bool true))⟩])
 .ret)))))
abbrev r89 : List RV:=[(.tmp 4)]
theorem F89 : FnOk Go.Proofs.Tryz.prog 89 29 c89 r89:=⟨_,Go.Proofs.Tryz.func89,by kernel_rfl,by kernel_rfl,by kernel_rfl,by kernel_rfl,by kernel_rfl⟩
noncomputable def c90 : CC:=(.seq (.ops [⟨none,some 2,.mv (.const (.slice none 0 0))⟩])
 (.seq (.ops [⟨none,some 3,.mv (.tmp 0)⟩,⟨none,some 4,.call 156 [.const (.slice none 0 0),.tmp 3]⟩,⟨none,some 2,.mv (.tmp 4)⟩])
 .ret))
abbrev r90 : List RV:=[(.tmp 2)]
theorem F90 : FnOk Go.Proofs.Tryz.prog 90 5 c90 r90:=⟨_,Go.Proofs.Tryz.func90,by kernel_rfl,by kernel_rfl,by kernel_rfl,by kernel_rfl,by kernel_rfl⟩
noncomputable def c91 : CC:=(.seq (.ops [⟨none,some 1,.box 174 (.tmp 0)⟩,⟨none,some 2,.mv (.const .nilFunc)⟩])
 (.seq (.ops [⟨none,some 3,(.mkF (.func 157) [] [.tmp 1])⟩,⟨none,some 2,.mv (.tmp 3)⟩])
 .ret))
abbrev r91 : List RV:=[(.tmp 2)]
theorem F91 : FnOk Go.Proofs.Tryz.prog 91 4 c91 r91:=⟨_,Go.Proofs.Tryz.func91,by kernel_rfl,by kernel_rfl,by kernel_rfl,by kernel_rfl,by kernel_rfl⟩
noncomputable def c92 : CC:=(.seq (.ops [⟨none,some 4,.mv (.const (.int .i64 0))⟩])
 (.seq (.seq (.ops [⟨none,some 7,.mv (.tmp 0)⟩,⟨none,some 8,.nilc (.tmp 7)⟩,⟨none,some 9,.faddr 0 (.tmp 8)⟩,⟨none,some 10,.load1 (.tmp 9)⟩,⟨none,some 11,.lenL (.tmp 10)⟩,⟨none,some 12,.mv (.const (.int .i64 0))⟩])
 (.block 0
 (.loop
 (.seq (.ops [⟨none,some 13,.iop .lss (.tmp 12) (.tmp 11)⟩])
 (.seq (.cond (.tmp 13)
 .skip
 (.exit 0))
 (.seq (.block 1
 (.seq (.ops [⟨none,some 14,.mv (.tmp 12)⟩,⟨none,some 15,.iaddr 5 (.tmp 10) (.tmp 12)⟩,⟨none,some 16,.loadN 5 (.tmp 15)⟩,⟨none,some 6,.alloc 33 (.agg #[.string (.mk #[]),.int .u32 0,.int .u64 0,.int .u32 0,.string (.mk #[])])⟩,⟨none,some 5,.mv (.tmp 14)⟩,⟨none,none,.storeN 5 (.tmp 6) (.tmp 16)⟩])
 (.seq (.ops [⟨none,some 17,.faddr 0 (.tmp 6)⟩,⟨none,some 18,.load1 (.tmp 17)⟩,⟨none,some 19,.mv (.tmp 1)⟩,⟨none,some 20,.sop .eql (.tmp 18) (.tmp 19)⟩])
 (.cond (.tmp 20)
 (.seq (.ops [⟨none,some 21,.mv (.tmp 5)⟩,⟨none,some 4,.mv (.tmp 21)⟩])
 .ret)
 .skip))))
 (.ops [⟨none,some 22,.iop .add (.tmp 12) (.const (.int .i64 1))⟩,⟨none,some 12,.mv (.tmp 22)⟩])))))))
 (.seq (.ops [⟨none,some 4,.mv (.const (.int .i64 (-1)))⟩])
 .ret)))
abbrev r92 : List RV:=[(.tmp 4)]
theorem F92 : FnOk Go.Proofs.Tryz.prog 92 23 c92 r92:=⟨_,Go.Proofs.Tryz.func92,by kernel_rfl,by kernel_rfl,by kernel_rfl,by kernel_rfl,by kernel_rfl⟩
noncomputable def c142 : CC:=(.seq (.ops [⟨none,some 2,.mv (.const (.bool false))⟩])
 (.seq (.seq (.ops [⟨none,some 3,.mv (.const (.int .i64 0))⟩])
 (.block 0
 (.loop
 (.seq (.seq (.ops [⟨none,some 6,.mv (.tmp 3)⟩,⟨none,some 7,.mv (.tmp 0)⟩,⟨none,some 8,.lenS (.tmp 7)⟩,⟨none,some 9,.iop .lss (.tmp 6) (.tmp 8)⟩])
 (.cond (.tmp 9)
 .skip
 (.exit 0)))
 (.seq (.block 1
 (.seq (.ops [⟨none,some 4,.mv (.const (.bool false))⟩])
 (.seq (.seq (.ops [⟨none,some 5,.mv (.const (.int .i64 0))⟩])
 (.block 2
 (.loop
 (.seq (.seq (.ops [⟨none,some 12,.mv (.tmp 5)⟩,⟨none,some 13,.iop .lss (.tmp 12) (.const (.int .i64 64))⟩])
 (.cond (.tmp 13)
 .skip
 (.exit 2)))
 (.seq (.block 3
 (.draw 8 (opsOf (sub (bodyOf Go.Proofs.Tryz.f142) [1,0,1,0,0,1,0,0,1,0,1,0,0,1,0,0])) [⟨none,some 16,.mv (.tmp 4)⟩,⟨none,some 17,.mv (.tmp 16)⟩,⟨some (17,false),some 18,.mv (.tmp 5)⟩,⟨some (17,false),some 19,.sidx (.const (.string (.mk #[97,98,99,100,101,102,103,104,105,106,107,108,109,110,111,112,113,114,115,116,117,118,119,120,121,122,65,66,67,68,69,70,71,72,73,74,75,76,77,78,79,80,81,82,83,84,85,86,87,88,89,90,48,49,50,51,52,53,54,55,56,57,45,95]))) (.tmp 18)⟩,⟨some (17,false),some 20,.mv (.tmp 0)⟩,⟨some (17,false),some 21,.mv (.tmp 3)⟩,⟨some (17,false),some 22,.sidx (.tmp 20) (.tmp 21)⟩,⟨some (17,false),some 23,.iop .eql (.tmp 19) (.tmp 22)⟩,⟨none,some 24,.pick (.tmp 17) (.const (.bool true)) (.tmp 23)⟩,⟨none,some 4,.mv (.tmp 24)⟩]))
 (.ops [⟨none,some 14,.mv (.tmp 5)⟩,⟨none,some 15,.iop .add (.tmp 14) (.const (.int .i64 1))⟩,⟨none,some 5,.mv (.tmp 15)⟩]))))))
 (.seq (.ops [⟨none,some 25,.mv (.tmp 4)⟩,⟨none,some 26,.not (.tmp 25)⟩])
 (.cond (.tmp 26)
 (.seq (.ops [⟨none,some 2,.mv (.const (.bool false))⟩])
 .ret)
 .skip)))))
 (.ops [⟨none,some 10,.mv (.tmp 3)⟩,⟨none,some 11,.iop .add (.tmp 10) (.const (.int .i64 1))⟩,⟨none,some 3,.mv (.tmp 11)⟩]))))))
 (.seq (.ops [⟨none,some 27,.mv (.tmp 0)⟩,⟨none,some 28,.lenS (.tmp 27)⟩,⟨none,some 29,.iop .gtr (.tmp 28) (.const (.int .i64 0))⟩,⟨none,some 30,.mv (.tmp 29)⟩,⟨some (30,true),some 31,.mv (.tmp 0)⟩,⟨some (30,true),some 32,.lenS (.tmp 31)⟩,⟨some (30,true),some 33,.iop .leq (.tmp 32) (.const (.int .i64 32))⟩,⟨none,some 34,.pick (.tmp 30) (.tmp 33) (.const (.bool false))⟩,⟨none,some 2,.mv (.tmp 34)⟩])
 .ret)))
abbrev r142 : List RV:=[(.tmp 2)]
theorem F142 : FnOk Go.Proofs.Tryz.prog 142 35 c142 r142:=⟨_,Go.Proofs.Tryz.func142,by kernel_rfl,by kernel_rfl,by kernel_rfl,by kernel_rfl,by kernel_rfl⟩
noncomputable def c143 : CC:=(.seq (.ops [⟨none,some 4,.mv (.const (.bool false))⟩])
 (.seq (.ops [⟨none,some 5,.mv (.tmp 0)⟩,⟨none,some 6,.iop .eql (.tmp 5) (.const (.int .i64 1))⟩,⟨none,some 7,.mv (.tmp 6)⟩,⟨some (7,true),some 8,.mv (.tmp 1)⟩,⟨some (7,true),some 9,.call 144 [.tmp 8]⟩,⟨none,some 10,.pick (.tmp 7) (.tmp 9) (.const (.bool false))⟩,⟨none,some 11,.mv (.tmp 10)⟩,⟨some (11,false),some 12,.mv (.tmp 0)⟩,⟨some (11,false),some 13,.iop .eql (.tmp 12) (.const (.int .i64 2))⟩,⟨some (11,false),some 14,.mv (.tmp 13)⟩,⟨some (14,true),some 15,.mv (.tmp 1)⟩,⟨some (14,true),some 16,.sop .eql (.tmp 15) (.const (.string (.mk #[])))⟩,⟨some (11,false),some 17,.pick (.tmp 14) (.tmp 16) (.const (.bool false))⟩,⟨none,some 18,.pick (.tmp 11) (.const (.bool true)) (.tmp 17)⟩,⟨none,some 19,.mv (.tmp 18)⟩,⟨some (19,false),some 20,.mv (.tmp 0)⟩,⟨some (19,false),some 21,.iop .eql (.tmp 20) (.const (.int .i64 3))⟩,⟨some (19,false),some 22,.mv (.tmp 21)⟩,⟨some (22,true),some 23,.mv (.tmp 1)⟩,⟨some (22,true),some 24,.call 190 [.tmp 23]⟩,⟨some (19,false),some 25,.pick (.tmp 22) (.tmp 24) (.const (.bool false))⟩,⟨none,some 26,.pick (.tmp 19) (.const (.bool true)) (.tmp 25)⟩,⟨none,some 4,.mv (.tmp 26)⟩])
 .ret))
abbrev r143 : List RV:=[(.tmp 4)]
theorem F143 : FnOk Go.Proofs.Tryz.prog 143 27 c143 r143:=⟨_,Go.Proofs.Tryz.func143,by kernel_rfl,by kernel_rfl,by kernel_rfl,by kernel_rfl,by kernel_rfl⟩
noncomputable def c144 : CC:=(.seq (.ops [⟨none,some 2,.mv (.const (.bool false))⟩])
 (.seq (.ops [⟨none,some 6,.mv (.tmp 0)⟩,⟨none,some 7,.call 191 [.tmp 6]⟩,⟨none,some 3,.mv (.tmp 7)⟩])
 (.seq (.seq (.ops [⟨none,some 8,.mv (.tmp 3)⟩,⟨none,some 9,.lenL (.tmp 8)⟩,⟨none,some 10,.mv (.const (.int .i64 0))⟩])
 (.block 0
 (.loop
 (.seq (.ops [⟨none,some 11,.iop .lss (.tmp 10) (.tmp 9)⟩])
 (.seq (.cond (.tmp 11)
 .skip
 (.exit 0))
 (.seq (.block 1
 (.seq (.ops [⟨none,some 12,.iaddr 1 (.tmp 8) (.tmp 10)⟩,⟨none,some 13,.load1 (.tmp 12)⟩,⟨none,some 5,.mv (.tmp 13)⟩])
 (.seq (.ops [⟨none,some 14,.mv (.tmp 5)⟩,⟨none,some 15,.call 142 [.tmp 14]⟩,⟨none,some 16,.not (.tmp 15)⟩])
 (.cond (.tmp 16)
 (.seq (.ops [⟨none,some 2,.mv (.const (.bool false))⟩])
 .ret)
 .skip))))
 (.ops [⟨none,some 17,.iop .add (.tmp 10) (.const (.int .i64 1))⟩,⟨none,some 10,.mv (.tmp 17)⟩])))))))
 (.seq (.ops [⟨none,some 18,.mv (.tmp 3)⟩,⟨none,some 19,.lenL (.tmp 18)⟩,⟨none,some 20,.iop .leq (.tmp 19) (.const (.int .i64 8))⟩,⟨none,some 2,.mv (.tmp 20)⟩])
 .ret))))
abbrev r144 : List RV:=[(.tmp 2)]
theorem F144 : FnOk Go.Proofs.Tryz.prog 144 21 c144 r144:=⟨_,Go.Proofs.Tryz.func144,by kernel_rfl,by kernel_rfl,by kernel_rfl,by kernel_rfl,by kernel_rfl⟩
noncomputable def c145 : CC:=(.seq (.ops [⟨none,some 6,.mv (.const (.bool false))⟩])
 (.seq (.ops [⟨none,some 7,.mv (.tmp 0)⟩,⟨none,some 8,.iop .eql (.tmp 7) (.const (.int .i64 1))⟩,⟨none,some 9,.mv (.tmp 8)⟩,⟨some (9,true),some 10,.mv (.tmp 1)⟩,⟨some (9,true),some 11,.mv (.tmp 2)⟩,⟨some (9,true),some 12,.sop .eql (.tmp 10) (.tmp 11)⟩,⟨none,some 13,.pick (.tmp 9) (.tmp 12) (.const (.bool false))⟩,⟨none,some 14,.mv (.tmp 13)⟩,⟨some (14,false),some 15,.mv (.tmp 0)⟩,⟨some (14,false),some 16,.iop .eql (.tmp 15) (.const (.int .i64 2))⟩,⟨none,some 17,.pick (.tmp 14) (.const (.bool true)) (.tmp 16)⟩,⟨none,some 18,.mv (.tmp 17)⟩,⟨some (18,false),some 19,.mv (.tmp 0)⟩,⟨some (18,false),some 20,.iop .eql (.tmp 19) (.const (.int .i64 3))⟩,⟨some (18,false),some 21,.mv (.tmp 20)⟩,⟨some (21,true),some 22,.mv (.tmp 1)⟩,⟨some (21,true),some 23,.mv (.tmp 2)⟩,⟨some (21,true),some 24,.call 192 [.tmp 22,.tmp 23]⟩,⟨some (18,false),some 25,.pick (.tmp 21) (.tmp 24) (.const (.bool false))⟩,⟨none,some 26,.pick (.tmp 18) (.const (.bool true)) (.tmp 25)⟩,⟨none,some 6,.mv (.tmp 26)⟩])
 .ret))
abbrev r145 : List RV:=[(.tmp 6)]
theorem F145 : FnOk Go.Proofs.Tryz.prog 145 27 c145 r145:=⟨_,Go.Proofs.Tryz.func145,by kernel_rfl,by kernel_rfl,by kernel_rfl,by kernel_rfl,by kernel_rfl⟩
noncomputable def c146 : CC:=(.seq (.ops [⟨none,some 4,.mv (.const (.slice none 0 0))⟩])
 (.seq (.ops [⟨none,some 5,.mv (.const (.slice none 0 0))⟩])
 (.seq (.ops [⟨none,some 6,.mv (.const (.bool false))⟩])
 (.seq (.seq (.ops [⟨none,some 9,.mv (.tmp 0)⟩,⟨none,some 10,.lenL (.tmp 9)⟩,⟨none,some 11,.mv (.const (.int .i64 0))⟩])
 (.block 0
 (.loop
 (.seq (.ops [⟨none,some 12,.iop .lss (.tmp 11) (.tmp 10)⟩])
 (.seq (.cond (.tmp 12)
 .skip
 (.exit 0))
 (.seq (.block 1
 (.seq (.ops [⟨none,some 13,.iaddr 1 (.tmp 9) (.tmp 11)⟩,⟨none,some 14,.load1 (.tmp 13)⟩,⟨none,some 8,.mv (.tmp 14)⟩])
 (.seq (.seq (.ops [⟨none,some 15,.mv (.tmp 6)⟩,⟨none,some 16,.not (.tmp 15)⟩,⟨none,some 17,.mv (.tmp 16)⟩,⟨some (17,true),some 18,.mv (.tmp 1)⟩,⟨some (17,true),some 19,.mv (.tmp 8)⟩,⟨some (17,true),some 20,.sop .leq (.tmp 18) (.tmp 19)⟩,⟨none,some 21,.pick (.tmp 17) (.tmp 20) (.const (.bool false))⟩])
 (.cond (.tmp 21)
 (.seq (.ops [⟨none,some 22,.mv (.tmp 5)⟩,⟨none,some 23,.mv (.tmp 1)⟩,⟨none,some 24,.buildS 9 1 [.string (.mk #[])] [(0,(1,.tmp 23))]⟩,⟨none,some 25,.raw 41 (.mk (some 25) (.call (.mk (.builtin .append) #[.tmp 22,.tmp 24] #[80,80])) 80 "ref.go:129" #[.mk 0 .data,.mk 2 .data] none)⟩,⟨none,some 5,.mv (.tmp 25)⟩])
 (.ops [⟨none,some 6,.mv (.const (.bool true))⟩]))
 .skip))
 (.seq (.ops [⟨none,some 26,.mv (.tmp 1)⟩,⟨none,some 27,.mv (.tmp 8)⟩,⟨none,some 28,.sop .neq (.tmp 26) (.tmp 27)⟩])
 (.cond (.tmp 28)
 (.ops [⟨none,some 29,.mv (.tmp 5)⟩,⟨none,some 30,.mv (.tmp 8)⟩,⟨none,some 31,.buildS 9 1 [.string (.mk #[])] [(0,(1,.tmp 30))]⟩,⟨none,some 32,.raw 41 (.mk (some 32) (.call (.mk (.builtin .append) #[.tmp 29,.tmp 31] #[80,80])) 80 "ref.go:133" #[.mk 0 .data,.mk 2 .data] none)⟩,⟨none,some 5,.mv (.tmp 32)⟩])
 .skip)))))
 (.ops [⟨none,some 33,.iop .add (.tmp 11) (.const (.int .i64 1))⟩,⟨none,some 11,.mv (.tmp 33)⟩])))))))
 (.seq (.seq (.ops [⟨none,some 34,.mv (.tmp 6)⟩,⟨none,some 35,.not (.tmp 34)⟩])
 (.cond (.tmp 35)
 (.ops [⟨none,some 36,.mv (.tmp 5)⟩,⟨none,some 37,.mv (.tmp 1)⟩,⟨none,some 38,.buildS 9 1 [.string (.mk #[])] [(0,(1,.tmp 37))]⟩,⟨none,some 39,.raw 41 (.mk (some 39) (.call (.mk (.builtin .append) #[.tmp 36,.tmp 38] #[80,80])) 80 "ref.go:137" #[.mk 0 .data,.mk 2 .data] none)⟩,⟨none,some 5,.mv (.tmp 39)⟩])
 .skip))
 (.seq (.ops [⟨none,some 40,.mv (.tmp 5)⟩,⟨none,some 4,.mv (.tmp 40)⟩])
 .ret))))))
abbrev r146 : List RV:=[(.tmp 4)]
theorem F146 : FnOk Go.Proofs.Tryz.prog 146 41 c146 r146:=⟨_,Go.Proofs.Tryz.func146,by kernel_rfl,by kernel_rfl,by kernel_rfl,by kernel_rfl,by kernel_rfl⟩
noncomputable def c147 : CC:=(.seq (.ops [⟨none,some 5,.box 243 (.tmp 0)⟩])
 (.seq (.ops [⟨none,some 6,.alloc 64 (.agg #[.string (.mk #[]),.int .i64 0,.string (.mk #[]),.string (.mk #[])])⟩])
 (.seq (.ops [⟨none,some 14,.load1 (.tmp 1)⟩,⟨none,some 15,.load1 (.tmp 2)⟩,⟨none,some 16,.call 69 [.tmp 14,.tmp 15]⟩,⟨none,some 13,.mv (.tmp 16)⟩,⟨none,some 17,.ext (.tmp 13) 0⟩,⟨none,some 18,.ext (.tmp 13) 1⟩,⟨none,some 7,.mv (.tmp 17)⟩,⟨none,some 8,.mv (.tmp 18)⟩])
 (.seq (.seq (.ops [⟨none,some 19,.mv (.tmp 7)⟩,⟨none,some 20,.sop .eql (.tmp 19) (.const (.string (.mk #[])))⟩])
 (.cond (.tmp 20)
 .ret
 .skip))
 (.seq (.ops [⟨none,some 21,.load1 (.tmp 3)⟩,⟨none,some 22,.mv (.tmp 7)⟩,⟨none,some 23,.mv (.tmp 8)⟩,⟨none,some 24,.inv (.tmp 21) "Range" [.tmp 22,.tmp 23]⟩])
 (.block 0
 (.range (.tmp 24) #[25,26] (sub (bodyOf Go.Proofs.Tryz.f147) [1,1,1,1,1,0,0]) (sub (bodyOf Go.Proofs.Tryz.f147) [1,1,1,1,1,0,1])
 (.seq (.ops [⟨none,some 9,.alloc 29 (.agg #[.string (.mk #[]),.string (.mk #[])])⟩,⟨none,none,.storeN 2 (.tmp 9) (.tmp 25)⟩])
 (.ops [⟨none,some 10,.mv (.tmp 26)⟩]))
 (.block 1
 (.seq (.ops [⟨none,some 11,.alloc 98 (.agg #[.string (.mk #[]),.string (.mk #[]),.int .u64 0,.int .u64 0,.string (.mk #[]),.int .i64 0,.string (.mk #[]),.string (.mk #[]),.string (.mk #[])])⟩])
 (.seq (.ops [⟨none,some 27,.loadN 4 (.tmp 6)⟩,⟨none,some 12,.alloc 64 (.agg #[.string (.mk #[]),.int .i64 0,.string (.mk #[]),.string (.mk #[])])⟩,⟨none,none,.storeN 4 (.tmp 12) (.tmp 27)⟩])
 (.seq (.seq (.ops [⟨none,some 28,.mv (.tmp 10)⟩,⟨none,some 29,.iop .eql (.tmp 28) (.const (.int .i64 0))⟩])
 (.cond (.tmp 29)
 (.ops [⟨none,some 31,.faddr 0 (.tmp 9)⟩,⟨none,some 32,.load1 (.tmp 31)⟩,⟨none,some 33,.call 38 [.tmp 32]⟩,⟨none,some 30,.mv (.tmp 33)⟩,⟨none,some 34,.ext (.tmp 30) 0⟩,⟨none,some 35,.ext (.tmp 30) 1⟩,⟨none,none,.storeN 9 (.tmp 11) (.tmp 34)⟩,⟨none,some 10,.mv (.tmp 35)⟩])
 .skip))
 (.seq (.seq (.ops [⟨none,some 36,.mv (.tmp 10)⟩,⟨none,some 37,.iop .eql (.tmp 36) (.const (.int .i64 0))⟩])
 (.cond (.tmp 37)
 (.ops [⟨none,some 39,.load1 (.tmp 4)⟩,⟨none,some 40,.loadN 9 (.tmp 11)⟩,⟨none,some 41,.faddr 1 (.tmp 9)⟩,⟨none,some 42,.load1 (.tmp 41)⟩,⟨none,some 43,.callv (.tmp 39) [.tmp 40,.tmp 42]⟩,⟨none,some 38,.mv (.tmp 43)⟩,⟨none,some 44,.ext (.tmp 38) 0⟩,⟨none,some 45,.ext (.tmp 38) 1⟩,⟨none,none,.storeN 4 (.tmp 12) (.tmp 44)⟩,⟨none,some 10,.mv (.tmp 45)⟩])
 .skip))
 (.seq (.seq (.ops [⟨none,some 46,.mv (.tmp 10)⟩,⟨none,some 47,.iop .neq (.tmp 46) (.const (.int .i64 0))⟩])
 (.cond (.tmp 47)
 (.seq (.ops [⟨none,some 48,.load1 (.tmp 5)⟩,⟨none,some 49,.loadN 4 (.tmp 6)⟩,⟨none,some 50,.mv (.tmp 10)⟩,⟨none,some 51,.callv (.tmp 48) [.tmp 49,.tmp 50]⟩])
 .ret)
 .skip))
 (.seq (.ops [⟨none,some 52,.load1 (.tmp 5)⟩,⟨none,some 53,.loadN 4 (.tmp 12)⟩,⟨none,some 54,.callv (.tmp 52) [.tmp 53,.const (.int .i64 0)]⟩,⟨none,some 55,.not (.tmp 54)⟩])
 (.cond (.tmp 55)
 .ret
 .skip)))))))))))))))
abbrev r147 : List RV:=[]
theorem F147 : FnOk Go.Proofs.Tryz.prog 147 56 c147 r147:=⟨_,Go.Proofs.Tryz.func147,by kernel_rfl,by kernel_rfl,by kernel_rfl,by kernel_rfl,by kernel_rfl⟩
noncomputable def c148 : CC:=(.seq (.ops [⟨none,some 2,.mv (.const (.bool false))⟩])
 (.seq (.ops [⟨none,some 3,.mv (.tmp 0)⟩,⟨none,some 4,(.call 149 [.tmp 3,(.func 193)])⟩,⟨none,some 2,.mv (.tmp 4)⟩])
 .ret))
abbrev r148 : List RV:=[(.tmp 2)]
theorem F148 : FnOk Go.Proofs.Tryz.prog 148 5 c148 r148:=⟨_,Go.Proofs.Tryz.func148,by kernel_rfl,by kernel_rfl,by kernel_rfl,by kernel_rfl,by kernel_rfl⟩
noncomputable def c149 : CC:=(.seq (.ops [⟨none,some 3,.box 46 (.tmp 1)⟩,⟨none,some 4,.alloc 4 (.bool false)⟩])
 (.seq (.ops [⟨none,some 5,.alloc 3 (.int .i64 0)⟩,⟨none,none,.store1 (.tmp 5) (.const (.int .i64 0))⟩])
 (.seq (.seq (.ops [⟨none,some 7,.mv (.tmp 0)⟩,⟨none,some 8,.call 194 [.tmp 7]⟩])
 (.block 0
 (.range (.tmp 8) #[9] (sub (bodyOf Go.Proofs.Tryz.f149) [1,1,0,1,0,0]) (sub (bodyOf Go.Proofs.Tryz.f149) [1,1,0,1,0,1])
 (.ops [⟨none,some 6,.mv (.tmp 9)⟩])
 (.block 1
 (.seq (.ops [⟨none,some 10,.load1 (.tmp 5)⟩,⟨none,some 11,.iop .add (.tmp 10) (.const (.int .i64 1))⟩,⟨none,none,.store1 (.tmp 5) (.tmp 11)⟩])
 (.seq (.ops [⟨none,some 12,.load1 (.tmp 5)⟩,⟨none,some 13,.iop .gtr (.tmp 12) (.const (.int .i64 8))⟩,⟨none,some 14,.mv (.tmp 13)⟩,⟨some (14,false),some 15,.load1 (.tmp 3)⟩,⟨some (14,false),some 16,.mv (.tmp 6)⟩,⟨some (14,false),some 17,.callv (.tmp 15) [.tmp 16]⟩,⟨some (14,false),some 18,.not (.tmp 17)⟩,⟨none,some 19,.pick (.tmp 14) (.const (.bool true)) (.tmp 18)⟩])
 (.cond (.tmp 19)
 (.seq (.ops [⟨none,none,.store1 (.tmp 4) (.const (.bool false))⟩])
 .ret)
 .skip)))))))
 (.seq (.ops [⟨none,none,.store1 (.tmp 4) (.const (.bool true))⟩])
 .ret))))
abbrev r149 : List RV:=[(.c1 4)]
theorem F149 : FnOk Go.Proofs.Tryz.prog 149 20 c149 r149:=⟨_,Go.Proofs.Tryz.func149,by kernel_rfl,by kernel_rfl,by kernel_rfl,by kernel_rfl,by kernel_rfl⟩
noncomputable def c150 : CC:=(.seq (.ops [⟨none,some 2,.mv (.const (.slice none 0 0))⟩])
 (.seq (.seq (.ops [⟨none,some 3,.mv (.tmp 0)⟩,⟨none,some 4,.pnil 1 false (.tmp 3)⟩])
 (.cond (.tmp 4)
 (.seq (.ops [⟨none,some 2,.mv (.const (.slice none 0 0))⟩])
 .ret)
 .skip))
 (.seq (.ops [⟨none,some 5,.buildS 9 0 [] []⟩,⟨none,some 6,.mv (.tmp 0)⟩,⟨none,some 7,.raw 8 (.mk (some 7) (.call (.mk (.builtin .append) #[.tmp 5,.tmp 6] #[80,80])) 80 "slices.go:362" #[.mk 0 .data,.mk 1 .data] none)⟩,⟨none,some 2,.mv (.tmp 7)⟩])
 .ret)))
abbrev r150 : List RV:=[(.tmp 2)]
theorem F150 : FnOk Go.Proofs.Tryz.prog 150 8 c150 r150:=⟨_,Go.Proofs.Tryz.func150,by kernel_rfl,by kernel_rfl,by kernel_rfl,by kernel_rfl,by kernel_rfl⟩
noncomputable def c152 : CC:=(.seq (.ops [⟨none,some 2,.mv (.const (.slice none 0 0))⟩])
 (.seq (.seq (.ops [⟨none,some 6,.mv (.tmp 0)⟩,⟨none,some 7,.lenL (.tmp 6)⟩,⟨none,some 8,.iop .lss (.tmp 7) (.const (.int .i64 2))⟩])
 (.cond (.tmp 8)
 (.seq (.ops [⟨none,some 9,.mv (.tmp 0)⟩,⟨none,some 2,.mv (.tmp 9)⟩])
 .ret)
 .skip))
 (.seq (.seq (.ops [⟨none,some 3,.mv (.const (.int .i64 1))⟩])
 (.block 0
 (.loop
 (.seq (.seq (.ops [⟨none,some 10,.mv (.tmp 3)⟩,⟨none,some 11,.mv (.tmp 0)⟩,⟨none,some 12,.lenL (.tmp 11)⟩,⟨none,some 13,.iop .lss (.tmp 10) (.tmp 12)⟩])
 (.cond (.tmp 13)
 .skip
 (.exit 0)))
 (.seq (.block 1
 (.seq (.draw 6 (opsOf (sub (bodyOf Go.Proofs.Tryz.f152) [1,1,0,1,0,0,1,0,0,0])) [⟨none,some 16,.mv (.tmp 0)⟩,⟨none,some 17,.mv (.tmp 3)⟩,⟨none,some 18,.iaddr 1 (.tmp 16) (.tmp 17)⟩,⟨none,some 19,.load1 (.tmp 18)⟩,⟨none,some 20,.mv (.tmp 0)⟩,⟨none,some 21,.mv (.tmp 3)⟩,⟨none,some 22,.iop .sub (.tmp 21) (.const (.int .i64 1))⟩,⟨none,some 23,.iaddr 1 (.tmp 20) (.tmp 22)⟩,⟨none,some 24,.load1 (.tmp 23)⟩,⟨none,some 25,.sop .eql (.tmp 19) (.tmp 24)⟩])
 (.cond (.tmp 25)
 (.seq (.ops [⟨none,some 26,.mv (.tmp 0)⟩,⟨none,some 27,.mv (.tmp 3)⟩,⟨none,some 28,.slL 1 (.tmp 26) (some (.tmp 27)) none⟩,⟨none,some 4,.mv (.tmp 28)⟩])
 (.seq (.seq (.ops [⟨none,some 5,.mv (.const (.int .i64 1))⟩])
 (.block 2
 (.loop
 (.seq (.seq (.ops [⟨none,some 29,.mv (.tmp 5)⟩,⟨none,some 30,.mv (.tmp 4)⟩,⟨none,some 31,.lenL (.tmp 30)⟩,⟨none,some 32,.iop .lss (.tmp 29) (.tmp 31)⟩])
 (.cond (.tmp 32)
 .skip
 (.exit 2)))
 (.seq (.block 3
 (.seq (.draw 11 (opsOf (sub (bodyOf Go.Proofs.Tryz.f152) [1,1,0,1,0,0,1,0,0,1,0,1,0,1,0,0,1,0,0,0])) [⟨none,some 35,.mv (.tmp 4)⟩,⟨none,some 36,.mv (.tmp 5)⟩,⟨none,some 37,.iaddr 1 (.tmp 35) (.tmp 36)⟩,⟨none,some 38,.load1 (.tmp 37)⟩,⟨none,some 39,.mv (.tmp 4)⟩,⟨none,some 40,.mv (.tmp 5)⟩,⟨none,some 41,.iop .sub (.tmp 40) (.const (.int .i64 1))⟩,⟨none,some 42,.iaddr 1 (.tmp 39) (.tmp 41)⟩,⟨none,some 43,.load1 (.tmp 42)⟩,⟨none,some 44,.sop .neq (.tmp 38) (.tmp 43)⟩])
 (.cond (.tmp 44)
 (.seq (.ops [⟨none,some 45,.mv (.tmp 0)⟩,⟨none,some 46,.mv (.tmp 3)⟩,⟨none,some 47,.mv (.tmp 4)⟩,⟨none,some 48,.mv (.tmp 5)⟩,⟨none,some 49,.iaddr 1 (.tmp 47) (.tmp 48)⟩,⟨none,some 50,.load1 (.tmp 49)⟩,⟨none,some 51,.iaddr 1 (.tmp 45) (.tmp 46)⟩,⟨none,none,.store1 (.tmp 51) (.tmp 50)⟩])
 (.ops [⟨none,some 52,.mv (.tmp 3)⟩,⟨none,some 53,.iop .add (.tmp 52) (.const (.int .i64 1))⟩,⟨none,some 3,.mv (.tmp 53)⟩]))
 .skip)))
 (.ops [⟨none,some 33,.mv (.tmp 5)⟩,⟨none,some 34,.iop .add (.tmp 33) (.const (.int .i64 1))⟩,⟨none,some 5,.mv (.tmp 34)⟩]))))))
 (.seq (.ops [⟨none,some 54,.mv (.tmp 0)⟩,⟨none,some 55,.mv (.tmp 3)⟩,⟨none,some 56,.slL 1 (.tmp 54) (some (.tmp 55)) none⟩,⟨none,none,.raw 61 (.mk none (.call (.mk (.builtin .clear) #[.tmp 56] #[80])) 0 "slices.go:385" #[.mk 2 .data] none)⟩])
 (.seq (.ops [⟨none,some 57,.mv (.tmp 0)⟩,⟨none,some 58,.mv (.tmp 3)⟩,⟨none,some 59,.slL 1 (.tmp 57) none (some (.tmp 58))⟩,⟨none,some 2,.mv (.tmp 59)⟩])
 .ret))))
 .skip)))
 (.ops [⟨none,some 14,.mv (.tmp 3)⟩,⟨none,some 15,.iop .add (.tmp 14) (.const (.int .i64 1))⟩,⟨none,some 3,.mv (.tmp 15)⟩]))))))
 (.seq (.ops [⟨none,some 60,.mv (.tmp 0)⟩,⟨none,some 2,.mv (.tmp 60)⟩])
 .ret))))
abbrev r152 : List RV:=[(.tmp 2)]
theorem F152 : FnOk Go.Proofs.Tryz.prog 152 61 c152 r152:=⟨_,Go.Proofs.Tryz.func152,by kernel_rfl,by kernel_rfl,by kernel_rfl,by kernel_rfl,by kernel_rfl⟩
noncomputable def c153 : CC:=(.seq (.ops [⟨none,some 4,.mv (.const (.bool false))⟩])
 (.seq (.ops [⟨none,some 8,.mv (.tmp 1)⟩,⟨none,some 9,.call 194 [.tmp 8]⟩,⟨none,some 10,.call 90 [.tmp 9]⟩,⟨none,some 5,.alloc 80 (.slice none 0 0)⟩,⟨none,none,.store1 (.tmp 5) (.tmp 10)⟩])
 (.seq (.ops [⟨none,some 11,.load1 (.tmp 5)⟩,⟨none,some 12,.lenL (.tmp 11)⟩,⟨none,some 13,.iop .add (.tmp 12) (.const (.int .i64 1))⟩,⟨none,some 14,.raw 29 (.mk (some 14) (.makeSlice 277 (.tmp 13) (.tmp 13)) 277 "topic.go:74" #[.mk 2 .data,.mk 2 .data] none)⟩,⟨none,some 6,.alloc 277 (.slice none 0 0)⟩,⟨none,none,.store1 (.tmp 6) (.tmp 14)⟩])
 (.seq (.ops [⟨none,some 15,.load1 (.tmp 6)⟩,⟨none,some 16,.iaddr 1 (.tmp 15) (.const (.int .i64 0))⟩,⟨none,none,.store1 (.tmp 16) (.const (.bool true))⟩])
 (.seq (.seq (.ops [⟨none,some 17,.mv (.tmp 0)⟩,⟨none,some 18,.call 194 [.tmp 17]⟩])
 (.block 0
 (.range (.tmp 18) #[19] (sub (bodyOf Go.Proofs.Tryz.f153) [1,1,1,1,0,1,0,0]) (sub (bodyOf Go.Proofs.Tryz.f153) [1,1,1,1,0,1,0,1])
 (.ops [⟨none,some 7,.mv (.tmp 19)⟩])
 (.block 1
 (.ops [⟨none,some 20,.load1 (.tmp 6)⟩,⟨none,some 21,.mv (.tmp 7)⟩,⟨none,some 22,.load1 (.tmp 5)⟩,⟨none,some 23,.call 197 [.tmp 20,.tmp 21,.tmp 22]⟩,⟨none,none,.store1 (.tmp 6) (.tmp 23)⟩])))))
 (.seq (.ops [⟨none,some 24,.load1 (.tmp 6)⟩,⟨none,some 25,.load1 (.tmp 5)⟩,⟨none,some 26,.lenL (.tmp 25)⟩,⟨none,some 27,.iaddr 1 (.tmp 24) (.tmp 26)⟩,⟨none,some 28,.load1 (.tmp 27)⟩,⟨none,some 4,.mv (.tmp 28)⟩])
 .ret))))))
abbrev r153 : List RV:=[(.tmp 4)]
theorem F153 : FnOk Go.Proofs.Tryz.prog 153 29 c153 r153:=⟨_,Go.Proofs.Tryz.func153,by kernel_rfl,by kernel_rfl,by kernel_rfl,by kernel_rfl,by kernel_rfl⟩
noncomputable def c154 : CC:=(.seq (.ops [⟨none,some 4,.mv (.const (.int .i64 0))⟩,⟨none,some 5,.mv (.const (.bool false))⟩])
 (.seq (.seq (.ops [⟨none,some 6,.mv (.tmp 0)⟩,⟨none,some 7,.pnil 0 false (.tmp 6)⟩])
 (.cond (.tmp 7)
 (.seq (.ops [⟨none,some 4,.mv (.const (.int .i64 0))⟩,⟨none,some 5,.mv (.const (.bool false))⟩])
 .ret)
 .skip))
 (.seq (.ops [⟨none,some 8,.mv (.tmp 0)⟩,⟨none,some 9,.nilc (.tmp 8)⟩,⟨none,some 10,.faddr 0 (.tmp 9)⟩,⟨none,some 11,.load1 (.tmp 10)⟩,⟨none,some 12,.mv (.tmp 1)⟩,⟨none,some 13,.call 198 [.tmp 11,.tmp 12]⟩,⟨none,some 14,.ext (.tmp 13) 0⟩,⟨none,some 15,.ext (.tmp 13) 1⟩,⟨none,some 4,.mv (.tmp 14)⟩,⟨none,some 5,.mv (.tmp 15)⟩])
 .ret)))
abbrev r154 : List RV:=[(.tmp 4),(.tmp 5)]
theorem F154 : FnOk Go.Proofs.Tryz.prog 154 16 c154 r154:=⟨_,Go.Proofs.Tryz.func154,by kernel_rfl,by kernel_rfl,by kernel_rfl,by kernel_rfl,by kernel_rfl⟩
noncomputable def c156 : CC:=(.seq (.ops [⟨none,some 2,.box 80 (.tmp 0)⟩,⟨none,some 4,.mv (.const (.slice none 0 0))⟩])
 (.seq (.seq (.ops [⟨none,some 6,.mv (.tmp 1)⟩])
 (.block 0
 (.range (.tmp 6) #[7] (sub (bodyOf Go.Proofs.Tryz.f156) [1,0,1,0,0]) (sub (bodyOf Go.Proofs.Tryz.f156) [1,0,1,0,1])
 (.ops [⟨none,some 5,.mv (.tmp 7)⟩])
 (.block 1
 (.ops [⟨none,some 8,.load1 (.tmp 2)⟩,⟨none,some 9,.mv (.tmp 5)⟩,⟨none,some 10,.buildS 9 1 [.string (.mk #[])] [(0,(1,.tmp 9))]⟩,⟨none,some 11,.raw 13 (.mk (some 11) (.call (.mk (.builtin .append) #[.tmp 8,.tmp 10] #[80,80])) 80 "iter.go:52" #[.mk 0 .data,.mk 2 .data] none)⟩,⟨none,none,.store1 (.tmp 2) (.tmp 11)⟩])))))
 (.seq (.ops [⟨none,some 12,.load1 (.tmp 2)⟩,⟨none,some 4,.mv (.tmp 12)⟩])
 .ret)))
abbrev r156 : List RV:=[(.tmp 4)]
theorem F156 : FnOk Go.Proofs.Tryz.prog 156 13 c156 r156:=⟨_,Go.Proofs.Tryz.func156,by kernel_rfl,by kernel_rfl,by kernel_rfl,by kernel_rfl,by kernel_rfl⟩
noncomputable def c157 : CC:=(.ops [⟨none,some 3,.load1 (.tmp 1)⟩,⟨none,some 4,.mv (.tmp 0)⟩,⟨none,some 5,.call 158 [.tmp 3,.const (.int .i64 0),.tmp 4]⟩])
abbrev r157 : List RV:=[]
theorem F157 : FnOk Go.Proofs.Tryz.prog 157 6 c157 r157:=⟨_,Go.Proofs.Tryz.func157,by kernel_rfl,by kernel_rfl,by kernel_rfl,by kernel_rfl,by kernel_rfl⟩
noncomputable def c158 : CC:=(.seq (.ops [⟨none,some 10,.mv (.tmp 0)⟩,⟨none,some 11,.mv (.tmp 1)⟩,⟨none,some 12,.call 201 [.tmp 10,.tmp 11]⟩,⟨none,some 9,.mv (.tmp 12)⟩,⟨none,some 13,.ext (.tmp 9) 0⟩,⟨none,some 14,.ext (.tmp 9) 1⟩,⟨none,some 6,.mv (.tmp 13)⟩,⟨none,some 7,.mv (.tmp 14)⟩])
 (.block 0
 (.loop
 (.seq (.seq (.ops [⟨none,some 15,.mv (.tmp 7)⟩])
 (.cond (.tmp 15)
 .skip
 (.exit 0)))
 (.seq (.block 1
 (.seq (.seq (.ops [⟨none,some 22,.mv (.tmp 2)⟩,⟨none,some 23,.mv (.tmp 6)⟩,⟨none,some 24,.callv (.tmp 22) [.tmp 23]⟩,⟨none,some 25,.not (.tmp 24)⟩])
 (.cond (.tmp 25)
 .ret
 .skip))
 (.seq (.ops [⟨none,some 8,.mv (.const (.bool false))⟩])
 (.seq (.ops [⟨none,some 27,.mv (.tmp 0)⟩,⟨none,some 28,.mv (.tmp 6)⟩,⟨none,some 29,.call 154 [.tmp 27,.tmp 28]⟩,⟨none,some 26,.mv (.tmp 29)⟩,⟨none,some 30,.ext (.tmp 26) 0⟩,⟨none,some 31,.ext (.tmp 26) 1⟩,⟨none,some 1,.mv (.tmp 30)⟩,⟨none,some 8,.mv (.tmp 31)⟩])
 (.seq (.ops [⟨none,some 32,.mv (.tmp 8)⟩])
 (.cond (.tmp 32)
 (.ops [⟨none,some 33,.mv (.tmp 1)⟩,⟨none,some 34,.iop .add (.tmp 33) (.const (.int .i64 1))⟩,⟨none,some 1,.mv (.tmp 34)⟩])
 .skip))))))
 (.ops [⟨none,some 17,.mv (.tmp 0)⟩,⟨none,some 18,.mv (.tmp 1)⟩,⟨none,some 19,.call 201 [.tmp 17,.tmp 18]⟩,⟨none,some 16,.mv (.tmp 19)⟩,⟨none,some 20,.ext (.tmp 16) 0⟩,⟨none,some 21,.ext (.tmp 16) 1⟩,⟨none,some 6,.mv (.tmp 20)⟩,⟨none,some 7,.mv (.tmp 21)⟩]))))))
abbrev r158 : List RV:=[]
theorem F158 : FnOk Go.Proofs.Tryz.prog 158 35 c158 r158:=⟨_,Go.Proofs.Tryz.func158,by kernel_rfl,by kernel_rfl,by kernel_rfl,by kernel_rfl,by kernel_rfl⟩
noncomputable def c190 : CC:=(.seq (.ops [⟨none,some 2,.mv (.const (.bool false))⟩])
 (.seq (.ops [⟨none,some 6,.mv (.tmp 0)⟩,⟨none,some 7,.call 191 [.tmp 6]⟩,⟨none,some 3,.mv (.tmp 7)⟩])
 (.seq (.seq (.ops [⟨none,some 8,.mv (.tmp 3)⟩,⟨none,some 9,.lenL (.tmp 8)⟩,⟨none,some 10,.mv (.const (.int .i64 0))⟩])
 (.block 0
 (.loop
 (.seq (.ops [⟨none,some 11,.iop .lss (.tmp 10) (.tmp 9)⟩])
 (.seq (.cond (.tmp 11)
 .skip
 (.exit 0))
 (.seq (.block 1
 (.seq (.ops [⟨none,some 12,.iaddr 1 (.tmp 8) (.tmp 10)⟩,⟨none,some 13,.load1 (.tmp 12)⟩,⟨none,some 5,.mv (.tmp 13)⟩])
 (.seq (.ops [⟨none,some 14,.mv (.tmp 5)⟩,⟨none,some 15,.sop .neq (.tmp 14) (.const (.string (.mk #[42])))⟩,⟨none,some 16,.mv (.tmp 15)⟩,⟨some (16,true),some 17,.mv (.tmp 5)⟩,⟨some (16,true),some 18,.sop .neq (.tmp 17) (.const (.string (.mk #[35])))⟩,⟨none,some 19,.pick (.tmp 16) (.tmp 18) (.const (.bool false))⟩,⟨none,some 20,.mv (.tmp 19)⟩,⟨some (20,true),some 21,.mv (.tmp 5)⟩,⟨some (20,true),some 22,.call 142 [.tmp 21]⟩,⟨some (20,true),some 23,.not (.tmp 22)⟩,⟨none,some 24,.pick (.tmp 20) (.tmp 23) (.const (.bool false))⟩])
 (.cond (.tmp 24)
 (.seq (.ops [⟨none,some 2,.mv (.const (.bool false))⟩])
 .ret)
 .skip))))
 (.ops [⟨none,some 25,.iop .add (.tmp 10) (.const (.int .i64 1))⟩,⟨none,some 10,.mv (.tmp 25)⟩])))))))
 (.seq (.ops [⟨none,some 26,.mv (.tmp 3)⟩,⟨none,some 27,.lenL (.tmp 26)⟩,⟨none,some 28,.iop .leq (.tmp 27) (.const (.int .i64 8))⟩,⟨none,some 2,.mv (.tmp 28)⟩])
 .ret))))
abbrev r190 : List RV:=[(.tmp 2)]
theorem F190 : FnOk Go.Proofs.Tryz.prog 190 29 c190 r190:=⟨_,Go.Proofs.Tryz.func190,by kernel_rfl,by kernel_rfl,by kernel_rfl,by kernel_rfl,by kernel_rfl⟩
noncomputable def c191 : CC:=(.seq (.ops [⟨none,some 2,.mv (.const (.slice none 0 0))⟩])
 (.seq (.ops [⟨none,some 3,.mv (.const (.slice none 0 0))⟩])
 (.seq (.seq (.ops [⟨none,some 6,.mv (.tmp 0)⟩,⟨none,some 7,.sop .eql (.tmp 6) (.const (.string (.mk #[])))⟩])
 (.cond (.tmp 7)
 (.seq (.ops [⟨none,some 8,.mv (.tmp 3)⟩,⟨none,some 2,.mv (.tmp 8)⟩])
 .ret)
 .skip))
 (.seq (.ops [⟨none,some 4,.mv (.const (.string (.mk #[])))⟩])
 (.seq (.seq (.ops [⟨none,some 5,.mv (.const (.int .i64 0))⟩])
 (.block 0
 (.loop
 (.seq (.seq (.ops [⟨none,some 9,.mv (.tmp 5)⟩,⟨none,some 10,.mv (.tmp 0)⟩,⟨none,some 11,.lenS (.tmp 10)⟩,⟨none,some 12,.iop .lss (.tmp 9) (.tmp 11)⟩])
 (.cond (.tmp 12)
 .skip
 (.exit 0)))
 (.seq (.block 1
 (.seq (.seq (.ops [⟨none,some 15,.mv (.tmp 0)⟩,⟨none,some 16,.mv (.tmp 5)⟩,⟨none,some 17,.sidx (.tmp 15) (.tmp 16)⟩,⟨none,some 18,.iop .eql (.tmp 17) (.const (.int .u8 46))⟩])
 (.cond (.tmp 18)
 (.seq (.ops [⟨none,some 19,.mv (.tmp 3)⟩,⟨none,some 20,.mv (.tmp 4)⟩,⟨none,some 21,.buildS 9 1 [.string (.mk #[])] [(0,(1,.tmp 20))]⟩,⟨none,some 22,.raw 34 (.mk (some 22) (.call (.mk (.builtin .append) #[.tmp 19,.tmp 21] #[80,80])) 80 "ref.go:13" #[.mk 0 .data,.mk 2 .data] none)⟩,⟨none,some 3,.mv (.tmp 22)⟩])
 (.seq (.ops [⟨none,some 4,.mv (.const (.string (.mk #[])))⟩])
 (.exit 1)))
 .skip))
 (.ops [⟨none,some 23,.mv (.tmp 4)⟩,⟨none,some 24,.mv (.tmp 0)⟩,⟨none,some 25,.mv (.tmp 5)⟩,⟨none,some 26,.mv (.tmp 5)⟩,⟨none,some 27,.iop .add (.tmp 26) (.const (.int .i64 1))⟩,⟨none,some 28,.slS (.tmp 24) (some (.tmp 25)) (some (.tmp 27))⟩,⟨none,some 29,.sop .add (.tmp 23) (.tmp 28)⟩,⟨none,some 4,.mv (.tmp 29)⟩])))
 (.ops [⟨none,some 13,.mv (.tmp 5)⟩,⟨none,some 14,.iop .add (.tmp 13) (.const (.int .i64 1))⟩,⟨none,some 5,.mv (.tmp 14)⟩]))))))
 (.seq (.ops [⟨none,some 30,.mv (.tmp 3)⟩,⟨none,some 31,.mv (.tmp 4)⟩,⟨none,some 32,.buildS 9 1 [.string (.mk #[])] [(0,(1,.tmp 31))]⟩,⟨none,some 33,.raw 34 (.mk (some 33) (.call (.mk (.builtin .append) #[.tmp 30,.tmp 32] #[80,80])) 80 "ref.go:19" #[.mk 0 .data,.mk 2 .data] none)⟩,⟨none,some 2,.mv (.tmp 33)⟩])
 .ret))))))
abbrev r191 : List RV:=[(.tmp 2)]
theorem F191 : FnOk Go.Proofs.Tryz.prog 191 34 c191 r191:=⟨_,Go.Proofs.Tryz.func191,by kernel_rfl,by kernel_rfl,by kernel_rfl,by kernel_rfl,by kernel_rfl⟩
noncomputable def c192 : CC:=(.seq (.ops [⟨none,some 4,.mv (.const (.bool false))⟩])
 (.seq (.ops [⟨none,some 5,.mv (.tmp 0)⟩,⟨none,some 6,.call 191 [.tmp 5]⟩,⟨none,some 7,.mv (.tmp 1)⟩,⟨none,some 8,.call 191 [.tmp 7]⟩,⟨none,some 9,.call 216 [.tmp 6,.tmp 8]⟩,⟨none,some 4,.mv (.tmp 9)⟩])
 .ret))
abbrev r192 : List RV:=[(.tmp 4)]
theorem F192 : FnOk Go.Proofs.Tryz.prog 192 10 c192 r192:=⟨_,Go.Proofs.Tryz.func192,by kernel_rfl,by kernel_rfl,by kernel_rfl,by kernel_rfl,by kernel_rfl⟩
noncomputable def c193 : CC:=(.seq (.ops [⟨none,some 2,.mv (.const (.bool false))⟩])
 (.seq (.ops [⟨none,some 3,.mv (.tmp 0)⟩,⟨none,some 4,.sop .eql (.tmp 3) (.const (.string (.mk #[42])))⟩,⟨none,some 5,.mv (.tmp 4)⟩,⟨some (5,false),some 6,.mv (.tmp 0)⟩,⟨some (5,false),some 7,.sop .eql (.tmp 6) (.const (.string (.mk #[35])))⟩,⟨none,some 8,.pick (.tmp 5) (.const (.bool true)) (.tmp 7)⟩,⟨none,some 9,.mv (.tmp 8)⟩,⟨some (9,false),some 10,.mv (.tmp 0)⟩,⟨some (9,false),some 11,.call 59 [.tmp 10]⟩,⟨none,some 12,.pick (.tmp 9) (.const (.bool true)) (.tmp 11)⟩,⟨none,some 2,.mv (.tmp 12)⟩])
 .ret))
abbrev r193 : List RV:=[(.tmp 2)]
theorem F193 : FnOk Go.Proofs.Tryz.prog 193 13 c193 r193:=⟨_,Go.Proofs.Tryz.func193,by kernel_rfl,by kernel_rfl,by kernel_rfl,by kernel_rfl,by kernel_rfl⟩
noncomputable def c194 : CC:=(.seq (.ops [⟨none,some 2,.mv (.const .nilFunc)⟩])
 (.seq (.seq (.ops [⟨none,some 3,.mv (.tmp 0)⟩,⟨none,some 4,.sop .eql (.tmp 3) (.const (.string (.mk #[])))⟩])
 (.cond (.tmp 4)
 (.seq (.ops [⟨none,some 2,(.mv (.func 217))⟩])
 .ret)
 .skip))
 (.seq (.ops [⟨none,some 5,.mv (.tmp 0)⟩,⟨none,some 6,.call 218 [.tmp 5,.const (.string (.mk #[46]))]⟩,⟨none,some 2,.mv (.tmp 6)⟩])
 .ret)))
abbrev r194 : List RV:=[(.tmp 2)]
theorem F194 : FnOk Go.Proofs.Tryz.prog 194 7 c194 r194:=⟨_,Go.Proofs.Tryz.func194,by kernel_rfl,by kernel_rfl,by kernel_rfl,by kernel_rfl,by kernel_rfl⟩
noncomputable def c197 : CC:=(.seq (.ops [⟨none,some 6,.mv (.const (.slice none 0 0))⟩])
 (.seq (.ops [⟨none,some 9,.mv (.tmp 2)⟩,⟨none,some 10,.lenL (.tmp 9)⟩,⟨none,some 11,.iop .add (.tmp 10) (.const (.int .i64 1))⟩,⟨none,some 12,.raw 76 (.mk (some 12) (.makeSlice 277 (.tmp 11) (.tmp 11)) 277 "topic.go:57" #[.mk 2 .data,.mk 2 .data] none)⟩,⟨none,some 7,.mv (.tmp 12)⟩])
 (.seq (.seq (.ops [⟨none,some 13,.mv (.tmp 7)⟩,⟨none,some 14,.lenL (.tmp 13)⟩,⟨none,some 15,.mv (.const (.int .i64 0))⟩])
 (.block 0
 (.loop
 (.seq (.ops [⟨none,some 16,.iop .lss (.tmp 15) (.tmp 14)⟩])
 (.seq (.cond (.tmp 16)
 .skip
 (.exit 0))
 (.seq (.block 1
 (.seq (.ops [⟨none,some 17,.mv (.tmp 15)⟩,⟨none,some 8,.mv (.tmp 17)⟩])
 (.seq (.ops [⟨none,some 18,.mv (.tmp 1)⟩])
 (.block 2
 (.seq (.ops [⟨none,some 41,.sop .eql (.tmp 18) (.const (.string (.mk #[35])))⟩,⟨none,some 40,.mv (.tmp 41)⟩])
 (.cond (.tmp 40)
 (.ops [⟨none,some 42,.mv (.tmp 7)⟩,⟨none,some 43,.mv (.tmp 8)⟩,⟨none,some 44,.mv (.tmp 0)⟩,⟨none,some 45,.mv (.tmp 8)⟩,⟨none,some 46,.iaddr 1 (.tmp 44) (.tmp 45)⟩,⟨none,some 47,.load1 (.tmp 46)⟩,⟨none,some 48,.mv (.tmp 47)⟩,⟨some (48,false),some 49,.mv (.tmp 8)⟩,⟨some (48,false),some 50,.iop .gtr (.tmp 49) (.const (.int .i64 0))⟩,⟨some (48,false),some 51,.mv (.tmp 50)⟩,⟨some (51,true),some 52,.mv (.tmp 7)⟩,⟨some (51,true),some 53,.mv (.tmp 8)⟩,⟨some (51,true),some 54,.iop .sub (.tmp 53) (.const (.int .i64 1))⟩,⟨some (51,true),some 55,.iaddr 1 (.tmp 52) (.tmp 54)⟩,⟨some (51,true),some 56,.load1 (.tmp 55)⟩,⟨some (48,false),some 57,.pick (.tmp 51) (.tmp 56) (.const (.bool false))⟩,⟨none,some 58,.pick (.tmp 48) (.const (.bool true)) (.tmp 57)⟩,⟨none,some 59,.iaddr 1 (.tmp 42) (.tmp 43)⟩,⟨none,none,.store1 (.tmp 59) (.tmp 58)⟩])
 (.seq (.ops [⟨none,some 61,.sop .eql (.tmp 18) (.const (.string (.mk #[42])))⟩,⟨none,some 60,.mv (.tmp 61)⟩])
 (.cond (.tmp 60)
 (.ops [⟨none,some 62,.mv (.tmp 7)⟩,⟨none,some 63,.mv (.tmp 8)⟩,⟨none,some 64,.mv (.tmp 8)⟩,⟨none,some 65,.iop .gtr (.tmp 64) (.const (.int .i64 0))⟩,⟨none,some 66,.mv (.tmp 65)⟩,⟨some (66,true),some 67,.mv (.tmp 0)⟩,⟨some (66,true),some 68,.mv (.tmp 8)⟩,⟨some (66,true),some 69,.iop .sub (.tmp 68) (.const (.int .i64 1))⟩,⟨some (66,true),some 70,.iaddr 1 (.tmp 67) (.tmp 69)⟩,⟨some (66,true),some 71,.load1 (.tmp 70)⟩,⟨none,some 72,.pick (.tmp 66) (.tmp 71) (.const (.bool false))⟩,⟨none,some 73,.iaddr 1 (.tmp 62) (.tmp 63)⟩,⟨none,none,.store1 (.tmp 73) (.tmp 72)⟩])
 (.ops [⟨none,some 19,.mv (.tmp 7)⟩,⟨none,some 20,.mv (.tmp 8)⟩,⟨none,some 21,.mv (.tmp 8)⟩,⟨none,some 22,.iop .gtr (.tmp 21) (.const (.int .i64 0))⟩,⟨none,some 23,.mv (.tmp 22)⟩,⟨some (23,true),some 24,.mv (.tmp 0)⟩,⟨some (23,true),some 25,.mv (.tmp 8)⟩,⟨some (23,true),some 26,.iop .sub (.tmp 25) (.const (.int .i64 1))⟩,⟨some (23,true),some 27,.iaddr 1 (.tmp 24) (.tmp 26)⟩,⟨some (23,true),some 28,.load1 (.tmp 27)⟩,⟨none,some 29,.pick (.tmp 23) (.tmp 28) (.const (.bool false))⟩,⟨none,some 30,.mv (.tmp 29)⟩,⟨some (30,true),some 31,.mv (.tmp 2)⟩,⟨some (30,true),some 32,.mv (.tmp 8)⟩,⟨some (30,true),some 33,.iop .sub (.tmp 32) (.const (.int .i64 1))⟩,⟨some (30,true),some 34,.iaddr 1 (.tmp 31) (.tmp 33)⟩,⟨some (30,true),some 35,.load1 (.tmp 34)⟩,⟨some (30,true),some 36,.mv (.tmp 1)⟩,⟨some (30,true),some 37,.sop .eql (.tmp 35) (.tmp 36)⟩,⟨none,some 38,.pick (.tmp 30) (.tmp 37) (.const (.bool false))⟩,⟨none,some 39,.iaddr 1 (.tmp 19) (.tmp 20)⟩,⟨none,none,.store1 (.tmp 39) (.tmp 38)⟩])))))))))
 (.ops [⟨none,some 74,.iop .add (.tmp 15) (.const (.int .i64 1))⟩,⟨none,some 15,.mv (.tmp 74)⟩])))))))
 (.seq (.ops [⟨none,some 75,.mv (.tmp 7)⟩,⟨none,some 6,.mv (.tmp 75)⟩])
 .ret))))
abbrev r197 : List RV:=[(.tmp 6)]
theorem F197 : FnOk Go.Proofs.Tryz.prog 197 76 c197 r197:=⟨_,Go.Proofs.Tryz.func197,by kernel_rfl,by kernel_rfl,by kernel_rfl,by kernel_rfl,by kernel_rfl⟩
noncomputable def c201 : CC:=(.seq (.ops [⟨none,some 4,.mv (.const (.string (.mk #[])))⟩,⟨none,some 5,.mv (.const (.bool false))⟩])
 (.seq (.seq (.ops [⟨none,some 7,.mv (.tmp 1)⟩,⟨none,some 8,.iop .lss (.tmp 7) (.const (.int .i64 0))⟩,⟨none,some 9,.mv (.tmp 8)⟩,⟨some (9,false),some 10,.mv (.tmp 1)⟩,⟨some (9,false),some 11,.mv (.tmp 0)⟩,⟨some (9,false),some 12,.call 232 [.tmp 11]⟩,⟨some (9,false),some 13,.iop .geq (.tmp 10) (.tmp 12)⟩,⟨none,some 14,.pick (.tmp 9) (.const (.bool true)) (.tmp 13)⟩])
 (.cond (.tmp 14)
 (.seq (.ops [⟨none,some 6,.mv (.const (.string (.mk #[])))⟩])
 (.seq (.ops [⟨none,some 15,.mv (.tmp 6)⟩,⟨none,some 4,.mv (.tmp 15)⟩,⟨none,some 5,.mv (.const (.bool false))⟩])
 .ret))
 .skip))
 (.seq (.ops [⟨none,some 16,.mv (.tmp 0)⟩,⟨none,some 17,.nilc (.tmp 16)⟩,⟨none,some 18,.faddr 0 (.tmp 17)⟩,⟨none,some 19,.load1 (.tmp 18)⟩,⟨none,some 20,.mv (.tmp 1)⟩,⟨none,some 21,.iaddr 1 (.tmp 19) (.tmp 20)⟩,⟨none,some 22,.load1 (.tmp 21)⟩,⟨none,some 4,.mv (.tmp 22)⟩,⟨none,some 5,.mv (.const (.bool true))⟩])
 .ret)))
abbrev r201 : List RV:=[(.tmp 4),(.tmp 5)]
theorem F201 : FnOk Go.Proofs.Tryz.prog 201 23 c201 r201:=⟨_,Go.Proofs.Tryz.func201,by kernel_rfl,by kernel_rfl,by kernel_rfl,by kernel_rfl,by kernel_rfl⟩
noncomputable def c216 : CC:=(.seq (.ops [⟨none,some 4,.mv (.const (.bool false))⟩])
 (.seq (.seq (.ops [⟨none,some 6,.mv (.tmp 0)⟩,⟨none,some 7,.lenL (.tmp 6)⟩,⟨none,some 8,.iop .eql (.tmp 7) (.const (.int .i64 0))⟩])
 (.cond (.tmp 8)
 (.seq (.ops [⟨none,some 9,.mv (.tmp 1)⟩,⟨none,some 10,.lenL (.tmp 9)⟩,⟨none,some 11,.iop .eql (.tmp 10) (.const (.int .i64 0))⟩,⟨none,some 4,.mv (.tmp 11)⟩])
 .ret)
 .skip))
 (.seq (.seq (.ops [⟨none,some 12,.mv (.tmp 0)⟩,⟨none,some 13,.iaddr 1 (.tmp 12) (.const (.int .i64 0))⟩,⟨none,some 14,.load1 (.tmp 13)⟩,⟨none,some 15,.sop .eql (.tmp 14) (.const (.string (.mk #[35])))⟩])
 (.cond (.tmp 15)
 (.seq (.seq (.ops [⟨none,some 5,.mv (.const (.int .i64 0))⟩])
 (.block 0
 (.loop
 (.seq (.seq (.ops [⟨none,some 16,.mv (.tmp 5)⟩,⟨none,some 17,.mv (.tmp 1)⟩,⟨none,some 18,.lenL (.tmp 17)⟩,⟨none,some 19,.iop .leq (.tmp 16) (.tmp 18)⟩])
 (.cond (.tmp 19)
 .skip
 (.exit 0)))
 (.seq (.block 1
 (.seq (.draw 7 (opsOf (sub (bodyOf Go.Proofs.Tryz.f216) [1,1,0,1,0,0,1,0,0,1,0,0,0])) [⟨none,some 22,.mv (.tmp 0)⟩,⟨none,some 23,.slL 1 (.tmp 22) (some (.const (.int .i64 1))) none⟩,⟨none,some 24,.mv (.tmp 1)⟩,⟨none,some 25,.mv (.tmp 5)⟩,⟨none,some 26,.slL 1 (.tmp 24) (some (.tmp 25)) none⟩,⟨none,some 27,.call 216 [.tmp 23,.tmp 26]⟩])
 (.cond (.tmp 27)
 (.seq (.ops [⟨none,some 4,.mv (.const (.bool true))⟩])
 .ret)
 .skip)))
 (.ops [⟨none,some 20,.mv (.tmp 5)⟩,⟨none,some 21,.iop .add (.tmp 20) (.const (.int .i64 1))⟩,⟨none,some 5,.mv (.tmp 21)⟩]))))))
 (.seq (.ops [⟨none,some 4,.mv (.const (.bool false))⟩])
 .ret))
 .skip))
 (.seq (.seq (.draw 10 (opsOf (sub (bodyOf Go.Proofs.Tryz.f216) [1,1,1,0,0])) [⟨none,some 28,.mv (.tmp 1)⟩,⟨none,some 29,.lenL (.tmp 28)⟩,⟨none,some 30,.iop .eql (.tmp 29) (.const (.int .i64 0))⟩,⟨none,some 31,.mv (.tmp 30)⟩,⟨some (31,false),some 32,.mv (.tmp 0)⟩,⟨some (31,false),some 33,.iaddr 1 (.tmp 32) (.const (.int .i64 0))⟩,⟨some (31,false),some 34,.load1 (.tmp 33)⟩,⟨some (31,false),some 35,.sop .neq (.tmp 34) (.const (.string (.mk #[42])))⟩,⟨some (31,false),some 36,.mv (.tmp 35)⟩,⟨some (36,true),some 37,.mv (.tmp 0)⟩,⟨some (36,true),some 38,.iaddr 1 (.tmp 37) (.const (.int .i64 0))⟩,⟨some (36,true),some 39,.load1 (.tmp 38)⟩,⟨some (36,true),some 40,.mv (.tmp 1)⟩,⟨some (36,true),some 41,.iaddr 1 (.tmp 40) (.const (.int .i64 0))⟩,⟨some (36,true),some 42,.load1 (.tmp 41)⟩,⟨some (36,true),some 43,.sop .neq (.tmp 39) (.tmp 42)⟩,⟨some (31,false),some 44,.pick (.tmp 36) (.tmp 43) (.const (.bool false))⟩,⟨none,some 45,.pick (.tmp 31) (.const (.bool true)) (.tmp 44)⟩])
 (.cond (.tmp 45)
 (.seq (.ops [⟨none,some 4,.mv (.const (.bool false))⟩])
 .ret)
 .skip))
 (.seq (.draw 12 (opsOf (sub (bodyOf Go.Proofs.Tryz.f216) [1,1,1,1,0])) [⟨none,some 46,.mv (.tmp 0)⟩,⟨none,some 47,.slL 1 (.tmp 46) (some (.const (.int .i64 1))) none⟩,⟨none,some 48,.mv (.tmp 1)⟩,⟨none,some 49,.slL 1 (.tmp 48) (some (.const (.int .i64 1))) none⟩,⟨none,some 50,.call 216 [.tmp 47,.tmp 49]⟩,⟨none,some 4,.mv (.tmp 50)⟩])
 .ret)))))
abbrev r216 : List RV:=[(.tmp 4)]
theorem F216 : FnOk Go.Proofs.Tryz.prog 216 51 c216 r216:=⟨_,Go.Proofs.Tryz.func216,by kernel_rfl,by kernel_rfl,by kernel_rfl,by kernel_rfl,by kernel_rfl⟩
noncomputable def c217 : CC:=.skip
abbrev r217 : List RV:=[]
theorem F217 : FnOk Go.Proofs.Tryz.prog 217 2 c217 r217:=⟨_,Go.Proofs.Tryz.func217,by kernel_rfl,by kernel_rfl,by kernel_rfl,by kernel_rfl,by kernel_rfl⟩
noncomputable def c218 : CC:=(.seq (.ops [⟨none,some 4,.mv (.const .nilFunc)⟩])
 (.seq (.ops [⟨none,some 5,.mv (.tmp 0)⟩,⟨none,some 6,.mv (.tmp 1)⟩,⟨none,some 7,.call 236 [.tmp 5,.tmp 6,.const (.int .i64 0)]⟩,⟨none,some 4,.mv (.tmp 7)⟩])
 .ret))
abbrev r218 : List RV:=[(.tmp 4)]
theorem F218 : FnOk Go.Proofs.Tryz.prog 218 8 c218 r218:=⟨_,Go.Proofs.Tryz.func218,by kernel_rfl,by kernel_rfl,by kernel_rfl,by kernel_rfl,by kernel_rfl⟩
noncomputable def c232 : CC:=(.seq (.ops [⟨none,some 2,.mv (.const (.int .i64 0))⟩])
 (.seq (.seq (.ops [⟨none,some 3,.mv (.tmp 0)⟩,⟨none,some 4,.pnil 0 false (.tmp 3)⟩])
 (.cond (.tmp 4)
 (.seq (.ops [⟨none,some 2,.mv (.const (.int .i64 0))⟩])
 .ret)
 .skip))
 (.seq (.ops [⟨none,some 5,.mv (.tmp 0)⟩,⟨none,some 6,.nilc (.tmp 5)⟩,⟨none,some 7,.faddr 0 (.tmp 6)⟩,⟨none,some 8,.load1 (.tmp 7)⟩,⟨none,some 9,.lenL (.tmp 8)⟩,⟨none,some 2,.mv (.tmp 9)⟩])
 .ret)))
abbrev r232 : List RV:=[(.tmp 2)]
theorem F232 : FnOk Go.Proofs.Tryz.prog 232 10 c232 r232:=⟨_,Go.Proofs.Tryz.func232,by kernel_rfl,by kernel_rfl,by kernel_rfl,by kernel_rfl,by kernel_rfl⟩
noncomputable def c236 : CC:=(.seq (.ops [⟨none,some 3,.box 9 (.tmp 0)⟩,⟨none,some 4,.box 9 (.tmp 1)⟩,⟨none,some 5,.box 3 (.tmp 2)⟩,⟨none,some 6,.mv (.const .nilFunc)⟩])
 (.seq (.ops [⟨none,some 7,(.mkF (.func 251) [] [.tmp 4,.tmp 3,.tmp 5])⟩,⟨none,some 6,.mv (.tmp 7)⟩])
 .ret))
abbrev r236 : List RV:=[(.tmp 6)]
theorem F236 : FnOk Go.Proofs.Tryz.prog 236 8 c236 r236:=⟨_,Go.Proofs.Tryz.func236,by kernel_rfl,by kernel_rfl,by kernel_rfl,by kernel_rfl,by kernel_rfl⟩
noncomputable def c251 : CC:=(.seq (.seq (.ops [⟨none,some 9,.load1 (.tmp 1)⟩,⟨none,some 10,.lenS (.tmp 9)⟩,⟨none,some 11,.iop .eql (.tmp 10) (.const (.int .i64 0))⟩])
 (.cond (.tmp 11)
 (.seq (.block 0
 (.loop
 (.seq (.seq (.ops [⟨none,some 12,.load1 (.tmp 2)⟩,⟨none,some 13,.lenS (.tmp 12)⟩,⟨none,some 14,.iop .gtr (.tmp 13) (.const (.int .i64 0))⟩])
 (.cond (.tmp 14)
 .skip
 (.exit 0)))
 (.block 1
 (.seq (.ops [⟨none,some 16,.load1 (.tmp 2)⟩,⟨none,some 17,.call 250 [.tmp 16]⟩,⟨none,some 15,.mv (.tmp 17)⟩,⟨none,some 18,.ext (.tmp 15) 0⟩,⟨none,some 19,.ext (.tmp 15) 1⟩,⟨none,some 5,.mv (.tmp 18)⟩,⟨none,some 6,.mv (.tmp 19)⟩])
 (.seq (.seq (.ops [⟨none,some 20,.mv (.tmp 0)⟩,⟨none,some 21,.load1 (.tmp 2)⟩,⟨none,some 22,.mv (.tmp 6)⟩,⟨none,some 23,.slS (.tmp 21) none (some (.tmp 22))⟩,⟨none,some 24,.callv (.tmp 20) [.tmp 23]⟩,⟨none,some 25,.not (.tmp 24)⟩])
 (.cond (.tmp 25)
 .ret
 .skip))
 (.ops [⟨none,some 26,.load1 (.tmp 2)⟩,⟨none,some 27,.mv (.tmp 6)⟩,⟨none,some 28,.slS (.tmp 26) (some (.tmp 27)) none⟩,⟨none,none,.store1 (.tmp 2) (.tmp 28)⟩])))))))
 .ret)
 .skip))
 (.seq (.block 2
 (.loop
 (.block 3
 (.seq (.ops [⟨none,some 29,.load1 (.tmp 2)⟩,⟨none,some 30,.load1 (.tmp 1)⟩,⟨none,some 31,.call 249 [.tmp 29,.tmp 30]⟩,⟨none,some 7,.mv (.tmp 31)⟩])
 (.seq (.seq (.ops [⟨none,some 32,.mv (.tmp 7)⟩,⟨none,some 33,.iop .lss (.tmp 32) (.const (.int .i64 0))⟩])
 (.cond (.tmp 33)
 (.exit 2)
 .skip))
 (.seq (.ops [⟨none,some 34,.load1 (.tmp 2)⟩,⟨none,some 35,.mv (.tmp 7)⟩,⟨none,some 36,.load1 (.tmp 3)⟩,⟨none,some 37,.iop .add (.tmp 35) (.tmp 36)⟩,⟨none,some 38,.slS (.tmp 34) none (some (.tmp 37))⟩,⟨none,some 8,.mv (.tmp 38)⟩])
 (.seq (.seq (.ops [⟨none,some 39,.mv (.tmp 0)⟩,⟨none,some 40,.mv (.tmp 8)⟩,⟨none,some 41,.callv (.tmp 39) [.tmp 40]⟩,⟨none,some 42,.not (.tmp 41)⟩])
 (.cond (.tmp 42)
 .ret
 .skip))
 (.ops [⟨none,some 43,.load1 (.tmp 2)⟩,⟨none,some 44,.mv (.tmp 7)⟩,⟨none,some 45,.load1 (.tmp 1)⟩,⟨none,some 46,.lenS (.tmp 45)⟩,⟨none,some 47,.iop .add (.tmp 44) (.tmp 46)⟩,⟨none,some 48,.slS (.tmp 43) (some (.tmp 47)) none⟩,⟨none,none,.store1 (.tmp 2) (.tmp 48)⟩]))))))))
 (.ops [⟨none,some 49,.mv (.tmp 0)⟩,⟨none,some 50,.load1 (.tmp 2)⟩,⟨none,some 51,.callv (.tmp 49) [.tmp 50]⟩])))
abbrev r251 : List RV:=[]
theorem F251 : FnOk Go.Proofs.Tryz.prog 251 52 c251 r251:=⟨_,Go.Proofs.Tryz.func251,by kernel_rfl,by kernel_rfl,by kernel_rfl,by kernel_rfl,by kernel_rfl⟩
noncomputable def c287 : CC:=(.seq (.ops [⟨none,some 2,.box 77 (.tmp 0)⟩,⟨none,some 4,.mv (.const (.bool false))⟩,⟨none,some 5,.mv (.const (.int .i64 0))⟩])
 (.seq (.seq (.ops [⟨none,some 6,.loadN 2 (.tmp 2)⟩,⟨none,some 7,.call 291 [.tmp 6]⟩])
 (.cond (.tmp 7)
 (.seq (.ops [⟨none,some 4,.mv (.const (.bool false))⟩,⟨none,some 5,.mv (.const (.int .i64 14))⟩])
 .ret)
 .skip))
 (.seq (.ops [⟨none,some 8,.faddr 0 (.tmp 2)⟩,⟨none,some 9,.load1 (.tmp 8)⟩,⟨none,some 10,.mv (.tmp 1)⟩,⟨none,some 11,.call 285 [.tmp 9,.tmp 10]⟩,⟨none,some 12,.ext (.tmp 11) 0⟩,⟨none,some 13,.ext (.tmp 11) 1⟩,⟨none,some 4,.mv (.tmp 12)⟩,⟨none,some 5,.mv (.tmp 13)⟩])
 .ret)))
abbrev r287 : List RV:=[(.tmp 4),(.tmp 5)]
theorem F287 : FnOk Go.Proofs.Tryz.prog 287 14 c287 r287:=⟨_,Go.Proofs.Tryz.func287,by kernel_rfl,by kernel_rfl,by kernel_rfl,by kernel_rfl,by kernel_rfl⟩
noncomputable def c288 : CC:=(.seq (.ops [⟨none,some 2,.box 77 (.tmp 0)⟩,⟨none,some 4,.mv (.const (.string (.mk #[])))⟩,⟨none,some 5,.mv (.const (.bool false))⟩,⟨none,some 6,.mv (.const (.int .i64 0))⟩])
 (.seq (.seq (.ops [⟨none,some 7,.loadN 2 (.tmp 2)⟩,⟨none,some 8,.call 291 [.tmp 7]⟩])
 (.cond (.tmp 8)
 (.seq (.ops [⟨none,some 4,.mv (.const (.string (.mk #[])))⟩,⟨none,some 5,.mv (.const (.bool false))⟩,⟨none,some 6,.mv (.const (.int .i64 10))⟩])
 .ret)
 .skip))
 (.seq (.ops [⟨none,some 9,.faddr 0 (.tmp 2)⟩,⟨none,some 10,.load1 (.tmp 9)⟩,⟨none,some 11,.mv (.tmp 1)⟩,⟨none,some 12,.call 286 [.tmp 10,.tmp 11]⟩,⟨none,some 13,.ext (.tmp 12) 0⟩,⟨none,some 14,.ext (.tmp 12) 1⟩,⟨none,some 15,.ext (.tmp 12) 2⟩,⟨none,some 4,.mv (.tmp 13)⟩,⟨none,some 5,.mv (.tmp 14)⟩,⟨none,some 6,.mv (.tmp 15)⟩])
 .ret)))
abbrev r288 : List RV:=[(.tmp 4),(.tmp 5),(.tmp 6)]
theorem F288 : FnOk Go.Proofs.Tryz.prog 288 16 c288 r288:=⟨_,Go.Proofs.Tryz.func288,by kernel_rfl,by kernel_rfl,by kernel_rfl,by kernel_rfl,by kernel_rfl⟩
noncomputable def c289 : CC:=(.seq (.ops [⟨none,some 3,.box 77 (.tmp 0)⟩,⟨none,some 6,.mv (.const (.int .i64 0))⟩])
 (.seq (.seq (.ops [⟨none,some 7,.loadN 2 (.tmp 3)⟩,⟨none,some 8,.call 291 [.tmp 7]⟩])
 (.cond (.tmp 8)
 (.seq (.ops [⟨none,some 6,.mv (.const (.int .i64 14))⟩])
 .ret)
 .skip))
 (.seq (.ops [⟨none,some 9,.faddr 0 (.tmp 3)⟩,⟨none,some 10,.load1 (.tmp 9)⟩,⟨none,some 11,.mv (.tmp 1)⟩,⟨none,some 12,.mv (.tmp 2)⟩,⟨none,some 13,.call 25 [.tmp 10,.tmp 11,.tmp 12]⟩,⟨none,some 6,.mv (.tmp 13)⟩])
 .ret)))
abbrev r289 : List RV:=[(.tmp 6)]
theorem F289 : FnOk Go.Proofs.Tryz.prog 289 14 c289 r289:=⟨_,Go.Proofs.Tryz.func289,by kernel_rfl,by kernel_rfl,by kernel_rfl,by kernel_rfl,by kernel_rfl⟩
noncomputable def c290 : CC:=(.seq (.ops [⟨none,some 3,.box 77 (.tmp 0)⟩,⟨none,some 6,.mv (.const .nilFunc)⟩])
 (.seq (.seq (.ops [⟨none,some 7,.loadN 2 (.tmp 3)⟩,⟨none,some 8,.call 291 [.tmp 7]⟩])
 (.cond (.tmp 8)
 (.seq (.ops [⟨none,some 6,(.mv (.func 292))⟩])
 .ret)
 .skip))
 (.seq (.ops [⟨none,some 9,.faddr 0 (.tmp 3)⟩,⟨none,some 10,.load1 (.tmp 9)⟩,⟨none,some 11,.mv (.tmp 1)⟩,⟨none,some 12,.mv (.tmp 2)⟩,⟨none,some 13,.call 37 [.tmp 10,.tmp 11,.tmp 12]⟩,⟨none,some 6,.mv (.tmp 13)⟩])
 .ret)))
abbrev r290 : List RV:=[(.tmp 6)]
theorem F290 : FnOk Go.Proofs.Tryz.prog 290 14 c290 r290:=⟨_,Go.Proofs.Tryz.func290,by kernel_rfl,by kernel_rfl,by kernel_rfl,by kernel_rfl,by kernel_rfl⟩
noncomputable def c291 : CC:=(.seq (.ops [⟨none,some 1,.box 77 (.tmp 0)⟩,⟨none,some 2,.mv (.const (.bool false))⟩])
 (.seq (.ops [⟨none,some 3,.faddr 1 (.tmp 1)⟩,⟨none,some 4,.load1 (.tmp 3)⟩,⟨none,some 5,.nilc (.tmp 4)⟩,⟨none,some 6,.load1 (.tmp 5)⟩,⟨none,some 7,.iop .sub (.tmp 6) (.const (.int .i64 1))⟩,⟨none,some 8,.nilc (.tmp 4)⟩,⟨none,none,.store1 (.tmp 8) (.tmp 7)⟩])
 (.seq (.ops [⟨none,some 9,.faddr 1 (.tmp 1)⟩,⟨none,some 10,.load1 (.tmp 9)⟩,⟨none,some 11,.nilc (.tmp 10)⟩,⟨none,some 12,.load1 (.tmp 11)⟩,⟨none,some 13,.iop .lss (.tmp 12) (.const (.int .i64 0))⟩,⟨none,some 2,.mv (.tmp 13)⟩])
 .ret)))
abbrev r291 : List RV:=[(.tmp 2)]
theorem F291 : FnOk Go.Proofs.Tryz.prog 291 14 c291 r291:=⟨_,Go.Proofs.Tryz.func291,by kernel_rfl,by kernel_rfl,by kernel_rfl,by kernel_rfl,by kernel_rfl⟩
noncomputable def c292 : CC:=(.ops [⟨none,some 2,.mv (.tmp 0)⟩,⟨none,some 3,.build [.string (.mk #[]),.string (.mk #[])] []⟩,⟨none,some 4,.callv (.tmp 2) [.tmp 3,.const (.int .i64 10)]⟩])
abbrev r292 : List RV:=[]
theorem F292 : FnOk Go.Proofs.Tryz.prog 292 5 c292 r292:=⟨_,Go.Proofs.Tryz.func292,by kernel_rfl,by kernel_rfl,by kernel_rfl,by kernel_rfl,by kernel_rfl⟩
noncomputable def c81 : CC:=(.seq (.ops [⟨none,some 2,.box 98 (.tmp 0)⟩,⟨none,some 4,.alloc 64 (.agg #[.string (.mk #[]),.int .i64 0,.string (.mk #[]),.string (.mk #[])])⟩,⟨none,some 5,.mv (.const (.int .i64 0))⟩])
 (.seq (.ops [⟨none,some 6,.faddr 4 (.tmp 2)⟩,⟨none,some 7,.loadN 4 (.tmp 6)⟩,⟨none,none,.storeN 4 (.tmp 4) (.tmp 7)⟩,⟨none,some 5,.mv (.const (.int .i64 0))⟩])
 .ret))
abbrev r81 : List RV:=[(.cN 4 4),(.tmp 5)]
theorem F81 : FnOk Go.Proofs.Tryz.prog 81 8 c81 r81:=⟨_,Go.Proofs.Tryz.func81,by kernel_rfl,by kernel_rfl,by kernel_rfl,by kernel_rfl,by kernel_rfl⟩
end Go.VrF
