import Derived.Test.YtcbacomljnjacaaGreatDoorProg
import Derived.Test.YtcbacomljnjacaaGreatDoorVcI
set_option linter.unusedSimpArgs false
set_option linter.unusedVariables false
set_option linter.unusedSectionVars false
set_option linter.unnecessarySimpa false
namespace Go.VrK
open Go Go.Vc
set_option maxRecDepth 100000
noncomputable def c5 : CC:=(.seq (.ops [⟨none,some 6,.mv (.const (.bool false))⟩])
 (.seq (.seq (.ops [⟨none,some 19,.call 7 []⟩,⟨none,some 20,.not (.tmp 19)⟩])
 (.cond (.tmp 20)
 (.seq (.ops [⟨none,some 6,.mv (.const (.bool false))⟩])
 .ret)
 .skip))
 (.seq (.seq (.ops [⟨none,some 21,.mv (.tmp 0)⟩,⟨none,some 22,.lenL (.tmp 21)⟩,⟨none,some 23,.iop .gtr (.tmp 22) (.const (.int .i64 100))⟩])
 (.cond (.tmp 23)
 (.seq (.ops [⟨none,some 6,.mv (.const (.bool true))⟩])
 .ret)
 .skip))
 (.seq (.ops [⟨none,some 24,.call 18 []⟩,⟨none,some 7,.mv (.tmp 24)⟩])
 (.seq (.seq (.ops [⟨none,some 25,.mv (.tmp 0)⟩,⟨none,some 26,.lenL (.tmp 25)⟩,⟨none,some 27,.mv (.const (.int .i64 0))⟩])
 (.block 0
 (.loop
 (.seq (.ops [⟨none,some 28,.iop .lss (.tmp 27) (.tmp 26)⟩])
 (.seq (.cond (.tmp 28)
 .skip
 (.exit 0))
 (.seq (.block 1
 (.seq (.ops [⟨none,some 29,.iaddr 1 (.tmp 25) (.tmp 27)⟩,⟨none,some 30,.load1 (.tmp 29)⟩,⟨none,some 9,.mv (.tmp 30)⟩])
 (.ops [⟨none,some 31,.mv (.tmp 7)⟩,⟨none,some 32,.mv (.tmp 9)⟩,⟨none,some 33,.call 19 [.tmp 31,.const (.int .i64 7),.tmp 32]⟩])))
 (.ops [⟨none,some 34,.iop .add (.tmp 27) (.const (.int .i64 1))⟩,⟨none,some 27,.mv (.tmp 34)⟩])))))))
 (.seq (.ops [⟨none,some 35,.mv (.tmp 7)⟩,⟨none,some 36,.call 20 [.tmp 35,.const (.int .i64 7)]⟩,⟨none,some 10,.alloc 42 (.agg #[.int .u64 0,.int .u64 0,.int .u64 0,.int .u64 0,.int .u64 0,.int .u64 0,.int .u64 0,.int .u64 0,.int .u64 0,.int .u64 0,.int .u64 0,.int .u64 0,.int .u64 0,.int .u64 0,.int .u64 0,.int .u64 0,.int .u64 0,.int .u64 0,.int .u64 0,.int .u64 0,.int .u64 0,.int .u64 0,.int .u64 0,.int .u64 0,.int .u64 0,.int .u64 0,.int .u64 0,.int .u64 0,.int .u64 0,.int .u64 0,.int .u64 0,.int .u64 0,.int .u64 0,.int .u64 0,.int .u64 0,.int .u64 0,.int .u64 0,.int .u64 0,.int .u64 0,.int .u64 0,.int .u64 0,.int .u64 0,.int .u64 0,.int .u64 0,.int .u64 0,.int .u64 0,.int .u64 0,.int .u64 0,.int .u64 0,.int .u64 0,.int .u64 0,.int .u64 0,.int .u64 0,.int .u64 0,.int .u64 0,.int .u64 0,.int .u64 0,.int .u64 0,.int .u64 0,.int .u64 0,.int .u64 0,.int .u64 0,.int .u64 0,.int .u64 0,.int .u64 0,.int .u64 0,.int .u64 0,.int .u64 0,.int .u64 0])⟩,⟨none,none,.storeN 69 (.tmp 10) (.tmp 36)⟩])
 (.seq (.ops [⟨none,some 11,.mv (.const (.int .u64 4294967295))⟩])
 (.seq (.draw 13 (opsOf (sub (bodyOf Go.Proofs.Tryz.f5) [1,1,1,1,1,1,1,0])) [⟨none,some 37,.loadN 69 (.tmp 10)⟩,⟨none,some 38,.mv (.tmp 1)⟩,⟨none,some 39,.mv (.tmp 2)⟩,⟨none,some 40,.raw 107 (.mk (some 40) (.call (.mk (.builtin .min) #[.tmp 38,.tmp 39] #[55,55])) 55 "law.go:131" #[.mk 1 .data,.mk 2 .data] none)⟩,⟨none,some 41,.conv .u64 (.tmp 40)⟩,⟨none,some 42,.mv (.tmp 11)⟩,⟨none,some 43,.call 21 [.tmp 37,.tmp 41,.tmp 42]⟩,⟨none,some 44,.loadN 69 (.tmp 10)⟩,⟨none,some 45,.mv (.tmp 1)⟩,⟨none,some 46,.mv (.tmp 2)⟩,⟨none,some 47,.raw 107 (.mk (some 47) (.call (.mk (.builtin .max) #[.tmp 45,.tmp 46] #[55,55])) 55 "law.go:131" #[.mk 8 .data,.mk 9 .data] none)⟩,⟨none,some 48,.conv .u64 (.tmp 47)⟩,⟨none,some 49,.mv (.tmp 11)⟩,⟨none,some 50,.call 21 [.tmp 44,.tmp 48,.tmp 49]⟩,⟨none,some 12,.mv (.tmp 43)⟩,⟨none,some 13,.mv (.tmp 50)⟩])
 (.seq (.ops [⟨none,some 51,.loadN 69 (.tmp 10)⟩,⟨none,some 52,.call 21 [.tmp 51,.const (.int .u64 1),.const (.int .u64 2)]⟩,⟨none,some 14,.mv (.tmp 52)⟩])
 (.seq (.ops [⟨none,some 15,.mv (.const (.int .i64 0))⟩,⟨none,some 16,.mv (.const (.int .i64 0))⟩])
 (.seq (.seq (.ops [⟨none,some 53,.mv (.tmp 0)⟩,⟨none,some 54,.lenL (.tmp 53)⟩,⟨none,some 55,.mv (.const (.int .i64 0))⟩])
 (.block 2
 (.loop
 (.seq (.ops [⟨none,some 56,.iop .lss (.tmp 55) (.tmp 54)⟩])
 (.seq (.cond (.tmp 56)
 .skip
 (.exit 2))
 (.seq (.block 3
 (.seq (.ops [⟨none,some 57,.iaddr 1 (.tmp 53) (.tmp 55)⟩,⟨none,some 58,.load1 (.tmp 57)⟩,⟨none,some 18,.mv (.tmp 58)⟩])
 (.seq (.seq (.ops [⟨none,some 59,.mv (.tmp 18)⟩,⟨none,some 60,.call 22 [.tmp 59]⟩,⟨none,some 61,.mv (.tmp 14)⟩,⟨none,some 62,.iop .leq (.tmp 60) (.tmp 61)⟩])
 (.cond (.tmp 62)
 (.ops [⟨none,some 63,.mv (.tmp 15)⟩,⟨none,some 64,.iop .add (.tmp 63) (.const (.int .i64 1))⟩,⟨none,some 15,.mv (.tmp 64)⟩])
 .skip))
 (.seq (.ops [⟨none,some 65,.mv (.tmp 18)⟩,⟨none,some 66,.call 22 [.tmp 65]⟩,⟨none,some 67,.mv (.tmp 14)⟩,⟨none,some 68,.iop .lss (.tmp 66) (.tmp 67)⟩])
 (.cond (.tmp 68)
 (.ops [⟨none,some 69,.mv (.tmp 16)⟩,⟨none,some 70,.iop .add (.tmp 69) (.const (.int .i64 1))⟩,⟨none,some 16,.mv (.tmp 70)⟩])
 .skip)))))
 (.ops [⟨none,some 71,.iop .add (.tmp 55) (.const (.int .i64 1))⟩,⟨none,some 55,.mv (.tmp 71)⟩])))))))
 (.seq (.draw 24 (opsOf (sub (bodyOf Go.Proofs.Tryz.f5) [1,1,1,1,1,1,1,1,1,1,1,0])) [⟨none,some 72,.mv (.tmp 12)⟩,⟨none,some 73,.mv (.tmp 13)⟩,⟨none,some 74,.iop .leq (.tmp 72) (.tmp 73)⟩,⟨none,some 75,.mv (.tmp 74)⟩,⟨some (75,true),some 76,.mv (.tmp 15)⟩,⟨some (75,true),some 77,.iop .mul (.const (.int .i64 2)) (.tmp 76)⟩,⟨some (75,true),some 78,.mv (.tmp 0)⟩,⟨some (75,true),some 79,.lenL (.tmp 78)⟩,⟨some (75,true),some 80,.iop .geq (.tmp 77) (.tmp 79)⟩,⟨none,some 81,.pick (.tmp 75) (.tmp 80) (.const (.bool false))⟩,⟨none,some 82,.mv (.tmp 81)⟩,⟨some (82,true),some 83,.mv (.tmp 0)⟩,⟨some (82,true),some 84,.lenL (.tmp 83)⟩,⟨some (82,true),some 85,.iop .eql (.tmp 84) (.const (.int .i64 0))⟩,⟨some (82,true),some 86,.mv (.tmp 85)⟩,⟨some (86,false),some 87,.mv (.tmp 16)⟩,⟨some (86,false),some 88,.iop .mul (.const (.int .i64 2)) (.tmp 87)⟩,⟨some (86,false),some 89,.mv (.tmp 0)⟩,⟨some (86,false),some 90,.lenL (.tmp 89)⟩,⟨some (86,false),some 91,.iop .lss (.tmp 88) (.tmp 90)⟩,⟨some (82,true),some 92,.pick (.tmp 86) (.const (.bool true)) (.tmp 91)⟩,⟨none,some 93,.pick (.tmp 82) (.tmp 92) (.const (.bool false))⟩,⟨none,some 94,.mv (.tmp 93)⟩,⟨some (94,true),some 95,.mv (.tmp 0)⟩,⟨some (94,true),some 96,.lenL (.tmp 95)⟩,⟨some (94,true),some 97,.iop .eql (.tmp 96) (.const (.int .i64 0))⟩,⟨some (94,true),some 98,.mv (.tmp 97)⟩,⟨some (98,false),some 99,.loadN 69 (.tmp 10)⟩,⟨some (98,false),some 100,.call 21 [.tmp 99,.const (.int .u64 1),.const (.int .u64 1)]⟩,⟨some (98,false),some 101,.faddr 3 (.tmp 10)⟩,⟨some (98,false),some 102,.load1 (.tmp 101)⟩,⟨some (98,false),some 103,.call 22 [.tmp 102]⟩,⟨some (98,false),some 104,.iop .eql (.tmp 100) (.tmp 103)⟩,⟨some (94,true),some 105,.pick (.tmp 98) (.const (.bool true)) (.tmp 104)⟩,⟨none,some 106,.pick (.tmp 94) (.tmp 105) (.const (.bool false))⟩,⟨none,some 6,.mv (.tmp 106)⟩])
 .ret))))))))))))
abbrev r5 : List RV:=[(.tmp 6)]
theorem F5 : FnOk Go.Proofs.Tryz.prog 5 107 c5 r5:=⟨_,Go.Proofs.Tryz.func5,by kernel_rfl,by kernel_rfl,by kernel_rfl,by kernel_rfl,by kernel_rfl⟩
noncomputable def c7 : CC:=(.seq (.ops [⟨none,some 0,.mv (.const (.bool false))⟩])
 (.seq (.ops [⟨none,some 2,.call 8 []⟩,⟨none,some 1,.mv (.tmp 2)⟩])
 (.seq (.seq (.ops [⟨none,some 3,.mv (.tmp 1)⟩,⟨none,some 4,.pnil 0 false (.tmp 3)⟩,⟨none,some 5,.mv (.tmp 4)⟩,⟨some (5,false),some 6,.call 28 []⟩,⟨some (5,false),some 7,.not (.tmp 6)⟩,⟨none,some 8,.pick (.tmp 5) (.const (.bool true)) (.tmp 7)⟩])
 (.cond (.tmp 8)
 (.seq (.ops [⟨none,some 0,.mv (.const (.bool false))⟩])
 .ret)
 .skip))
 (.seq (.ops [⟨none,some 9,.mv (.tmp 1)⟩,⟨none,some 10,.call 9 [.tmp 9,.const (.string (.mk #[97])),.const (.int .u64 5)]⟩])
 (.seq (.ops [⟨none,some 11,.call 22 [.const (.int .u64 5)]⟩,⟨none,some 12,.iop .eql (.tmp 11) (.const (.int .i64 3))⟩,⟨none,some 13,.mv (.tmp 12)⟩,⟨some (13,true),some 14,.mv (.tmp 1)⟩,⟨some (13,true),some 15,.call 24 [.tmp 14,.const (.string (.mk #[97]))]⟩,⟨some (13,true),some 16,.fld1 0 (.tmp 15)⟩,⟨some (13,true),some 17,.iop .eql (.tmp 16) (.const (.int .u64 1))⟩,⟨none,some 18,.pick (.tmp 13) (.tmp 17) (.const (.bool false))⟩,⟨none,some 19,.mv (.tmp 18)⟩,⟨some (19,true),some 20,.mv (.tmp 1)⟩,⟨some (19,true),some 21,.call 24 [.tmp 20,.const (.string (.mk #[97]))]⟩,⟨some (19,true),some 22,.fldN 4 65 (.tmp 21)⟩,⟨some (19,true),some 23,.raw 26 (.mk (some 23) (.index 40 (.tmp 22) (.const (.int .i64 3))) 27 "law.go:18" #[.mk 11 .data,.mk 8 .guard] (some (8,true)))⟩,⟨some (19,true),some 24,.iop .eql (.tmp 23) (.const (.int .u64 1))⟩,⟨none,some 25,.pick (.tmp 19) (.tmp 24) (.const (.bool false))⟩,⟨none,some 0,.mv (.tmp 25)⟩])
 .ret)))))
abbrev r7 : List RV:=[(.tmp 0)]
theorem F7 : FnOk Go.Proofs.Tryz.prog 7 26 c7 r7:=⟨_,Go.Proofs.Tryz.func7,by kernel_rfl,by kernel_rfl,by kernel_rfl,by kernel_rfl,by kernel_rfl⟩
noncomputable def c8 : CC:=(.seq (.ops [⟨none,some 0,.mv (.const (.pointer none))⟩])
 (.seq (.ops [⟨none,some 1,.raw 4 (.mk (some 1) (.makeMap 70 none) 70 "tally.go:25" #[] none)⟩,⟨none,some 2,.build [.map none] [(0,(1,.tmp 1))]⟩,⟨none,some 3,.box 72 (.tmp 2)⟩,⟨none,some 0,.mv (.tmp 3)⟩])
 .ret))
abbrev r8 : List RV:=[(.tmp 0)]
theorem F8 : FnOk Go.Proofs.Tryz.prog 8 4 c8 r8:=⟨_,Go.Proofs.Tryz.func8,by kernel_rfl,by kernel_rfl,by kernel_rfl,by kernel_rfl,by kernel_rfl⟩
noncomputable def c9 : CC:=(.seq (.seq (.ops [⟨none,some 7,.mv (.tmp 0)⟩,⟨none,some 8,.pnil 0 false (.tmp 7)⟩])
 (.cond (.tmp 8)
 .ret
 .skip))
 (.seq (.ops [⟨none,some 9,.mv (.tmp 2)⟩,⟨none,some 10,.mv (.tmp 2)⟩,⟨none,some 11,.mv (.tmp 2)⟩,⟨none,some 12,.build [.int .u64 0,.int .u64 0,.int .u64 0,.int .u64 0,.int .u64 0,.int .u64 0,.int .u64 0,.int .u64 0,.int .u64 0,.int .u64 0,.int .u64 0,.int .u64 0,.int .u64 0,.int .u64 0,.int .u64 0,.int .u64 0,.int .u64 0,.int .u64 0,.int .u64 0,.int .u64 0,.int .u64 0,.int .u64 0,.int .u64 0,.int .u64 0,.int .u64 0,.int .u64 0,.int .u64 0,.int .u64 0,.int .u64 0,.int .u64 0,.int .u64 0,.int .u64 0,.int .u64 0,.int .u64 0,.int .u64 0,.int .u64 0,.int .u64 0,.int .u64 0,.int .u64 0,.int .u64 0,.int .u64 0,.int .u64 0,.int .u64 0,.int .u64 0,.int .u64 0,.int .u64 0,.int .u64 0,.int .u64 0,.int .u64 0,.int .u64 0,.int .u64 0,.int .u64 0,.int .u64 0,.int .u64 0,.int .u64 0,.int .u64 0,.int .u64 0,.int .u64 0,.int .u64 0,.int .u64 0,.int .u64 0,.int .u64 0,.int .u64 0,.int .u64 0,.int .u64 0,.int .u64 0,.int .u64 0,.int .u64 0,.int .u64 0] [(0,(1,.const (.int .u64 1))),(1,(1,.tmp 9)),(2,(1,.tmp 10)),(3,(1,.tmp 11))]⟩,⟨none,some 6,.alloc 42 (.agg #[.int .u64 0,.int .u64 0,.int .u64 0,.int .u64 0,.int .u64 0,.int .u64 0,.int .u64 0,.int .u64 0,.int .u64 0,.int .u64 0,.int .u64 0,.int .u64 0,.int .u64 0,.int .u64 0,.int .u64 0,.int .u64 0,.int .u64 0,.int .u64 0,.int .u64 0,.int .u64 0,.int .u64 0,.int .u64 0,.int .u64 0,.int .u64 0,.int .u64 0,.int .u64 0,.int .u64 0,.int .u64 0,.int .u64 0,.int .u64 0,.int .u64 0,.int .u64 0,.int .u64 0,.int .u64 0,.int .u64 0,.int .u64 0,.int .u64 0,.int .u64 0,.int .u64 0,.int .u64 0,.int .u64 0,.int .u64 0,.int .u64 0,.int .u64 0,.int .u64 0,.int .u64 0,.int .u64 0,.int .u64 0,.int .u64 0,.int .u64 0,.int .u64 0,.int .u64 0,.int .u64 0,.int .u64 0,.int .u64 0,.int .u64 0,.int .u64 0,.int .u64 0,.int .u64 0,.int .u64 0,.int .u64 0,.int .u64 0,.int .u64 0,.int .u64 0,.int .u64 0,.int .u64 0,.int .u64 0,.int .u64 0,.int .u64 0])⟩,⟨none,none,.storeN 69 (.tmp 6) (.tmp 12)⟩])
 (.seq (.ops [⟨none,some 13,.mv (.tmp 2)⟩,⟨none,some 14,.call 22 [.tmp 13]⟩,⟨none,some 15,.faddr 4 (.tmp 6)⟩,⟨none,some 16,.iaddrA 65 1 (.tmp 15) (.tmp 14)⟩,⟨none,none,.store1 (.tmp 16) (.const (.int .u64 1))⟩])
 (.draw 3 (opsOf (sub (bodyOf Go.Proofs.Tryz.f9) [1,1,1])) [⟨none,some 17,.mv (.tmp 0)⟩,⟨none,some 18,.nilc (.tmp 17)⟩,⟨none,some 19,.faddr 0 (.tmp 18)⟩,⟨none,some 20,.load1 (.tmp 19)⟩,⟨none,some 21,.mv (.tmp 1)⟩,⟨none,some 22,.mv (.tmp 0)⟩,⟨none,some 23,.nilc (.tmp 22)⟩,⟨none,some 24,.faddr 0 (.tmp 23)⟩,⟨none,some 25,.load1 (.tmp 24)⟩,⟨none,some 26,.mv (.tmp 1)⟩,⟨none,some 27,.raw 30 (.mk (some 27) (.lookup 70 (.tmp 25) (.tmp 26) false) 42 "tally.go:54" #[.mk 8 .data,.mk 9 .data] none)⟩,⟨none,some 28,.loadN 69 (.tmp 6)⟩,⟨none,some 29,.call 29 [.tmp 27,.tmp 28]⟩,⟨none,none,.raw 30 (.mk none (.mapUpdate 70 (.tmp 20) (.tmp 21) (.tmp 29)) 0 "tally.go:54" #[.mk 3 .data,.mk 4 .data,.mk 12 .data,.mk 12 .chain,.mk 0 .phase,.mk 1 .phase,.mk 2 .phase,.mk 3 .phase,.mk 4 .phase,.mk 5 .phase,.mk 6 .phase,.mk 7 .phase,.mk 8 .phase,.mk 9 .phase,.mk 10 .phase,.mk 11 .phase,.mk 12 .phase] none)⟩]))))
abbrev r9 : List RV:=[]
theorem F9 : FnOk Go.Proofs.Tryz.prog 9 30 c9 r9:=⟨_,Go.Proofs.Tryz.func9,by kernel_rfl,by kernel_rfl,by kernel_rfl,by kernel_rfl,by kernel_rfl⟩
noncomputable def c18 : CC:=(.seq (.ops [⟨none,some 0,.mv (.const (.pointer none))⟩])
 (.seq (.ops [⟨none,some 1,.raw 4 (.mk (some 1) (.makeMap 93 none) 93 "tally.go:25" #[] none)⟩,⟨none,some 2,.build [.map none] [(0,(1,.tmp 1))]⟩,⟨none,some 3,.box 95 (.tmp 2)⟩,⟨none,some 0,.mv (.tmp 3)⟩])
 .ret))
abbrev r18 : List RV:=[(.tmp 0)]
theorem F18 : FnOk Go.Proofs.Tryz.prog 18 4 c18 r18:=⟨_,Go.Proofs.Tryz.func18,by kernel_rfl,by kernel_rfl,by kernel_rfl,by kernel_rfl,by kernel_rfl⟩
noncomputable def c19 : CC:=(.seq (.seq (.ops [⟨none,some 7,.mv (.tmp 0)⟩,⟨none,some 8,.pnil 0 false (.tmp 7)⟩])
 (.cond (.tmp 8)
 .ret
 .skip))
 (.seq (.ops [⟨none,some 9,.mv (.tmp 2)⟩,⟨none,some 10,.mv (.tmp 2)⟩,⟨none,some 11,.mv (.tmp 2)⟩,⟨none,some 12,.build [.int .u64 0,.int .u64 0,.int .u64 0,.int .u64 0,.int .u64 0,.int .u64 0,.int .u64 0,.int .u64 0,.int .u64 0,.int .u64 0,.int .u64 0,.int .u64 0,.int .u64 0,.int .u64 0,.int .u64 0,.int .u64 0,.int .u64 0,.int .u64 0,.int .u64 0,.int .u64 0,.int .u64 0,.int .u64 0,.int .u64 0,.int .u64 0,.int .u64 0,.int .u64 0,.int .u64 0,.int .u64 0,.int .u64 0,.int .u64 0,.int .u64 0,.int .u64 0,.int .u64 0,.int .u64 0,.int .u64 0,.int .u64 0,.int .u64 0,.int .u64 0,.int .u64 0,.int .u64 0,.int .u64 0,.int .u64 0,.int .u64 0,.int .u64 0,.int .u64 0,.int .u64 0,.int .u64 0,.int .u64 0,.int .u64 0,.int .u64 0,.int .u64 0,.int .u64 0,.int .u64 0,.int .u64 0,.int .u64 0,.int .u64 0,.int .u64 0,.int .u64 0,.int .u64 0,.int .u64 0,.int .u64 0,.int .u64 0,.int .u64 0,.int .u64 0,.int .u64 0,.int .u64 0,.int .u64 0,.int .u64 0,.int .u64 0] [(0,(1,.const (.int .u64 1))),(1,(1,.tmp 9)),(2,(1,.tmp 10)),(3,(1,.tmp 11))]⟩,⟨none,some 6,.alloc 42 (.agg #[.int .u64 0,.int .u64 0,.int .u64 0,.int .u64 0,.int .u64 0,.int .u64 0,.int .u64 0,.int .u64 0,.int .u64 0,.int .u64 0,.int .u64 0,.int .u64 0,.int .u64 0,.int .u64 0,.int .u64 0,.int .u64 0,.int .u64 0,.int .u64 0,.int .u64 0,.int .u64 0,.int .u64 0,.int .u64 0,.int .u64 0,.int .u64 0,.int .u64 0,.int .u64 0,.int .u64 0,.int .u64 0,.int .u64 0,.int .u64 0,.int .u64 0,.int .u64 0,.int .u64 0,.int .u64 0,.int .u64 0,.int .u64 0,.int .u64 0,.int .u64 0,.int .u64 0,.int .u64 0,.int .u64 0,.int .u64 0,.int .u64 0,.int .u64 0,.int .u64 0,.int .u64 0,.int .u64 0,.int .u64 0,.int .u64 0,.int .u64 0,.int .u64 0,.int .u64 0,.int .u64 0,.int .u64 0,.int .u64 0,.int .u64 0,.int .u64 0,.int .u64 0,.int .u64 0,.int .u64 0,.int .u64 0,.int .u64 0,.int .u64 0,.int .u64 0,.int .u64 0,.int .u64 0,.int .u64 0,.int .u64 0,.int .u64 0])⟩,⟨none,none,.storeN 69 (.tmp 6) (.tmp 12)⟩])
 (.seq (.ops [⟨none,some 13,.mv (.tmp 2)⟩,⟨none,some 14,.call 22 [.tmp 13]⟩,⟨none,some 15,.faddr 4 (.tmp 6)⟩,⟨none,some 16,.iaddrA 65 1 (.tmp 15) (.tmp 14)⟩,⟨none,none,.store1 (.tmp 16) (.const (.int .u64 1))⟩])
 (.draw 3 (opsOf (sub (bodyOf Go.Proofs.Tryz.f19) [1,1,1])) [⟨none,some 17,.mv (.tmp 0)⟩,⟨none,some 18,.nilc (.tmp 17)⟩,⟨none,some 19,.faddr 0 (.tmp 18)⟩,⟨none,some 20,.load1 (.tmp 19)⟩,⟨none,some 21,.mv (.tmp 1)⟩,⟨none,some 22,.mv (.tmp 0)⟩,⟨none,some 23,.nilc (.tmp 22)⟩,⟨none,some 24,.faddr 0 (.tmp 23)⟩,⟨none,some 25,.load1 (.tmp 24)⟩,⟨none,some 26,.mv (.tmp 1)⟩,⟨none,some 27,.raw 30 (.mk (some 27) (.lookup 93 (.tmp 25) (.tmp 26) false) 42 "tally.go:54" #[.mk 8 .data,.mk 9 .data] none)⟩,⟨none,some 28,.loadN 69 (.tmp 6)⟩,⟨none,some 29,.call 29 [.tmp 27,.tmp 28]⟩,⟨none,none,.raw 30 (.mk none (.mapUpdate 93 (.tmp 20) (.tmp 21) (.tmp 29)) 0 "tally.go:54" #[.mk 3 .data,.mk 4 .data,.mk 12 .data,.mk 12 .chain,.mk 0 .phase,.mk 1 .phase,.mk 2 .phase,.mk 3 .phase,.mk 4 .phase,.mk 5 .phase,.mk 6 .phase,.mk 7 .phase,.mk 8 .phase,.mk 9 .phase,.mk 10 .phase,.mk 11 .phase,.mk 12 .phase] none)⟩]))))
abbrev r19 : List RV:=[]
theorem F19 : FnOk Go.Proofs.Tryz.prog 19 30 c19 r19:=⟨_,Go.Proofs.Tryz.func19,by kernel_rfl,by kernel_rfl,by kernel_rfl,by kernel_rfl,by kernel_rfl⟩
noncomputable def c20 : CC:=(.seq (.ops [⟨none,some 4,.alloc 42 (.agg #[.int .u64 0,.int .u64 0,.int .u64 0,.int .u64 0,.int .u64 0,.int .u64 0,.int .u64 0,.int .u64 0,.int .u64 0,.int .u64 0,.int .u64 0,.int .u64 0,.int .u64 0,.int .u64 0,.int .u64 0,.int .u64 0,.int .u64 0,.int .u64 0,.int .u64 0,.int .u64 0,.int .u64 0,.int .u64 0,.int .u64 0,.int .u64 0,.int .u64 0,.int .u64 0,.int .u64 0,.int .u64 0,.int .u64 0,.int .u64 0,.int .u64 0,.int .u64 0,.int .u64 0,.int .u64 0,.int .u64 0,.int .u64 0,.int .u64 0,.int .u64 0,.int .u64 0,.int .u64 0,.int .u64 0,.int .u64 0,.int .u64 0,.int .u64 0,.int .u64 0,.int .u64 0,.int .u64 0,.int .u64 0,.int .u64 0,.int .u64 0,.int .u64 0,.int .u64 0,.int .u64 0,.int .u64 0,.int .u64 0,.int .u64 0,.int .u64 0,.int .u64 0,.int .u64 0,.int .u64 0,.int .u64 0,.int .u64 0,.int .u64 0,.int .u64 0,.int .u64 0,.int .u64 0,.int .u64 0,.int .u64 0,.int .u64 0])⟩])
 (.seq (.seq (.ops [⟨none,some 5,.mv (.tmp 0)⟩,⟨none,some 6,.pnil 0 false (.tmp 5)⟩])
 (.cond (.tmp 6)
 (.seq (.ops [⟨none,some 7,.build [.int .u64 0,.int .u64 0,.int .u64 0,.int .u64 0,.int .u64 0,.int .u64 0,.int .u64 0,.int .u64 0,.int .u64 0,.int .u64 0,.int .u64 0,.int .u64 0,.int .u64 0,.int .u64 0,.int .u64 0,.int .u64 0,.int .u64 0,.int .u64 0,.int .u64 0,.int .u64 0,.int .u64 0,.int .u64 0,.int .u64 0,.int .u64 0,.int .u64 0,.int .u64 0,.int .u64 0,.int .u64 0,.int .u64 0,.int .u64 0,.int .u64 0,.int .u64 0,.int .u64 0,.int .u64 0,.int .u64 0,.int .u64 0,.int .u64 0,.int .u64 0,.int .u64 0,.int .u64 0,.int .u64 0,.int .u64 0,.int .u64 0,.int .u64 0,.int .u64 0,.int .u64 0,.int .u64 0,.int .u64 0,.int .u64 0,.int .u64 0,.int .u64 0,.int .u64 0,.int .u64 0,.int .u64 0,.int .u64 0,.int .u64 0,.int .u64 0,.int .u64 0,.int .u64 0,.int .u64 0,.int .u64 0,.int .u64 0,.int .u64 0,.int .u64 0,.int .u64 0,.int .u64 0,.int .u64 0,.int .u64 0,.int .u64 0] []⟩,⟨none,none,.storeN 69 (.tmp 4) (.tmp 7)⟩])
 .ret)
 .skip))
 (.seq (.ops [⟨none,some 8,.mv (.tmp 0)⟩,⟨none,some 9,.nilc (.tmp 8)⟩,⟨none,some 10,.faddr 0 (.tmp 9)⟩,⟨none,some 11,.load1 (.tmp 10)⟩,⟨none,some 12,.mv (.tmp 1)⟩,⟨none,some 13,.raw 14 (.mk (some 13) (.lookup 93 (.tmp 11) (.tmp 12) false) 42 "tally.go:62" #[.mk 3 .data,.mk 4 .data] none)⟩,⟨none,none,.storeN 69 (.tmp 4) (.tmp 13)⟩])
 .ret)))
abbrev r20 : List RV:=[(.cN 4 69)]
theorem F20 : FnOk Go.Proofs.Tryz.prog 20 14 c20 r20:=⟨_,Go.Proofs.Tryz.func20,by kernel_rfl,by kernel_rfl,by kernel_rfl,by kernel_rfl,by kernel_rfl⟩
noncomputable def c21 : CC:=(.seq (.ops [⟨none,some 3,.box 42 (.tmp 0)⟩,⟨none,some 6,.mv (.const (.int .i64 0))⟩])
 (.seq (.seq (.ops [⟨none,some 11,.faddr 0 (.tmp 3)⟩,⟨none,some 12,.load1 (.tmp 11)⟩,⟨none,some 13,.iop .eql (.tmp 12) (.const (.int .u64 0))⟩,⟨none,some 14,.mv (.tmp 13)⟩,⟨some (14,false),some 15,.mv (.tmp 2)⟩,⟨some (14,false),some 16,.iop .eql (.tmp 15) (.const (.int .u64 0))⟩,⟨none,some 17,.pick (.tmp 14) (.const (.bool true)) (.tmp 16)⟩,⟨none,some 18,.mv (.tmp 17)⟩,⟨some (18,false),some 19,.mv (.tmp 1)⟩,⟨some (18,false),some 20,.iop .eql (.tmp 19) (.const (.int .u64 0))⟩,⟨none,some 21,.pick (.tmp 18) (.const (.bool true)) (.tmp 20)⟩])
 (.cond (.tmp 21)
 (.seq (.ops [⟨none,some 6,.mv (.const (.int .i64 0))⟩])
 .ret)
 .skip))
 (.seq (.ops [⟨none,some 22,.faddr 0 (.tmp 3)⟩,⟨none,some 23,.load1 (.tmp 22)⟩,⟨none,some 24,.mv (.tmp 1)⟩,⟨none,some 25,.mv (.tmp 2)⟩,⟨none,some 26,.call 36 [.tmp 23,.tmp 24,.tmp 25]⟩,⟨none,some 7,.mv (.tmp 26)⟩])
 (.seq (.ops [⟨none,some 8,.mv (.const (.int .u64 0))⟩])
 (.seq (.seq (.ops [⟨none,some 27,.faddr 4 (.tmp 3)⟩,⟨none,some 28,.loadN 65 (.tmp 27)⟩,⟨none,some 29,.mv (.const (.int .i64 0))⟩])
 (.block 0
 (.loop
 (.seq (.ops [⟨none,some 30,.iop .lss (.tmp 29) (.const (.int .i64 65))⟩])
 (.seq (.cond (.tmp 30)
 .skip
 (.exit 0))
 (.seq (.block 1
 (.seq (.ops [⟨none,some 31,.mv (.tmp 29)⟩,⟨none,some 32,.raw 41 (.mk (some 32) (.index 40 (.tmp 28) (.tmp 29)) 27 "tally.go:119" #[] none)⟩,⟨none,some 9,.mv (.tmp 31)⟩,⟨none,some 10,.mv (.tmp 32)⟩])
 (.seq (.ops [⟨none,some 33,.mv (.tmp 8)⟩,⟨none,some 34,.mv (.tmp 10)⟩,⟨none,some 35,.iop .add (.tmp 33) (.tmp 34)⟩,⟨none,some 8,.mv (.tmp 35)⟩])
 (.seq (.ops [⟨none,some 36,.mv (.tmp 8)⟩,⟨none,some 37,.mv (.tmp 7)⟩,⟨none,some 38,.iop .geq (.tmp 36) (.tmp 37)⟩])
 (.cond (.tmp 38)
 (.seq (.ops [⟨none,some 39,.mv (.tmp 9)⟩,⟨none,some 6,.mv (.tmp 39)⟩])
 .ret)
 .skip)))))
 (.ops [⟨none,some 40,.iop .add (.tmp 29) (.const (.int .i64 1))⟩,⟨none,some 29,.mv (.tmp 40)⟩])))))))
 (.seq (.ops [⟨none,some 6,.mv (.const (.int .i64 64))⟩])
 .ret))))))
abbrev r21 : List RV:=[(.tmp 6)]
theorem F21 : FnOk Go.Proofs.Tryz.prog 21 41 c21 r21:=⟨_,Go.Proofs.Tryz.func21,by kernel_rfl,by kernel_rfl,by kernel_rfl,by kernel_rfl,by kernel_rfl⟩
noncomputable def c22 : CC:=(.seq (.ops [⟨none,some 2,.mv (.const (.int .i64 0))⟩])
 (.seq (.ops [⟨none,some 3,.mv (.tmp 0)⟩,⟨none,some 4,.call 37 [.tmp 3]⟩,⟨none,some 2,.mv (.tmp 4)⟩])
 .ret))
abbrev r22 : List RV:=[(.tmp 2)]
theorem F22 : FnOk Go.Proofs.Tryz.prog 22 5 c22 r22:=⟨_,Go.Proofs.Tryz.func22,by kernel_rfl,by kernel_rfl,by kernel_rfl,by kernel_rfl,by kernel_rfl⟩
noncomputable def c24 : CC:=(.seq (.ops [⟨none,some 4,.alloc 42 (.agg #[.int .u64 0,.int .u64 0,.int .u64 0,.int .u64 0,.int .u64 0,.int .u64 0,.int .u64 0,.int .u64 0,.int .u64 0,.int .u64 0,.int .u64 0,.int .u64 0,.int .u64 0,.int .u64 0,.int .u64 0,.int .u64 0,.int .u64 0,.int .u64 0,.int .u64 0,.int .u64 0,.int .u64 0,.int .u64 0,.int .u64 0,.int .u64 0,.int .u64 0,.int .u64 0,.int .u64 0,.int .u64 0,.int .u64 0,.int .u64 0,.int .u64 0,.int .u64 0,.int .u64 0,.int .u64 0,.int .u64 0,.int .u64 0,.int .u64 0,.int .u64 0,.int .u64 0,.int .u64 0,.int .u64 0,.int .u64 0,.int .u64 0,.int .u64 0,.int .u64 0,.int .u64 0,.int .u64 0,.int .u64 0,.int .u64 0,.int .u64 0,.int .u64 0,.int .u64 0,.int .u64 0,.int .u64 0,.int .u64 0,.int .u64 0,.int .u64 0,.int .u64 0,.int .u64 0,.int .u64 0,.int .u64 0,.int .u64 0,.int .u64 0,.int .u64 0,.int .u64 0,.int .u64 0,.int .u64 0,.int .u64 0,.int .u64 0])⟩])
 (.seq (.seq (.ops [⟨none,some 5,.mv (.tmp 0)⟩,⟨none,some 6,.pnil 0 false (.tmp 5)⟩])
 (.cond (.tmp 6)
 (.seq (.ops [⟨none,some 7,.build [.int .u64 0,.int .u64 0,.int .u64 0,.int .u64 0,.int .u64 0,.int .u64 0,.int .u64 0,.int .u64 0,.int .u64 0,.int .u64 0,.int .u64 0,.int .u64 0,.int .u64 0,.int .u64 0,.int .u64 0,.int .u64 0,.int .u64 0,.int .u64 0,.int .u64 0,.int .u64 0,.int .u64 0,.int .u64 0,.int .u64 0,.int .u64 0,.int .u64 0,.int .u64 0,.int .u64 0,.int .u64 0,.int .u64 0,.int .u64 0,.int .u64 0,.int .u64 0,.int .u64 0,.int .u64 0,.int .u64 0,.int .u64 0,.int .u64 0,.int .u64 0,.int .u64 0,.int .u64 0,.int .u64 0,.int .u64 0,.int .u64 0,.int .u64 0,.int .u64 0,.int .u64 0,.int .u64 0,.int .u64 0,.int .u64 0,.int .u64 0,.int .u64 0,.int .u64 0,.int .u64 0,.int .u64 0,.int .u64 0,.int .u64 0,.int .u64 0,.int .u64 0,.int .u64 0,.int .u64 0,.int .u64 0,.int .u64 0,.int .u64 0,.int .u64 0,.int .u64 0,.int .u64 0,.int .u64 0,.int .u64 0,.int .u64 0] []⟩,⟨none,none,.storeN 69 (.tmp 4) (.tmp 7)⟩])
 .ret)
 .skip))
 (.seq (.ops [⟨none,some 8,.mv (.tmp 0)⟩,⟨none,some 9,.nilc (.tmp 8)⟩,⟨none,some 10,.faddr 0 (.tmp 9)⟩,⟨none,some 11,.load1 (.tmp 10)⟩,⟨none,some 12,.mv (.tmp 1)⟩,⟨none,some 13,.raw 14 (.mk (some 13) (.lookup 70 (.tmp 11) (.tmp 12) false) 42 "tally.go:62" #[.mk 3 .data,.mk 4 .data] none)⟩,⟨none,none,.storeN 69 (.tmp 4) (.tmp 13)⟩])
 .ret)))
abbrev r24 : List RV:=[(.cN 4 69)]
theorem F24 : FnOk Go.Proofs.Tryz.prog 24 14 c24 r24:=⟨_,Go.Proofs.Tryz.func24,by kernel_rfl,by kernel_rfl,by kernel_rfl,by kernel_rfl,by kernel_rfl⟩
noncomputable def c29 : CC:=(.seq (.ops [⟨none,some 2,.box 42 (.tmp 0)⟩,⟨none,some 3,.box 42 (.tmp 1)⟩,⟨none,some 4,.alloc 42 (.agg #[.int .u64 0,.int .u64 0,.int .u64 0,.int .u64 0,.int .u64 0,.int .u64 0,.int .u64 0,.int .u64 0,.int .u64 0,.int .u64 0,.int .u64 0,.int .u64 0,.int .u64 0,.int .u64 0,.int .u64 0,.int .u64 0,.int .u64 0,.int .u64 0,.int .u64 0,.int .u64 0,.int .u64 0,.int .u64 0,.int .u64 0,.int .u64 0,.int .u64 0,.int .u64 0,.int .u64 0,.int .u64 0,.int .u64 0,.int .u64 0,.int .u64 0,.int .u64 0,.int .u64 0,.int .u64 0,.int .u64 0,.int .u64 0,.int .u64 0,.int .u64 0,.int .u64 0,.int .u64 0,.int .u64 0,.int .u64 0,.int .u64 0,.int .u64 0,.int .u64 0,.int .u64 0,.int .u64 0,.int .u64 0,.int .u64 0,.int .u64 0,.int .u64 0,.int .u64 0,.int .u64 0,.int .u64 0,.int .u64 0,.int .u64 0,.int .u64 0,.int .u64 0,.int .u64 0,.int .u64 0,.int .u64 0,.int .u64 0,.int .u64 0,.int .u64 0,.int .u64 0,.int .u64 0,.int .u64 0,.int .u64 0,.int .u64 0])⟩])
 (.seq (.block 0
 (.seq (.ops [⟨none,some 8,.faddr 0 (.tmp 3)⟩,⟨none,some 9,.load1 (.tmp 8)⟩,⟨none,some 10,.iop .eql (.tmp 9) (.const (.int .u64 0))⟩,⟨none,some 7,.mv (.tmp 10)⟩])
 (.cond (.tmp 7)
 (.seq (.ops [⟨none,some 11,.loadN 69 (.tmp 2)⟩,⟨none,none,.storeN 69 (.tmp 4) (.tmp 11)⟩])
 .ret)
 (.seq (.ops [⟨none,some 13,.faddr 0 (.tmp 2)⟩,⟨none,some 14,.load1 (.tmp 13)⟩,⟨none,some 15,.iop .eql (.tmp 14) (.const (.int .u64 0))⟩,⟨none,some 12,.mv (.tmp 15)⟩])
 (.cond (.tmp 12)
 (.seq (.ops [⟨none,some 16,.loadN 69 (.tmp 3)⟩,⟨none,none,.storeN 69 (.tmp 4) (.tmp 16)⟩])
 .ret)
 .skip)))))
 (.seq (.ops [⟨none,some 17,.faddr 0 (.tmp 2)⟩,⟨none,some 18,.load1 (.tmp 17)⟩,⟨none,some 19,.faddr 0 (.tmp 3)⟩,⟨none,some 20,.load1 (.tmp 19)⟩,⟨none,some 21,.iop .add (.tmp 18) (.tmp 20)⟩,⟨none,some 22,.faddr 0 (.tmp 2)⟩,⟨none,none,.store1 (.tmp 22) (.tmp 21)⟩])
 (.seq (.ops [⟨none,some 23,.faddr 1 (.tmp 2)⟩,⟨none,some 24,.load1 (.tmp 23)⟩,⟨none,some 25,.faddr 1 (.tmp 3)⟩,⟨none,some 26,.load1 (.tmp 25)⟩,⟨none,some 27,.iop .add (.tmp 24) (.tmp 26)⟩,⟨none,some 28,.faddr 1 (.tmp 2)⟩,⟨none,none,.store1 (.tmp 28) (.tmp 27)⟩])
 (.seq (.draw 7 (opsOf (sub (bodyOf Go.Proofs.Tryz.f29) [1,1,1,1,0])) [⟨none,some 29,.faddr 2 (.tmp 2)⟩,⟨none,some 30,.load1 (.tmp 29)⟩,⟨none,some 31,.faddr 2 (.tmp 3)⟩,⟨none,some 32,.load1 (.tmp 31)⟩,⟨none,some 33,.raw 57 (.mk (some 33) (.call (.mk (.builtin .min) #[.tmp 30,.tmp 32] #[27,27])) 27 "tally.go:40" #[.mk 1 .data,.mk 3 .data] none)⟩,⟨none,some 34,.faddr 3 (.tmp 2)⟩,⟨none,some 35,.load1 (.tmp 34)⟩,⟨none,some 36,.faddr 3 (.tmp 3)⟩,⟨none,some 37,.load1 (.tmp 36)⟩,⟨none,some 38,.raw 57 (.mk (some 38) (.call (.mk (.builtin .max) #[.tmp 35,.tmp 37] #[27,27])) 27 "tally.go:40" #[.mk 6 .data,.mk 8 .data] none)⟩,⟨none,some 39,.faddr 2 (.tmp 2)⟩,⟨none,none,.store1 (.tmp 39) (.tmp 33)⟩,⟨none,some 40,.faddr 3 (.tmp 2)⟩,⟨none,none,.store1 (.tmp 40) (.tmp 38)⟩])
 (.seq (.seq (.ops [⟨none,some 41,.faddr 4 (.tmp 3)⟩,⟨none,some 42,.loadN 65 (.tmp 41)⟩,⟨none,some 43,.mv (.const (.int .i64 0))⟩])
 (.block 1
 (.loop
 (.seq (.ops [⟨none,some 44,.iop .lss (.tmp 43) (.const (.int .i64 65))⟩])
 (.seq (.cond (.tmp 44)
 .skip
 (.exit 1))
 (.seq (.block 2
 (.seq (.ops [⟨none,some 45,.mv (.tmp 43)⟩,⟨none,some 46,.raw 57 (.mk (some 46) (.index 40 (.tmp 42) (.tmp 43)) 27 "tally.go:41" #[] none)⟩,⟨none,some 5,.mv (.tmp 45)⟩,⟨none,some 6,.mv (.tmp 46)⟩])
 (.ops [⟨none,some 47,.mv (.tmp 5)⟩,⟨none,some 48,.faddr 4 (.tmp 2)⟩,⟨none,some 49,.iaddrA 65 1 (.tmp 48) (.tmp 47)⟩,⟨none,some 50,.load1 (.tmp 49)⟩,⟨none,some 51,.mv (.tmp 6)⟩,⟨none,some 52,.iop .add (.tmp 50) (.tmp 51)⟩,⟨none,some 53,.faddr 4 (.tmp 2)⟩,⟨none,some 54,.iaddrA 65 1 (.tmp 53) (.tmp 47)⟩,⟨none,none,.store1 (.tmp 54) (.tmp 52)⟩])))
 (.ops [⟨none,some 55,.iop .add (.tmp 43) (.const (.int .i64 1))⟩,⟨none,some 43,.mv (.tmp 55)⟩])))))))
 (.seq (.ops [⟨none,some 56,.loadN 69 (.tmp 2)⟩,⟨none,none,.storeN 69 (.tmp 4) (.tmp 56)⟩])
 .ret)))))))
abbrev r29 : List RV:=[(.cN 4 69)]
theorem F29 : FnOk Go.Proofs.Tryz.prog 29 57 c29 r29:=⟨_,Go.Proofs.Tryz.func29,by kernel_rfl,by kernel_rfl,by kernel_rfl,by kernel_rfl,by kernel_rfl⟩
noncomputable def c36 : CC:=(.seq (.ops [⟨none,some 6,.mv (.const (.int .u64 0))⟩])
 (.seq (.seq (.ops [⟨none,some 11,.mv (.tmp 1)⟩,⟨none,some 12,.mv (.tmp 2)⟩,⟨none,some 13,.iop .geq (.tmp 11) (.tmp 12)⟩])
 (.cond (.tmp 13)
 (.seq (.ops [⟨none,some 14,.mv (.tmp 0)⟩,⟨none,some 6,.mv (.tmp 14)⟩])
 .ret)
 .skip))
 (.seq (.ops [⟨none,some 16,.mv (.tmp 0)⟩,⟨none,some 17,.mv (.tmp 1)⟩,⟨none,some 18,.call 49 [.tmp 16,.tmp 17]⟩,⟨none,some 15,.mv (.tmp 18)⟩,⟨none,some 19,.ext (.tmp 15) 0⟩,⟨none,some 20,.ext (.tmp 15) 1⟩,⟨none,some 7,.mv (.tmp 19)⟩,⟨none,some 8,.mv (.tmp 20)⟩])
 (.seq (.ops [⟨none,some 22,.mv (.tmp 7)⟩,⟨none,some 23,.mv (.tmp 8)⟩,⟨none,some 24,.mv (.tmp 2)⟩,⟨none,some 25,.call 50 [.tmp 22,.tmp 23,.tmp 24]⟩,⟨none,some 21,.mv (.tmp 25)⟩,⟨none,some 26,.ext (.tmp 21) 0⟩,⟨none,some 27,.ext (.tmp 21) 1⟩,⟨none,some 9,.mv (.tmp 26)⟩,⟨none,some 10,.mv (.tmp 27)⟩])
 (.seq (.seq (.ops [⟨none,some 28,.mv (.tmp 10)⟩,⟨none,some 29,.iop .gtr (.tmp 28) (.const (.int .u64 0))⟩])
 (.cond (.tmp 29)
 (.ops [⟨none,some 30,.mv (.tmp 9)⟩,⟨none,some 31,.iop .add (.tmp 30) (.const (.int .u64 1))⟩,⟨none,some 9,.mv (.tmp 31)⟩])
 .skip))
 (.seq (.ops [⟨none,some 32,.mv (.tmp 9)⟩,⟨none,some 6,.mv (.tmp 32)⟩])
 .ret))))))
abbrev r36 : List RV:=[(.tmp 6)]
theorem F36 : FnOk Go.Proofs.Tryz.prog 36 33 c36 r36:=⟨_,Go.Proofs.Tryz.func36,by kernel_rfl,by kernel_rfl,by kernel_rfl,by kernel_rfl,by kernel_rfl⟩
end Go.VrK
namespace Go.VrL
open Go Go.Vc
set_option maxRecDepth 100000
noncomputable def c50 : CC:=(.seq (.ops [⟨none,some 6,.mv (.const (.int .u64 0))⟩,⟨none,some 7,.mv (.const (.int .u64 0))⟩])
 (.seq (.seq (.ops [⟨none,some 19,.mv (.tmp 2)⟩,⟨none,some 20,.iop .eql (.tmp 19) (.const (.int .u64 0))⟩])
 (.cond (.tmp 20)
 (.ops [⟨none,some 21,.load1 (.global 0)⟩,⟨none,none,.raw 135 (.mk none (.panic (.tmp 21)) 0 "bits.go:520" #[.mk 0 .data] none)⟩])
 .skip))
 (.seq (.seq (.ops [⟨none,some 22,.mv (.tmp 2)⟩,⟨none,some 23,.mv (.tmp 0)⟩,⟨none,some 24,.iop .leq (.tmp 22) (.tmp 23)⟩])
 (.cond (.tmp 24)
 (.ops [⟨none,some 25,.load1 (.global 1)⟩,⟨none,none,.raw 135 (.mk none (.panic (.tmp 25)) 0 "bits.go:523" #[.mk 0 .data] none)⟩])
 .skip))
 (.seq (.seq (.ops [⟨none,some 26,.mv (.tmp 0)⟩,⟨none,some 27,.iop .eql (.tmp 26) (.const (.int .u64 0))⟩])
 (.cond (.tmp 27)
 (.seq (.draw 6 (opsOf (sub (bodyOf Go.Proofs.Tryz.f50) [1,1,1,0,1,0,0])) [⟨none,some 28,.mv (.tmp 1)⟩,⟨none,some 29,.mv (.tmp 2)⟩,⟨none,some 30,.iop .quo (.tmp 28) (.tmp 29)⟩,⟨none,some 31,.mv (.tmp 1)⟩,⟨none,some 32,.mv (.tmp 2)⟩,⟨none,some 33,.iop .rem (.tmp 31) (.tmp 32)⟩,⟨none,some 6,.mv (.tmp 30)⟩,⟨none,some 7,.mv (.tmp 33)⟩])
 .ret)
 .skip))
 (.seq (.ops [⟨none,some 34,.mv (.tmp 2)⟩,⟨none,some 35,.call 65 [.tmp 34]⟩,⟨none,some 36,.conv .u64 (.tmp 35)⟩,⟨none,some 8,.mv (.tmp 36)⟩])
 (.seq (.ops [⟨none,some 37,.mv (.tmp 2)⟩,⟨none,some 38,.mv (.tmp 8)⟩,⟨none,some 39,.iop .shl (.tmp 37) (.tmp 38)⟩,⟨none,some 2,.mv (.tmp 39)⟩])
 (.seq (.ops [⟨none,some 40,.mv (.tmp 2)⟩,⟨none,some 41,.iop .shr (.tmp 40) (.const (.int .u64 32))⟩,⟨none,some 9,.mv (.tmp 41)⟩])
 (.seq (.ops [⟨none,some 42,.mv (.tmp 2)⟩,⟨none,some 43,.iop .and (.tmp 42) (.const (.int .u64 4294967295))⟩,⟨none,some 10,.mv (.tmp 43)⟩])
 (.seq (.ops [⟨none,some 44,.mv (.tmp 0)⟩,⟨none,some 45,.mv (.tmp 8)⟩,⟨none,some 46,.iop .shl (.tmp 44) (.tmp 45)⟩,⟨none,some 47,.mv (.tmp 1)⟩,⟨none,some 48,.mv (.tmp 8)⟩,⟨none,some 49,.iop .sub (.const (.int .u64 64)) (.tmp 48)⟩,⟨none,some 50,.iop .shr (.tmp 47) (.tmp 49)⟩,⟨none,some 51,.iop .or (.tmp 46) (.tmp 50)⟩,⟨none,some 11,.mv (.tmp 51)⟩])
 (.seq (.ops [⟨none,some 52,.mv (.tmp 1)⟩,⟨none,some 53,.mv (.tmp 8)⟩,⟨none,some 54,.iop .shl (.tmp 52) (.tmp 53)⟩,⟨none,some 12,.mv (.tmp 54)⟩])
 (.seq (.ops [⟨none,some 55,.mv (.tmp 12)⟩,⟨none,some 56,.iop .shr (.tmp 55) (.const (.int .u64 32))⟩,⟨none,some 13,.mv (.tmp 56)⟩])
 (.seq (.ops [⟨none,some 57,.mv (.tmp 12)⟩,⟨none,some 58,.iop .and (.tmp 57) (.const (.int .u64 4294967295))⟩,⟨none,some 14,.mv (.tmp 58)⟩])
 (.seq (.ops [⟨none,some 59,.mv (.tmp 11)⟩,⟨none,some 60,.mv (.tmp 9)⟩,⟨none,some 61,.iop .quo (.tmp 59) (.tmp 60)⟩,⟨none,some 15,.mv (.tmp 61)⟩])
 (.seq (.ops [⟨none,some 62,.mv (.tmp 11)⟩,⟨none,some 63,.mv (.tmp 15)⟩,⟨none,some 64,.mv (.tmp 9)⟩,⟨none,some 65,.iop .mul (.tmp 63) (.tmp 64)⟩,⟨none,some 66,.iop .sub (.tmp 62) (.tmp 65)⟩,⟨none,some 16,.mv (.tmp 66)⟩])
 (.seq (.block 0
 (.loop
 (.seq (.seq (.ops [⟨none,some 67,.mv (.tmp 15)⟩,⟨none,some 68,.iop .geq (.tmp 67) (.const (.int .u64 4294967296))⟩,⟨none,some 69,.mv (.tmp 68)⟩,⟨some (69,false),some 70,.mv (.tmp 15)⟩,⟨some (69,false),some 71,.mv (.tmp 10)⟩,⟨some (69,false),some 72,.iop .mul (.tmp 70) (.tmp 71)⟩,⟨some (69,false),some 73,.mv (.tmp 16)⟩,⟨some (69,false),some 74,.iop .mul (.const (.int .u64 4294967296)) (.tmp 73)⟩,⟨some (69,false),some 75,.mv (.tmp 13)⟩,⟨some (69,false),some 76,.iop .add (.tmp 74) (.tmp 75)⟩,⟨some (69,false),some 77,.iop .gtr (.tmp 72) (.tmp 76)⟩,⟨none,some 78,.pick (.tmp 69) (.const (.bool true)) (.tmp 77)⟩])
 (.cond (.tmp 78)
 .skip
 (.exit 0)))
 (.block 1
 (.seq (.ops [⟨none,some 79,.mv (.tmp 15)⟩,⟨none,some 80,.iop .sub (.tmp 79) (.const (.int .u64 1))⟩,⟨none,some 15,.mv (.tmp 80)⟩])
 (.seq (.ops [⟨none,some 81,.mv (.tmp 16)⟩,⟨none,some 82,.mv (.tmp 9)⟩,⟨none,some 83,.iop .add (.tmp 81) (.tmp 82)⟩,⟨none,some 16,.mv (.tmp 83)⟩])
 (.seq (.ops [⟨none,some 84,.mv (.tmp 16)⟩,⟨none,some 85,.iop .geq (.tmp 84) (.const (.int .u64 4294967296))⟩])
 (.cond (.tmp 85)
 (.exit 0)
 .skip))))))))
 (.seq (.ops [⟨none,some 86,.mv (.tmp 11)⟩,⟨none,some 87,.iop .mul (.tmp 86) (.const (.int .u64 4294967296))⟩,⟨none,some 88,.mv (.tmp 13)⟩,⟨none,some 89,.iop .add (.tmp 87) (.tmp 88)⟩,⟨none,some 90,.mv (.tmp 15)⟩,⟨none,some 91,.mv (.tmp 2)⟩,⟨none,some 92,.iop .mul (.tmp 90) (.tmp 91)⟩,⟨none,some 93,.iop .sub (.tmp 89) (.tmp 92)⟩,⟨none,some 17,.mv (.tmp 93)⟩])
 (.seq (.ops [⟨none,some 94,.mv (.tmp 17)⟩,⟨none,some 95,.mv (.tmp 9)⟩,⟨none,some 96,.iop .quo (.tmp 94) (.tmp 95)⟩,⟨none,some 18,.mv (.tmp 96)⟩])
 (.seq (.ops [⟨none,some 97,.mv (.tmp 17)⟩,⟨none,some 98,.mv (.tmp 18)⟩,⟨none,some 99,.mv (.tmp 9)⟩,⟨none,some 100,.iop .mul (.tmp 98) (.tmp 99)⟩,⟨none,some 101,.iop .sub (.tmp 97) (.tmp 100)⟩,⟨none,some 16,.mv (.tmp 101)⟩])
 (.seq (.block 2
 (.loop
 (.seq (.seq (.ops [⟨none,some 102,.mv (.tmp 18)⟩,⟨none,some 103,.iop .geq (.tmp 102) (.const (.int .u64 4294967296))⟩,⟨none,some 104,.mv (.tmp 103)⟩,⟨some (104,false),some 105,.mv (.tmp 18)⟩,⟨some (104,false),some 106,.mv (.tmp 10)⟩,⟨some (104,false),some 107,.iop .mul (.tmp 105) (.tmp 106)⟩,⟨some (104,false),some 108,.mv (.tmp 16)⟩,⟨some (104,false),some 109,.iop .mul (.const (.int .u64 4294967296)) (.tmp 108)⟩,⟨some (104,false),some 110,.mv (.tmp 14)⟩,⟨some (104,false),some 111,.iop .add (.tmp 109) (.tmp 110)⟩,⟨some (104,false),some 112,.iop .gtr (.tmp 107) (.tmp 111)⟩,⟨none,some 113,.pick (.tmp 104) (.const (.bool true)) (.tmp 112)⟩])
 (.cond (.tmp 113)
 .skip
 (.exit 2)))
 (.block 3
 (.seq (.ops [⟨none,some 114,.mv (.tmp 18)⟩,⟨none,some 115,.iop .sub (.tmp 114) (.const (.int .u64 1))⟩,⟨none,some 18,.mv (.tmp 115)⟩])
 (.seq (.ops [⟨none,some 116,.mv (.tmp 16)⟩,⟨none,some 117,.mv (.tmp 9)⟩,⟨none,some 118,.iop .add (.tmp 116) (.tmp 117)⟩,⟨none,some 16,.mv (.tmp 118)⟩])
 (.seq (.ops [⟨none,some 119,.mv (.tmp 16)⟩,⟨none,some 120,.iop .geq (.tmp 119) (.const (.int .u64 4294967296))⟩])
 (.cond (.tmp 120)
 (.exit 2)
 .skip))))))))
 (.seq (.ops [⟨none,some 121,.mv (.tmp 15)⟩,⟨none,some 122,.iop .mul (.tmp 121) (.const (.int .u64 4294967296))⟩,⟨none,some 123,.mv (.tmp 18)⟩,⟨none,some 124,.iop .add (.tmp 122) (.tmp 123)⟩,⟨none,some 125,.mv (.tmp 17)⟩,⟨none,some 126,.iop .mul (.tmp 125) (.const (.int .u64 4294967296))⟩,⟨none,some 127,.mv (.tmp 14)⟩,⟨none,some 128,.iop .add (.tmp 126) (.tmp 127)⟩,⟨none,some 129,.mv (.tmp 18)⟩,⟨none,some 130,.mv (.tmp 2)⟩,⟨none,some 131,.iop .mul (.tmp 129) (.tmp 130)⟩,⟨none,some 132,.iop .sub (.tmp 128) (.tmp 131)⟩,⟨none,some 133,.mv (.tmp 8)⟩,⟨none,some 134,.iop .shr (.tmp 132) (.tmp 133)⟩,⟨none,some 6,.mv (.tmp 124)⟩,⟨none,some 7,.mv (.tmp 134)⟩])
 .ret))))))))))))))))))))
abbrev r50 : List RV:=[(.tmp 6),(.tmp 7)]
theorem F50 : FnOk Go.Proofs.Tryz.prog 50 135 c50 r50:=⟨_,Go.Proofs.Tryz.func50,by kernel_rfl,by kernel_rfl,by kernel_rfl,by kernel_rfl,by kernel_rfl⟩
end Go.VrL
