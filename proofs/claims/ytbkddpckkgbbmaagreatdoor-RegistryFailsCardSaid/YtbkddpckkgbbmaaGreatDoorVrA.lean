import Derived.Test.YtbkddpckkgbbmaaGreatDoorProg
import Derived.Test.YtbkddpckkgbbmaaGreatDoorVcI
set_option linter.unusedSimpArgs false
set_option linter.unusedVariables false
set_option linter.unusedSectionVars false
set_option linter.unnecessarySimpa false
namespace Go.VrA
open Go Go.Vc
set_option maxRecDepth 100000
noncomputable def c9 : CC:=(.seq (.ops [⟨none,some 0,.mv (.const (.bool false))⟩])
 (.seq (.ops [⟨none,some 5,.call 12 [.const (.slice none 0 0)]⟩,⟨none,some 1,.mv (.tmp 5)⟩])
 (.seq (.seq (.ops [⟨none,some 6,.mv (.tmp 1)⟩,⟨none,some 7,.pnil 0 false (.tmp 6)⟩])
 (.cond (.tmp 7)
 (.seq (.ops [⟨none,some 0,.mv (.const (.bool false))⟩])
 .ret)
 .skip))
 (.seq (.ops [⟨none,some 8,.mv (.tmp 1)⟩,⟨none,some 9,.mkI 26 (.tmp 8)⟩,⟨none,some 10,.build [.string (.mk #[]),.int .u32 0,.int .u64 0,.int .u32 0,.string (.mk #[])] [(0,(1,.const (.string (.mk #[97]))))]⟩,⟨none,some 11,.call 16 [.tmp 9,.tmp 10]⟩,⟨none,some 2,.mv (.tmp 11)⟩])
 (.seq (.ops [⟨none,some 13,.mv (.tmp 1)⟩,⟨none,some 14,.mkI 26 (.tmp 13)⟩,⟨none,some 15,.call 32 [.tmp 14,.const (.string (.mk #[])),.const (.string (.mk #[97]))]⟩,⟨none,some 12,.mv (.tmp 15)⟩,⟨none,some 16,.ext (.tmp 12) 0⟩,⟨none,some 17,.ext (.tmp 12) 1⟩,⟨none,some 3,.mv (.tmp 16)⟩,⟨none,some 4,.mv (.tmp 17)⟩])
 (.seq (.ops [⟨none,some 18,.mv (.tmp 2)⟩,⟨none,some 19,.iop .eql (.tmp 18) (.const (.int .i64 0))⟩,⟨none,some 20,.mv (.tmp 19)⟩,⟨some (20,true),some 21,.mv (.tmp 4)⟩,⟨some (20,true),some 22,.iop .eql (.tmp 21) (.const (.int .i64 0))⟩,⟨none,some 23,.pick (.tmp 20) (.tmp 22) (.const (.bool false))⟩,⟨none,some 24,.mv (.tmp 23)⟩,⟨some (24,true),some 25,.mv (.tmp 3)⟩,⟨some (24,true),some 26,.lenL (.tmp 25)⟩,⟨some (24,true),some 27,.iop .eql (.tmp 26) (.const (.int .i64 1))⟩,⟨none,some 28,.pick (.tmp 24) (.tmp 27) (.const (.bool false))⟩,⟨none,some 29,.mv (.tmp 28)⟩,⟨some (29,true),some 30,.mv (.tmp 3)⟩,⟨some (29,true),some 31,.iaddr 1 (.tmp 30) (.const (.int .i64 0))⟩,⟨some (29,true),some 32,.load1 (.tmp 31)⟩,⟨some (29,true),some 33,.sop .eql (.tmp 32) (.const (.string (.mk #[97])))⟩,⟨none,some 34,.pick (.tmp 29) (.tmp 33) (.const (.bool false))⟩,⟨none,some 0,.mv (.tmp 34)⟩])
 .ret))))))
abbrev r9 : List RV:=[(.tmp 0)]
theorem F9 : FnOk Go.Proofs.Tryz.prog 9 35 c9 r9:=⟨_,Go.Proofs.Tryz.func9,by kernel_rfl,by kernel_rfl,by kernel_rfl,by kernel_rfl,by kernel_rfl⟩
noncomputable def c10 : CC:=(.seq (.ops [⟨none,some 2,.mv (.const (.string (.mk #[])))⟩,⟨none,some 3,.mv (.const (.int .i64 0))⟩])
 (.seq (.ops [⟨none,some 4,.mv (.tmp 0)⟩,⟨none,some 5,.call 51 [.tmp 4]⟩,⟨none,some 6,.buildS 118 1 [.bool false,.int .u64 0,.string (.mk #[])] [(0,(3,.tmp 5))]⟩,⟨none,some 7,.call 50 [.const (.string (.mk #[113])),.tmp 6]⟩,⟨none,some 8,.ext (.tmp 7) 0⟩,⟨none,some 9,.ext (.tmp 7) 1⟩,⟨none,some 2,.mv (.tmp 8)⟩,⟨none,some 3,.mv (.tmp 9)⟩])
 .ret))
abbrev r10 : List RV:=[(.tmp 2),(.tmp 3)]
theorem F10 : FnOk Go.Proofs.Tryz.prog 10 10 c10 r10:=⟨_,Go.Proofs.Tryz.func10,by kernel_rfl,by kernel_rfl,by kernel_rfl,by kernel_rfl,by kernel_rfl⟩
noncomputable def c11 : CC:=(.seq (.ops [⟨none,some 2,.mv (.const (.string (.mk #[])))⟩,⟨none,some 3,.mv (.const (.int .i64 0))⟩])
 (.seq (.ops [⟨none,some 4,.mv (.tmp 0)⟩,⟨none,some 5,.call 51 [.tmp 4]⟩,⟨none,some 6,.buildS 118 1 [.bool false,.int .u64 0,.string (.mk #[])] [(0,(3,.tmp 5))]⟩,⟨none,some 7,.call 50 [.const (.string (.mk #[99])),.tmp 6]⟩,⟨none,some 8,.ext (.tmp 7) 0⟩,⟨none,some 9,.ext (.tmp 7) 1⟩,⟨none,some 2,.mv (.tmp 8)⟩,⟨none,some 3,.mv (.tmp 9)⟩])
 .ret))
abbrev r11 : List RV:=[(.tmp 2),(.tmp 3)]
theorem F11 : FnOk Go.Proofs.Tryz.prog 11 10 c11 r11:=⟨_,Go.Proofs.Tryz.func11,by kernel_rfl,by kernel_rfl,by kernel_rfl,by kernel_rfl,by kernel_rfl⟩
noncomputable def c12 : CC:=(.seq (.ops [⟨none,some 2,.mv (.const (.pointer none))⟩])
 (.seq (.ops [⟨none,some 6,.raw 25 (.mk (some 6) (.makeMap 121 none) 121 "registry.go:36" #[] none)⟩,⟨none,some 7,.build [.map none] [(0,(1,.tmp 6))]⟩,⟨none,some 8,.box 123 (.tmp 7)⟩,⟨none,some 3,.mv (.tmp 8)⟩])
 (.seq (.seq (.ops [⟨none,some 9,.mv (.tmp 0)⟩,⟨none,some 10,.lenL (.tmp 9)⟩,⟨none,some 11,.mv (.const (.int .i64 0))⟩])
 (.block 0
 (.loop
 (.seq (.ops [⟨none,some 12,.iop .lss (.tmp 11) (.tmp 10)⟩])
 (.seq (.cond (.tmp 12)
 .skip
 (.exit 0))
 (.seq (.block 1
 (.seq (.ops [⟨none,some 13,.iaddr 2 (.tmp 9) (.tmp 11)⟩,⟨none,some 14,.loadN 2 (.tmp 13)⟩,⟨none,some 5,.alloc 29 (.agg #[.string (.mk #[]),.string (.mk #[])])⟩,⟨none,none,.storeN 2 (.tmp 5) (.tmp 14)⟩])
 (.draw 5 (opsOf (sub (bodyOf Go.Proofs.Tryz.f12) [1,1,0,1,0,0,1,1,0,0,1])) [⟨none,some 15,.mv (.tmp 3)⟩,⟨none,some 16,.nilc (.tmp 15)⟩,⟨none,some 17,.faddr 0 (.tmp 16)⟩,⟨none,some 18,.load1 (.tmp 17)⟩,⟨none,some 19,.faddr 0 (.tmp 5)⟩,⟨none,some 20,.load1 (.tmp 19)⟩,⟨none,some 21,.faddr 1 (.tmp 5)⟩,⟨none,some 22,.load1 (.tmp 21)⟩,⟨none,none,.raw 25 (.mk none (.mapUpdate 121 (.tmp 18) (.tmp 20) (.tmp 22)) 0 "registry.go:38" #[.mk 3 .data,.mk 5 .data,.mk 7 .data,.mk 0 .phase,.mk 1 .phase,.mk 2 .phase,.mk 3 .phase,.mk 4 .phase,.mk 5 .phase,.mk 6 .phase,.mk 7 .phase] none)⟩])))
 (.ops [⟨none,some 23,.iop .add (.tmp 11) (.const (.int .i64 1))⟩,⟨none,some 11,.mv (.tmp 23)⟩])))))))
 (.seq (.ops [⟨none,some 24,.mv (.tmp 3)⟩,⟨none,some 2,.mv (.tmp 24)⟩])
 .ret))))
abbrev r12 : List RV:=[(.tmp 2)]
theorem F12 : FnOk Go.Proofs.Tryz.prog 12 25 c12 r12:=⟨_,Go.Proofs.Tryz.func12,by kernel_rfl,by kernel_rfl,by kernel_rfl,by kernel_rfl,by kernel_rfl⟩
noncomputable def c13 : CC:=(.seq (.ops [⟨none,some 4,.alloc 33 (.agg #[.string (.mk #[]),.int .u32 0,.int .u64 0,.int .u32 0,.string (.mk #[])])⟩,⟨none,some 5,.mv (.const (.int .i64 0))⟩])
 (.seq (.ops [⟨none,some 11,.mv (.tmp 1)⟩,⟨none,some 12,.call 10 [.tmp 11]⟩,⟨none,some 10,.mv (.tmp 12)⟩,⟨none,some 13,.ext (.tmp 10) 0⟩,⟨none,some 14,.ext (.tmp 10) 1⟩,⟨none,some 6,.mv (.tmp 13)⟩,⟨none,some 7,.mv (.tmp 14)⟩])
 (.seq (.seq (.ops [⟨none,some 15,.mv (.tmp 7)⟩,⟨none,some 16,.iop .neq (.tmp 15) (.const (.int .i64 0))⟩])
 (.cond (.tmp 16)
 (.seq (.ops [⟨none,some 17,.build [.string (.mk #[]),.int .u32 0,.int .u64 0,.int .u32 0,.string (.mk #[])] []⟩,⟨none,none,.storeN 5 (.tmp 4) (.tmp 17)⟩,⟨none,some 5,.mv (.const (.int .i64 21))⟩])
 .ret)
 .skip))
 (.seq (.ops [⟨none,some 19,.mv (.tmp 0)⟩,⟨none,some 20,.mv (.tmp 6)⟩,⟨none,some 21,.inv (.tmp 19) "Get" [.tmp 20]⟩,⟨none,some 18,.mv (.tmp 21)⟩,⟨none,some 22,.ext (.tmp 18) 0⟩,⟨none,some 23,.ext (.tmp 18) 1⟩,⟨none,some 24,.ext (.tmp 18) 2⟩,⟨none,some 8,.mv (.tmp 22)⟩,⟨none,some 9,.mv (.tmp 23)⟩,⟨none,some 7,.mv (.tmp 24)⟩])
 (.seq (.block 0
 (.seq (.ops [⟨none,some 26,.mv (.tmp 7)⟩,⟨none,some 27,.iop .neq (.tmp 26) (.const (.int .i64 0))⟩,⟨none,some 25,.mv (.tmp 27)⟩])
 (.cond (.tmp 25)
 (.seq (.ops [⟨none,some 28,.build [.string (.mk #[]),.int .u32 0,.int .u64 0,.int .u32 0,.string (.mk #[])] []⟩,⟨none,some 29,.mv (.tmp 7)⟩,⟨none,none,.storeN 5 (.tmp 4) (.tmp 28)⟩,⟨none,some 5,.mv (.tmp 29)⟩])
 .ret)
 (.seq (.ops [⟨none,some 31,.mv (.tmp 9)⟩,⟨none,some 32,.not (.tmp 31)⟩,⟨none,some 30,.mv (.tmp 32)⟩])
 (.cond (.tmp 30)
 (.seq (.ops [⟨none,some 33,.build [.string (.mk #[]),.int .u32 0,.int .u64 0,.int .u32 0,.string (.mk #[])] []⟩,⟨none,none,.storeN 5 (.tmp 4) (.tmp 33)⟩,⟨none,some 5,.mv (.const (.int .i64 21))⟩])
 .ret)
 .skip)))))
 (.seq (.ops [⟨none,some 34,.mv (.tmp 1)⟩,⟨none,some 35,.call 52 [.tmp 34]⟩,⟨none,some 36,.mv (.tmp 8)⟩,⟨none,some 37,.call 53 [.tmp 35,.tmp 36]⟩,⟨none,some 38,.ext (.tmp 37) 0⟩,⟨none,some 39,.ext (.tmp 37) 1⟩,⟨none,none,.storeN 5 (.tmp 4) (.tmp 38)⟩,⟨none,some 5,.mv (.tmp 39)⟩])
 .ret))))))
abbrev r13 : List RV:=[(.cN 4 5),(.tmp 5)]
theorem F13 : FnOk Go.Proofs.Tryz.prog 13 40 c13 r13:=⟨_,Go.Proofs.Tryz.func13,by kernel_rfl,by kernel_rfl,by kernel_rfl,by kernel_rfl,by kernel_rfl⟩
noncomputable def c14 : CC:=(.seq (.ops [⟨none,some 4,.mv (.const (.int .u64 0))⟩,⟨none,some 5,.mv (.const (.int .i64 0))⟩])
 (.seq (.ops [⟨none,some 13,.mv (.tmp 1)⟩,⟨none,some 14,.call 11 [.tmp 13]⟩,⟨none,some 12,.mv (.tmp 14)⟩,⟨none,some 15,.ext (.tmp 12) 0⟩,⟨none,some 16,.ext (.tmp 12) 1⟩,⟨none,some 6,.mv (.tmp 15)⟩,⟨none,some 7,.mv (.tmp 16)⟩])
 (.seq (.seq (.ops [⟨none,some 17,.mv (.tmp 7)⟩,⟨none,some 18,.iop .neq (.tmp 17) (.const (.int .i64 0))⟩])
 (.cond (.tmp 18)
 (.seq (.ops [⟨none,some 19,.mv (.tmp 7)⟩,⟨none,some 4,.mv (.const (.int .u64 0))⟩,⟨none,some 5,.mv (.tmp 19)⟩])
 .ret)
 .skip))
 (.seq (.ops [⟨none,some 21,.mv (.tmp 0)⟩,⟨none,some 22,.mv (.tmp 6)⟩,⟨none,some 23,.inv (.tmp 21) "Get" [.tmp 22]⟩,⟨none,some 20,.mv (.tmp 23)⟩,⟨none,some 24,.ext (.tmp 20) 0⟩,⟨none,some 25,.ext (.tmp 20) 1⟩,⟨none,some 26,.ext (.tmp 20) 2⟩,⟨none,some 8,.mv (.tmp 24)⟩,⟨none,some 9,.mv (.tmp 25)⟩,⟨none,some 7,.mv (.tmp 26)⟩])
 (.seq (.seq (.ops [⟨none,some 27,.mv (.tmp 7)⟩,⟨none,some 28,.iop .neq (.tmp 27) (.const (.int .i64 0))⟩])
 (.cond (.tmp 28)
 (.seq (.ops [⟨none,some 29,.mv (.tmp 7)⟩,⟨none,some 4,.mv (.const (.int .u64 0))⟩,⟨none,some 5,.mv (.tmp 29)⟩])
 .ret)
 .skip))
 (.seq (.ops [⟨none,some 10,.mv (.const (.int .u64 0))⟩])
 (.seq (.seq (.ops [⟨none,some 30,.mv (.tmp 9)⟩])
 (.cond (.tmp 30)
 (.seq (.ops [⟨none,some 32,.call 54 []⟩,⟨none,some 33,.mv (.tmp 8)⟩,⟨none,some 34,.call 55 [.tmp 32,.tmp 33]⟩,⟨none,some 31,.mv (.tmp 34)⟩,⟨none,some 35,.ext (.tmp 31) 0⟩,⟨none,some 36,.ext (.tmp 31) 1⟩,⟨none,some 10,.mv (.tmp 35)⟩,⟨none,some 7,.mv (.tmp 36)⟩])
 (.seq (.ops [⟨none,some 37,.mv (.tmp 7)⟩,⟨none,some 38,.iop .neq (.tmp 37) (.const (.int .i64 0))⟩])
 (.cond (.tmp 38)
 (.seq (.ops [⟨none,some 39,.mv (.tmp 7)⟩,⟨none,some 4,.mv (.const (.int .u64 0))⟩,⟨none,some 5,.mv (.tmp 39)⟩])
 .ret)
 .skip)))
 .skip))
 (.seq (.seq (.ops [⟨none,some 40,.mv (.tmp 10)⟩,⟨none,some 41,.iop .eql (.tmp 40) (.const (.int .u64 18446744073709551615))⟩])
 (.cond (.tmp 41)
 (.seq (.ops [⟨none,some 4,.mv (.const (.int .u64 0))⟩,⟨none,some 5,.mv (.const (.int .i64 8))⟩])
 .ret)
 .skip))
 (.seq (.seq (.draw 14 (opsOf (sub (bodyOf Go.Proofs.Tryz.f14) [1,1,1,1,1,1,1,1,0,0])) [⟨none,some 42,.mv (.tmp 0)⟩,⟨none,some 43,.mv (.tmp 6)⟩,⟨none,some 44,.call 54 []⟩,⟨none,some 45,.mv (.tmp 10)⟩,⟨none,some 46,.iop .add (.tmp 45) (.const (.int .u64 1))⟩,⟨none,some 47,.call 56 [.tmp 44,.tmp 46]⟩,⟨none,some 48,.mkF (.method "Put") [.tmp 42] []⟩,⟨none,some 49,.nilc (.tmp 48)⟩,⟨none,some 50,.mv (.tmp 42)⟩,⟨none,some 51,.inv (.tmp 50) "Put" [.tmp 43,.tmp 47]⟩,⟨none,some 11,.mv (.tmp 51)⟩])
 (.seq (.ops [⟨none,some 52,.mv (.tmp 11)⟩,⟨none,some 53,.iop .neq (.tmp 52) (.const (.int .i64 0))⟩])
 (.cond (.tmp 53)
 (.seq (.ops [⟨none,some 54,.mv (.tmp 11)⟩,⟨none,some 4,.mv (.const (.int .u64 0))⟩,⟨none,some 5,.mv (.tmp 54)⟩])
 .ret)
 .skip)))
 (.seq (.ops [⟨none,some 55,.mv (.tmp 10)⟩,⟨none,some 56,.iop .add (.tmp 55) (.const (.int .u64 1))⟩,⟨none,some 4,.mv (.tmp 56)⟩,⟨none,some 5,.mv (.const (.int .i64 0))⟩])
 .ret))))))))))
abbrev r14 : List RV:=[(.tmp 4),(.tmp 5)]
theorem F14 : FnOk Go.Proofs.Tryz.prog 14 57 c14 r14:=⟨_,Go.Proofs.Tryz.func14,by kernel_rfl,by kernel_rfl,by kernel_rfl,by kernel_rfl,by kernel_rfl⟩
noncomputable def c16 : CC:=(.seq (.ops [⟨none,some 3,.box 33 (.tmp 1)⟩,⟨none,some 4,.mv (.const (.int .i64 0))⟩])
 (.seq (.block 0
 (.seq (.ops [⟨none,some 12,.faddr 0 (.tmp 3)⟩,⟨none,some 13,.load1 (.tmp 12)⟩,⟨none,some 14,.call 59 [.tmp 13]⟩,⟨none,some 15,.not (.tmp 14)⟩,⟨none,some 16,.mv (.tmp 15)⟩,⟨some (16,false),some 17,.faddr 4 (.tmp 3)⟩,⟨some (16,false),some 18,.load1 (.tmp 17)⟩,⟨some (16,false),some 19,.sop .neq (.tmp 18) (.const (.string (.mk #[])))⟩,⟨some (16,false),some 20,.mv (.tmp 19)⟩,⟨some (20,true),some 21,.faddr 4 (.tmp 3)⟩,⟨some (20,true),some 22,.load1 (.tmp 21)⟩,⟨some (20,true),some 23,.call 59 [.tmp 22]⟩,⟨some (20,true),some 24,.not (.tmp 23)⟩,⟨some (16,false),some 25,.pick (.tmp 20) (.tmp 24) (.const (.bool false))⟩,⟨none,some 26,.pick (.tmp 16) (.const (.bool true)) (.tmp 25)⟩,⟨none,some 11,.mv (.tmp 26)⟩])
 (.cond (.tmp 11)
 (.seq (.ops [⟨none,some 4,.mv (.const (.int .i64 23))⟩])
 .ret)
 (.seq (.ops [⟨none,some 28,.faddr 4 (.tmp 3)⟩,⟨none,some 29,.load1 (.tmp 28)⟩,⟨none,some 30,.faddr 0 (.tmp 3)⟩,⟨none,some 31,.load1 (.tmp 30)⟩,⟨none,some 32,.sop .eql (.tmp 29) (.tmp 31)⟩,⟨none,some 27,.mv (.tmp 32)⟩])
 (.cond (.tmp 27)
 (.seq (.ops [⟨none,some 4,.mv (.const (.int .i64 2))⟩])
 .ret)
 (.seq (.ops [⟨none,some 34,.faddr 2 (.tmp 3)⟩,⟨none,some 35,.load1 (.tmp 34)⟩,⟨none,some 36,.iop .gtr (.tmp 35) (.const (.int .u64 1099511627776))⟩,⟨none,some 33,.mv (.tmp 36)⟩])
 (.cond (.tmp 33)
 (.seq (.ops [⟨none,some 4,.mv (.const (.int .i64 29))⟩])
 .ret)
 .skip)))))))
 (.seq (.seq (.ops [⟨none,some 38,.mv (.tmp 0)⟩,⟨none,some 39,.faddr 0 (.tmp 3)⟩,⟨none,some 40,.load1 (.tmp 39)⟩,⟨none,some 41,.call 13 [.tmp 38,.tmp 40]⟩,⟨none,some 37,.mv (.tmp 41)⟩,⟨none,some 42,.ext (.tmp 37) 0⟩,⟨none,some 43,.ext (.tmp 37) 1⟩,⟨none,some 5,.alloc 33 (.agg #[.string (.mk #[]),.int .u32 0,.int .u64 0,.int .u32 0,.string (.mk #[])])⟩,⟨none,none,.storeN 5 (.tmp 5) (.tmp 42)⟩,⟨none,some 6,.mv (.tmp 43)⟩])
 (.seq (.ops [⟨none,some 44,.mv (.tmp 6)⟩])
 (.block 1
 (.seq (.ops [⟨none,some 47,.iop .eql (.tmp 44) (.const (.int .i64 0))⟩,⟨none,some 46,.mv (.tmp 47)⟩])
 (.cond (.tmp 46)
 (.seq (.ops [⟨none,some 4,.mv (.const (.int .i64 22))⟩])
 .ret)
 (.seq (.ops [⟨none,some 49,.iop .eql (.tmp 44) (.const (.int .i64 21))⟩,⟨none,some 48,.mv (.tmp 49)⟩])
 (.cond (.tmp 48)
 .skip
 (.seq (.ops [⟨none,some 45,.mv (.tmp 6)⟩,⟨none,some 4,.mv (.tmp 45)⟩])
 .ret))))))))
 (.seq (.seq (.ops [⟨none,some 50,.faddr 4 (.tmp 3)⟩,⟨none,some 51,.load1 (.tmp 50)⟩,⟨none,some 52,.sop .neq (.tmp 51) (.const (.string (.mk #[])))⟩])
 (.cond (.tmp 52)
 (.seq (.ops [⟨none,some 54,.mv (.tmp 0)⟩,⟨none,some 55,.faddr 4 (.tmp 3)⟩,⟨none,some 56,.load1 (.tmp 55)⟩,⟨none,some 57,.call 13 [.tmp 54,.tmp 56]⟩,⟨none,some 53,.mv (.tmp 57)⟩,⟨none,some 58,.ext (.tmp 53) 0⟩,⟨none,some 59,.ext (.tmp 53) 1⟩,⟨none,some 7,.alloc 33 (.agg #[.string (.mk #[]),.int .u32 0,.int .u64 0,.int .u32 0,.string (.mk #[])])⟩,⟨none,none,.storeN 5 (.tmp 7) (.tmp 58)⟩,⟨none,some 8,.mv (.tmp 59)⟩])
 (.seq (.ops [⟨none,some 60,.mv (.tmp 8)⟩,⟨none,some 61,.iop .neq (.tmp 60) (.const (.int .i64 0))⟩])
 (.cond (.tmp 61)
 (.seq (.ops [⟨none,some 62,.mv (.tmp 8)⟩,⟨none,some 4,.mv (.tmp 62)⟩])
 .ret)
 .skip)))
 .skip))
 (.seq (.ops [⟨none,some 64,.faddr 0 (.tmp 3)⟩,⟨none,some 65,.load1 (.tmp 64)⟩,⟨none,some 66,.call 10 [.tmp 65]⟩,⟨none,some 63,.mv (.tmp 66)⟩,⟨none,some 67,.ext (.tmp 63) 0⟩,⟨none,some 68,.ext (.tmp 63) 1⟩,⟨none,some 9,.mv (.tmp 67)⟩,⟨none,some 10,.mv (.tmp 68)⟩])
 (.seq (.draw 18 (opsOf (sub (bodyOf Go.Proofs.Tryz.f16) [1,1,1,1,1,0])) [⟨none,some 69,.mv (.tmp 0)⟩,⟨none,some 70,.mv (.tmp 9)⟩,⟨none,some 71,.faddr 0 (.tmp 3)⟩,⟨none,some 72,.load1 (.tmp 71)⟩,⟨none,some 73,.call 52 [.tmp 72]⟩,⟨none,some 74,.loadN 5 (.tmp 3)⟩,⟨none,some 75,.call 60 [.tmp 73,.tmp 74]⟩,⟨none,some 76,.mkF (.method "Put") [.tmp 69] []⟩,⟨none,some 77,.nilc (.tmp 76)⟩,⟨none,some 78,.mv (.tmp 69)⟩,⟨none,some 79,.inv (.tmp 78) "Put" [.tmp 70,.tmp 75]⟩,⟨none,some 4,.mv (.tmp 79)⟩])
 .ret))))))
abbrev r16 : List RV:=[(.tmp 4)]
theorem F16 : FnOk Go.Proofs.Tryz.prog 16 80 c16 r16:=⟨_,Go.Proofs.Tryz.func16,by kernel_rfl,by kernel_rfl,by kernel_rfl,by kernel_rfl,by kernel_rfl⟩
noncomputable def c17 : CC:=(.seq (.ops [⟨none,some 2,.mv (.const (.pointer none))⟩])
 (.seq (.ops [⟨none,some 3,.mv (.tmp 0)⟩,⟨none,some 4,.build [.string (.mk #[]),.int .i64 0] [(0,(1,.tmp 3))]⟩,⟨none,some 5,.box 145 (.tmp 4)⟩,⟨none,some 2,.mv (.tmp 5)⟩])
 .ret))
abbrev r17 : List RV:=[(.tmp 2)]
theorem F17 : FnOk Go.Proofs.Tryz.prog 17 6 c17 r17:=⟨_,Go.Proofs.Tryz.func17,by kernel_rfl,by kernel_rfl,by kernel_rfl,by kernel_rfl,by kernel_rfl⟩
noncomputable def c18 : CC:=(.seq (.ops [⟨none,some 4,.mv (.const (.string (.mk #[])))⟩])
 (.seq (.seq (.ops [⟨none,some 6,.mv (.tmp 0)⟩,⟨none,some 7,.pnil 0 false (.tmp 6)⟩,⟨none,some 8,.mv (.tmp 7)⟩,⟨some (8,false),some 9,.mv (.tmp 0)⟩,⟨some (8,false),some 10,.nilc (.tmp 9)⟩,⟨some (8,false),some 11,.faddr 1 (.tmp 10)⟩,⟨some (8,false),some 12,.load1 (.tmp 11)⟩,⟨some (8,false),some 13,.iop .neq (.tmp 12) (.const (.int .i64 0))⟩,⟨none,some 14,.pick (.tmp 8) (.const (.bool true)) (.tmp 13)⟩])
 (.cond (.tmp 14)
 (.seq (.ops [⟨none,some 4,.mv (.const (.string (.mk #[])))⟩])
 .ret)
 .skip))
 (.seq (.seq (.ops [⟨none,some 15,.mv (.tmp 1)⟩,⟨none,some 16,.iop .lss (.tmp 15) (.const (.int .i64 0))⟩,⟨none,some 17,.mv (.tmp 16)⟩,⟨some (17,false),some 18,.mv (.tmp 1)⟩,⟨some (17,false),some 19,.mv (.tmp 0)⟩,⟨some (17,false),some 20,.nilc (.tmp 19)⟩,⟨some (17,false),some 21,.faddr 0 (.tmp 20)⟩,⟨some (17,false),some 22,.load1 (.tmp 21)⟩,⟨some (17,false),some 23,.lenS (.tmp 22)⟩,⟨some (17,false),some 24,.iop .gtr (.tmp 18) (.tmp 23)⟩,⟨none,some 25,.pick (.tmp 17) (.const (.bool true)) (.tmp 24)⟩])
 (.cond (.tmp 25)
 (.seq (.ops [⟨none,some 26,.mv (.tmp 0)⟩,⟨none,some 27,.nilc (.tmp 26)⟩,⟨none,some 28,.faddr 1 (.tmp 27)⟩,⟨none,none,.store1 (.tmp 28) (.const (.int .i64 3))⟩])
 (.seq (.ops [⟨none,some 4,.mv (.const (.string (.mk #[])))⟩])
 .ret))
 .skip))
 (.seq (.ops [⟨none,some 29,.mv (.tmp 0)⟩,⟨none,some 30,.nilc (.tmp 29)⟩,⟨none,some 31,.faddr 0 (.tmp 30)⟩,⟨none,some 32,.load1 (.tmp 31)⟩,⟨none,some 33,.mv (.tmp 1)⟩,⟨none,some 34,.slS (.tmp 32) none (some (.tmp 33))⟩,⟨none,some 5,.mv (.tmp 34)⟩])
 (.seq (.ops [⟨none,some 35,.mv (.tmp 0)⟩,⟨none,some 36,.mv (.tmp 0)⟩,⟨none,some 37,.nilc (.tmp 36)⟩,⟨none,some 38,.faddr 0 (.tmp 37)⟩,⟨none,some 39,.load1 (.tmp 38)⟩,⟨none,some 40,.mv (.tmp 1)⟩,⟨none,some 41,.slS (.tmp 39) (some (.tmp 40)) none⟩,⟨none,some 42,.nilc (.tmp 35)⟩,⟨none,some 43,.faddr 0 (.tmp 42)⟩,⟨none,none,.store1 (.tmp 43) (.tmp 41)⟩])
 (.seq (.ops [⟨none,some 44,.mv (.tmp 5)⟩,⟨none,some 4,.mv (.tmp 44)⟩])
 .ret))))))
abbrev r18 : List RV:=[(.tmp 4)]
theorem F18 : FnOk Go.Proofs.Tryz.prog 18 45 c18 r18:=⟨_,Go.Proofs.Tryz.func18,by kernel_rfl,by kernel_rfl,by kernel_rfl,by kernel_rfl,by kernel_rfl⟩
noncomputable def c19 : CC:=(.seq (.ops [⟨none,some 2,.mv (.const (.int .u64 0))⟩])
 (.seq (.ops [⟨none,some 3,.mv (.tmp 0)⟩,⟨none,some 4,.call 61 [.tmp 3,.const (.int .i64 8)]⟩,⟨none,some 2,.mv (.tmp 4)⟩])
 .ret))
abbrev r19 : List RV:=[(.tmp 2)]
theorem F19 : FnOk Go.Proofs.Tryz.prog 19 5 c19 r19:=⟨_,Go.Proofs.Tryz.func19,by kernel_rfl,by kernel_rfl,by kernel_rfl,by kernel_rfl,by kernel_rfl⟩
noncomputable def c25 : CC:=(.seq (.ops [⟨none,some 6,.mv (.const (.int .i64 0))⟩])
 (.seq (.seq (.ops [⟨none,some 7,.mv (.tmp 1)⟩,⟨none,some 8,.lenS (.tmp 7)⟩,⟨none,some 9,.iop .gtr (.tmp 8) (.const (.int .i64 255))⟩,⟨none,some 10,.mv (.tmp 9)⟩,⟨some (10,false),some 11,.mv (.tmp 2)⟩,⟨some (10,false),some 12,.lenS (.tmp 11)⟩,⟨some (10,false),some 13,.iop .gtr (.tmp 12) (.const (.int .i64 65536))⟩,⟨none,some 14,.pick (.tmp 10) (.const (.bool true)) (.tmp 13)⟩])
 (.cond (.tmp 14)
 (.seq (.ops [⟨none,some 6,.mv (.const (.int .i64 5))⟩])
 .ret)
 .skip))
 (.seq (.ops [⟨none,some 15,.mv (.tmp 0)⟩,⟨none,some 16,.nilc (.tmp 15)⟩,⟨none,some 17,.faddr 0 (.tmp 16)⟩,⟨none,some 18,.load1 (.tmp 17)⟩,⟨none,some 19,.mv (.tmp 1)⟩,⟨none,some 20,.mv (.tmp 2)⟩,⟨none,none,.raw 21 (.mk none (.mapUpdate 121 (.tmp 18) (.tmp 19) (.tmp 20)) 0 "registry.go:68" #[.mk 3 .data,.mk 4 .data,.mk 5 .data,.mk 0 .phase,.mk 1 .phase,.mk 2 .phase,.mk 3 .phase,.mk 4 .phase,.mk 5 .phase] none)⟩])
 (.seq (.ops [⟨none,some 6,.mv (.const (.int .i64 0))⟩])
 .ret))))
abbrev r25 : List RV:=[(.tmp 6)]
theorem F25 : FnOk Go.Proofs.Tryz.prog 25 21 c25 r25:=⟨_,Go.Proofs.Tryz.func25,by kernel_rfl,by kernel_rfl,by kernel_rfl,by kernel_rfl,by kernel_rfl⟩
noncomputable def c32 : CC:=(.seq (.ops [⟨none,some 5,.box 9 (.tmp 2)⟩,⟨none,some 6,.alloc 80 (.slice none 0 0)⟩,⟨none,some 7,.alloc 23 (.int .i64 0)⟩])
 (.seq (.seq (.ops [⟨none,some 14,.mv (.tmp 1)⟩,⟨none,some 15,.sop .eql (.tmp 14) (.const (.string (.mk #[])))⟩])
 (.cond (.tmp 15)
 (.seq (.seq (.ops [⟨none,some 17,.mv (.tmp 0)⟩,⟨none,some 18,.load1 (.tmp 5)⟩,⟨none,some 19,.call 13 [.tmp 17,.tmp 18]⟩,⟨none,some 16,.mv (.tmp 19)⟩,⟨none,some 20,.ext (.tmp 16) 0⟩,⟨none,some 21,.ext (.tmp 16) 1⟩,⟨none,some 8,.alloc 33 (.agg #[.string (.mk #[]),.int .u32 0,.int .u64 0,.int .u32 0,.string (.mk #[])])⟩,⟨none,none,.storeN 5 (.tmp 8) (.tmp 20)⟩,⟨none,some 9,.mv (.tmp 21)⟩])
 (.seq (.ops [⟨none,some 22,.mv (.tmp 9)⟩,⟨none,some 23,.iop .neq (.tmp 22) (.const (.int .i64 0))⟩])
 (.cond (.tmp 23)
 (.seq (.ops [⟨none,some 24,.mv (.tmp 9)⟩,⟨none,none,.store1 (.tmp 6) (.const (.slice none 0 0))⟩,⟨none,none,.store1 (.tmp 7) (.tmp 24)⟩])
 .ret)
 .skip)))
 (.seq (.ops [⟨none,some 25,.load1 (.tmp 5)⟩,⟨none,some 26,.buildS 9 1 [.string (.mk #[])] [(0,(1,.tmp 25))]⟩,⟨none,none,.store1 (.tmp 6) (.tmp 26)⟩,⟨none,none,.store1 (.tmp 7) (.const (.int .i64 0))⟩])
 .ret))
 .skip))
 (.seq (.block 0
 (.seq (.ops [⟨none,some 28,.mv (.tmp 1)⟩,⟨none,some 29,.call 59 [.tmp 28]⟩,⟨none,some 30,.not (.tmp 29)⟩,⟨none,some 27,.mv (.tmp 30)⟩])
 (.cond (.tmp 27)
 (.seq (.ops [⟨none,none,.store1 (.tmp 6) (.const (.slice none 0 0))⟩,⟨none,none,.store1 (.tmp 7) (.const (.int .i64 23))⟩])
 .ret)
 (.seq (.ops [⟨none,some 32,.load1 (.tmp 5)⟩,⟨none,some 33,.call 85 [.tmp 32]⟩,⟨none,some 34,.not (.tmp 33)⟩,⟨none,some 31,.mv (.tmp 34)⟩])
 (.cond (.tmp 31)
 (.seq (.ops [⟨none,none,.store1 (.tmp 6) (.const (.slice none 0 0))⟩,⟨none,none,.store1 (.tmp 7) (.const (.int .i64 4))⟩])
 .ret)
 .skip)))))
 (.seq (.ops [⟨none,some 35,.call 86 [.const (.slice none 0 0)]⟩,⟨none,some 10,.alloc 174 (.pointer none)⟩,⟨none,some 11,.alloc 3 (.int .i64 0)⟩,⟨none,none,.store1 (.tmp 10) (.tmp 35)⟩,⟨none,none,.store1 (.tmp 11) (.const (.int .i64 0))⟩])
 (.seq (.seq (.ops [⟨none,some 36,.mv (.tmp 0)⟩,⟨none,some 37,.mv (.tmp 1)⟩,⟨none,some 38,.call 87 [.tmp 36,.tmp 37]⟩])
 (.block 1
 (.range (.tmp 38) #[39,40] (sub (bodyOf Go.Proofs.Tryz.f32) [1,1,1,1,0,1,0,0]) (sub (bodyOf Go.Proofs.Tryz.f32) [1,1,1,1,0,1,0,1])
 (.seq (.ops [⟨none,some 12,.alloc 64 (.agg #[.string (.mk #[]),.int .i64 0,.string (.mk #[]),.string (.mk #[])])⟩,⟨none,none,.storeN 4 (.tmp 12) (.tmp 39)⟩])
 (.ops [⟨none,some 13,.mv (.tmp 40)⟩]))
 (.block 2
 (.seq (.seq (.ops [⟨none,some 41,.mv (.tmp 13)⟩,⟨none,some 42,.iop .neq (.tmp 41) (.const (.int .i64 0))⟩])
 (.cond (.tmp 42)
 (.seq (.ops [⟨none,some 43,.mv (.tmp 13)⟩,⟨none,none,.store1 (.tmp 6) (.const (.slice none 0 0))⟩,⟨none,none,.store1 (.tmp 7) (.tmp 43)⟩])
 .ret)
 .skip))
 (.seq (.ops [⟨none,some 44,.load1 (.tmp 11)⟩,⟨none,some 45,.iop .add (.tmp 44) (.const (.int .i64 1))⟩,⟨none,none,.store1 (.tmp 11) (.tmp 45)⟩])
 (.seq (.ops [⟨none,some 46,.faddr 1 (.tmp 12)⟩,⟨none,some 47,.load1 (.tmp 46)⟩,⟨none,some 48,.faddr 2 (.tmp 12)⟩,⟨none,some 49,.load1 (.tmp 48)⟩,⟨none,some 50,.load1 (.tmp 5)⟩,⟨none,some 51,.call 88 [.tmp 47,.tmp 49,.tmp 50]⟩])
 (.cond (.tmp 51)
 (.ops [⟨none,some 52,.load1 (.tmp 10)⟩,⟨none,some 53,.faddr 3 (.tmp 12)⟩,⟨none,some 54,.load1 (.tmp 53)⟩,⟨none,some 55,.call 89 [.tmp 52,.tmp 54]⟩])
 .skip))))))))
 (.seq (.seq (.ops [⟨none,some 56,.load1 (.tmp 11)⟩,⟨none,some 57,.iop .eql (.tmp 56) (.const (.int .i64 0))⟩])
 (.cond (.tmp 57)
 (.seq (.ops [⟨none,none,.store1 (.tmp 6) (.const (.slice none 0 0))⟩,⟨none,none,.store1 (.tmp 7) (.const (.int .i64 21))⟩])
 .ret)
 .skip))
 (.seq (.ops [⟨none,some 58,.load1 (.tmp 10)⟩,⟨none,some 59,.call 91 [.tmp 58]⟩,⟨none,some 60,.call 90 [.tmp 59]⟩,⟨none,none,.store1 (.tmp 6) (.tmp 60)⟩,⟨none,none,.store1 (.tmp 7) (.const (.int .i64 0))⟩])
 .ret)))))))
abbrev r32 : List RV:=[(.c1 6),(.c1 7)]
theorem F32 : FnOk Go.Proofs.Tryz.prog 32 61 c32 r32:=⟨_,Go.Proofs.Tryz.func32,by kernel_rfl,by kernel_rfl,by kernel_rfl,by kernel_rfl,by kernel_rfl⟩
noncomputable def c37 : CC:=(.seq (.ops [⟨none,some 3,.box 26 (.tmp 0)⟩,⟨none,some 4,.box 9 (.tmp 1)⟩,⟨none,some 5,.box 9 (.tmp 2)⟩,⟨none,some 6,.mv (.const .nilFunc)⟩])
 (.seq (.ops [⟨none,some 7,(.mkF (.func 103) [] [.tmp 3,.tmp 4,.tmp 5])⟩,⟨none,some 6,.mv (.tmp 7)⟩])
 .ret))
abbrev r37 : List RV:=[(.tmp 6)]
theorem F37 : FnOk Go.Proofs.Tryz.prog 37 8 c37 r37:=⟨_,Go.Proofs.Tryz.func37,by kernel_rfl,by kernel_rfl,by kernel_rfl,by kernel_rfl,by kernel_rfl⟩
noncomputable def c38 : CC:=(.seq (.ops [⟨none,some 2,.alloc 98 (.agg #[.string (.mk #[]),.string (.mk #[]),.int .u64 0,.int .u64 0,.string (.mk #[]),.int .i64 0,.string (.mk #[]),.string (.mk #[]),.string (.mk #[])])⟩,⟨none,some 3,.mv (.const (.int .i64 0))⟩])
 (.seq (.ops [⟨none,some 8,.mv (.tmp 0)⟩,⟨none,some 9,.call 106 [.tmp 8]⟩,⟨none,some 7,.mv (.tmp 9)⟩,⟨none,some 10,.ext (.tmp 7) 0⟩,⟨none,some 11,.ext (.tmp 7) 1⟩,⟨none,some 4,.mv (.tmp 10)⟩,⟨none,some 5,.mv (.tmp 11)⟩])
 (.seq (.seq (.draw 2 (opsOf (sub (bodyOf Go.Proofs.Tryz.f38) [1,1,0,0])) [⟨none,some 12,.mv (.tmp 5)⟩,⟨none,some 13,.iop .neq (.tmp 12) (.const (.int .i64 0))⟩,⟨none,some 14,.mv (.tmp 13)⟩,⟨some (14,false),some 15,.mv (.tmp 4)⟩,⟨some (14,false),some 16,.lenL (.tmp 15)⟩,⟨some (14,false),some 17,.iop .eql (.tmp 16) (.const (.int .i64 0))⟩,⟨none,some 18,.pick (.tmp 14) (.const (.bool true)) (.tmp 17)⟩,⟨none,some 19,.mv (.tmp 18)⟩,⟨some (19,false),some 20,.mv (.tmp 4)⟩,⟨some (19,false),some 21,.iaddr 3 (.tmp 20) (.const (.int .i64 0))⟩,⟨some (19,false),some 22,.faddr 0 (.tmp 21)⟩,⟨some (19,false),some 23,.load1 (.tmp 22)⟩,⟨some (19,false),some 24,.not (.tmp 23)⟩,⟨none,some 25,.pick (.tmp 19) (.const (.bool true)) (.tmp 24)⟩,⟨none,some 26,.mv (.tmp 25)⟩,⟨some (26,false),some 27,.mv (.tmp 4)⟩,⟨some (26,false),some 28,.slL 3 (.tmp 27) (some (.const (.int .i64 1))) none⟩,⟨some (26,false),some 29,.mv (.tmp 4)⟩,⟨some (26,false),some 30,.iaddr 3 (.tmp 29) (.const (.int .i64 0))⟩,⟨some (26,false),some 31,.faddr 2 (.tmp 30)⟩,⟨some (26,false),some 32,.load1 (.tmp 31)⟩,⟨some (26,false),some 33,.call 108 [.tmp 32]⟩,⟨some (26,false),some 34,.call 107 [.tmp 28,.tmp 33]⟩,⟨some (26,false),some 35,.not (.tmp 34)⟩,⟨none,some 36,.pick (.tmp 26) (.const (.bool true)) (.tmp 35)⟩])
 (.cond (.tmp 36)
 (.seq (.ops [⟨none,some 37,.build [.string (.mk #[]),.string (.mk #[]),.int .u64 0,.int .u64 0,.string (.mk #[]),.int .i64 0,.string (.mk #[]),.string (.mk #[]),.string (.mk #[])] []⟩,⟨none,none,.storeN 9 (.tmp 2) (.tmp 37)⟩,⟨none,some 3,.mv (.const (.int .i64 20))⟩])
 .ret)
 .skip))
 (.seq (.ops [⟨none,some 38,.mv (.tmp 4)⟩,⟨none,some 39,.iaddr 3 (.tmp 38) (.const (.int .i64 0))⟩,⟨none,some 40,.faddr 2 (.tmp 39)⟩,⟨none,some 41,.load1 (.tmp 40)⟩,⟨none,some 42,.build [.string (.mk #[]),.string (.mk #[]),.int .u64 0,.int .u64 0,.string (.mk #[]),.int .i64 0,.string (.mk #[]),.string (.mk #[]),.string (.mk #[])] [(0,(1,.tmp 41))]⟩,⟨none,some 6,.alloc 98 (.agg #[.string (.mk #[]),.string (.mk #[]),.int .u64 0,.int .u64 0,.string (.mk #[]),.int .i64 0,.string (.mk #[]),.string (.mk #[]),.string (.mk #[])])⟩,⟨none,none,.storeN 9 (.tmp 6) (.tmp 42)⟩])
 (.seq (.seq (.ops [⟨none,some 43,.mv (.tmp 4)⟩,⟨none,some 44,.slL 3 (.tmp 43) (some (.const (.int .i64 1))) none⟩,⟨none,some 4,.mv (.tmp 44)⟩])
 (.seq (.ops [⟨none,some 45,.faddr 0 (.tmp 6)⟩,⟨none,some 46,.load1 (.tmp 45)⟩])
 (.block 0
 (.seq (.ops [⟨none,some 73,.sop .eql (.tmp 46) (.const (.string (.mk #[113])))⟩,⟨none,some 72,.mv (.tmp 73)⟩])
 (.cond (.tmp 72)
 (.ops [⟨none,some 74,.mv (.tmp 4)⟩,⟨none,some 75,.iaddr 3 (.tmp 74) (.const (.int .i64 0))⟩,⟨none,some 76,.faddr 2 (.tmp 75)⟩,⟨none,some 77,.load1 (.tmp 76)⟩,⟨none,some 78,.faddr 1 (.tmp 6)⟩,⟨none,none,.store1 (.tmp 78) (.tmp 77)⟩])
 (.seq (.ops [⟨none,some 80,.sop .eql (.tmp 46) (.const (.string (.mk #[99])))⟩,⟨none,some 79,.mv (.tmp 80)⟩])
 (.cond (.tmp 79)
 (.ops [⟨none,some 81,.mv (.tmp 4)⟩,⟨none,some 82,.iaddr 3 (.tmp 81) (.const (.int .i64 0))⟩,⟨none,some 83,.faddr 2 (.tmp 82)⟩,⟨none,some 84,.load1 (.tmp 83)⟩,⟨none,some 85,.faddr 8 (.tmp 6)⟩,⟨none,none,.store1 (.tmp 85) (.tmp 84)⟩])
 (.seq (.ops [⟨none,some 87,.sop .eql (.tmp 46) (.const (.string (.mk #[109])))⟩,⟨none,some 86,.mv (.tmp 87)⟩])
 (.cond (.tmp 86)
 (.draw 15 (opsOf (sub (bodyOf Go.Proofs.Tryz.f38) [1,1,1,1,0,1,1,0,1,1,1,1,1,0])) [⟨none,some 88,.mv (.tmp 4)⟩,⟨none,some 89,.iaddr 3 (.tmp 88) (.const (.int .i64 0))⟩,⟨none,some 90,.faddr 2 (.tmp 89)⟩,⟨none,some 91,.load1 (.tmp 90)⟩,⟨none,some 92,.mv (.tmp 4)⟩,⟨none,some 93,.iaddr 3 (.tmp 92) (.const (.int .i64 1))⟩,⟨none,some 94,.faddr 1 (.tmp 93)⟩,⟨none,some 95,.load1 (.tmp 94)⟩,⟨none,some 96,.faddr 1 (.tmp 6)⟩,⟨none,none,.store1 (.tmp 96) (.tmp 91)⟩,⟨none,some 97,.faddr 2 (.tmp 6)⟩,⟨none,none,.store1 (.tmp 97) (.tmp 95)⟩])
 (.seq (.ops [⟨none,some 99,.sop .eql (.tmp 46) (.const (.string (.mk #[101])))⟩,⟨none,some 98,.mv (.tmp 99)⟩])
 (.cond (.tmp 98)
 (.draw 17 (opsOf (sub (bodyOf Go.Proofs.Tryz.f38) [1,1,1,1,0,1,1,0,1,1,1,1,1,1,1,0])) [⟨none,some 100,.mv (.tmp 4)⟩,⟨none,some 101,.iaddr 3 (.tmp 100) (.const (.int .i64 0))⟩,⟨none,some 102,.faddr 1 (.tmp 101)⟩,⟨none,some 103,.load1 (.tmp 102)⟩,⟨none,some 104,.mv (.tmp 4)⟩,⟨none,some 105,.iaddr 3 (.tmp 104) (.const (.int .i64 1))⟩,⟨none,some 106,.faddr 2 (.tmp 105)⟩,⟨none,some 107,.load1 (.tmp 106)⟩,⟨none,some 108,.mv (.tmp 4)⟩,⟨none,some 109,.iaddr 3 (.tmp 108) (.const (.int .i64 2))⟩,⟨none,some 110,.faddr 1 (.tmp 109)⟩,⟨none,some 111,.load1 (.tmp 110)⟩,⟨none,some 112,.faddr 3 (.tmp 6)⟩,⟨none,none,.store1 (.tmp 112) (.tmp 103)⟩,⟨none,some 113,.faddr 1 (.tmp 6)⟩,⟨none,none,.store1 (.tmp 113) (.tmp 107)⟩,⟨none,some 114,.faddr 2 (.tmp 6)⟩,⟨none,none,.store1 (.tmp 114) (.tmp 111)⟩])
 (.seq (.seq (.ops [⟨none,some 47,.mv (.tmp 4)⟩,⟨none,some 48,.iaddr 3 (.tmp 47) (.const (.int .i64 1))⟩,⟨none,some 49,.faddr 1 (.tmp 48)⟩,⟨none,some 50,.load1 (.tmp 49)⟩,⟨none,some 51,.iop .gtr (.tmp 50) (.const (.int .u64 9223372036854775807))⟩])
 (.cond (.tmp 51)
 (.seq (.ops [⟨none,some 52,.build [.string (.mk #[]),.string (.mk #[]),.int .u64 0,.int .u64 0,.string (.mk #[]),.int .i64 0,.string (.mk #[]),.string (.mk #[]),.string (.mk #[])] []⟩,⟨none,none,.storeN 9 (.tmp 2) (.tmp 52)⟩,⟨none,some 3,.mv (.const (.int .i64 20))⟩])
 .ret)
 .skip))
 (.draw 9 (opsOf (sub (bodyOf Go.Proofs.Tryz.f38) [1,1,1,1,0,1,1,0,1,1,1,1,1,1,1,1,1])) [⟨none,some 53,.mv (.tmp 4)⟩,⟨none,some 54,.iaddr 3 (.tmp 53) (.const (.int .i64 0))⟩,⟨none,some 55,.faddr 2 (.tmp 54)⟩,⟨none,some 56,.load1 (.tmp 55)⟩,⟨none,some 57,.mv (.tmp 4)⟩,⟨none,some 58,.iaddr 3 (.tmp 57) (.const (.int .i64 1))⟩,⟨none,some 59,.faddr 1 (.tmp 58)⟩,⟨none,some 60,.load1 (.tmp 59)⟩,⟨none,some 61,.conv .i64 (.tmp 60)⟩,⟨none,some 62,.mv (.tmp 4)⟩,⟨none,some 63,.iaddr 3 (.tmp 62) (.const (.int .i64 2))⟩,⟨none,some 64,.faddr 2 (.tmp 63)⟩,⟨none,some 65,.load1 (.tmp 64)⟩,⟨none,some 66,.mv (.tmp 4)⟩,⟨none,some 67,.iaddr 3 (.tmp 66) (.const (.int .i64 3))⟩,⟨none,some 68,.faddr 2 (.tmp 67)⟩,⟨none,some 69,.load1 (.tmp 68)⟩,⟨none,some 70,.build [.string (.mk #[]),.int .i64 0,.string (.mk #[]),.string (.mk #[])] [(0,(1,.tmp 56)),(1,(1,.tmp 61)),(2,(1,.tmp 65)),(3,(1,.tmp 69))]⟩,⟨none,some 71,.faddr 4 (.tmp 6)⟩,⟨none,none,.storeN 4 (.tmp 71) (.tmp 70)⟩])))))))))))))
 (.seq (.ops [⟨none,some 115,.loadN 9 (.tmp 6)⟩,⟨none,none,.storeN 9 (.tmp 2) (.tmp 115)⟩,⟨none,some 3,.mv (.const (.int .i64 0))⟩])
 .ret))))))
abbrev r38 : List RV:=[(.cN 2 9),(.tmp 3)]
theorem F38 : FnOk Go.Proofs.Tryz.prog 38 116 c38 r38:=⟨_,Go.Proofs.Tryz.func38,by kernel_rfl,by kernel_rfl,by kernel_rfl,by kernel_rfl,by kernel_rfl⟩
noncomputable def c50 : CC:=(.seq (.ops [⟨none,some 4,.mv (.const (.string (.mk #[])))⟩,⟨none,some 5,.mv (.const (.int .i64 0))⟩])
 (.seq (.ops [⟨none,some 6,.mv (.tmp 0)⟩,⟨none,some 7,.call 51 [.tmp 6]⟩,⟨none,some 8,.buildS 118 1 [.bool false,.int .u64 0,.string (.mk #[])] [(0,(3,.tmp 7))]⟩,⟨none,some 9,.mv (.tmp 1)⟩,⟨none,some 10,.raw 14 (.mk (some 10) (.call (.mk (.builtin .append) #[.tmp 8,.tmp 9] #[197,197])) 197 "schema.go:31" #[.mk 2 .data,.mk 3 .data,.mk 1 .chain] none)⟩,⟨none,some 11,.call 120 [.tmp 10]⟩,⟨none,some 12,.ext (.tmp 11) 0⟩,⟨none,some 13,.ext (.tmp 11) 1⟩,⟨none,some 4,.mv (.tmp 12)⟩,⟨none,some 5,.mv (.tmp 13)⟩])
 .ret))
abbrev r50 : List RV:=[(.tmp 4),(.tmp 5)]
theorem F50 : FnOk Go.Proofs.Tryz.prog 50 14 c50 r50:=⟨_,Go.Proofs.Tryz.func50,by kernel_rfl,by kernel_rfl,by kernel_rfl,by kernel_rfl,by kernel_rfl⟩
noncomputable def c51 : CC:=(.seq (.ops [⟨none,some 2,.alloc 118 (.agg #[.bool false,.int .u64 0,.string (.mk #[])])⟩])
 (.seq (.ops [⟨none,some 3,.mv (.tmp 0)⟩,⟨none,some 4,.build [.bool false,.int .u64 0,.string (.mk #[])] [(0,(1,.const (.bool true))),(2,(1,.tmp 3))]⟩,⟨none,none,.storeN 3 (.tmp 2) (.tmp 4)⟩])
 .ret))
abbrev r51 : List RV:=[(.cN 2 3)]
theorem F51 : FnOk Go.Proofs.Tryz.prog 51 5 c51 r51:=⟨_,Go.Proofs.Tryz.func51,by kernel_rfl,by kernel_rfl,by kernel_rfl,by kernel_rfl,by kernel_rfl⟩
noncomputable def c52 : CC:=(.seq (.ops [⟨none,some 1,.box 9 (.tmp 0)⟩,⟨none,some 2,.alloc 131 (.agg #[.nilFunc,.nilFunc])⟩])
 (.seq (.ops [⟨none,some 3,(.mkF (.func 126) [] [.tmp 1])⟩,⟨none,some 4,(.call 121 [(.func 122),.tmp 3])⟩,⟨none,none,.storeN 2 (.tmp 2) (.tmp 4)⟩])
 .ret))
abbrev r52 : List RV:=[(.cN 2 2)]
theorem F52 : FnOk Go.Proofs.Tryz.prog 52 5 c52 r52:=⟨_,Go.Proofs.Tryz.func52,by kernel_rfl,by kernel_rfl,by kernel_rfl,by kernel_rfl,by kernel_rfl⟩
noncomputable def c53 : CC:=(.seq (.ops [⟨none,some 2,.box 131 (.tmp 0)⟩,⟨none,some 4,.alloc 33 (.agg #[.string (.mk #[]),.int .u32 0,.int .u64 0,.int .u32 0,.string (.mk #[])])⟩,⟨none,some 5,.mv (.const (.int .i64 0))⟩])
 (.seq (.ops [⟨none,some 6,.alloc 33 (.agg #[.string (.mk #[]),.int .u32 0,.int .u64 0,.int .u32 0,.string (.mk #[])])⟩])
 (.seq (.seq (.ops [⟨none,some 10,.faddr 1 (.tmp 2)⟩,⟨none,some 11,.load1 (.tmp 10)⟩,⟨none,some 12,.pnil 3 false (.tmp 11)⟩])
 (.cond (.tmp 12)
 (.seq (.ops [⟨none,some 13,.loadN 5 (.tmp 6)⟩,⟨none,none,.storeN 5 (.tmp 4) (.tmp 13)⟩,⟨none,some 5,.mv (.const (.int .i64 2))⟩])
 .ret)
 .skip))
 (.seq (.ops [⟨none,some 14,.mv (.tmp 1)⟩,⟨none,some 15,.call 17 [.tmp 14]⟩,⟨none,some 7,.mv (.tmp 15)⟩])
 (.seq (.ops [⟨none,some 16,.faddr 1 (.tmp 2)⟩,⟨none,some 17,.load1 (.tmp 16)⟩,⟨none,some 18,.mv (.tmp 7)⟩,⟨none,some 19,.callv (.tmp 17) [.tmp 18]⟩,⟨none,some 8,.alloc 33 (.agg #[.string (.mk #[]),.int .u32 0,.int .u64 0,.int .u32 0,.string (.mk #[])])⟩,⟨none,none,.storeN 5 (.tmp 8) (.tmp 19)⟩])
 (.seq (.seq (.ops [⟨none,some 20,.mv (.tmp 7)⟩,⟨none,some 21,.call 129 [.tmp 20]⟩,⟨none,some 9,.mv (.tmp 21)⟩])
 (.seq (.ops [⟨none,some 22,.mv (.tmp 9)⟩,⟨none,some 23,.iop .neq (.tmp 22) (.const (.int .i64 0))⟩])
 (.cond (.tmp 23)
 (.seq (.ops [⟨none,some 24,.loadN 5 (.tmp 6)⟩,⟨none,some 25,.mv (.tmp 9)⟩,⟨none,none,.storeN 5 (.tmp 4) (.tmp 24)⟩,⟨none,some 5,.mv (.tmp 25)⟩])
 .ret)
 .skip)))
 (.seq (.ops [⟨none,some 26,.loadN 5 (.tmp 8)⟩,⟨none,none,.storeN 5 (.tmp 4) (.tmp 26)⟩,⟨none,some 5,.mv (.const (.int .i64 0))⟩])
 .ret)))))))
abbrev r53 : List RV:=[(.cN 4 5),(.tmp 5)]
theorem F53 : FnOk Go.Proofs.Tryz.prog 53 27 c53 r53:=⟨_,Go.Proofs.Tryz.func53,by kernel_rfl,by kernel_rfl,by kernel_rfl,by kernel_rfl,by kernel_rfl⟩
noncomputable def c54 : CC:=(.seq (.ops [⟨none,some 0,.alloc 139 (.agg #[.nilFunc,.nilFunc])⟩])
 (.seq (.ops [⟨none,some 1,(.call 130 [(.func 124),(.func 19)])⟩,⟨none,none,.storeN 2 (.tmp 0) (.tmp 1)⟩])
 .ret))
abbrev r54 : List RV:=[(.cN 0 2)]
theorem F54 : FnOk Go.Proofs.Tryz.prog 54 2 c54 r54:=⟨_,Go.Proofs.Tryz.func54,by kernel_rfl,by kernel_rfl,by kernel_rfl,by kernel_rfl,by kernel_rfl⟩
noncomputable def c55 : CC:=(.seq (.ops [⟨none,some 2,.box 139 (.tmp 0)⟩,⟨none,some 4,.mv (.const (.int .u64 0))⟩,⟨none,some 5,.mv (.const (.int .i64 0))⟩])
 (.seq (.ops [⟨none,some 6,.mv (.const (.int .u64 0))⟩])
 (.seq (.seq (.ops [⟨none,some 10,.faddr 1 (.tmp 2)⟩,⟨none,some 11,.load1 (.tmp 10)⟩,⟨none,some 12,.pnil 3 false (.tmp 11)⟩])
 (.cond (.tmp 12)
 (.seq (.ops [⟨none,some 13,.mv (.tmp 6)⟩,⟨none,some 4,.mv (.tmp 13)⟩,⟨none,some 5,.mv (.const (.int .i64 2))⟩])
 .ret)
 .skip))
 (.seq (.ops [⟨none,some 14,.mv (.tmp 1)⟩,⟨none,some 15,.call 17 [.tmp 14]⟩,⟨none,some 7,.mv (.tmp 15)⟩])
 (.seq (.ops [⟨none,some 16,.faddr 1 (.tmp 2)⟩,⟨none,some 17,.load1 (.tmp 16)⟩,⟨none,some 18,.mv (.tmp 7)⟩,⟨none,some 19,.callv (.tmp 17) [.tmp 18]⟩,⟨none,some 8,.mv (.tmp 19)⟩])
 (.seq (.seq (.ops [⟨none,some 20,.mv (.tmp 7)⟩,⟨none,some 21,.call 129 [.tmp 20]⟩,⟨none,some 9,.mv (.tmp 21)⟩])
 (.seq (.ops [⟨none,some 22,.mv (.tmp 9)⟩,⟨none,some 23,.iop .neq (.tmp 22) (.const (.int .i64 0))⟩])
 (.cond (.tmp 23)
 (.seq (.ops [⟨none,some 24,.mv (.tmp 6)⟩,⟨none,some 25,.mv (.tmp 9)⟩,⟨none,some 4,.mv (.tmp 24)⟩,⟨none,some 5,.mv (.tmp 25)⟩])
 .ret)
 .skip)))
 (.seq (.ops [⟨none,some 26,.mv (.tmp 8)⟩,⟨none,some 4,.mv (.tmp 26)⟩,⟨none,some 5,.mv (.const (.int .i64 0))⟩])
 .ret)))))))
abbrev r55 : List RV:=[(.tmp 4),(.tmp 5)]
theorem F55 : FnOk Go.Proofs.Tryz.prog 55 27 c55 r55:=⟨_,Go.Proofs.Tryz.func55,by kernel_rfl,by kernel_rfl,by kernel_rfl,by kernel_rfl,by kernel_rfl⟩
noncomputable def c56 : CC:=(.seq (.ops [⟨none,some 2,.box 139 (.tmp 0)⟩,⟨none,some 4,.mv (.const (.string (.mk #[])))⟩])
 (.seq (.seq (.ops [⟨none,some 5,.faddr 0 (.tmp 2)⟩,⟨none,some 6,.load1 (.tmp 5)⟩,⟨none,some 7,.pnil 3 false (.tmp 6)⟩])
 (.cond (.tmp 7)
 (.seq (.ops [⟨none,some 4,.mv (.const (.string (.mk #[])))⟩])
 .ret)
 .skip))
 (.seq (.ops [⟨none,some 8,.faddr 0 (.tmp 2)⟩,⟨none,some 9,.load1 (.tmp 8)⟩,⟨none,some 10,.mv (.tmp 1)⟩,⟨none,some 11,.callv (.tmp 9) [.tmp 10]⟩,⟨none,some 4,.mv (.tmp 11)⟩])
 .ret)))
abbrev r56 : List RV:=[(.tmp 4)]
theorem F56 : FnOk Go.Proofs.Tryz.prog 56 12 c56 r56:=⟨_,Go.Proofs.Tryz.func56,by kernel_rfl,by kernel_rfl,by kernel_rfl,by kernel_rfl,by kernel_rfl⟩
noncomputable def c59 : CC:=(.seq (.ops [⟨none,some 2,.mv (.const (.bool false))⟩])
 (.seq (.ops [⟨none,some 3,.mv (.tmp 0)⟩,⟨none,some 4,.sop .neq (.tmp 3) (.const (.string (.mk #[])))⟩,⟨none,some 5,.mv (.tmp 4)⟩,⟨some (5,true),some 6,.mv (.tmp 0)⟩,⟨some (5,true),some 7,.lenS (.tmp 6)⟩,⟨some (5,true),some 8,.iop .leq (.tmp 7) (.const (.int .i64 32))⟩,⟨none,some 9,.pick (.tmp 5) (.tmp 8) (.const (.bool false))⟩,⟨none,some 10,.mv (.tmp 9)⟩,⟨some (10,true),some 11,.mv (.tmp 0)⟩,⟨some (10,true),some 12,(.call 132 [.tmp 11,(.func 133)])⟩,⟨some (10,true),some 13,.not (.tmp 12)⟩,⟨none,some 14,.pick (.tmp 10) (.tmp 13) (.const (.bool false))⟩,⟨none,some 2,.mv (.tmp 14)⟩])
 .ret))
abbrev r59 : List RV:=[(.tmp 2)]
theorem F59 : FnOk Go.Proofs.Tryz.prog 59 15 c59 r59:=⟨_,Go.Proofs.Tryz.func59,by kernel_rfl,by kernel_rfl,by kernel_rfl,by kernel_rfl,by kernel_rfl⟩
noncomputable def c60 : CC:=(.seq (.ops [⟨none,some 2,.box 131 (.tmp 0)⟩,⟨none,some 3,.box 33 (.tmp 1)⟩,⟨none,some 4,.mv (.const (.string (.mk #[])))⟩])
 (.seq (.seq (.ops [⟨none,some 5,.faddr 0 (.tmp 2)⟩,⟨none,some 6,.load1 (.tmp 5)⟩,⟨none,some 7,.pnil 3 false (.tmp 6)⟩])
 (.cond (.tmp 7)
 (.seq (.ops [⟨none,some 4,.mv (.const (.string (.mk #[])))⟩])
 .ret)
 .skip))
 (.seq (.ops [⟨none,some 8,.faddr 0 (.tmp 2)⟩,⟨none,some 9,.load1 (.tmp 8)⟩,⟨none,some 10,.loadN 5 (.tmp 3)⟩,⟨none,some 11,.callv (.tmp 9) [.tmp 10]⟩,⟨none,some 4,.mv (.tmp 11)⟩])
 .ret)))
abbrev r60 : List RV:=[(.tmp 4)]
theorem F60 : FnOk Go.Proofs.Tryz.prog 60 12 c60 r60:=⟨_,Go.Proofs.Tryz.func60,by kernel_rfl,by kernel_rfl,by kernel_rfl,by kernel_rfl,by kernel_rfl⟩
noncomputable def c61 : CC:=(.seq (.ops [⟨none,some 4,.mv (.const (.int .u64 0))⟩])
 (.seq (.ops [⟨none,some 5,.mv (.const (.int .u64 0))⟩])
 (.seq (.ops [⟨none,some 8,.mv (.tmp 0)⟩,⟨none,some 9,.mv (.tmp 1)⟩,⟨none,some 10,.call 18 [.tmp 8,.tmp 9]⟩,⟨none,some 6,.mv (.tmp 10)⟩])
 (.seq (.seq (.ops [⟨none,some 11,.mv (.tmp 6)⟩,⟨none,some 12,.lenS (.tmp 11)⟩,⟨none,some 13,.mv (.const (.int .i64 0))⟩])
 (.block 0
 (.loop
 (.seq (.ops [⟨none,some 14,.iop .lss (.tmp 13) (.tmp 12)⟩])
 (.seq (.cond (.tmp 14)
 .skip
 (.exit 0))
 (.seq (.block 1
 (.seq (.ops [⟨none,some 15,.mv (.tmp 13)⟩,⟨none,some 7,.mv (.tmp 15)⟩])
 (.ops [⟨none,some 16,.mv (.tmp 5)⟩,⟨none,some 17,.iop .shl (.tmp 16) (.const (.int .u64 8))⟩,⟨none,some 18,.mv (.tmp 6)⟩,⟨none,some 19,.mv (.tmp 7)⟩,⟨none,some 20,.sidx (.tmp 18) (.tmp 19)⟩,⟨none,some 21,.conv .u64 (.tmp 20)⟩,⟨none,some 22,.iop .or (.tmp 17) (.tmp 21)⟩,⟨none,some 5,.mv (.tmp 22)⟩])))
 (.ops [⟨none,some 23,.iop .add (.tmp 13) (.const (.int .i64 1))⟩,⟨none,some 13,.mv (.tmp 23)⟩])))))))
 (.seq (.ops [⟨none,some 24,.mv (.tmp 5)⟩,⟨none,some 4,.mv (.tmp 24)⟩])
 .ret)))))
abbrev r61 : List RV:=[(.tmp 4)]
theorem F61 : FnOk Go.Proofs.Tryz.prog 61 25 c61 r61:=⟨_,Go.Proofs.Tryz.func61,by kernel_rfl,by kernel_rfl,by kernel_rfl,by kernel_rfl,by kernel_rfl⟩
noncomputable def c67 : CC:=(.seq (.ops [⟨none,some 2,.alloc 118 (.agg #[.bool false,.int .u64 0,.string (.mk #[])])⟩])
 (.seq (.ops [⟨none,some 3,.mv (.tmp 0)⟩,⟨none,some 4,.build [.bool false,.int .u64 0,.string (.mk #[])] [(1,(1,.tmp 3))]⟩,⟨none,none,.storeN 3 (.tmp 2) (.tmp 4)⟩])
 .ret))
abbrev r67 : List RV:=[(.cN 2 3)]
theorem F67 : FnOk Go.Proofs.Tryz.prog 67 5 c67 r67:=⟨_,Go.Proofs.Tryz.func67,by kernel_rfl,by kernel_rfl,by kernel_rfl,by kernel_rfl,by kernel_rfl⟩
noncomputable def c69 : CC:=(.seq (.ops [⟨none,some 4,.mv (.const (.string (.mk #[])))⟩,⟨none,some 5,.mv (.const (.string (.mk #[])))⟩])
 (.seq (.ops [⟨none,some 11,.mv (.tmp 0)⟩,⟨none,some 12,.mv (.tmp 1)⟩,⟨none,some 13,.call 50 [.tmp 11,.tmp 12]⟩,⟨none,some 10,.mv (.tmp 13)⟩,⟨none,some 14,.ext (.tmp 10) 0⟩,⟨none,some 15,.ext (.tmp 10) 1⟩,⟨none,some 6,.mv (.tmp 14)⟩,⟨none,some 7,.mv (.tmp 15)⟩])
 (.seq (.seq (.ops [⟨none,some 16,.mv (.tmp 7)⟩,⟨none,some 17,.iop .neq (.tmp 16) (.const (.int .i64 0))⟩])
 (.cond (.tmp 17)
 (.seq (.ops [⟨none,some 4,.mv (.const (.string (.mk #[])))⟩,⟨none,some 5,.mv (.const (.string (.mk #[])))⟩])
 .ret)
 .skip))
 (.seq (.ops [⟨none,some 19,.mv (.tmp 6)⟩,⟨none,some 20,.call 140 [.tmp 19]⟩,⟨none,some 18,.mv (.tmp 20)⟩,⟨none,some 21,.ext (.tmp 18) 0⟩,⟨none,some 22,.ext (.tmp 18) 1⟩,⟨none,some 8,.mv (.tmp 21)⟩,⟨none,some 9,.mv (.tmp 22)⟩])
 (.seq (.ops [⟨none,some 23,.mv (.tmp 6)⟩,⟨none,some 24,.mv (.tmp 8)⟩,⟨none,some 4,.mv (.tmp 23)⟩,⟨none,some 5,.mv (.tmp 24)⟩])
 .ret)))))
abbrev r69 : List RV:=[(.tmp 4),(.tmp 5)]
theorem F69 : FnOk Go.Proofs.Tryz.prog 69 25 c69 r69:=⟨_,Go.Proofs.Tryz.func69,by kernel_rfl,by kernel_rfl,by kernel_rfl,by kernel_rfl,by kernel_rfl⟩
noncomputable def c81 : CC:=(.seq (.ops [⟨none,some 2,.box 98 (.tmp 0)⟩,⟨none,some 4,.alloc 64 (.agg #[.string (.mk #[]),.int .i64 0,.string (.mk #[]),.string (.mk #[])])⟩,⟨none,some 5,.mv (.const (.int .i64 0))⟩])
 (.seq (.ops [⟨none,some 6,.faddr 4 (.tmp 2)⟩,⟨none,some 7,.loadN 4 (.tmp 6)⟩,⟨none,none,.storeN 4 (.tmp 4) (.tmp 7)⟩,⟨none,some 5,.mv (.const (.int .i64 0))⟩])
 .ret))
abbrev r81 : List RV:=[(.cN 4 4),(.tmp 5)]
theorem F81 : FnOk Go.Proofs.Tryz.prog 81 8 c81 r81:=⟨_,Go.Proofs.Tryz.func81,by kernel_rfl,by kernel_rfl,by kernel_rfl,by kernel_rfl,by kernel_rfl⟩
noncomputable def c103 : CC:=(.seq (.ops [⟨none,some 7,.load1 (.tmp 1)⟩,⟨none,some 8,.nilc (.tmp 7)⟩,⟨none,some 9,.faddr 0 (.tmp 8)⟩,⟨none,some 10,.load1 (.tmp 9)⟩,⟨none,some 11,.call 105 [.tmp 10]⟩,⟨none,some 12,.call 104 [.tmp 11]⟩,⟨none,some 13,.lenL (.tmp 12)⟩,⟨none,some 14,.mv (.const (.int .i64 0))⟩])
 (.block 0
 (.loop
 (.seq (.ops [⟨none,some 15,.iop .lss (.tmp 14) (.tmp 13)⟩])
 (.seq (.cond (.tmp 15)
 .skip
 (.exit 0))
 (.seq (.block 1
 (.seq (.ops [⟨none,some 16,.iaddr 1 (.tmp 12) (.tmp 14)⟩,⟨none,some 17,.load1 (.tmp 16)⟩,⟨none,some 6,.mv (.tmp 17)⟩])
 (.seq (.seq (.ops [⟨none,some 18,.mv (.tmp 6)⟩,⟨none,some 19,.load1 (.tmp 2)⟩,⟨none,some 20,.sop .lss (.tmp 18) (.tmp 19)⟩,⟨none,some 21,.mv (.tmp 20)⟩,⟨some (21,false),some 22,.load1 (.tmp 3)⟩,⟨some (21,false),some 23,.sop .neq (.tmp 22) (.const (.string (.mk #[])))⟩,⟨some (21,false),some 24,.mv (.tmp 23)⟩,⟨some (24,true),some 25,.mv (.tmp 6)⟩,⟨some (24,true),some 26,.load1 (.tmp 3)⟩,⟨some (24,true),some 27,.sop .geq (.tmp 25) (.tmp 26)⟩,⟨some (21,false),some 28,.pick (.tmp 24) (.tmp 27) (.const (.bool false))⟩,⟨none,some 29,.pick (.tmp 21) (.const (.bool true)) (.tmp 28)⟩])
 (.cond (.tmp 29)
 (.exit 1)
 .skip))
 (.seq (.ops [⟨none,some 30,.mv (.tmp 0)⟩,⟨none,some 31,.mv (.tmp 6)⟩,⟨none,some 32,.load1 (.tmp 1)⟩,⟨none,some 33,.nilc (.tmp 32)⟩,⟨none,some 34,.faddr 0 (.tmp 33)⟩,⟨none,some 35,.load1 (.tmp 34)⟩,⟨none,some 36,.mv (.tmp 6)⟩,⟨none,some 37,.raw 42 (.mk (some 37) (.lookup 121 (.tmp 35) (.tmp 36) false) 9 "registry.go:56" #[.mk 5 .data,.mk 6 .data] none)⟩,⟨none,some 38,.build [.string (.mk #[]),.string (.mk #[])] [(0,(1,.tmp 31)),(1,(1,.tmp 37))]⟩,⟨none,some 39,.callv (.tmp 30) [.tmp 38,.const (.int .i64 0)]⟩,⟨none,some 40,.not (.tmp 39)⟩])
 (.cond (.tmp 40)
 .ret
 .skip)))))
 (.ops [⟨none,some 41,.iop .add (.tmp 14) (.const (.int .i64 1))⟩,⟨none,some 14,.mv (.tmp 41)⟩])))))))
abbrev r103 : List RV:=[]
theorem F103 : FnOk Go.Proofs.Tryz.prog 103 42 c103 r103:=⟨_,Go.Proofs.Tryz.func103,by kernel_rfl,by kernel_rfl,by kernel_rfl,by kernel_rfl,by kernel_rfl⟩
noncomputable def c106 : CC:=(.seq (.ops [⟨none,some 2,.mv (.const (.slice none 0 0))⟩,⟨none,some 3,.mv (.const (.int .i64 0))⟩])
 (.seq (.seq (.ops [⟨none,some 6,.mv (.tmp 0)⟩,⟨none,some 7,.lenS (.tmp 6)⟩,⟨none,some 8,.iop .gtr (.tmp 7) (.const (.int .i64 255))⟩])
 (.cond (.tmp 8)
 (.seq (.ops [⟨none,some 2,.mv (.const (.slice none 0 0))⟩,⟨none,some 3,.mv (.const (.int .i64 20))⟩])
 .ret)
 .skip))
 (.seq (.ops [⟨none,some 9,.mv (.tmp 0)⟩,⟨none,some 10,.call 17 [.tmp 9]⟩,⟨none,some 4,.mv (.tmp 10)⟩])
 (.seq (.ops [⟨none,some 5,.mv (.const (.slice none 0 0))⟩])
 (.seq (.block 0
 (.loop
 (.seq (.seq (.ops [⟨none,some 11,.mv (.tmp 4)⟩,⟨none,some 12,.call 165 [.tmp 11]⟩,⟨none,some 13,.iop .gtr (.tmp 12) (.const (.int .i64 0))⟩,⟨none,some 14,.mv (.tmp 13)⟩,⟨some (14,true),some 15,.mv (.tmp 4)⟩,⟨some (14,true),some 16,.call 166 [.tmp 15]⟩,⟨some (14,true),some 17,.iop .eql (.tmp 16) (.const (.int .i64 0))⟩,⟨none,some 18,.pick (.tmp 14) (.tmp 17) (.const (.bool false))⟩])
 (.cond (.tmp 18)
 .skip
 (.exit 0)))
 (.block 1
 (.seq (.ops [⟨none,some 19,.mv (.tmp 4)⟩,⟨none,some 20,.call 167 [.tmp 19]⟩])
 (.block 2
 (.seq (.ops [⟨none,some 24,.iop .eql (.tmp 20) (.const (.int .u8 1))⟩,⟨none,some 23,.mv (.tmp 24)⟩])
 (.cond (.tmp 23)
 (.ops [⟨none,some 25,.mv (.tmp 5)⟩,⟨none,some 26,.mv (.tmp 4)⟩,⟨none,some 27,.call 19 [.tmp 26]⟩,⟨none,some 28,.call 67 [.tmp 27]⟩,⟨none,some 29,.buildS 118 1 [.bool false,.int .u64 0,.string (.mk #[])] [(0,(3,.tmp 28))]⟩,⟨none,some 30,.raw 43 (.mk (some 30) (.call (.mk (.builtin .append) #[.tmp 25,.tmp 29] #[197,197])) 197 "order.go:84" #[.mk 0 .data,.mk 4 .data,.mk 3 .chain] none)⟩,⟨none,some 5,.mv (.tmp 30)⟩])
 (.seq (.ops [⟨none,some 32,.iop .eql (.tmp 20) (.const (.int .u8 2))⟩,⟨none,some 31,.mv (.tmp 32)⟩])
 (.cond (.tmp 31)
 (.ops [⟨none,some 33,.mv (.tmp 5)⟩,⟨none,some 34,.mv (.tmp 4)⟩,⟨none,some 35,.call 168 [.tmp 34]⟩,⟨none,some 36,.call 51 [.tmp 35]⟩,⟨none,some 37,.buildS 118 1 [.bool false,.int .u64 0,.string (.mk #[])] [(0,(3,.tmp 36))]⟩,⟨none,some 38,.raw 43 (.mk (some 38) (.call (.mk (.builtin .append) #[.tmp 33,.tmp 37] #[197,197])) 197 "order.go:86" #[.mk 0 .data,.mk 4 .data,.mk 3 .chain] none)⟩,⟨none,some 5,.mv (.tmp 38)⟩])
 (.ops [⟨none,some 21,.mv (.tmp 4)⟩,⟨none,some 22,.call 169 [.tmp 21,.const (.int .i64 20)]⟩])))))))))))
 (.seq (.seq (.ops [⟨none,some 39,.mv (.tmp 4)⟩,⟨none,some 40,.call 166 [.tmp 39]⟩,⟨none,some 41,.iop .neq (.tmp 40) (.const (.int .i64 0))⟩])
 (.cond (.tmp 41)
 (.seq (.ops [⟨none,some 2,.mv (.const (.slice none 0 0))⟩,⟨none,some 3,.mv (.const (.int .i64 20))⟩])
 .ret)
 .skip))
 (.seq (.ops [⟨none,some 42,.mv (.tmp 5)⟩,⟨none,some 2,.mv (.tmp 42)⟩,⟨none,some 3,.mv (.const (.int .i64 0))⟩])
 .ret)))))))
abbrev r106 : List RV:=[(.tmp 2),(.tmp 3)]
theorem F106 : FnOk Go.Proofs.Tryz.prog 106 43 c106 r106:=⟨_,Go.Proofs.Tryz.func106,by kernel_rfl,by kernel_rfl,by kernel_rfl,by kernel_rfl,by kernel_rfl⟩
noncomputable def c107 : CC:=(.seq (.ops [⟨none,some 4,.mv (.const (.bool false))⟩])
 (.seq (.seq (.ops [⟨none,some 7,.mv (.tmp 0)⟩,⟨none,some 8,.lenL (.tmp 7)⟩,⟨none,some 9,.mv (.tmp 1)⟩,⟨none,some 10,.lenS (.tmp 9)⟩,⟨none,some 11,.iop .neq (.tmp 8) (.tmp 10)⟩,⟨none,some 12,.mv (.tmp 11)⟩,⟨some (12,false),some 13,.mv (.tmp 1)⟩,⟨some (12,false),some 14,.sop .eql (.tmp 13) (.const (.string (.mk #[])))⟩,⟨none,some 15,.pick (.tmp 12) (.const (.bool true)) (.tmp 14)⟩])
 (.cond (.tmp 15)
 (.seq (.ops [⟨none,some 4,.mv (.const (.bool false))⟩])
 .ret)
 .skip))
 (.seq (.seq (.ops [⟨none,some 16,.mv (.tmp 1)⟩,⟨none,some 17,.raw 30 (.mk (some 17) (.range 9 (.tmp 16)) 0 "schema.go:85" #[.mk 0 .data] none)⟩])
 (.block 0
 (.loop
 (.seq (.ops [⟨none,some 18,.raw 30 (.mk (some 18) (.next (.tmp 17) true) 0 "schema.go:85" #[] none)⟩,⟨none,some 19,.ext (.tmp 18) 0⟩])
 (.seq (.cond (.tmp 19)
 .skip
 (.exit 0))
 (.block 1
 (.seq (.ops [⟨none,some 20,.ext (.tmp 18) 1⟩,⟨none,some 21,.ext (.tmp 18) 2⟩,⟨none,some 5,.mv (.tmp 20)⟩,⟨none,some 6,.mv (.tmp 21)⟩])
 (.seq (.ops [⟨none,some 22,.mv (.tmp 0)⟩,⟨none,some 23,.mv (.tmp 5)⟩,⟨none,some 24,.iaddr 3 (.tmp 22) (.tmp 23)⟩,⟨none,some 25,.faddr 0 (.tmp 24)⟩,⟨none,some 26,.load1 (.tmp 25)⟩,⟨none,some 27,.mv (.tmp 6)⟩,⟨none,some 28,.iop .eql (.tmp 27) (.const (.int .i32 115))⟩,⟨none,some 29,.bop true (.tmp 26) (.tmp 28)⟩])
 (.cond (.tmp 29)
 (.seq (.ops [⟨none,some 4,.mv (.const (.bool false))⟩])
 .ret)
 .skip)))))))))
 (.seq (.ops [⟨none,some 4,.mv (.const (.bool true))⟩])
 .ret))))
abbrev r107 : List RV:=[(.tmp 4)]
theorem F107 : FnOk Go.Proofs.Tryz.prog 107 30 c107 r107:=⟨_,Go.Proofs.Tryz.func107,by kernel_rfl,by kernel_rfl,by kernel_rfl,by kernel_rfl,by kernel_rfl⟩
noncomputable def c108 : CC:=(.seq (.ops [⟨none,some 2,.mv (.const (.string (.mk #[])))⟩])
 (.seq (.seq (.ops [⟨none,some 3,.mv (.tmp 0)⟩])
 (.block 0
 (.seq (.seq (.ops [⟨none,some 5,.sop .eql (.tmp 3) (.const (.string (.mk #[113])))⟩,⟨none,some 4,.mv (.tmp 5)⟩])
 (.cond (.tmp 4)
 .skip
 (.ops [⟨none,some 6,.sop .eql (.tmp 3) (.const (.string (.mk #[99])))⟩,⟨none,some 4,.mv (.tmp 6)⟩])))
 (.cond (.tmp 4)
 (.seq (.ops [⟨none,some 2,.mv (.const (.string (.mk #[115])))⟩])
 .ret)
 (.seq (.ops [⟨none,some 8,.sop .eql (.tmp 3) (.const (.string (.mk #[109])))⟩,⟨none,some 7,.mv (.tmp 8)⟩])
 (.cond (.tmp 7)
 (.seq (.ops [⟨none,some 2,.mv (.const (.string (.mk #[115,110])))⟩])
 .ret)
 (.seq (.ops [⟨none,some 10,.sop .eql (.tmp 3) (.const (.string (.mk #[101])))⟩,⟨none,some 9,.mv (.tmp 10)⟩])
 (.cond (.tmp 9)
 (.seq (.ops [⟨none,some 2,.mv (.const (.string (.mk #[110,115,110])))⟩])
 .ret)
 (.seq (.ops [⟨none,some 12,.sop .eql (.tmp 3) (.const (.string (.mk #[98])))⟩,⟨none,some 11,.mv (.tmp 12)⟩])
 (.cond (.tmp 11)
 (.seq (.ops [⟨none,some 2,.mv (.const (.string (.mk #[115,110,115,115])))⟩])
 .ret)
 .skip))))))))))
 (.seq (.ops [⟨none,some 2,.mv (.const (.string (.mk #[])))⟩])
 .ret)))
abbrev r108 : List RV:=[(.tmp 2)]
theorem F108 : FnOk Go.Proofs.Tryz.prog 108 13 c108 r108:=⟨_,Go.Proofs.Tryz.func108,by kernel_rfl,by kernel_rfl,by kernel_rfl,by kernel_rfl,by kernel_rfl⟩
noncomputable def c120 : CC:=(.seq (.ops [⟨none,some 2,.mv (.const (.string (.mk #[])))⟩,⟨none,some 3,.mv (.const (.int .i64 0))⟩])
 (.seq (.ops [⟨none,some 4,.alloc 209 (.agg #[.pointer none,.slice none 0 0])⟩])
 (.seq (.seq (.ops [⟨none,some 7,.mv (.tmp 0)⟩,⟨none,some 8,.lenL (.tmp 7)⟩,⟨none,some 9,.mv (.const (.int .i64 0))⟩])
 (.block 0
 (.loop
 (.seq (.ops [⟨none,some 10,.iop .lss (.tmp 9) (.tmp 8)⟩])
 (.seq (.cond (.tmp 10)
 .skip
 (.exit 0))
 (.seq (.block 1
 (.seq (.ops [⟨none,some 11,.iaddr 3 (.tmp 7) (.tmp 9)⟩,⟨none,some 12,.loadN 3 (.tmp 11)⟩,⟨none,some 6,.alloc 118 (.agg #[.bool false,.int .u64 0,.string (.mk #[])])⟩,⟨none,none,.storeN 3 (.tmp 6) (.tmp 12)⟩])
 (.seq (.ops [⟨none,some 13,.loadN 3 (.tmp 6)⟩,⟨none,some 14,.call 180 [.tmp 13]⟩,⟨none,some 15,.call 115 [.tmp 4,.tmp 14]⟩])
 (.seq (.ops [⟨none,some 16,.call 116 [.tmp 4]⟩,⟨none,some 17,.iop .gtr (.tmp 16) (.const (.int .i64 255))⟩])
 (.cond (.tmp 17)
 (.seq (.ops [⟨none,some 2,.mv (.const (.string (.mk #[])))⟩,⟨none,some 3,.mv (.const (.int .i64 5))⟩])
 .ret)
 .skip)))))
 (.ops [⟨none,some 18,.iop .add (.tmp 9) (.const (.int .i64 1))⟩,⟨none,some 9,.mv (.tmp 18)⟩])))))))
 (.seq (.ops [⟨none,some 19,.call 117 [.tmp 4]⟩,⟨none,some 2,.mv (.tmp 19)⟩,⟨none,some 3,.mv (.const (.int .i64 0))⟩])
 .ret))))
abbrev r120 : List RV:=[(.tmp 2),(.tmp 3)]
theorem F120 : FnOk Go.Proofs.Tryz.prog 120 20 c120 r120:=⟨_,Go.Proofs.Tryz.func120,by kernel_rfl,by kernel_rfl,by kernel_rfl,by kernel_rfl,by kernel_rfl⟩
noncomputable def c121 : CC:=(.seq (.ops [⟨none,some 2,.box 128 (.tmp 0)⟩,⟨none,some 3,.box 129 (.tmp 1)⟩,⟨none,some 4,.alloc 131 (.agg #[.nilFunc,.nilFunc])⟩])
 (.seq (.ops [⟨none,some 5,(.mkF (.func 181) [] [.tmp 2])⟩,⟨none,some 6,(.mkF (.func 183) [] [.tmp 3])⟩,⟨none,some 7,.build [.nilFunc,.nilFunc] [(0,(1,.tmp 5)),(1,(1,.tmp 6))]⟩,⟨none,none,.storeN 2 (.tmp 4) (.tmp 7)⟩])
 .ret))
abbrev r121 : List RV:=[(.cN 4 2)]
theorem F121 : FnOk Go.Proofs.Tryz.prog 121 8 c121 r121:=⟨_,Go.Proofs.Tryz.func121,by kernel_rfl,by kernel_rfl,by kernel_rfl,by kernel_rfl,by kernel_rfl⟩
noncomputable def c122 : CC:=(.seq (.ops [⟨none,some 1,.box 33 (.tmp 0)⟩,⟨none,some 2,.mv (.const (.string (.mk #[])))⟩])
 (.seq (.draw 1 (opsOf (sub (bodyOf Go.Proofs.Tryz.f122) [1,0])) [⟨none,some 3,.faddr 1 (.tmp 1)⟩,⟨none,some 4,.load1 (.tmp 3)⟩,⟨none,some 5,.call 123 [.tmp 4]⟩,⟨none,some 6,.faddr 2 (.tmp 1)⟩,⟨none,some 7,.load1 (.tmp 6)⟩,⟨none,some 8,.call 124 [.tmp 7]⟩,⟨none,some 9,.sop .add (.tmp 5) (.tmp 8)⟩,⟨none,some 10,.faddr 3 (.tmp 1)⟩,⟨none,some 11,.load1 (.tmp 10)⟩,⟨none,some 12,.call 123 [.tmp 11]⟩,⟨none,some 13,.sop .add (.tmp 9) (.tmp 12)⟩,⟨none,some 14,.faddr 4 (.tmp 1)⟩,⟨none,some 15,.load1 (.tmp 14)⟩,⟨none,some 16,.call 125 [.tmp 15]⟩,⟨none,some 17,.sop .add (.tmp 13) (.tmp 16)⟩,⟨none,some 2,.mv (.tmp 17)⟩])
 .ret))
abbrev r122 : List RV:=[(.tmp 2)]
theorem F122 : FnOk Go.Proofs.Tryz.prog 122 18 c122 r122:=⟨_,Go.Proofs.Tryz.func122,by kernel_rfl,by kernel_rfl,by kernel_rfl,by kernel_rfl,by kernel_rfl⟩
noncomputable def c123 : CC:=(.seq (.ops [⟨none,some 2,.mv (.const (.string (.mk #[])))⟩])
 (.seq (.ops [⟨none,some 3,.mv (.tmp 0)⟩,⟨none,some 4,.conv .u64 (.tmp 3)⟩,⟨none,some 5,.call 184 [.tmp 4,.const (.int .i64 4)]⟩,⟨none,some 2,.mv (.tmp 5)⟩])
 .ret))
abbrev r123 : List RV:=[(.tmp 2)]
theorem F123 : FnOk Go.Proofs.Tryz.prog 123 6 c123 r123:=⟨_,Go.Proofs.Tryz.func123,by kernel_rfl,by kernel_rfl,by kernel_rfl,by kernel_rfl,by kernel_rfl⟩
noncomputable def c124 : CC:=(.seq (.ops [⟨none,some 2,.mv (.const (.string (.mk #[])))⟩])
 (.seq (.ops [⟨none,some 3,.mv (.tmp 0)⟩,⟨none,some 4,.call 184 [.tmp 3,.const (.int .i64 8)]⟩,⟨none,some 2,.mv (.tmp 4)⟩])
 .ret))
abbrev r124 : List RV:=[(.tmp 2)]
theorem F124 : FnOk Go.Proofs.Tryz.prog 124 5 c124 r124:=⟨_,Go.Proofs.Tryz.func124,by kernel_rfl,by kernel_rfl,by kernel_rfl,by kernel_rfl,by kernel_rfl⟩
noncomputable def c125 : CC:=(.seq (.ops [⟨none,some 2,.mv (.const (.string (.mk #[])))⟩])
 (.seq (.ops [⟨none,some 3,.mv (.tmp 0)⟩,⟨none,some 4,.lenS (.tmp 3)⟩,⟨none,some 5,.conv .u32 (.tmp 4)⟩,⟨none,some 6,.call 123 [.tmp 5]⟩,⟨none,some 7,.mv (.tmp 0)⟩,⟨none,some 8,.sop .add (.tmp 6) (.tmp 7)⟩,⟨none,some 2,.mv (.tmp 8)⟩])
 .ret))
abbrev r125 : List RV:=[(.tmp 2)]
theorem F125 : FnOk Go.Proofs.Tryz.prog 125 9 c125 r125:=⟨_,Go.Proofs.Tryz.func125,by kernel_rfl,by kernel_rfl,by kernel_rfl,by kernel_rfl,by kernel_rfl⟩
noncomputable def c126 : CC:=(.seq (.ops [⟨none,some 3,.alloc 33 (.agg #[.string (.mk #[]),.int .u32 0,.int .u64 0,.int .u32 0,.string (.mk #[])])⟩])
 (.seq (.draw 1 (opsOf (sub (bodyOf Go.Proofs.Tryz.f126) [1,0])) [⟨none,some 4,.load1 (.tmp 1)⟩,⟨none,some 5,.mv (.tmp 0)⟩,⟨none,some 6,.call 127 [.tmp 5]⟩,⟨none,some 7,.mv (.tmp 0)⟩,⟨none,some 8,.call 19 [.tmp 7]⟩,⟨none,some 9,.mv (.tmp 0)⟩,⟨none,some 10,.call 127 [.tmp 9]⟩,⟨none,some 11,.mv (.tmp 0)⟩,⟨none,some 12,.call 128 [.tmp 11,.const (.int .i64 32)]⟩,⟨none,some 13,.build [.string (.mk #[]),.int .u32 0,.int .u64 0,.int .u32 0,.string (.mk #[])] [(0,(1,.tmp 4)),(1,(1,.tmp 6)),(2,(1,.tmp 8)),(3,(1,.tmp 10)),(4,(1,.tmp 12))]⟩,⟨none,none,.storeN 5 (.tmp 3) (.tmp 13)⟩])
 .ret))
abbrev r126 : List RV:=[(.cN 3 5)]
theorem F126 : FnOk Go.Proofs.Tryz.prog 126 14 c126 r126:=⟨_,Go.Proofs.Tryz.func126,by kernel_rfl,by kernel_rfl,by kernel_rfl,by kernel_rfl,by kernel_rfl⟩
noncomputable def c127 : CC:=(.seq (.ops [⟨none,some 2,.mv (.const (.int .u32 0))⟩])
 (.seq (.ops [⟨none,some 3,.mv (.tmp 0)⟩,⟨none,some 4,.call 61 [.tmp 3,.const (.int .i64 4)]⟩,⟨none,some 5,.conv .u32 (.tmp 4)⟩,⟨none,some 2,.mv (.tmp 5)⟩])
 .ret))
abbrev r127 : List RV:=[(.tmp 2)]
theorem F127 : FnOk Go.Proofs.Tryz.prog 127 6 c127 r127:=⟨_,Go.Proofs.Tryz.func127,by kernel_rfl,by kernel_rfl,by kernel_rfl,by kernel_rfl,by kernel_rfl⟩
noncomputable def c128 : CC:=(.seq (.ops [⟨none,some 4,.mv (.const (.string (.mk #[])))⟩])
 (.seq (.ops [⟨none,some 6,.mv (.tmp 0)⟩,⟨none,some 7,.call 127 [.tmp 6]⟩,⟨none,some 5,.mv (.tmp 7)⟩])
 (.seq (.seq (.ops [⟨none,some 8,.mv (.tmp 5)⟩,⟨none,some 9,.conv .u64 (.tmp 8)⟩,⟨none,some 10,.mv (.tmp 1)⟩,⟨none,some 11,.raw 20 (.mk (some 11) (.call (.mk (.builtin .max) #[.tmp 10,.const (.int .i64 0)] #[3,3])) 3 "octet.go:89" #[.mk 2 .data] none)⟩,⟨none,some 12,.conv .u64 (.tmp 11)⟩,⟨none,some 13,.iop .gtr (.tmp 9) (.tmp 12)⟩])
 (.cond (.tmp 13)
 (.seq (.ops [⟨none,some 14,.mv (.tmp 0)⟩,⟨none,some 15,.call 169 [.tmp 14,.const (.int .i64 5)]⟩])
 (.seq (.ops [⟨none,some 4,.mv (.const (.string (.mk #[])))⟩])
 .ret))
 .skip))
 (.seq (.ops [⟨none,some 16,.mv (.tmp 0)⟩,⟨none,some 17,.mv (.tmp 5)⟩,⟨none,some 18,.conv .i64 (.tmp 17)⟩,⟨none,some 19,.call 18 [.tmp 16,.tmp 18]⟩,⟨none,some 4,.mv (.tmp 19)⟩])
 .ret))))
abbrev r128 : List RV:=[(.tmp 4)]
theorem F128 : FnOk Go.Proofs.Tryz.prog 128 20 c128 r128:=⟨_,Go.Proofs.Tryz.func128,by kernel_rfl,by kernel_rfl,by kernel_rfl,by kernel_rfl,by kernel_rfl⟩
noncomputable def c129 : CC:=(.seq (.ops [⟨none,some 2,.mv (.const (.int .i64 0))⟩])
 (.seq (.seq (.ops [⟨none,some 4,.mv (.tmp 0)⟩,⟨none,some 5,.call 166 [.tmp 4]⟩,⟨none,some 3,.mv (.tmp 5)⟩])
 (.seq (.ops [⟨none,some 6,.mv (.tmp 3)⟩,⟨none,some 7,.iop .neq (.tmp 6) (.const (.int .i64 0))⟩])
 (.cond (.tmp 7)
 (.seq (.ops [⟨none,some 8,.mv (.tmp 3)⟩,⟨none,some 2,.mv (.tmp 8)⟩])
 .ret)
 .skip)))
 (.seq (.seq (.ops [⟨none,some 9,.mv (.tmp 0)⟩,⟨none,some 10,.nilc (.tmp 9)⟩,⟨none,some 11,.faddr 0 (.tmp 10)⟩,⟨none,some 12,.load1 (.tmp 11)⟩,⟨none,some 13,.lenS (.tmp 12)⟩,⟨none,some 14,.iop .gtr (.tmp 13) (.const (.int .i64 0))⟩])
 (.cond (.tmp 14)
 (.seq (.ops [⟨none,some 2,.mv (.const (.int .i64 4))⟩])
 .ret)
 .skip))
 (.seq (.ops [⟨none,some 2,.mv (.const (.int .i64 0))⟩])
 .ret))))
abbrev r129 : List RV:=[(.tmp 2)]
theorem F129 : FnOk Go.Proofs.Tryz.prog 129 15 c129 r129:=⟨_,Go.Proofs.Tryz.func129,by kernel_rfl,by kernel_rfl,by kernel_rfl,by kernel_rfl,by kernel_rfl⟩
noncomputable def c130 : CC:=(.seq (.ops [⟨none,some 2,.box 136 (.tmp 0)⟩,⟨none,some 3,.box 137 (.tmp 1)⟩,⟨none,some 4,.alloc 139 (.agg #[.nilFunc,.nilFunc])⟩])
 (.seq (.ops [⟨none,some 5,(.mkF (.func 185) [] [.tmp 2])⟩,⟨none,some 6,(.mkF (.func 186) [] [.tmp 3])⟩,⟨none,some 7,.build [.nilFunc,.nilFunc] [(0,(1,.tmp 5)),(1,(1,.tmp 6))]⟩,⟨none,none,.storeN 2 (.tmp 4) (.tmp 7)⟩])
 .ret))
abbrev r130 : List RV:=[(.cN 4 2)]
theorem F130 : FnOk Go.Proofs.Tryz.prog 130 8 c130 r130:=⟨_,Go.Proofs.Tryz.func130,by kernel_rfl,by kernel_rfl,by kernel_rfl,by kernel_rfl,by kernel_rfl⟩
noncomputable def c133 : CC:=(.seq (.ops [⟨none,some 2,.mv (.const (.bool false))⟩])
 (.seq (.ops [⟨none,some 3,.mv (.tmp 0)⟩,⟨none,some 4,.call 134 [.tmp 3]⟩,⟨none,some 5,.not (.tmp 4)⟩,⟨none,some 2,.mv (.tmp 5)⟩])
 .ret))
abbrev r133 : List RV:=[(.tmp 2)]
theorem F133 : FnOk Go.Proofs.Tryz.prog 133 6 c133 r133:=⟨_,Go.Proofs.Tryz.func133,by kernel_rfl,by kernel_rfl,by kernel_rfl,by kernel_rfl,by kernel_rfl⟩
noncomputable def c134 : CC:=(.seq (.ops [⟨none,some 2,.mv (.const (.bool false))⟩])
 (.seq (.ops [⟨none,some 3,.mv (.tmp 0)⟩,⟨none,some 4,.iop .geq (.tmp 3) (.const (.int .i32 97))⟩,⟨none,some 5,.mv (.tmp 4)⟩,⟨some (5,true),some 6,.mv (.tmp 0)⟩,⟨some (5,true),some 7,.iop .leq (.tmp 6) (.const (.int .i32 122))⟩,⟨none,some 8,.pick (.tmp 5) (.tmp 7) (.const (.bool false))⟩,⟨none,some 9,.mv (.tmp 8)⟩,⟨some (9,false),some 10,.mv (.tmp 0)⟩,⟨some (9,false),some 11,.iop .geq (.tmp 10) (.const (.int .i32 65))⟩,⟨some (9,false),some 12,.mv (.tmp 11)⟩,⟨some (12,true),some 13,.mv (.tmp 0)⟩,⟨some (12,true),some 14,.iop .leq (.tmp 13) (.const (.int .i32 90))⟩,⟨some (9,false),some 15,.pick (.tmp 12) (.tmp 14) (.const (.bool false))⟩,⟨none,some 16,.pick (.tmp 9) (.const (.bool true)) (.tmp 15)⟩,⟨none,some 17,.mv (.tmp 16)⟩,⟨some (17,false),some 18,.mv (.tmp 0)⟩,⟨some (17,false),some 19,.iop .geq (.tmp 18) (.const (.int .i32 48))⟩,⟨some (17,false),some 20,.mv (.tmp 19)⟩,⟨some (20,true),some 21,.mv (.tmp 0)⟩,⟨some (20,true),some 22,.iop .leq (.tmp 21) (.const (.int .i32 57))⟩,⟨some (17,false),some 23,.pick (.tmp 20) (.tmp 22) (.const (.bool false))⟩,⟨none,some 24,.pick (.tmp 17) (.const (.bool true)) (.tmp 23)⟩,⟨none,some 25,.mv (.tmp 24)⟩,⟨some (25,false),some 26,.mv (.tmp 0)⟩,⟨some (25,false),some 27,.iop .eql (.tmp 26) (.const (.int .i32 45))⟩,⟨none,some 28,.pick (.tmp 25) (.const (.bool true)) (.tmp 27)⟩,⟨none,some 29,.mv (.tmp 28)⟩,⟨some (29,false),some 30,.mv (.tmp 0)⟩,⟨some (29,false),some 31,.iop .eql (.tmp 30) (.const (.int .i32 95))⟩,⟨none,some 32,.pick (.tmp 29) (.const (.bool true)) (.tmp 31)⟩,⟨none,some 2,.mv (.tmp 32)⟩])
 .ret))
abbrev r134 : List RV:=[(.tmp 2)]
theorem F134 : FnOk Go.Proofs.Tryz.prog 134 33 c134 r134:=⟨_,Go.Proofs.Tryz.func134,by kernel_rfl,by kernel_rfl,by kernel_rfl,by kernel_rfl,by kernel_rfl⟩
noncomputable def c140 : CC:=(.seq (.ops [⟨none,some 2,.mv (.const (.string (.mk #[])))⟩,⟨none,some 3,.mv (.const (.bool false))⟩])
 (.seq (.seq (.ops [⟨none,some 6,.mv (.tmp 0)⟩,⟨none,some 7,.lenS (.tmp 6)⟩,⟨none,some 4,.mv (.tmp 7)⟩])
 (.block 0
 (.loop
 (.seq (.seq (.ops [⟨none,some 8,.mv (.tmp 4)⟩,⟨none,some 9,.iop .gtr (.tmp 8) (.const (.int .i64 0))⟩])
 (.cond (.tmp 9)
 .skip
 (.exit 0)))
 (.seq (.block 1
 (.seq (.ops [⟨none,some 12,.mv (.tmp 0)⟩,⟨none,some 13,.mv (.tmp 4)⟩,⟨none,some 14,.iop .sub (.tmp 13) (.const (.int .i64 1))⟩,⟨none,some 15,.sidx (.tmp 12) (.tmp 14)⟩,⟨none,some 5,.mv (.tmp 15)⟩])
 (.seq (.ops [⟨none,some 16,.mv (.tmp 5)⟩,⟨none,some 17,.iop .neq (.tmp 16) (.const (.int .u8 255))⟩])
 (.cond (.tmp 17)
 (.seq (.draw 6 (opsOf (sub (bodyOf Go.Proofs.Tryz.f140) [1,0,1,0,0,1,0,0,1,1,0,0])) [⟨none,some 18,.mv (.tmp 0)⟩,⟨none,some 19,.mv (.tmp 4)⟩,⟨none,some 20,.iop .sub (.tmp 19) (.const (.int .i64 1))⟩,⟨none,some 21,.slS (.tmp 18) none (some (.tmp 20))⟩,⟨none,some 22,.mv (.tmp 5)⟩,⟨none,some 23,.iop .add (.tmp 22) (.const (.int .u8 1))⟩,⟨none,some 24,.call 182 [.tmp 23]⟩,⟨none,some 25,.sop .add (.tmp 21) (.tmp 24)⟩,⟨none,some 2,.mv (.tmp 25)⟩,⟨none,some 3,.mv (.const (.bool true))⟩])
 .ret)
 .skip))))
 (.ops [⟨none,some 10,.mv (.tmp 4)⟩,⟨none,some 11,.iop .sub (.tmp 10) (.const (.int .i64 1))⟩,⟨none,some 4,.mv (.tmp 11)⟩]))))))
 (.seq (.ops [⟨none,some 2,.mv (.const (.string (.mk #[])))⟩,⟨none,some 3,.mv (.const (.bool false))⟩])
 .ret)))
abbrev r140 : List RV:=[(.tmp 2),(.tmp 3)]
theorem F140 : FnOk Go.Proofs.Tryz.prog 140 26 c140 r140:=⟨_,Go.Proofs.Tryz.func140,by kernel_rfl,by kernel_rfl,by kernel_rfl,by kernel_rfl,by kernel_rfl⟩
noncomputable def c165 : CC:=(.seq (.ops [⟨none,some 2,.mv (.const (.int .i64 0))⟩])
 (.seq (.seq (.ops [⟨none,some 3,.mv (.tmp 0)⟩,⟨none,some 4,.pnil 0 false (.tmp 3)⟩])
 (.cond (.tmp 4)
 (.seq (.ops [⟨none,some 2,.mv (.const (.int .i64 0))⟩])
 .ret)
 .skip))
 (.seq (.ops [⟨none,some 5,.mv (.tmp 0)⟩,⟨none,some 6,.nilc (.tmp 5)⟩,⟨none,some 7,.faddr 0 (.tmp 6)⟩,⟨none,some 8,.load1 (.tmp 7)⟩,⟨none,some 9,.lenS (.tmp 8)⟩,⟨none,some 2,.mv (.tmp 9)⟩])
 .ret)))
abbrev r165 : List RV:=[(.tmp 2)]
theorem F165 : FnOk Go.Proofs.Tryz.prog 165 10 c165 r165:=⟨_,Go.Proofs.Tryz.func165,by kernel_rfl,by kernel_rfl,by kernel_rfl,by kernel_rfl,by kernel_rfl⟩
noncomputable def c166 : CC:=(.seq (.ops [⟨none,some 2,.mv (.const (.int .i64 0))⟩])
 (.seq (.seq (.ops [⟨none,some 3,.mv (.tmp 0)⟩,⟨none,some 4,.pnil 0 false (.tmp 3)⟩])
 (.cond (.tmp 4)
 (.seq (.ops [⟨none,some 2,.mv (.const (.int .i64 1))⟩])
 .ret)
 .skip))
 (.seq (.ops [⟨none,some 5,.mv (.tmp 0)⟩,⟨none,some 6,.nilc (.tmp 5)⟩,⟨none,some 7,.faddr 1 (.tmp 6)⟩,⟨none,some 8,.load1 (.tmp 7)⟩,⟨none,some 2,.mv (.tmp 8)⟩])
 .ret)))
abbrev r166 : List RV:=[(.tmp 2)]
theorem F166 : FnOk Go.Proofs.Tryz.prog 166 9 c166 r166:=⟨_,Go.Proofs.Tryz.func166,by kernel_rfl,by kernel_rfl,by kernel_rfl,by kernel_rfl,by kernel_rfl⟩
noncomputable def c167 : CC:=(.seq (.ops [⟨none,some 2,.mv (.const (.int .u8 0))⟩])
 (.seq (.ops [⟨none,some 3,.mv (.tmp 0)⟩,⟨none,some 4,.call 61 [.tmp 3,.const (.int .i64 1)]⟩,⟨none,some 5,.conv .u8 (.tmp 4)⟩,⟨none,some 2,.mv (.tmp 5)⟩])
 .ret))
abbrev r167 : List RV:=[(.tmp 2)]
theorem F167 : FnOk Go.Proofs.Tryz.prog 167 6 c167 r167:=⟨_,Go.Proofs.Tryz.func167,by kernel_rfl,by kernel_rfl,by kernel_rfl,by kernel_rfl,by kernel_rfl⟩
noncomputable def c168 : CC:=(.seq (.ops [⟨none,some 2,.mv (.const (.string (.mk #[])))⟩])
 (.seq (.ops [⟨none,some 3,.alloc 209 (.agg #[.pointer none,.slice none 0 0])⟩])
 (.seq (.block 0
 (.loop
 (.seq (.seq (.ops [⟨none,some 5,.mv (.tmp 0)⟩,⟨none,some 6,.call 166 [.tmp 5]⟩,⟨none,some 7,.iop .eql (.tmp 6) (.const (.int .i64 0))⟩])
 (.cond (.tmp 7)
 .skip
 (.exit 0)))
 (.block 1
 (.seq (.ops [⟨none,some 8,.mv (.tmp 0)⟩,⟨none,some 9,.call 167 [.tmp 8]⟩,⟨none,some 4,.mv (.tmp 9)⟩])
 (.seq (.seq (.ops [⟨none,some 10,.mv (.tmp 4)⟩,⟨none,some 11,.iop .neq (.tmp 10) (.const (.int .u8 0))⟩])
 (.cond (.tmp 11)
 (.seq (.ops [⟨none,some 12,.mv (.tmp 4)⟩,⟨none,some 13,.call 204 [.tmp 3,.tmp 12]⟩])
 (.exit 1))
 .skip))
 (.seq (.ops [⟨none,some 14,.mv (.tmp 0)⟩,⟨none,some 15,.call 167 [.tmp 14]⟩])
 (.block 2
 (.seq (.ops [⟨none,some 19,.iop .eql (.tmp 15) (.const (.int .u8 255))⟩,⟨none,some 18,.mv (.tmp 19)⟩])
 (.cond (.tmp 18)
 (.ops [⟨none,some 20,.call 204 [.tmp 3,.const (.int .u8 0)]⟩])
 (.seq (.ops [⟨none,some 22,.iop .eql (.tmp 15) (.const (.int .u8 0))⟩,⟨none,some 21,.mv (.tmp 22)⟩])
 (.cond (.tmp 21)
 (.seq (.ops [⟨none,some 23,.call 117 [.tmp 3]⟩,⟨none,some 2,.mv (.tmp 23)⟩])
 .ret)
 (.ops [⟨none,some 16,.mv (.tmp 0)⟩,⟨none,some 17,.call 169 [.tmp 16,.const (.int .i64 20)]⟩])))))))))))))
 (.seq (.ops [⟨none,some 2,.mv (.const (.string (.mk #[])))⟩])
 .ret))))
abbrev r168 : List RV:=[(.tmp 2)]
theorem F168 : FnOk Go.Proofs.Tryz.prog 168 24 c168 r168:=⟨_,Go.Proofs.Tryz.func168,by kernel_rfl,by kernel_rfl,by kernel_rfl,by kernel_rfl,by kernel_rfl⟩
noncomputable def c169 : CC:=(.seq (.ops [⟨none,some 4,.mv (.tmp 0)⟩,⟨none,some 5,.pnil 0 true (.tmp 4)⟩,⟨none,some 6,.mv (.tmp 5)⟩,⟨some (6,true),some 7,.mv (.tmp 0)⟩,⟨some (6,true),some 8,.nilc (.tmp 7)⟩,⟨some (6,true),some 9,.faddr 1 (.tmp 8)⟩,⟨some (6,true),some 10,.load1 (.tmp 9)⟩,⟨some (6,true),some 11,.iop .eql (.tmp 10) (.const (.int .i64 0))⟩,⟨none,some 12,.pick (.tmp 6) (.tmp 11) (.const (.bool false))⟩])
 (.cond (.tmp 12)
 (.ops [⟨none,some 13,.mv (.tmp 0)⟩,⟨none,some 14,.mv (.tmp 1)⟩,⟨none,some 15,.nilc (.tmp 13)⟩,⟨none,some 16,.faddr 1 (.tmp 15)⟩,⟨none,none,.store1 (.tmp 16) (.tmp 14)⟩])
 .skip))
abbrev r169 : List RV:=[]
theorem F169 : FnOk Go.Proofs.Tryz.prog 169 17 c169 r169:=⟨_,Go.Proofs.Tryz.func169,by kernel_rfl,by kernel_rfl,by kernel_rfl,by kernel_rfl,by kernel_rfl⟩
noncomputable def c180 : CC:=(.seq (.ops [⟨none,some 1,.box 118 (.tmp 0)⟩,⟨none,some 2,.mv (.const (.string (.mk #[])))⟩])
 (.seq (.seq (.ops [⟨none,some 3,.faddr 0 (.tmp 1)⟩,⟨none,some 4,.load1 (.tmp 3)⟩,⟨none,some 5,.not (.tmp 4)⟩])
 (.cond (.tmp 5)
 (.seq (.draw 2 (opsOf (sub (bodyOf Go.Proofs.Tryz.f180) [1,0,1,0,0])) [⟨none,some 6,.call 182 [.const (.int .u8 1)]⟩,⟨none,some 7,.faddr 1 (.tmp 1)⟩,⟨none,some 8,.load1 (.tmp 7)⟩,⟨none,some 9,.call 124 [.tmp 8]⟩,⟨none,some 10,.sop .add (.tmp 6) (.tmp 9)⟩,⟨none,some 2,.mv (.tmp 10)⟩])
 .ret)
 .skip))
 (.seq (.draw 3 (opsOf (sub (bodyOf Go.Proofs.Tryz.f180) [1,1,0])) [⟨none,some 11,.call 182 [.const (.int .u8 2)]⟩,⟨none,some 12,.faddr 2 (.tmp 1)⟩,⟨none,some 13,.load1 (.tmp 12)⟩,⟨none,some 14,.call 213 [.tmp 13,.const (.string (.mk #[0])),.const (.string (.mk #[0,255]))]⟩,⟨none,some 15,.sop .add (.tmp 11) (.tmp 14)⟩,⟨none,some 16,.sop .add (.tmp 15) (.const (.string (.mk #[0,0])))⟩,⟨none,some 2,.mv (.tmp 16)⟩])
 .ret)))
abbrev r180 : List RV:=[(.tmp 2)]
theorem F180 : FnOk Go.Proofs.Tryz.prog 180 17 c180 r180:=⟨_,Go.Proofs.Tryz.func180,by kernel_rfl,by kernel_rfl,by kernel_rfl,by kernel_rfl,by kernel_rfl⟩
noncomputable def c181 : CC:=(.seq (.ops [⟨none,some 2,.box 33 (.tmp 0)⟩,⟨none,some 3,.mv (.const (.string (.mk #[])))⟩])
 (.seq (.draw 1 (opsOf (sub (bodyOf Go.Proofs.Tryz.f181) [1,0])) [⟨none,some 4,.call 182 [.const (.int .u8 1)]⟩,⟨none,some 5,.load1 (.tmp 1)⟩,⟨none,some 6,.loadN 5 (.tmp 2)⟩,⟨none,some 7,.callv (.tmp 5) [.tmp 6]⟩,⟨none,some 8,.sop .add (.tmp 4) (.tmp 7)⟩,⟨none,some 3,.mv (.tmp 8)⟩])
 .ret))
abbrev r181 : List RV:=[(.tmp 3)]
theorem F181 : FnOk Go.Proofs.Tryz.prog 181 9 c181 r181:=⟨_,Go.Proofs.Tryz.func181,by kernel_rfl,by kernel_rfl,by kernel_rfl,by kernel_rfl,by kernel_rfl⟩
noncomputable def c182 : CC:=(.seq (.ops [⟨none,some 2,.mv (.const (.string (.mk #[])))⟩])
 (.seq (.ops [⟨none,some 3,.mv (.tmp 0)⟩,⟨none,some 4,.conv .u64 (.tmp 3)⟩,⟨none,some 5,.call 184 [.tmp 4,.const (.int .i64 1)]⟩,⟨none,some 2,.mv (.tmp 5)⟩])
 .ret))
abbrev r182 : List RV:=[(.tmp 2)]
theorem F182 : FnOk Go.Proofs.Tryz.prog 182 6 c182 r182:=⟨_,Go.Proofs.Tryz.func182,by kernel_rfl,by kernel_rfl,by kernel_rfl,by kernel_rfl,by kernel_rfl⟩
noncomputable def c183 : CC:=(.seq (.ops [⟨none,some 3,.alloc 33 (.agg #[.string (.mk #[]),.int .u32 0,.int .u64 0,.int .u32 0,.string (.mk #[])])⟩])
 (.seq (.seq (.ops [⟨none,some 4,.mv (.tmp 0)⟩,⟨none,some 5,.call 167 [.tmp 4]⟩,⟨none,some 6,.iop .neq (.tmp 5) (.const (.int .u8 1))⟩])
 (.cond (.tmp 6)
 (.ops [⟨none,some 7,.mv (.tmp 0)⟩,⟨none,some 8,.call 169 [.tmp 7,.const (.int .i64 4)]⟩])
 .skip))
 (.seq (.ops [⟨none,some 9,.load1 (.tmp 1)⟩,⟨none,some 10,.mv (.tmp 0)⟩,⟨none,some 11,.callv (.tmp 9) [.tmp 10]⟩,⟨none,none,.storeN 5 (.tmp 3) (.tmp 11)⟩])
 .ret)))
abbrev r183 : List RV:=[(.cN 3 5)]
theorem F183 : FnOk Go.Proofs.Tryz.prog 183 12 c183 r183:=⟨_,Go.Proofs.Tryz.func183,by kernel_rfl,by kernel_rfl,by kernel_rfl,by kernel_rfl,by kernel_rfl⟩
noncomputable def c184 : CC:=(.seq (.ops [⟨none,some 4,.mv (.const (.string (.mk #[])))⟩])
 (.seq (.ops [⟨none,some 5,.alloc 288 (.agg #[.int .u8 0,.int .u8 0,.int .u8 0,.int .u8 0,.int .u8 0,.int .u8 0,.int .u8 0,.int .u8 0])⟩])
 (.seq (.seq (.ops [⟨none,some 7,.mv (.const (.int .i64 0))⟩])
 (.block 0
 (.loop
 (.seq (.ops [⟨none,some 8,.iop .lss (.tmp 7) (.const (.int .i64 8))⟩])
 (.seq (.cond (.tmp 8)
 .skip
 (.exit 0))
 (.seq (.block 1
 (.seq (.ops [⟨none,some 9,.mv (.tmp 7)⟩,⟨none,some 6,.mv (.tmp 9)⟩])
 (.ops [⟨none,some 10,.mv (.tmp 6)⟩,⟨none,some 11,.mv (.tmp 0)⟩,⟨none,some 12,.mv (.tmp 6)⟩,⟨none,some 13,.iop .sub (.const (.int .i64 7)) (.tmp 12)⟩,⟨none,some 14,.iop .mul (.const (.int .i64 8)) (.tmp 13)⟩,⟨none,some 15,.iop .shr (.tmp 11) (.tmp 14)⟩,⟨none,some 16,.conv .u8 (.tmp 15)⟩,⟨none,some 17,.iaddrA 8 1 (.tmp 5) (.tmp 10)⟩,⟨none,none,.store1 (.tmp 17) (.tmp 16)⟩])))
 (.ops [⟨none,some 18,.iop .add (.tmp 7) (.const (.int .i64 1))⟩,⟨none,some 7,.mv (.tmp 18)⟩])))))))
 (.seq (.ops [⟨none,some 19,.mv (.tmp 1)⟩,⟨none,some 20,.iop .sub (.const (.int .i64 8)) (.tmp 19)⟩,⟨none,some 21,.slA 8 1 (.tmp 5) (some (.tmp 20)) none⟩,⟨none,some 22,.raw 23 (.mk (some 22) (.convert 110 9 (.tmp 21)) 9 "octet.go:22" #[.mk 2 .data] none)⟩,⟨none,some 4,.mv (.tmp 22)⟩])
 .ret))))
abbrev r184 : List RV:=[(.tmp 4)]
theorem F184 : FnOk Go.Proofs.Tryz.prog 184 23 c184 r184:=⟨_,Go.Proofs.Tryz.func184,by kernel_rfl,by kernel_rfl,by kernel_rfl,by kernel_rfl,by kernel_rfl⟩
noncomputable def c185 : CC:=(.seq (.ops [⟨none,some 3,.mv (.const (.string (.mk #[])))⟩])
 (.seq (.draw 1 (opsOf (sub (bodyOf Go.Proofs.Tryz.f185) [1,0])) [⟨none,some 4,.call 182 [.const (.int .u8 1)]⟩,⟨none,some 5,.load1 (.tmp 1)⟩,⟨none,some 6,.mv (.tmp 0)⟩,⟨none,some 7,.callv (.tmp 5) [.tmp 6]⟩,⟨none,some 8,.sop .add (.tmp 4) (.tmp 7)⟩,⟨none,some 3,.mv (.tmp 8)⟩])
 .ret))
abbrev r185 : List RV:=[(.tmp 3)]
theorem F185 : FnOk Go.Proofs.Tryz.prog 185 9 c185 r185:=⟨_,Go.Proofs.Tryz.func185,by kernel_rfl,by kernel_rfl,by kernel_rfl,by kernel_rfl,by kernel_rfl⟩
noncomputable def c186 : CC:=(.seq (.ops [⟨none,some 3,.mv (.const (.int .u64 0))⟩])
 (.seq (.seq (.ops [⟨none,some 4,.mv (.tmp 0)⟩,⟨none,some 5,.call 167 [.tmp 4]⟩,⟨none,some 6,.iop .neq (.tmp 5) (.const (.int .u8 1))⟩])
 (.cond (.tmp 6)
 (.ops [⟨none,some 7,.mv (.tmp 0)⟩,⟨none,some 8,.call 169 [.tmp 7,.const (.int .i64 4)]⟩])
 .skip))
 (.seq (.ops [⟨none,some 9,.load1 (.tmp 1)⟩,⟨none,some 10,.mv (.tmp 0)⟩,⟨none,some 11,.callv (.tmp 9) [.tmp 10]⟩,⟨none,some 3,.mv (.tmp 11)⟩])
 .ret)))
abbrev r186 : List RV:=[(.tmp 3)]
theorem F186 : FnOk Go.Proofs.Tryz.prog 186 12 c186 r186:=⟨_,Go.Proofs.Tryz.func186,by kernel_rfl,by kernel_rfl,by kernel_rfl,by kernel_rfl,by kernel_rfl⟩
noncomputable def c286 : CC:=(.seq (.ops [⟨none,some 4,.mv (.const (.string (.mk #[])))⟩,⟨none,some 5,.mv (.const (.bool false))⟩,⟨none,some 6,.mv (.const (.int .i64 0))⟩])
 (.seq (.ops [⟨none,some 10,.mv (.tmp 0)⟩,⟨none,some 11,.nilc (.tmp 10)⟩,⟨none,some 12,.faddr 0 (.tmp 11)⟩,⟨none,some 13,.load1 (.tmp 12)⟩,⟨none,some 14,.mv (.tmp 1)⟩,⟨none,some 15,.raw 20 (.mk (some 15) (.lookup 121 (.tmp 13) (.tmp 14) true) 238 "registry.go:45" #[.mk 3 .data,.mk 4 .data] none)⟩,⟨none,some 9,.mv (.tmp 15)⟩,⟨none,some 16,.ext (.tmp 9) 0⟩,⟨none,some 17,.ext (.tmp 9) 1⟩,⟨none,some 7,.mv (.tmp 16)⟩,⟨none,some 8,.mv (.tmp 17)⟩])
 (.seq (.ops [⟨none,some 18,.mv (.tmp 7)⟩,⟨none,some 19,.mv (.tmp 8)⟩,⟨none,some 4,.mv (.tmp 18)⟩,⟨none,some 5,.mv (.tmp 19)⟩,⟨none,some 6,.mv (.const (.int .i64 0))⟩])
 .ret)))
abbrev r286 : List RV:=[(.tmp 4),(.tmp 5),(.tmp 6)]
theorem F286 : FnOk Go.Proofs.Tryz.prog 286 20 c286 r286:=⟨_,Go.Proofs.Tryz.func286,by kernel_rfl,by kernel_rfl,by kernel_rfl,by kernel_rfl,by kernel_rfl⟩
end Go.VrA
