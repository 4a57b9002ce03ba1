import Derived.Test.YtpggpopbkmgodaaGreatDoorProg
import Derived.Test.YtpggpopbkmgodaaGreatDoorVcI
set_option linter.unusedSimpArgs false
set_option linter.unusedVariables false
set_option linter.unusedSectionVars false
set_option linter.unnecessarySimpa false
namespace Go.VrA
open Go Go.Vc
set_option maxRecDepth 100000
noncomputable def c138 : CC:=(.seq (.ops [⟨none,some 0,.mv (.const (.bool false))⟩])
 (.seq (.ops [⟨none,some 5,.call 72 [.const (.slice none 0 0)]⟩,⟨none,some 1,.mv (.tmp 5)⟩])
 (.seq (.seq (.ops [⟨none,some 6,.mv (.tmp 1)⟩,⟨none,some 7,.pnil 0 false (.tmp 6)⟩])
 (.cond (.tmp 7)
 (.seq (.ops [⟨none,some 0,.mv (.const (.bool false))⟩])
 .ret)
 .skip))
 (.seq (.ops [⟨none,some 8,.mv (.tmp 1)⟩,⟨none,some 9,.mkI 134 (.tmp 8)⟩,⟨none,some 10,.build [.string (.mk #[]),.int .u32 0,.int .u64 0,.int .u32 0,.string (.mk #[])] [(0,(1,.const (.string (.mk #[97]))))]⟩,⟨none,some 11,.call 98 [.tmp 9,.tmp 10]⟩,⟨none,some 2,.mv (.tmp 11)⟩])
 (.seq (.ops [⟨none,some 13,.mv (.tmp 1)⟩,⟨none,some 14,.mkI 134 (.tmp 13)⟩,⟨none,some 15,.call 168 [.tmp 14,.const (.string (.mk #[])),.const (.string (.mk #[97]))]⟩,⟨none,some 12,.mv (.tmp 15)⟩,⟨none,some 16,.ext (.tmp 12) 0⟩,⟨none,some 17,.ext (.tmp 12) 1⟩,⟨none,some 3,.mv (.tmp 16)⟩,⟨none,some 4,.mv (.tmp 17)⟩])
 (.seq (.ops [⟨none,some 18,.mv (.tmp 2)⟩,⟨none,some 19,.iop .eql (.tmp 18) (.const (.int .i64 0))⟩,⟨none,some 20,.mv (.tmp 19)⟩,⟨some (20,true),some 21,.mv (.tmp 4)⟩,⟨some (20,true),some 22,.iop .eql (.tmp 21) (.const (.int .i64 0))⟩,⟨none,some 23,.pick (.tmp 20) (.tmp 22) (.const (.bool false))⟩,⟨none,some 24,.mv (.tmp 23)⟩,⟨some (24,true),some 25,.mv (.tmp 3)⟩,⟨some (24,true),some 26,.lenL (.tmp 25)⟩,⟨some (24,true),some 27,.iop .eql (.tmp 26) (.const (.int .i64 1))⟩,⟨none,some 28,.pick (.tmp 24) (.tmp 27) (.const (.bool false))⟩,⟨none,some 29,.mv (.tmp 28)⟩,⟨some (29,true),some 30,.mv (.tmp 3)⟩,⟨some (29,true),some 31,.iaddr 1 (.tmp 30) (.const (.int .i64 0))⟩,⟨some (29,true),some 32,.load1 (.tmp 31)⟩,⟨some (29,true),some 33,.sop .eql (.tmp 32) (.const (.string (.mk #[97])))⟩,⟨none,some 34,.pick (.tmp 29) (.tmp 33) (.const (.bool false))⟩,⟨none,some 0,.mv (.tmp 34)⟩])
 .ret))))))
abbrev r138 : List RV:=[(.tmp 0)]
theorem F138 : FnOk Go.Proofs.Tryz.prog 138 35 c138 r138:=⟨_,Go.Proofs.Tryz.func138,by kernel_rfl,by kernel_rfl,by kernel_rfl,by kernel_rfl,by kernel_rfl⟩
noncomputable def c162 : CC:=(.seq (.ops [⟨none,some 2,.mv (.const (.string (.mk #[])))⟩,⟨none,some 3,.mv (.const (.int .i64 0))⟩])
 (.seq (.ops [⟨none,some 4,.mv (.tmp 0)⟩,⟨none,some 5,.call 220 [.tmp 4]⟩,⟨none,some 6,.buildS 220 1 [.bool false,.int .u64 0,.string (.mk #[])] [(0,(3,.tmp 5))]⟩,⟨none,some 7,.call 202 [.const (.string (.mk #[113])),.tmp 6]⟩,⟨none,some 8,.ext (.tmp 7) 0⟩,⟨none,some 9,.ext (.tmp 7) 1⟩,⟨none,some 2,.mv (.tmp 8)⟩,⟨none,some 3,.mv (.tmp 9)⟩])
 .ret))
abbrev r162 : List RV:=[(.tmp 2),(.tmp 3)]
theorem F162 : FnOk Go.Proofs.Tryz.prog 162 10 c162 r162:=⟨_,Go.Proofs.Tryz.func162,by kernel_rfl,by kernel_rfl,by kernel_rfl,by kernel_rfl,by kernel_rfl⟩
noncomputable def c281 : CC:=(.seq (.ops [⟨none,some 2,.mv (.const (.string (.mk #[])))⟩,⟨none,some 3,.mv (.const (.int .i64 0))⟩])
 (.seq (.ops [⟨none,some 4,.mv (.tmp 0)⟩,⟨none,some 5,.call 220 [.tmp 4]⟩,⟨none,some 6,.buildS 220 1 [.bool false,.int .u64 0,.string (.mk #[])] [(0,(3,.tmp 5))]⟩,⟨none,some 7,.call 202 [.const (.string (.mk #[99])),.tmp 6]⟩,⟨none,some 8,.ext (.tmp 7) 0⟩,⟨none,some 9,.ext (.tmp 7) 1⟩,⟨none,some 2,.mv (.tmp 8)⟩,⟨none,some 3,.mv (.tmp 9)⟩])
 .ret))
abbrev r281 : List RV:=[(.tmp 2),(.tmp 3)]
theorem F281 : FnOk Go.Proofs.Tryz.prog 281 10 c281 r281:=⟨_,Go.Proofs.Tryz.func281,by kernel_rfl,by kernel_rfl,by kernel_rfl,by kernel_rfl,by kernel_rfl⟩
noncomputable def c72 : CC:=(.seq (.ops [⟨none,some 2,.mv (.const (.pointer none))⟩])
 (.seq (.ops [⟨none,some 6,.raw 25 (.mk (some 6) (.makeMap 172 none) 172 "registry.go:36" #[] none)⟩,⟨none,some 7,.build [.map none] [(0,(1,.tmp 6))]⟩,⟨none,some 8,.box 174 (.tmp 7)⟩,⟨none,some 3,.mv (.tmp 8)⟩])
 (.seq (.seq (.ops [⟨none,some 9,.mv (.tmp 0)⟩,⟨none,some 10,.lenL (.tmp 9)⟩,⟨none,some 11,.mv (.const (.int .i64 0))⟩])
 (.block 0
 (.loop
 (.seq (.ops [⟨none,some 12,.iop .lss (.tmp 11) (.tmp 10)⟩])
 (.seq (.cond (.tmp 12)
 .skip
 (.exit 0))
 (.seq (.block 1
 (.seq (.ops [⟨none,some 13,.iaddr 2 (.tmp 9) (.tmp 11)⟩,⟨none,some 14,.loadN 2 (.tmp 13)⟩,⟨none,some 5,.alloc 176 (.agg #[.string (.mk #[]),.string (.mk #[])])⟩,⟨none,none,.storeN 2 (.tmp 5) (.tmp 14)⟩])
 (.draw 5 (opsOf (sub (bodyOf Go.Proofs.Tryz.f72) [1,1,0,1,0,0,1,1,0,0,1])) [⟨none,some 15,.mv (.tmp 3)⟩,⟨none,some 16,.nilc (.tmp 15)⟩,⟨none,some 17,.faddr 0 (.tmp 16)⟩,⟨none,some 18,.load1 (.tmp 17)⟩,⟨none,some 19,.faddr 0 (.tmp 5)⟩,⟨none,some 20,.load1 (.tmp 19)⟩,⟨none,some 21,.faddr 1 (.tmp 5)⟩,⟨none,some 22,.load1 (.tmp 21)⟩,⟨none,none,.raw 25 (.mk none (.mapUpdate 172 (.tmp 18) (.tmp 20) (.tmp 22)) 0 "registry.go:38" #[.mk 3 .data,.mk 5 .data,.mk 7 .data,.mk 0 .phase,.mk 1 .phase,.mk 2 .phase,.mk 3 .phase,.mk 4 .phase,.mk 5 .phase,.mk 6 .phase,.mk 7 .phase] none)⟩])))
 (.ops [⟨none,some 23,.iop .add (.tmp 11) (.const (.int .i64 1))⟩,⟨none,some 11,.mv (.tmp 23)⟩])))))))
 (.seq (.ops [⟨none,some 24,.mv (.tmp 3)⟩,⟨none,some 2,.mv (.tmp 24)⟩])
 .ret))))
abbrev r72 : List RV:=[(.tmp 2)]
theorem F72 : FnOk Go.Proofs.Tryz.prog 72 25 c72 r72:=⟨_,Go.Proofs.Tryz.func72,by kernel_rfl,by kernel_rfl,by kernel_rfl,by kernel_rfl,by kernel_rfl⟩
noncomputable def c104 : CC:=(.seq (.ops [⟨none,some 4,.alloc 121 (.agg #[.string (.mk #[]),.int .u32 0,.int .u64 0,.int .u32 0,.string (.mk #[])])⟩,⟨none,some 5,.mv (.const (.int .i64 0))⟩])
 (.seq (.ops [⟨none,some 11,.mv (.tmp 1)⟩,⟨none,some 12,.call 162 [.tmp 11]⟩,⟨none,some 10,.mv (.tmp 12)⟩,⟨none,some 13,.ext (.tmp 10) 0⟩,⟨none,some 14,.ext (.tmp 10) 1⟩,⟨none,some 6,.mv (.tmp 13)⟩,⟨none,some 7,.mv (.tmp 14)⟩])
 (.seq (.seq (.ops [⟨none,some 15,.mv (.tmp 7)⟩,⟨none,some 16,.iop .neq (.tmp 15) (.const (.int .i64 0))⟩])
 (.cond (.tmp 16)
 (.seq (.ops [⟨none,some 17,.build [.string (.mk #[]),.int .u32 0,.int .u64 0,.int .u32 0,.string (.mk #[])] []⟩,⟨none,none,.storeN 5 (.tmp 4) (.tmp 17)⟩,⟨none,some 5,.mv (.const (.int .i64 21))⟩])
 .ret)
 .skip))
 (.seq (.ops [⟨none,some 19,.mv (.tmp 0)⟩,⟨none,some 20,.mv (.tmp 6)⟩,⟨none,some 21,.inv (.tmp 19) "Get" [.tmp 20]⟩,⟨none,some 18,.mv (.tmp 21)⟩,⟨none,some 22,.ext (.tmp 18) 0⟩,⟨none,some 23,.ext (.tmp 18) 1⟩,⟨none,some 24,.ext (.tmp 18) 2⟩,⟨none,some 8,.mv (.tmp 22)⟩,⟨none,some 9,.mv (.tmp 23)⟩,⟨none,some 7,.mv (.tmp 24)⟩])
 (.seq (.block 0
 (.seq (.ops [⟨none,some 26,.mv (.tmp 7)⟩,⟨none,some 27,.iop .neq (.tmp 26) (.const (.int .i64 0))⟩,⟨none,some 25,.mv (.tmp 27)⟩])
 (.cond (.tmp 25)
 (.seq (.ops [⟨none,some 28,.build [.string (.mk #[]),.int .u32 0,.int .u64 0,.int .u32 0,.string (.mk #[])] []⟩,⟨none,some 29,.mv (.tmp 7)⟩,⟨none,none,.storeN 5 (.tmp 4) (.tmp 28)⟩,⟨none,some 5,.mv (.tmp 29)⟩])
 .ret)
 (.seq (.ops [⟨none,some 31,.mv (.tmp 9)⟩,⟨none,some 32,.not (.tmp 31)⟩,⟨none,some 30,.mv (.tmp 32)⟩])
 (.cond (.tmp 30)
 (.seq (.ops [⟨none,some 33,.build [.string (.mk #[]),.int .u32 0,.int .u64 0,.int .u32 0,.string (.mk #[])] []⟩,⟨none,none,.storeN 5 (.tmp 4) (.tmp 33)⟩,⟨none,some 5,.mv (.const (.int .i64 21))⟩])
 .ret)
 .skip)))))
 (.seq (.ops [⟨none,some 34,.mv (.tmp 1)⟩,⟨none,some 35,.call 163 [.tmp 34]⟩,⟨none,some 36,.mv (.tmp 8)⟩,⟨none,some 37,.call 175 [.tmp 35,.tmp 36]⟩,⟨none,some 38,.ext (.tmp 37) 0⟩,⟨none,some 39,.ext (.tmp 37) 1⟩,⟨none,none,.storeN 5 (.tmp 4) (.tmp 38)⟩,⟨none,some 5,.mv (.tmp 39)⟩])
 .ret))))))
abbrev r104 : List RV:=[(.cN 4 5),(.tmp 5)]
theorem F104 : FnOk Go.Proofs.Tryz.prog 104 40 c104 r104:=⟨_,Go.Proofs.Tryz.func104,by kernel_rfl,by kernel_rfl,by kernel_rfl,by kernel_rfl,by kernel_rfl⟩
noncomputable def c235 : CC:=(.seq (.ops [⟨none,some 4,.mv (.const (.int .u64 0))⟩,⟨none,some 5,.mv (.const (.int .i64 0))⟩])
 (.seq (.ops [⟨none,some 13,.mv (.tmp 1)⟩,⟨none,some 14,.call 281 [.tmp 13]⟩,⟨none,some 12,.mv (.tmp 14)⟩,⟨none,some 15,.ext (.tmp 12) 0⟩,⟨none,some 16,.ext (.tmp 12) 1⟩,⟨none,some 6,.mv (.tmp 15)⟩,⟨none,some 7,.mv (.tmp 16)⟩])
 (.seq (.seq (.ops [⟨none,some 17,.mv (.tmp 7)⟩,⟨none,some 18,.iop .neq (.tmp 17) (.const (.int .i64 0))⟩])
 (.cond (.tmp 18)
 (.seq (.ops [⟨none,some 19,.mv (.tmp 7)⟩,⟨none,some 4,.mv (.const (.int .u64 0))⟩,⟨none,some 5,.mv (.tmp 19)⟩])
 .ret)
 .skip))
 (.seq (.ops [⟨none,some 21,.mv (.tmp 0)⟩,⟨none,some 22,.mv (.tmp 6)⟩,⟨none,some 23,.inv (.tmp 21) "Get" [.tmp 22]⟩,⟨none,some 20,.mv (.tmp 23)⟩,⟨none,some 24,.ext (.tmp 20) 0⟩,⟨none,some 25,.ext (.tmp 20) 1⟩,⟨none,some 26,.ext (.tmp 20) 2⟩,⟨none,some 8,.mv (.tmp 24)⟩,⟨none,some 9,.mv (.tmp 25)⟩,⟨none,some 7,.mv (.tmp 26)⟩])
 (.seq (.seq (.ops [⟨none,some 27,.mv (.tmp 7)⟩,⟨none,some 28,.iop .neq (.tmp 27) (.const (.int .i64 0))⟩])
 (.cond (.tmp 28)
 (.seq (.ops [⟨none,some 29,.mv (.tmp 7)⟩,⟨none,some 4,.mv (.const (.int .u64 0))⟩,⟨none,some 5,.mv (.tmp 29)⟩])
 .ret)
 .skip))
 (.seq (.ops [⟨none,some 10,.mv (.const (.int .u64 0))⟩])
 (.seq (.seq (.ops [⟨none,some 30,.mv (.tmp 9)⟩])
 (.cond (.tmp 30)
 (.seq (.ops [⟨none,some 32,.call 282 []⟩,⟨none,some 33,.mv (.tmp 8)⟩,⟨none,some 34,.call 283 [.tmp 32,.tmp 33]⟩,⟨none,some 31,.mv (.tmp 34)⟩,⟨none,some 35,.ext (.tmp 31) 0⟩,⟨none,some 36,.ext (.tmp 31) 1⟩,⟨none,some 10,.mv (.tmp 35)⟩,⟨none,some 7,.mv (.tmp 36)⟩])
 (.seq (.ops [⟨none,some 37,.mv (.tmp 7)⟩,⟨none,some 38,.iop .neq (.tmp 37) (.const (.int .i64 0))⟩])
 (.cond (.tmp 38)
 (.seq (.ops [⟨none,some 39,.mv (.tmp 7)⟩,⟨none,some 4,.mv (.const (.int .u64 0))⟩,⟨none,some 5,.mv (.tmp 39)⟩])
 .ret)
 .skip)))
 .skip))
 (.seq (.seq (.ops [⟨none,some 40,.mv (.tmp 10)⟩,⟨none,some 41,.iop .eql (.tmp 40) (.const (.int .u64 18446744073709551615))⟩])
 (.cond (.tmp 41)
 (.seq (.ops [⟨none,some 4,.mv (.const (.int .u64 0))⟩,⟨none,some 5,.mv (.const (.int .i64 8))⟩])
 .ret)
 .skip))
 (.seq (.seq (.draw 14 (opsOf (sub (bodyOf Go.Proofs.Tryz.f235) [1,1,1,1,1,1,1,1,0,0])) [⟨none,some 42,.mv (.tmp 0)⟩,⟨none,some 43,.mv (.tmp 6)⟩,⟨none,some 44,.call 282 []⟩,⟨none,some 45,.mv (.tmp 10)⟩,⟨none,some 46,.iop .add (.tmp 45) (.const (.int .u64 1))⟩,⟨none,some 47,.call 284 [.tmp 44,.tmp 46]⟩,⟨none,some 48,.mkF (.method "Put") [.tmp 42] []⟩,⟨none,some 49,.nilc (.tmp 48)⟩,⟨none,some 50,.mv (.tmp 42)⟩,⟨none,some 51,.inv (.tmp 50) "Put" [.tmp 43,.tmp 47]⟩,⟨none,some 11,.mv (.tmp 51)⟩])
 (.seq (.ops [⟨none,some 52,.mv (.tmp 11)⟩,⟨none,some 53,.iop .neq (.tmp 52) (.const (.int .i64 0))⟩])
 (.cond (.tmp 53)
 (.seq (.ops [⟨none,some 54,.mv (.tmp 11)⟩,⟨none,some 4,.mv (.const (.int .u64 0))⟩,⟨none,some 5,.mv (.tmp 54)⟩])
 .ret)
 .skip)))
 (.seq (.ops [⟨none,some 55,.mv (.tmp 10)⟩,⟨none,some 56,.iop .add (.tmp 55) (.const (.int .u64 1))⟩,⟨none,some 4,.mv (.tmp 56)⟩,⟨none,some 5,.mv (.const (.int .i64 0))⟩])
 .ret))))))))))
abbrev r235 : List RV:=[(.tmp 4),(.tmp 5)]
theorem F235 : FnOk Go.Proofs.Tryz.prog 235 57 c235 r235:=⟨_,Go.Proofs.Tryz.func235,by kernel_rfl,by kernel_rfl,by kernel_rfl,by kernel_rfl,by kernel_rfl⟩
noncomputable def c98 : CC:=(.seq (.ops [⟨none,some 3,.box 121 (.tmp 1)⟩,⟨none,some 4,.mv (.const (.int .i64 0))⟩])
 (.seq (.block 0
 (.seq (.ops [⟨none,some 12,.faddr 0 (.tmp 3)⟩,⟨none,some 13,.load1 (.tmp 12)⟩,⟨none,some 14,.call 161 [.tmp 13]⟩,⟨none,some 15,.not (.tmp 14)⟩,⟨none,some 16,.mv (.tmp 15)⟩,⟨some (16,false),some 17,.faddr 4 (.tmp 3)⟩,⟨some (16,false),some 18,.load1 (.tmp 17)⟩,⟨some (16,false),some 19,.sop .neq (.tmp 18) (.const (.string (.mk #[])))⟩,⟨some (16,false),some 20,.mv (.tmp 19)⟩,⟨some (20,true),some 21,.faddr 4 (.tmp 3)⟩,⟨some (20,true),some 22,.load1 (.tmp 21)⟩,⟨some (20,true),some 23,.call 161 [.tmp 22]⟩,⟨some (20,true),some 24,.not (.tmp 23)⟩,⟨some (16,false),some 25,.pick (.tmp 20) (.tmp 24) (.const (.bool false))⟩,⟨none,some 26,.pick (.tmp 16) (.const (.bool true)) (.tmp 25)⟩,⟨none,some 11,.mv (.tmp 26)⟩])
 (.cond (.tmp 11)
 (.seq (.ops [⟨none,some 4,.mv (.const (.int .i64 23))⟩])
 .ret)
 (.seq (.ops [⟨none,some 28,.faddr 4 (.tmp 3)⟩,⟨none,some 29,.load1 (.tmp 28)⟩,⟨none,some 30,.faddr 0 (.tmp 3)⟩,⟨none,some 31,.load1 (.tmp 30)⟩,⟨none,some 32,.sop .eql (.tmp 29) (.tmp 31)⟩,⟨none,some 27,.mv (.tmp 32)⟩])
 (.cond (.tmp 27)
 (.seq (.ops [⟨none,some 4,.mv (.const (.int .i64 2))⟩])
 .ret)
 (.seq (.ops [⟨none,some 34,.faddr 2 (.tmp 3)⟩,⟨none,some 35,.load1 (.tmp 34)⟩,⟨none,some 36,.iop .gtr (.tmp 35) (.const (.int .u64 1099511627776))⟩,⟨none,some 33,.mv (.tmp 36)⟩])
 (.cond (.tmp 33)
 (.seq (.ops [⟨none,some 4,.mv (.const (.int .i64 29))⟩])
 .ret)
 .skip)))))))
 (.seq (.seq (.ops [⟨none,some 38,.mv (.tmp 0)⟩,⟨none,some 39,.faddr 0 (.tmp 3)⟩,⟨none,some 40,.load1 (.tmp 39)⟩,⟨none,some 41,.call 104 [.tmp 38,.tmp 40]⟩,⟨none,some 37,.mv (.tmp 41)⟩,⟨none,some 42,.ext (.tmp 37) 0⟩,⟨none,some 43,.ext (.tmp 37) 1⟩,⟨none,some 5,.alloc 121 (.agg #[.string (.mk #[]),.int .u32 0,.int .u64 0,.int .u32 0,.string (.mk #[])])⟩,⟨none,none,.storeN 5 (.tmp 5) (.tmp 42)⟩,⟨none,some 6,.mv (.tmp 43)⟩])
 (.seq (.ops [⟨none,some 44,.mv (.tmp 6)⟩])
 (.block 1
 (.seq (.ops [⟨none,some 47,.iop .eql (.tmp 44) (.const (.int .i64 0))⟩,⟨none,some 46,.mv (.tmp 47)⟩])
 (.cond (.tmp 46)
 (.seq (.ops [⟨none,some 4,.mv (.const (.int .i64 22))⟩])
 .ret)
 (.seq (.ops [⟨none,some 49,.iop .eql (.tmp 44) (.const (.int .i64 21))⟩,⟨none,some 48,.mv (.tmp 49)⟩])
 (.cond (.tmp 48)
 .skip
 (.seq (.ops [⟨none,some 45,.mv (.tmp 6)⟩,⟨none,some 4,.mv (.tmp 45)⟩])
 .ret))))))))
 (.seq (.seq (.ops [⟨none,some 50,.faddr 4 (.tmp 3)⟩,⟨none,some 51,.load1 (.tmp 50)⟩,⟨none,some 52,.sop .neq (.tmp 51) (.const (.string (.mk #[])))⟩])
 (.cond (.tmp 52)
 (.seq (.ops [⟨none,some 54,.mv (.tmp 0)⟩,⟨none,some 55,.faddr 4 (.tmp 3)⟩,⟨none,some 56,.load1 (.tmp 55)⟩,⟨none,some 57,.call 104 [.tmp 54,.tmp 56]⟩,⟨none,some 53,.mv (.tmp 57)⟩,⟨none,some 58,.ext (.tmp 53) 0⟩,⟨none,some 59,.ext (.tmp 53) 1⟩,⟨none,some 7,.alloc 121 (.agg #[.string (.mk #[]),.int .u32 0,.int .u64 0,.int .u32 0,.string (.mk #[])])⟩,⟨none,none,.storeN 5 (.tmp 7) (.tmp 58)⟩,⟨none,some 8,.mv (.tmp 59)⟩])
 (.seq (.ops [⟨none,some 60,.mv (.tmp 8)⟩,⟨none,some 61,.iop .neq (.tmp 60) (.const (.int .i64 0))⟩])
 (.cond (.tmp 61)
 (.seq (.ops [⟨none,some 62,.mv (.tmp 8)⟩,⟨none,some 4,.mv (.tmp 62)⟩])
 .ret)
 .skip)))
 .skip))
 (.seq (.ops [⟨none,some 64,.faddr 0 (.tmp 3)⟩,⟨none,some 65,.load1 (.tmp 64)⟩,⟨none,some 66,.call 162 [.tmp 65]⟩,⟨none,some 63,.mv (.tmp 66)⟩,⟨none,some 67,.ext (.tmp 63) 0⟩,⟨none,some 68,.ext (.tmp 63) 1⟩,⟨none,some 9,.mv (.tmp 67)⟩,⟨none,some 10,.mv (.tmp 68)⟩])
 (.seq (.draw 18 (opsOf (sub (bodyOf Go.Proofs.Tryz.f98) [1,1,1,1,1,0])) [⟨none,some 69,.mv (.tmp 0)⟩,⟨none,some 70,.mv (.tmp 9)⟩,⟨none,some 71,.faddr 0 (.tmp 3)⟩,⟨none,some 72,.load1 (.tmp 71)⟩,⟨none,some 73,.call 163 [.tmp 72]⟩,⟨none,some 74,.loadN 5 (.tmp 3)⟩,⟨none,some 75,.call 164 [.tmp 73,.tmp 74]⟩,⟨none,some 76,.mkF (.method "Put") [.tmp 69] []⟩,⟨none,some 77,.nilc (.tmp 76)⟩,⟨none,some 78,.mv (.tmp 69)⟩,⟨none,some 79,.inv (.tmp 78) "Put" [.tmp 70,.tmp 75]⟩,⟨none,some 4,.mv (.tmp 79)⟩])
 .ret))))))
abbrev r98 : List RV:=[(.tmp 4)]
theorem F98 : FnOk Go.Proofs.Tryz.prog 98 80 c98 r98:=⟨_,Go.Proofs.Tryz.func98,by kernel_rfl,by kernel_rfl,by kernel_rfl,by kernel_rfl,by kernel_rfl⟩
noncomputable def c214 : CC:=(.seq (.ops [⟨none,some 2,.mv (.const (.pointer none))⟩])
 (.seq (.ops [⟨none,some 3,.mv (.tmp 0)⟩,⟨none,some 4,.build [.string (.mk #[]),.int .i64 0] [(0,(1,.tmp 3))]⟩,⟨none,some 5,.box 359 (.tmp 4)⟩,⟨none,some 2,.mv (.tmp 5)⟩])
 .ret))
abbrev r214 : List RV:=[(.tmp 2)]
theorem F214 : FnOk Go.Proofs.Tryz.prog 214 6 c214 r214:=⟨_,Go.Proofs.Tryz.func214,by kernel_rfl,by kernel_rfl,by kernel_rfl,by kernel_rfl,by kernel_rfl⟩
noncomputable def c269 : CC:=(.seq (.ops [⟨none,some 4,.mv (.const (.string (.mk #[])))⟩])
 (.seq (.seq (.ops [⟨none,some 6,.mv (.tmp 0)⟩,⟨none,some 7,.pnil 0 false (.tmp 6)⟩,⟨none,some 8,.mv (.tmp 7)⟩,⟨some (8,false),some 9,.mv (.tmp 0)⟩,⟨some (8,false),some 10,.nilc (.tmp 9)⟩,⟨some (8,false),some 11,.faddr 1 (.tmp 10)⟩,⟨some (8,false),some 12,.load1 (.tmp 11)⟩,⟨some (8,false),some 13,.iop .neq (.tmp 12) (.const (.int .i64 0))⟩,⟨none,some 14,.pick (.tmp 8) (.const (.bool true)) (.tmp 13)⟩])
 (.cond (.tmp 14)
 (.seq (.ops [⟨none,some 4,.mv (.const (.string (.mk #[])))⟩])
 .ret)
 .skip))
 (.seq (.seq (.ops [⟨none,some 15,.mv (.tmp 1)⟩,⟨none,some 16,.iop .lss (.tmp 15) (.const (.int .i64 0))⟩,⟨none,some 17,.mv (.tmp 16)⟩,⟨some (17,false),some 18,.mv (.tmp 1)⟩,⟨some (17,false),some 19,.mv (.tmp 0)⟩,⟨some (17,false),some 20,.nilc (.tmp 19)⟩,⟨some (17,false),some 21,.faddr 0 (.tmp 20)⟩,⟨some (17,false),some 22,.load1 (.tmp 21)⟩,⟨some (17,false),some 23,.lenS (.tmp 22)⟩,⟨some (17,false),some 24,.iop .gtr (.tmp 18) (.tmp 23)⟩,⟨none,some 25,.pick (.tmp 17) (.const (.bool true)) (.tmp 24)⟩])
 (.cond (.tmp 25)
 (.seq (.ops [⟨none,some 26,.mv (.tmp 0)⟩,⟨none,some 27,.nilc (.tmp 26)⟩,⟨none,some 28,.faddr 1 (.tmp 27)⟩,⟨none,none,.store1 (.tmp 28) (.const (.int .i64 3))⟩])
 (.seq (.ops [⟨none,some 4,.mv (.const (.string (.mk #[])))⟩])
 .ret))
 .skip))
 (.seq (.ops [⟨none,some 29,.mv (.tmp 0)⟩,⟨none,some 30,.nilc (.tmp 29)⟩,⟨none,some 31,.faddr 0 (.tmp 30)⟩,⟨none,some 32,.load1 (.tmp 31)⟩,⟨none,some 33,.mv (.tmp 1)⟩,⟨none,some 34,.slS (.tmp 32) none (some (.tmp 33))⟩,⟨none,some 5,.mv (.tmp 34)⟩])
 (.seq (.ops [⟨none,some 35,.mv (.tmp 0)⟩,⟨none,some 36,.mv (.tmp 0)⟩,⟨none,some 37,.nilc (.tmp 36)⟩,⟨none,some 38,.faddr 0 (.tmp 37)⟩,⟨none,some 39,.load1 (.tmp 38)⟩,⟨none,some 40,.mv (.tmp 1)⟩,⟨none,some 41,.slS (.tmp 39) (some (.tmp 40)) none⟩,⟨none,some 42,.nilc (.tmp 35)⟩,⟨none,some 43,.faddr 0 (.tmp 42)⟩,⟨none,none,.store1 (.tmp 43) (.tmp 41)⟩])
 (.seq (.ops [⟨none,some 44,.mv (.tmp 5)⟩,⟨none,some 4,.mv (.tmp 44)⟩])
 .ret))))))
abbrev r269 : List RV:=[(.tmp 4)]
theorem F269 : FnOk Go.Proofs.Tryz.prog 269 45 c269 r269:=⟨_,Go.Proofs.Tryz.func269,by kernel_rfl,by kernel_rfl,by kernel_rfl,by kernel_rfl,by kernel_rfl⟩
noncomputable def c225 : CC:=(.seq (.ops [⟨none,some 2,.mv (.const (.int .u64 0))⟩])
 (.seq (.ops [⟨none,some 3,.mv (.tmp 0)⟩,⟨none,some 4,.call 268 [.tmp 3,.const (.int .i64 8)]⟩,⟨none,some 2,.mv (.tmp 4)⟩])
 .ret))
abbrev r225 : List RV:=[(.tmp 2)]
theorem F225 : FnOk Go.Proofs.Tryz.prog 225 5 c225 r225:=⟨_,Go.Proofs.Tryz.func225,by kernel_rfl,by kernel_rfl,by kernel_rfl,by kernel_rfl,by kernel_rfl⟩
noncomputable def c351 : CC:=(.seq (.ops [⟨none,some 6,.mv (.const (.int .i64 0))⟩])
 (.seq (.seq (.ops [⟨none,some 7,.mv (.tmp 1)⟩,⟨none,some 8,.lenS (.tmp 7)⟩,⟨none,some 9,.iop .gtr (.tmp 8) (.const (.int .i64 255))⟩,⟨none,some 10,.mv (.tmp 9)⟩,⟨some (10,false),some 11,.mv (.tmp 2)⟩,⟨some (10,false),some 12,.lenS (.tmp 11)⟩,⟨some (10,false),some 13,.iop .gtr (.tmp 12) (.const (.int .i64 65536))⟩,⟨none,some 14,.pick (.tmp 10) (.const (.bool true)) (.tmp 13)⟩])
 (.cond (.tmp 14)
 (.seq (.ops [⟨none,some 6,.mv (.const (.int .i64 5))⟩])
 .ret)
 .skip))
 (.seq (.ops [⟨none,some 15,.mv (.tmp 0)⟩,⟨none,some 16,.nilc (.tmp 15)⟩,⟨none,some 17,.faddr 0 (.tmp 16)⟩,⟨none,some 18,.load1 (.tmp 17)⟩,⟨none,some 19,.mv (.tmp 1)⟩,⟨none,some 20,.mv (.tmp 2)⟩,⟨none,none,.raw 21 (.mk none (.mapUpdate 172 (.tmp 18) (.tmp 19) (.tmp 20)) 0 "registry.go:68" #[.mk 3 .data,.mk 4 .data,.mk 5 .data,.mk 0 .phase,.mk 1 .phase,.mk 2 .phase,.mk 3 .phase,.mk 4 .phase,.mk 5 .phase] none)⟩])
 (.seq (.ops [⟨none,some 6,.mv (.const (.int .i64 0))⟩])
 .ret))))
abbrev r351 : List RV:=[(.tmp 6)]
theorem F351 : FnOk Go.Proofs.Tryz.prog 351 21 c351 r351:=⟨_,Go.Proofs.Tryz.func351,by kernel_rfl,by kernel_rfl,by kernel_rfl,by kernel_rfl,by kernel_rfl⟩
noncomputable def c168 : CC:=(.seq (.ops [⟨none,some 5,.box 9 (.tmp 2)⟩,⟨none,some 6,.alloc 107 (.slice none 0 0)⟩,⟨none,some 7,.alloc 48 (.int .i64 0)⟩])
 (.seq (.seq (.ops [⟨none,some 14,.mv (.tmp 1)⟩,⟨none,some 15,.sop .eql (.tmp 14) (.const (.string (.mk #[])))⟩])
 (.cond (.tmp 15)
 (.seq (.seq (.ops [⟨none,some 17,.mv (.tmp 0)⟩,⟨none,some 18,.load1 (.tmp 5)⟩,⟨none,some 19,.call 104 [.tmp 17,.tmp 18]⟩,⟨none,some 16,.mv (.tmp 19)⟩,⟨none,some 20,.ext (.tmp 16) 0⟩,⟨none,some 21,.ext (.tmp 16) 1⟩,⟨none,some 8,.alloc 121 (.agg #[.string (.mk #[]),.int .u32 0,.int .u64 0,.int .u32 0,.string (.mk #[])])⟩,⟨none,none,.storeN 5 (.tmp 8) (.tmp 20)⟩,⟨none,some 9,.mv (.tmp 21)⟩])
 (.seq (.ops [⟨none,some 22,.mv (.tmp 9)⟩,⟨none,some 23,.iop .neq (.tmp 22) (.const (.int .i64 0))⟩])
 (.cond (.tmp 23)
 (.seq (.ops [⟨none,some 24,.mv (.tmp 9)⟩,⟨none,none,.store1 (.tmp 6) (.const (.slice none 0 0))⟩,⟨none,none,.store1 (.tmp 7) (.tmp 24)⟩])
 .ret)
 .skip)))
 (.seq (.ops [⟨none,some 25,.load1 (.tmp 5)⟩,⟨none,some 26,.buildS 9 1 [.string (.mk #[])] [(0,(1,.tmp 25))]⟩,⟨none,none,.store1 (.tmp 6) (.tmp 26)⟩,⟨none,none,.store1 (.tmp 7) (.const (.int .i64 0))⟩])
 .ret))
 .skip))
 (.seq (.block 0
 (.seq (.ops [⟨none,some 28,.mv (.tmp 1)⟩,⟨none,some 29,.call 161 [.tmp 28]⟩,⟨none,some 30,.not (.tmp 29)⟩,⟨none,some 27,.mv (.tmp 30)⟩])
 (.cond (.tmp 27)
 (.seq (.ops [⟨none,none,.store1 (.tmp 6) (.const (.slice none 0 0))⟩,⟨none,none,.store1 (.tmp 7) (.const (.int .i64 23))⟩])
 .ret)
 (.seq (.ops [⟨none,some 32,.load1 (.tmp 5)⟩,⟨none,some 33,.call 227 [.tmp 32]⟩,⟨none,some 34,.not (.tmp 33)⟩,⟨none,some 31,.mv (.tmp 34)⟩])
 (.cond (.tmp 31)
 (.seq (.ops [⟨none,none,.store1 (.tmp 6) (.const (.slice none 0 0))⟩,⟨none,none,.store1 (.tmp 7) (.const (.int .i64 4))⟩])
 .ret)
 .skip)))))
 (.seq (.ops [⟨none,some 35,.call 230 [.const (.slice none 0 0)]⟩,⟨none,some 10,.alloc 327 (.pointer none)⟩,⟨none,some 11,.alloc 3 (.int .i64 0)⟩,⟨none,none,.store1 (.tmp 10) (.tmp 35)⟩,⟨none,none,.store1 (.tmp 11) (.const (.int .i64 0))⟩])
 (.seq (.seq (.ops [⟨none,some 36,.mv (.tmp 0)⟩,⟨none,some 37,.mv (.tmp 1)⟩,⟨none,some 38,.call 229 [.tmp 36,.tmp 37]⟩])
 (.block 1
 (.range (.tmp 38) #[39,40] (sub (bodyOf Go.Proofs.Tryz.f168) [1,1,1,1,0,1,0,0]) (sub (bodyOf Go.Proofs.Tryz.f168) [1,1,1,1,0,1,0,1])
 (.seq (.ops [⟨none,some 12,.alloc 124 (.agg #[.string (.mk #[]),.int .i64 0,.string (.mk #[]),.string (.mk #[])])⟩,⟨none,none,.storeN 4 (.tmp 12) (.tmp 39)⟩])
 (.ops [⟨none,some 13,.mv (.tmp 40)⟩]))
 (.block 2
 (.seq (.seq (.ops [⟨none,some 41,.mv (.tmp 13)⟩,⟨none,some 42,.iop .neq (.tmp 41) (.const (.int .i64 0))⟩])
 (.cond (.tmp 42)
 (.seq (.ops [⟨none,some 43,.mv (.tmp 13)⟩,⟨none,none,.store1 (.tmp 6) (.const (.slice none 0 0))⟩,⟨none,none,.store1 (.tmp 7) (.tmp 43)⟩])
 .ret)
 .skip))
 (.seq (.ops [⟨none,some 44,.load1 (.tmp 11)⟩,⟨none,some 45,.iop .add (.tmp 44) (.const (.int .i64 1))⟩,⟨none,none,.store1 (.tmp 11) (.tmp 45)⟩])
 (.seq (.ops [⟨none,some 46,.faddr 1 (.tmp 12)⟩,⟨none,some 47,.load1 (.tmp 46)⟩,⟨none,some 48,.faddr 2 (.tmp 12)⟩,⟨none,some 49,.load1 (.tmp 48)⟩,⟨none,some 50,.load1 (.tmp 5)⟩,⟨none,some 51,.call 231 [.tmp 47,.tmp 49,.tmp 50]⟩])
 (.cond (.tmp 51)
 (.ops [⟨none,some 52,.load1 (.tmp 10)⟩,⟨none,some 53,.faddr 3 (.tmp 12)⟩,⟨none,some 54,.load1 (.tmp 53)⟩,⟨none,some 55,.call 232 [.tmp 52,.tmp 54]⟩])
 .skip))))))))
 (.seq (.seq (.ops [⟨none,some 56,.load1 (.tmp 11)⟩,⟨none,some 57,.iop .eql (.tmp 56) (.const (.int .i64 0))⟩])
 (.cond (.tmp 57)
 (.seq (.ops [⟨none,none,.store1 (.tmp 6) (.const (.slice none 0 0))⟩,⟨none,none,.store1 (.tmp 7) (.const (.int .i64 21))⟩])
 .ret)
 .skip))
 (.seq (.ops [⟨none,some 58,.load1 (.tmp 10)⟩,⟨none,some 59,.call 233 [.tmp 58]⟩,⟨none,some 60,.call 62 [.tmp 59]⟩,⟨none,none,.store1 (.tmp 6) (.tmp 60)⟩,⟨none,none,.store1 (.tmp 7) (.const (.int .i64 0))⟩])
 .ret)))))))
abbrev r168 : List RV:=[(.c1 6),(.c1 7)]
theorem F168 : FnOk Go.Proofs.Tryz.prog 168 61 c168 r168:=⟨_,Go.Proofs.Tryz.func168,by kernel_rfl,by kernel_rfl,by kernel_rfl,by kernel_rfl,by kernel_rfl⟩
noncomputable def c352 : CC:=(.seq (.ops [⟨none,some 3,.box 134 (.tmp 0)⟩,⟨none,some 4,.box 9 (.tmp 1)⟩,⟨none,some 5,.box 9 (.tmp 2)⟩,⟨none,some 6,.mv (.const .nilFunc)⟩])
 (.seq (.ops [⟨none,some 7,(.mkF (.func 353) [] [.tmp 3,.tmp 4,.tmp 5])⟩,⟨none,some 6,.mv (.tmp 7)⟩])
 .ret))
abbrev r352 : List RV:=[(.tmp 6)]
theorem F352 : FnOk Go.Proofs.Tryz.prog 352 8 c352 r352:=⟨_,Go.Proofs.Tryz.func352,by kernel_rfl,by kernel_rfl,by kernel_rfl,by kernel_rfl,by kernel_rfl⟩
noncomputable def c205 : CC:=(.seq (.ops [⟨none,some 2,.alloc 227 (.agg #[.string (.mk #[]),.string (.mk #[]),.int .u64 0,.int .u64 0,.string (.mk #[]),.int .i64 0,.string (.mk #[]),.string (.mk #[]),.string (.mk #[])])⟩,⟨none,some 3,.mv (.const (.int .i64 0))⟩])
 (.seq (.ops [⟨none,some 8,.mv (.tmp 0)⟩,⟨none,some 9,.call 255 [.tmp 8]⟩,⟨none,some 7,.mv (.tmp 9)⟩,⟨none,some 10,.ext (.tmp 7) 0⟩,⟨none,some 11,.ext (.tmp 7) 1⟩,⟨none,some 4,.mv (.tmp 10)⟩,⟨none,some 5,.mv (.tmp 11)⟩])
 (.seq (.seq (.draw 2 (opsOf (sub (bodyOf Go.Proofs.Tryz.f205) [1,1,0,0])) [⟨none,some 12,.mv (.tmp 5)⟩,⟨none,some 13,.iop .neq (.tmp 12) (.const (.int .i64 0))⟩,⟨none,some 14,.mv (.tmp 13)⟩,⟨some (14,false),some 15,.mv (.tmp 4)⟩,⟨some (14,false),some 16,.lenL (.tmp 15)⟩,⟨some (14,false),some 17,.iop .eql (.tmp 16) (.const (.int .i64 0))⟩,⟨none,some 18,.pick (.tmp 14) (.const (.bool true)) (.tmp 17)⟩,⟨none,some 19,.mv (.tmp 18)⟩,⟨some (19,false),some 20,.mv (.tmp 4)⟩,⟨some (19,false),some 21,.iaddr 3 (.tmp 20) (.const (.int .i64 0))⟩,⟨some (19,false),some 22,.faddr 0 (.tmp 21)⟩,⟨some (19,false),some 23,.load1 (.tmp 22)⟩,⟨some (19,false),some 24,.not (.tmp 23)⟩,⟨none,some 25,.pick (.tmp 19) (.const (.bool true)) (.tmp 24)⟩,⟨none,some 26,.mv (.tmp 25)⟩,⟨some (26,false),some 27,.mv (.tmp 4)⟩,⟨some (26,false),some 28,.slL 3 (.tmp 27) (some (.const (.int .i64 1))) none⟩,⟨some (26,false),some 29,.mv (.tmp 4)⟩,⟨some (26,false),some 30,.iaddr 3 (.tmp 29) (.const (.int .i64 0))⟩,⟨some (26,false),some 31,.faddr 2 (.tmp 30)⟩,⟨some (26,false),some 32,.load1 (.tmp 31)⟩,⟨some (26,false),some 33,.call 257 [.tmp 32]⟩,⟨some (26,false),some 34,.call 256 [.tmp 28,.tmp 33]⟩,⟨some (26,false),some 35,.not (.tmp 34)⟩,⟨none,some 36,.pick (.tmp 26) (.const (.bool true)) (.tmp 35)⟩])
 (.cond (.tmp 36)
 (.seq (.ops [⟨none,some 37,.build [.string (.mk #[]),.string (.mk #[]),.int .u64 0,.int .u64 0,.string (.mk #[]),.int .i64 0,.string (.mk #[]),.string (.mk #[]),.string (.mk #[])] []⟩,⟨none,none,.storeN 9 (.tmp 2) (.tmp 37)⟩,⟨none,some 3,.mv (.const (.int .i64 20))⟩])
 .ret)
 .skip))
 (.seq (.ops [⟨none,some 38,.mv (.tmp 4)⟩,⟨none,some 39,.iaddr 3 (.tmp 38) (.const (.int .i64 0))⟩,⟨none,some 40,.faddr 2 (.tmp 39)⟩,⟨none,some 41,.load1 (.tmp 40)⟩,⟨none,some 42,.build [.string (.mk #[]),.string (.mk #[]),.int .u64 0,.int .u64 0,.string (.mk #[]),.int .i64 0,.string (.mk #[]),.string (.mk #[]),.string (.mk #[])] [(0,(1,.tmp 41))]⟩,⟨none,some 6,.alloc 227 (.agg #[.string (.mk #[]),.string (.mk #[]),.int .u64 0,.int .u64 0,.string (.mk #[]),.int .i64 0,.string (.mk #[]),.string (.mk #[]),.string (.mk #[])])⟩,⟨none,none,.storeN 9 (.tmp 6) (.tmp 42)⟩])
 (.seq (.seq (.ops [⟨none,some 43,.mv (.tmp 4)⟩,⟨none,some 44,.slL 3 (.tmp 43) (some (.const (.int .i64 1))) none⟩,⟨none,some 4,.mv (.tmp 44)⟩])
 (.seq (.ops [⟨none,some 45,.faddr 0 (.tmp 6)⟩,⟨none,some 46,.load1 (.tmp 45)⟩])
 (.block 0
 (.seq (.ops [⟨none,some 73,.sop .eql (.tmp 46) (.const (.string (.mk #[113])))⟩,⟨none,some 72,.mv (.tmp 73)⟩])
 (.cond (.tmp 72)
 (.ops [⟨none,some 74,.mv (.tmp 4)⟩,⟨none,some 75,.iaddr 3 (.tmp 74) (.const (.int .i64 0))⟩,⟨none,some 76,.faddr 2 (.tmp 75)⟩,⟨none,some 77,.load1 (.tmp 76)⟩,⟨none,some 78,.faddr 1 (.tmp 6)⟩,⟨none,none,.store1 (.tmp 78) (.tmp 77)⟩])
 (.seq (.ops [⟨none,some 80,.sop .eql (.tmp 46) (.const (.string (.mk #[99])))⟩,⟨none,some 79,.mv (.tmp 80)⟩])
 (.cond (.tmp 79)
 (.ops [⟨none,some 81,.mv (.tmp 4)⟩,⟨none,some 82,.iaddr 3 (.tmp 81) (.const (.int .i64 0))⟩,⟨none,some 83,.faddr 2 (.tmp 82)⟩,⟨none,some 84,.load1 (.tmp 83)⟩,⟨none,some 85,.faddr 8 (.tmp 6)⟩,⟨none,none,.store1 (.tmp 85) (.tmp 84)⟩])
 (.seq (.ops [⟨none,some 87,.sop .eql (.tmp 46) (.const (.string (.mk #[109])))⟩,⟨none,some 86,.mv (.tmp 87)⟩])
 (.cond (.tmp 86)
 (.draw 15 (opsOf (sub (bodyOf Go.Proofs.Tryz.f205) [1,1,1,1,0,1,1,0,1,1,1,1,1,0])) [⟨none,some 88,.mv (.tmp 4)⟩,⟨none,some 89,.iaddr 3 (.tmp 88) (.const (.int .i64 0))⟩,⟨none,some 90,.faddr 2 (.tmp 89)⟩,⟨none,some 91,.load1 (.tmp 90)⟩,⟨none,some 92,.mv (.tmp 4)⟩,⟨none,some 93,.iaddr 3 (.tmp 92) (.const (.int .i64 1))⟩,⟨none,some 94,.faddr 1 (.tmp 93)⟩,⟨none,some 95,.load1 (.tmp 94)⟩,⟨none,some 96,.faddr 1 (.tmp 6)⟩,⟨none,none,.store1 (.tmp 96) (.tmp 91)⟩,⟨none,some 97,.faddr 2 (.tmp 6)⟩,⟨none,none,.store1 (.tmp 97) (.tmp 95)⟩])
 (.seq (.ops [⟨none,some 99,.sop .eql (.tmp 46) (.const (.string (.mk #[101])))⟩,⟨none,some 98,.mv (.tmp 99)⟩])
 (.cond (.tmp 98)
 (.draw 17 (opsOf (sub (bodyOf Go.Proofs.Tryz.f205) [1,1,1,1,0,1,1,0,1,1,1,1,1,1,1,0])) [⟨none,some 100,.mv (.tmp 4)⟩,⟨none,some 101,.iaddr 3 (.tmp 100) (.const (.int .i64 0))⟩,⟨none,some 102,.faddr 1 (.tmp 101)⟩,⟨none,some 103,.load1 (.tmp 102)⟩,⟨none,some 104,.mv (.tmp 4)⟩,⟨none,some 105,.iaddr 3 (.tmp 104) (.const (.int .i64 1))⟩,⟨none,some 106,.faddr 2 (.tmp 105)⟩,⟨none,some 107,.load1 (.tmp 106)⟩,⟨none,some 108,.mv (.tmp 4)⟩,⟨none,some 109,.iaddr 3 (.tmp 108) (.const (.int .i64 2))⟩,⟨none,some 110,.faddr 1 (.tmp 109)⟩,⟨none,some 111,.load1 (.tmp 110)⟩,⟨none,some 112,.faddr 3 (.tmp 6)⟩,⟨none,none,.store1 (.tmp 112) (.tmp 103)⟩,⟨none,some 113,.faddr 1 (.tmp 6)⟩,⟨none,none,.store1 (.tmp 113) (.tmp 107)⟩,⟨none,some 114,.faddr 2 (.tmp 6)⟩,⟨none,none,.store1 (.tmp 114) (.tmp 111)⟩])
 (.seq (.seq (.ops [⟨none,some 47,.mv (.tmp 4)⟩,⟨none,some 48,.iaddr 3 (.tmp 47) (.const (.int .i64 1))⟩,⟨none,some 49,.faddr 1 (.tmp 48)⟩,⟨none,some 50,.load1 (.tmp 49)⟩,⟨none,some 51,.iop .gtr (.tmp 50) (.const (.int .u64 9223372036854775807))⟩])
 (.cond (.tmp 51)
 (.seq (.ops [⟨none,some 52,.build [.string (.mk #[]),.string (.mk #[]),.int .u64 0,.int .u64 0,.string (.mk #[]),.int .i64 0,.string (.mk #[]),.string (.mk #[]),.string (.mk #[])] []⟩,⟨none,none,.storeN 9 (.tmp 2) (.tmp 52)⟩,⟨none,some 3,.mv (.const (.int .i64 20))⟩])
 .ret)
 .skip))
 (.draw 9 (opsOf (sub (bodyOf Go.Proofs.Tryz.f205) [1,1,1,1,0,1,1,0,1,1,1,1,1,1,1,1,1])) [⟨none,some 53,.mv (.tmp 4)⟩,⟨none,some 54,.iaddr 3 (.tmp 53) (.const (.int .i64 0))⟩,⟨none,some 55,.faddr 2 (.tmp 54)⟩,⟨none,some 56,.load1 (.tmp 55)⟩,⟨none,some 57,.mv (.tmp 4)⟩,⟨none,some 58,.iaddr 3 (.tmp 57) (.const (.int .i64 1))⟩,⟨none,some 59,.faddr 1 (.tmp 58)⟩,⟨none,some 60,.load1 (.tmp 59)⟩,⟨none,some 61,.conv .i64 (.tmp 60)⟩,⟨none,some 62,.mv (.tmp 4)⟩,⟨none,some 63,.iaddr 3 (.tmp 62) (.const (.int .i64 2))⟩,⟨none,some 64,.faddr 2 (.tmp 63)⟩,⟨none,some 65,.load1 (.tmp 64)⟩,⟨none,some 66,.mv (.tmp 4)⟩,⟨none,some 67,.iaddr 3 (.tmp 66) (.const (.int .i64 3))⟩,⟨none,some 68,.faddr 2 (.tmp 67)⟩,⟨none,some 69,.load1 (.tmp 68)⟩,⟨none,some 70,.build [.string (.mk #[]),.int .i64 0,.string (.mk #[]),.string (.mk #[])] [(0,(1,.tmp 56)),(1,(1,.tmp 61)),(2,(1,.tmp 65)),(3,(1,.tmp 69))]⟩,⟨none,some 71,.faddr 4 (.tmp 6)⟩,⟨none,none,.storeN 4 (.tmp 71) (.tmp 70)⟩])))))))))))))
 (.seq (.ops [⟨none,some 115,.loadN 9 (.tmp 6)⟩,⟨none,none,.storeN 9 (.tmp 2) (.tmp 115)⟩,⟨none,some 3,.mv (.const (.int .i64 0))⟩])
 .ret))))))
abbrev r205 : List RV:=[(.cN 2 9),(.tmp 3)]
theorem F205 : FnOk Go.Proofs.Tryz.prog 205 116 c205 r205:=⟨_,Go.Proofs.Tryz.func205,by kernel_rfl,by kernel_rfl,by kernel_rfl,by kernel_rfl,by kernel_rfl⟩
noncomputable def c202 : CC:=(.seq (.ops [⟨none,some 4,.mv (.const (.string (.mk #[])))⟩,⟨none,some 5,.mv (.const (.int .i64 0))⟩])
 (.seq (.ops [⟨none,some 6,.mv (.tmp 0)⟩,⟨none,some 7,.call 220 [.tmp 6]⟩,⟨none,some 8,.buildS 220 1 [.bool false,.int .u64 0,.string (.mk #[])] [(0,(3,.tmp 7))]⟩,⟨none,some 9,.mv (.tmp 1)⟩,⟨none,some 10,.raw 14 (.mk (some 10) (.call (.mk (.builtin .append) #[.tmp 8,.tmp 9] #[301,301])) 301 "schema.go:31" #[.mk 2 .data,.mk 3 .data,.mk 1 .chain] none)⟩,⟨none,some 11,.call 254 [.tmp 10]⟩,⟨none,some 12,.ext (.tmp 11) 0⟩,⟨none,some 13,.ext (.tmp 11) 1⟩,⟨none,some 4,.mv (.tmp 12)⟩,⟨none,some 5,.mv (.tmp 13)⟩])
 .ret))
abbrev r202 : List RV:=[(.tmp 4),(.tmp 5)]
theorem F202 : FnOk Go.Proofs.Tryz.prog 202 14 c202 r202:=⟨_,Go.Proofs.Tryz.func202,by kernel_rfl,by kernel_rfl,by kernel_rfl,by kernel_rfl,by kernel_rfl⟩
noncomputable def c220 : CC:=(.seq (.ops [⟨none,some 2,.alloc 220 (.agg #[.bool false,.int .u64 0,.string (.mk #[])])⟩])
 (.seq (.ops [⟨none,some 3,.mv (.tmp 0)⟩,⟨none,some 4,.build [.bool false,.int .u64 0,.string (.mk #[])] [(0,(1,.const (.bool true))),(2,(1,.tmp 3))]⟩,⟨none,none,.storeN 3 (.tmp 2) (.tmp 4)⟩])
 .ret))
abbrev r220 : List RV:=[(.cN 2 3)]
theorem F220 : FnOk Go.Proofs.Tryz.prog 220 5 c220 r220:=⟨_,Go.Proofs.Tryz.func220,by kernel_rfl,by kernel_rfl,by kernel_rfl,by kernel_rfl,by kernel_rfl⟩
noncomputable def c163 : CC:=(.seq (.ops [⟨none,some 1,.box 9 (.tmp 0)⟩,⟨none,some 2,.alloc 257 (.agg #[.nilFunc,.nilFunc])⟩])
 (.seq (.ops [⟨none,some 3,(.mkF (.func 223) [] [.tmp 1])⟩,⟨none,some 4,(.call 221 [(.func 222),.tmp 3])⟩,⟨none,none,.storeN 2 (.tmp 2) (.tmp 4)⟩])
 .ret))
abbrev r163 : List RV:=[(.cN 2 2)]
theorem F163 : FnOk Go.Proofs.Tryz.prog 163 5 c163 r163:=⟨_,Go.Proofs.Tryz.func163,by kernel_rfl,by kernel_rfl,by kernel_rfl,by kernel_rfl,by kernel_rfl⟩
noncomputable def c175 : CC:=(.seq (.ops [⟨none,some 2,.box 257 (.tmp 0)⟩,⟨none,some 4,.alloc 121 (.agg #[.string (.mk #[]),.int .u32 0,.int .u64 0,.int .u32 0,.string (.mk #[])])⟩,⟨none,some 5,.mv (.const (.int .i64 0))⟩])
 (.seq (.ops [⟨none,some 6,.alloc 121 (.agg #[.string (.mk #[]),.int .u32 0,.int .u64 0,.int .u32 0,.string (.mk #[])])⟩])
 (.seq (.seq (.ops [⟨none,some 10,.faddr 1 (.tmp 2)⟩,⟨none,some 11,.load1 (.tmp 10)⟩,⟨none,some 12,.pnil 3 false (.tmp 11)⟩])
 (.cond (.tmp 12)
 (.seq (.ops [⟨none,some 13,.loadN 5 (.tmp 6)⟩,⟨none,none,.storeN 5 (.tmp 4) (.tmp 13)⟩,⟨none,some 5,.mv (.const (.int .i64 2))⟩])
 .ret)
 .skip))
 (.seq (.ops [⟨none,some 14,.mv (.tmp 1)⟩,⟨none,some 15,.call 214 [.tmp 14]⟩,⟨none,some 7,.mv (.tmp 15)⟩])
 (.seq (.ops [⟨none,some 16,.faddr 1 (.tmp 2)⟩,⟨none,some 17,.load1 (.tmp 16)⟩,⟨none,some 18,.mv (.tmp 7)⟩,⟨none,some 19,.callv (.tmp 17) [.tmp 18]⟩,⟨none,some 8,.alloc 121 (.agg #[.string (.mk #[]),.int .u32 0,.int .u64 0,.int .u32 0,.string (.mk #[])])⟩,⟨none,none,.storeN 5 (.tmp 8) (.tmp 19)⟩])
 (.seq (.seq (.ops [⟨none,some 20,.mv (.tmp 7)⟩,⟨none,some 21,.call 215 [.tmp 20]⟩,⟨none,some 9,.mv (.tmp 21)⟩])
 (.seq (.ops [⟨none,some 22,.mv (.tmp 9)⟩,⟨none,some 23,.iop .neq (.tmp 22) (.const (.int .i64 0))⟩])
 (.cond (.tmp 23)
 (.seq (.ops [⟨none,some 24,.loadN 5 (.tmp 6)⟩,⟨none,some 25,.mv (.tmp 9)⟩,⟨none,none,.storeN 5 (.tmp 4) (.tmp 24)⟩,⟨none,some 5,.mv (.tmp 25)⟩])
 .ret)
 .skip)))
 (.seq (.ops [⟨none,some 26,.loadN 5 (.tmp 8)⟩,⟨none,none,.storeN 5 (.tmp 4) (.tmp 26)⟩,⟨none,some 5,.mv (.const (.int .i64 0))⟩])
 .ret)))))))
abbrev r175 : List RV:=[(.cN 4 5),(.tmp 5)]
theorem F175 : FnOk Go.Proofs.Tryz.prog 175 27 c175 r175:=⟨_,Go.Proofs.Tryz.func175,by kernel_rfl,by kernel_rfl,by kernel_rfl,by kernel_rfl,by kernel_rfl⟩
noncomputable def c282 : CC:=(.seq (.ops [⟨none,some 0,.alloc 372 (.agg #[.nilFunc,.nilFunc])⟩])
 (.seq (.ops [⟨none,some 1,(.call 301 [(.func 160),(.func 225)])⟩,⟨none,none,.storeN 2 (.tmp 0) (.tmp 1)⟩])
 .ret))
abbrev r282 : List RV:=[(.cN 0 2)]
theorem F282 : FnOk Go.Proofs.Tryz.prog 282 2 c282 r282:=⟨_,Go.Proofs.Tryz.func282,by kernel_rfl,by kernel_rfl,by kernel_rfl,by kernel_rfl,by kernel_rfl⟩
noncomputable def c283 : CC:=(.seq (.ops [⟨none,some 2,.box 372 (.tmp 0)⟩,⟨none,some 4,.mv (.const (.int .u64 0))⟩,⟨none,some 5,.mv (.const (.int .i64 0))⟩])
 (.seq (.ops [⟨none,some 6,.mv (.const (.int .u64 0))⟩])
 (.seq (.seq (.ops [⟨none,some 10,.faddr 1 (.tmp 2)⟩,⟨none,some 11,.load1 (.tmp 10)⟩,⟨none,some 12,.pnil 3 false (.tmp 11)⟩])
 (.cond (.tmp 12)
 (.seq (.ops [⟨none,some 13,.mv (.tmp 6)⟩,⟨none,some 4,.mv (.tmp 13)⟩,⟨none,some 5,.mv (.const (.int .i64 2))⟩])
 .ret)
 .skip))
 (.seq (.ops [⟨none,some 14,.mv (.tmp 1)⟩,⟨none,some 15,.call 214 [.tmp 14]⟩,⟨none,some 7,.mv (.tmp 15)⟩])
 (.seq (.ops [⟨none,some 16,.faddr 1 (.tmp 2)⟩,⟨none,some 17,.load1 (.tmp 16)⟩,⟨none,some 18,.mv (.tmp 7)⟩,⟨none,some 19,.callv (.tmp 17) [.tmp 18]⟩,⟨none,some 8,.mv (.tmp 19)⟩])
 (.seq (.seq (.ops [⟨none,some 20,.mv (.tmp 7)⟩,⟨none,some 21,.call 215 [.tmp 20]⟩,⟨none,some 9,.mv (.tmp 21)⟩])
 (.seq (.ops [⟨none,some 22,.mv (.tmp 9)⟩,⟨none,some 23,.iop .neq (.tmp 22) (.const (.int .i64 0))⟩])
 (.cond (.tmp 23)
 (.seq (.ops [⟨none,some 24,.mv (.tmp 6)⟩,⟨none,some 25,.mv (.tmp 9)⟩,⟨none,some 4,.mv (.tmp 24)⟩,⟨none,some 5,.mv (.tmp 25)⟩])
 .ret)
 .skip)))
 (.seq (.ops [⟨none,some 26,.mv (.tmp 8)⟩,⟨none,some 4,.mv (.tmp 26)⟩,⟨none,some 5,.mv (.const (.int .i64 0))⟩])
 .ret)))))))
abbrev r283 : List RV:=[(.tmp 4),(.tmp 5)]
theorem F283 : FnOk Go.Proofs.Tryz.prog 283 27 c283 r283:=⟨_,Go.Proofs.Tryz.func283,by kernel_rfl,by kernel_rfl,by kernel_rfl,by kernel_rfl,by kernel_rfl⟩
noncomputable def c284 : CC:=(.seq (.ops [⟨none,some 2,.box 372 (.tmp 0)⟩,⟨none,some 4,.mv (.const (.string (.mk #[])))⟩])
 (.seq (.seq (.ops [⟨none,some 5,.faddr 0 (.tmp 2)⟩,⟨none,some 6,.load1 (.tmp 5)⟩,⟨none,some 7,.pnil 3 false (.tmp 6)⟩])
 (.cond (.tmp 7)
 (.seq (.ops [⟨none,some 4,.mv (.const (.string (.mk #[])))⟩])
 .ret)
 .skip))
 (.seq (.ops [⟨none,some 8,.faddr 0 (.tmp 2)⟩,⟨none,some 9,.load1 (.tmp 8)⟩,⟨none,some 10,.mv (.tmp 1)⟩,⟨none,some 11,.callv (.tmp 9) [.tmp 10]⟩,⟨none,some 4,.mv (.tmp 11)⟩])
 .ret)))
abbrev r284 : List RV:=[(.tmp 4)]
theorem F284 : FnOk Go.Proofs.Tryz.prog 284 12 c284 r284:=⟨_,Go.Proofs.Tryz.func284,by kernel_rfl,by kernel_rfl,by kernel_rfl,by kernel_rfl,by kernel_rfl⟩
noncomputable def c161 : CC:=(.seq (.ops [⟨none,some 2,.mv (.const (.bool false))⟩])
 (.seq (.ops [⟨none,some 3,.mv (.tmp 0)⟩,⟨none,some 4,.sop .neq (.tmp 3) (.const (.string (.mk #[])))⟩,⟨none,some 5,.mv (.tmp 4)⟩,⟨some (5,true),some 6,.mv (.tmp 0)⟩,⟨some (5,true),some 7,.lenS (.tmp 6)⟩,⟨some (5,true),some 8,.iop .leq (.tmp 7) (.const (.int .i64 32))⟩,⟨none,some 9,.pick (.tmp 5) (.tmp 8) (.const (.bool false))⟩,⟨none,some 10,.mv (.tmp 9)⟩,⟨some (10,true),some 11,.mv (.tmp 0)⟩,⟨some (10,true),some 12,(.call 217 [.tmp 11,(.func 218)])⟩,⟨some (10,true),some 13,.not (.tmp 12)⟩,⟨none,some 14,.pick (.tmp 10) (.tmp 13) (.const (.bool false))⟩,⟨none,some 2,.mv (.tmp 14)⟩])
 .ret))
abbrev r161 : List RV:=[(.tmp 2)]
theorem F161 : FnOk Go.Proofs.Tryz.prog 161 15 c161 r161:=⟨_,Go.Proofs.Tryz.func161,by kernel_rfl,by kernel_rfl,by kernel_rfl,by kernel_rfl,by kernel_rfl⟩
noncomputable def c164 : CC:=(.seq (.ops [⟨none,some 2,.box 257 (.tmp 0)⟩,⟨none,some 3,.box 121 (.tmp 1)⟩,⟨none,some 4,.mv (.const (.string (.mk #[])))⟩])
 (.seq (.seq (.ops [⟨none,some 5,.faddr 0 (.tmp 2)⟩,⟨none,some 6,.load1 (.tmp 5)⟩,⟨none,some 7,.pnil 3 false (.tmp 6)⟩])
 (.cond (.tmp 7)
 (.seq (.ops [⟨none,some 4,.mv (.const (.string (.mk #[])))⟩])
 .ret)
 .skip))
 (.seq (.ops [⟨none,some 8,.faddr 0 (.tmp 2)⟩,⟨none,some 9,.load1 (.tmp 8)⟩,⟨none,some 10,.loadN 5 (.tmp 3)⟩,⟨none,some 11,.callv (.tmp 9) [.tmp 10]⟩,⟨none,some 4,.mv (.tmp 11)⟩])
 .ret)))
abbrev r164 : List RV:=[(.tmp 4)]
theorem F164 : FnOk Go.Proofs.Tryz.prog 164 12 c164 r164:=⟨_,Go.Proofs.Tryz.func164,by kernel_rfl,by kernel_rfl,by kernel_rfl,by kernel_rfl,by kernel_rfl⟩
noncomputable def c268 : CC:=(.seq (.ops [⟨none,some 4,.mv (.const (.int .u64 0))⟩])
 (.seq (.ops [⟨none,some 5,.mv (.const (.int .u64 0))⟩])
 (.seq (.ops [⟨none,some 8,.mv (.tmp 0)⟩,⟨none,some 9,.mv (.tmp 1)⟩,⟨none,some 10,.call 269 [.tmp 8,.tmp 9]⟩,⟨none,some 6,.mv (.tmp 10)⟩])
 (.seq (.seq (.ops [⟨none,some 11,.mv (.tmp 6)⟩,⟨none,some 12,.lenS (.tmp 11)⟩,⟨none,some 13,.mv (.const (.int .i64 0))⟩])
 (.block 0
 (.loop
 (.seq (.ops [⟨none,some 14,.iop .lss (.tmp 13) (.tmp 12)⟩])
 (.seq (.cond (.tmp 14)
 .skip
 (.exit 0))
 (.seq (.block 1
 (.seq (.ops [⟨none,some 15,.mv (.tmp 13)⟩,⟨none,some 7,.mv (.tmp 15)⟩])
 (.ops [⟨none,some 16,.mv (.tmp 5)⟩,⟨none,some 17,.iop .shl (.tmp 16) (.const (.int .u64 8))⟩,⟨none,some 18,.mv (.tmp 6)⟩,⟨none,some 19,.mv (.tmp 7)⟩,⟨none,some 20,.sidx (.tmp 18) (.tmp 19)⟩,⟨none,some 21,.conv .u64 (.tmp 20)⟩,⟨none,some 22,.iop .or (.tmp 17) (.tmp 21)⟩,⟨none,some 5,.mv (.tmp 22)⟩])))
 (.ops [⟨none,some 23,.iop .add (.tmp 13) (.const (.int .i64 1))⟩,⟨none,some 13,.mv (.tmp 23)⟩])))))))
 (.seq (.ops [⟨none,some 24,.mv (.tmp 5)⟩,⟨none,some 4,.mv (.tmp 24)⟩])
 .ret)))))
abbrev r268 : List RV:=[(.tmp 4)]
theorem F268 : FnOk Go.Proofs.Tryz.prog 268 25 c268 r268:=⟨_,Go.Proofs.Tryz.func268,by kernel_rfl,by kernel_rfl,by kernel_rfl,by kernel_rfl,by kernel_rfl⟩
noncomputable def c142 : CC:=(.seq (.ops [⟨none,some 2,.alloc 220 (.agg #[.bool false,.int .u64 0,.string (.mk #[])])⟩])
 (.seq (.ops [⟨none,some 3,.mv (.tmp 0)⟩,⟨none,some 4,.build [.bool false,.int .u64 0,.string (.mk #[])] [(1,(1,.tmp 3))]⟩,⟨none,none,.storeN 3 (.tmp 2) (.tmp 4)⟩])
 .ret))
abbrev r142 : List RV:=[(.cN 2 3)]
theorem F142 : FnOk Go.Proofs.Tryz.prog 142 5 c142 r142:=⟨_,Go.Proofs.Tryz.func142,by kernel_rfl,by kernel_rfl,by kernel_rfl,by kernel_rfl,by kernel_rfl⟩
noncomputable def c141 : CC:=(.seq (.ops [⟨none,some 4,.mv (.const (.string (.mk #[])))⟩,⟨none,some 5,.mv (.const (.string (.mk #[])))⟩])
 (.seq (.ops [⟨none,some 11,.mv (.tmp 0)⟩,⟨none,some 12,.mv (.tmp 1)⟩,⟨none,some 13,.call 202 [.tmp 11,.tmp 12]⟩,⟨none,some 10,.mv (.tmp 13)⟩,⟨none,some 14,.ext (.tmp 10) 0⟩,⟨none,some 15,.ext (.tmp 10) 1⟩,⟨none,some 6,.mv (.tmp 14)⟩,⟨none,some 7,.mv (.tmp 15)⟩])
 (.seq (.seq (.ops [⟨none,some 16,.mv (.tmp 7)⟩,⟨none,some 17,.iop .neq (.tmp 16) (.const (.int .i64 0))⟩])
 (.cond (.tmp 17)
 (.seq (.ops [⟨none,some 4,.mv (.const (.string (.mk #[])))⟩,⟨none,some 5,.mv (.const (.string (.mk #[])))⟩])
 .ret)
 .skip))
 (.seq (.ops [⟨none,some 19,.mv (.tmp 6)⟩,⟨none,some 20,.call 203 [.tmp 19]⟩,⟨none,some 18,.mv (.tmp 20)⟩,⟨none,some 21,.ext (.tmp 18) 0⟩,⟨none,some 22,.ext (.tmp 18) 1⟩,⟨none,some 8,.mv (.tmp 21)⟩,⟨none,some 9,.mv (.tmp 22)⟩])
 (.seq (.ops [⟨none,some 23,.mv (.tmp 6)⟩,⟨none,some 24,.mv (.tmp 8)⟩,⟨none,some 4,.mv (.tmp 23)⟩,⟨none,some 5,.mv (.tmp 24)⟩])
 .ret)))))
abbrev r141 : List RV:=[(.tmp 4),(.tmp 5)]
theorem F141 : FnOk Go.Proofs.Tryz.prog 141 25 c141 r141:=⟨_,Go.Proofs.Tryz.func141,by kernel_rfl,by kernel_rfl,by kernel_rfl,by kernel_rfl,by kernel_rfl⟩
noncomputable def c353 : CC:=(.seq (.ops [⟨none,some 7,.load1 (.tmp 1)⟩,⟨none,some 8,.nilc (.tmp 7)⟩,⟨none,some 9,.faddr 0 (.tmp 8)⟩,⟨none,some 10,.load1 (.tmp 9)⟩,⟨none,some 11,.call 354 [.tmp 10]⟩,⟨none,some 12,.call 47 [.tmp 11]⟩,⟨none,some 13,.lenL (.tmp 12)⟩,⟨none,some 14,.mv (.const (.int .i64 0))⟩])
 (.block 0
 (.loop
 (.seq (.ops [⟨none,some 15,.iop .lss (.tmp 14) (.tmp 13)⟩])
 (.seq (.cond (.tmp 15)
 .skip
 (.exit 0))
 (.seq (.block 1
 (.seq (.ops [⟨none,some 16,.iaddr 1 (.tmp 12) (.tmp 14)⟩,⟨none,some 17,.load1 (.tmp 16)⟩,⟨none,some 6,.mv (.tmp 17)⟩])
 (.seq (.seq (.ops [⟨none,some 18,.mv (.tmp 6)⟩,⟨none,some 19,.load1 (.tmp 2)⟩,⟨none,some 20,.sop .lss (.tmp 18) (.tmp 19)⟩,⟨none,some 21,.mv (.tmp 20)⟩,⟨some (21,false),some 22,.load1 (.tmp 3)⟩,⟨some (21,false),some 23,.sop .neq (.tmp 22) (.const (.string (.mk #[])))⟩,⟨some (21,false),some 24,.mv (.tmp 23)⟩,⟨some (24,true),some 25,.mv (.tmp 6)⟩,⟨some (24,true),some 26,.load1 (.tmp 3)⟩,⟨some (24,true),some 27,.sop .geq (.tmp 25) (.tmp 26)⟩,⟨some (21,false),some 28,.pick (.tmp 24) (.tmp 27) (.const (.bool false))⟩,⟨none,some 29,.pick (.tmp 21) (.const (.bool true)) (.tmp 28)⟩])
 (.cond (.tmp 29)
 (.exit 1)
 .skip))
 (.seq (.ops [⟨none,some 30,.mv (.tmp 0)⟩,⟨none,some 31,.mv (.tmp 6)⟩,⟨none,some 32,.load1 (.tmp 1)⟩,⟨none,some 33,.nilc (.tmp 32)⟩,⟨none,some 34,.faddr 0 (.tmp 33)⟩,⟨none,some 35,.load1 (.tmp 34)⟩,⟨none,some 36,.mv (.tmp 6)⟩,⟨none,some 37,.raw 42 (.mk (some 37) (.lookup 172 (.tmp 35) (.tmp 36) false) 9 "registry.go:56" #[.mk 5 .data,.mk 6 .data] none)⟩,⟨none,some 38,.build [.string (.mk #[]),.string (.mk #[])] [(0,(1,.tmp 31)),(1,(1,.tmp 37))]⟩,⟨none,some 39,.callv (.tmp 30) [.tmp 38,.const (.int .i64 0)]⟩,⟨none,some 40,.not (.tmp 39)⟩])
 (.cond (.tmp 40)
 .ret
 .skip)))))
 (.ops [⟨none,some 41,.iop .add (.tmp 14) (.const (.int .i64 1))⟩,⟨none,some 14,.mv (.tmp 41)⟩])))))))
abbrev r353 : List RV:=[]
theorem F353 : FnOk Go.Proofs.Tryz.prog 353 42 c353 r353:=⟨_,Go.Proofs.Tryz.func353,by kernel_rfl,by kernel_rfl,by kernel_rfl,by kernel_rfl,by kernel_rfl⟩
noncomputable def c255 : CC:=(.seq (.ops [⟨none,some 2,.mv (.const (.slice none 0 0))⟩,⟨none,some 3,.mv (.const (.int .i64 0))⟩])
 (.seq (.seq (.ops [⟨none,some 6,.mv (.tmp 0)⟩,⟨none,some 7,.lenS (.tmp 6)⟩,⟨none,some 8,.iop .gtr (.tmp 7) (.const (.int .i64 255))⟩])
 (.cond (.tmp 8)
 (.seq (.ops [⟨none,some 2,.mv (.const (.slice none 0 0))⟩,⟨none,some 3,.mv (.const (.int .i64 20))⟩])
 .ret)
 .skip))
 (.seq (.ops [⟨none,some 9,.mv (.tmp 0)⟩,⟨none,some 10,.call 214 [.tmp 9]⟩,⟨none,some 4,.mv (.tmp 10)⟩])
 (.seq (.ops [⟨none,some 5,.mv (.const (.slice none 0 0))⟩])
 (.seq (.block 0
 (.loop
 (.seq (.seq (.ops [⟨none,some 11,.mv (.tmp 4)⟩,⟨none,some 12,.call 291 [.tmp 11]⟩,⟨none,some 13,.iop .gtr (.tmp 12) (.const (.int .i64 0))⟩,⟨none,some 14,.mv (.tmp 13)⟩,⟨some (14,true),some 15,.mv (.tmp 4)⟩,⟨some (14,true),some 16,.call 262 [.tmp 15]⟩,⟨some (14,true),some 17,.iop .eql (.tmp 16) (.const (.int .i64 0))⟩,⟨none,some 18,.pick (.tmp 14) (.tmp 17) (.const (.bool false))⟩])
 (.cond (.tmp 18)
 .skip
 (.exit 0)))
 (.block 1
 (.seq (.ops [⟨none,some 19,.mv (.tmp 4)⟩,⟨none,some 20,.call 261 [.tmp 19]⟩])
 (.block 2
 (.seq (.ops [⟨none,some 24,.iop .eql (.tmp 20) (.const (.int .u8 1))⟩,⟨none,some 23,.mv (.tmp 24)⟩])
 (.cond (.tmp 23)
 (.ops [⟨none,some 25,.mv (.tmp 5)⟩,⟨none,some 26,.mv (.tmp 4)⟩,⟨none,some 27,.call 225 [.tmp 26]⟩,⟨none,some 28,.call 142 [.tmp 27]⟩,⟨none,some 29,.buildS 220 1 [.bool false,.int .u64 0,.string (.mk #[])] [(0,(3,.tmp 28))]⟩,⟨none,some 30,.raw 43 (.mk (some 30) (.call (.mk (.builtin .append) #[.tmp 25,.tmp 29] #[301,301])) 301 "order.go:84" #[.mk 0 .data,.mk 4 .data,.mk 3 .chain] none)⟩,⟨none,some 5,.mv (.tmp 30)⟩])
 (.seq (.ops [⟨none,some 32,.iop .eql (.tmp 20) (.const (.int .u8 2))⟩,⟨none,some 31,.mv (.tmp 32)⟩])
 (.cond (.tmp 31)
 (.ops [⟨none,some 33,.mv (.tmp 5)⟩,⟨none,some 34,.mv (.tmp 4)⟩,⟨none,some 35,.call 292 [.tmp 34]⟩,⟨none,some 36,.call 220 [.tmp 35]⟩,⟨none,some 37,.buildS 220 1 [.bool false,.int .u64 0,.string (.mk #[])] [(0,(3,.tmp 36))]⟩,⟨none,some 38,.raw 43 (.mk (some 38) (.call (.mk (.builtin .append) #[.tmp 33,.tmp 37] #[301,301])) 301 "order.go:86" #[.mk 0 .data,.mk 4 .data,.mk 3 .chain] none)⟩,⟨none,some 5,.mv (.tmp 38)⟩])
 (.ops [⟨none,some 21,.mv (.tmp 4)⟩,⟨none,some 22,.call 263 [.tmp 21,.const (.int .i64 20)]⟩])))))))))))
 (.seq (.seq (.ops [⟨none,some 39,.mv (.tmp 4)⟩,⟨none,some 40,.call 262 [.tmp 39]⟩,⟨none,some 41,.iop .neq (.tmp 40) (.const (.int .i64 0))⟩])
 (.cond (.tmp 41)
 (.seq (.ops [⟨none,some 2,.mv (.const (.slice none 0 0))⟩,⟨none,some 3,.mv (.const (.int .i64 20))⟩])
 .ret)
 .skip))
 (.seq (.ops [⟨none,some 42,.mv (.tmp 5)⟩,⟨none,some 2,.mv (.tmp 42)⟩,⟨none,some 3,.mv (.const (.int .i64 0))⟩])
 .ret)))))))
abbrev r255 : List RV:=[(.tmp 2),(.tmp 3)]
theorem F255 : FnOk Go.Proofs.Tryz.prog 255 43 c255 r255:=⟨_,Go.Proofs.Tryz.func255,by kernel_rfl,by kernel_rfl,by kernel_rfl,by kernel_rfl,by kernel_rfl⟩
noncomputable def c256 : CC:=(.seq (.ops [⟨none,some 4,.mv (.const (.bool false))⟩])
 (.seq (.seq (.ops [⟨none,some 7,.mv (.tmp 0)⟩,⟨none,some 8,.lenL (.tmp 7)⟩,⟨none,some 9,.mv (.tmp 1)⟩,⟨none,some 10,.lenS (.tmp 9)⟩,⟨none,some 11,.iop .neq (.tmp 8) (.tmp 10)⟩,⟨none,some 12,.mv (.tmp 11)⟩,⟨some (12,false),some 13,.mv (.tmp 1)⟩,⟨some (12,false),some 14,.sop .eql (.tmp 13) (.const (.string (.mk #[])))⟩,⟨none,some 15,.pick (.tmp 12) (.const (.bool true)) (.tmp 14)⟩])
 (.cond (.tmp 15)
 (.seq (.ops [⟨none,some 4,.mv (.const (.bool false))⟩])
 .ret)
 .skip))
 (.seq (.seq (.ops [⟨none,some 16,.mv (.tmp 1)⟩,⟨none,some 17,.raw 30 (.mk (some 17) (.range 9 (.tmp 16)) 0 "schema.go:85" #[.mk 0 .data] none)⟩])
 (.block 0
 (.loop
 (.seq (.ops [⟨none,some 18,.raw 30 (.mk (some 18) (.next (.tmp 17) true) 0 "schema.go:85" #[] none)⟩,⟨none,some 19,.ext (.tmp 18) 0⟩])
 (.seq (.cond (.tmp 19)
 .skip
 (.exit 0))
 (.block 1
 (.seq (.ops [⟨none,some 20,.ext (.tmp 18) 1⟩,⟨none,some 21,.ext (.tmp 18) 2⟩,⟨none,some 5,.mv (.tmp 20)⟩,⟨none,some 6,.mv (.tmp 21)⟩])
 (.seq (.ops [⟨none,some 22,.mv (.tmp 0)⟩,⟨none,some 23,.mv (.tmp 5)⟩,⟨none,some 24,.iaddr 3 (.tmp 22) (.tmp 23)⟩,⟨none,some 25,.faddr 0 (.tmp 24)⟩,⟨none,some 26,.load1 (.tmp 25)⟩,⟨none,some 27,.mv (.tmp 6)⟩,⟨none,some 28,.iop .eql (.tmp 27) (.const (.int .i32 115))⟩,⟨none,some 29,.bop true (.tmp 26) (.tmp 28)⟩])
 (.cond (.tmp 29)
 (.seq (.ops [⟨none,some 4,.mv (.const (.bool false))⟩])
 .ret)
 .skip)))))))))
 (.seq (.ops [⟨none,some 4,.mv (.const (.bool true))⟩])
 .ret))))
abbrev r256 : List RV:=[(.tmp 4)]
theorem F256 : FnOk Go.Proofs.Tryz.prog 256 30 c256 r256:=⟨_,Go.Proofs.Tryz.func256,by kernel_rfl,by kernel_rfl,by kernel_rfl,by kernel_rfl,by kernel_rfl⟩
noncomputable def c257 : CC:=(.seq (.ops [⟨none,some 2,.mv (.const (.string (.mk #[])))⟩])
 (.seq (.seq (.ops [⟨none,some 3,.mv (.tmp 0)⟩])
 (.block 0
 (.seq (.seq (.ops [⟨none,some 5,.sop .eql (.tmp 3) (.const (.string (.mk #[113])))⟩,⟨none,some 4,.mv (.tmp 5)⟩])
 (.cond (.tmp 4)
 .skip
 (.ops [⟨none,some 6,.sop .eql (.tmp 3) (.const (.string (.mk #[99])))⟩,⟨none,some 4,.mv (.tmp 6)⟩])))
 (.cond (.tmp 4)
 (.seq (.ops [⟨none,some 2,.mv (.const (.string (.mk #[115])))⟩])
 .ret)
 (.seq (.ops [⟨none,some 8,.sop .eql (.tmp 3) (.const (.string (.mk #[109])))⟩,⟨none,some 7,.mv (.tmp 8)⟩])
 (.cond (.tmp 7)
 (.seq (.ops [⟨none,some 2,.mv (.const (.string (.mk #[115,110])))⟩])
 .ret)
 (.seq (.ops [⟨none,some 10,.sop .eql (.tmp 3) (.const (.string (.mk #[101])))⟩,⟨none,some 9,.mv (.tmp 10)⟩])
 (.cond (.tmp 9)
 (.seq (.ops [⟨none,some 2,.mv (.const (.string (.mk #[110,115,110])))⟩])
 .ret)
 (.seq (.ops [⟨none,some 12,.sop .eql (.tmp 3) (.const (.string (.mk #[98])))⟩,⟨none,some 11,.mv (.tmp 12)⟩])
 (.cond (.tmp 11)
 (.seq (.ops [⟨none,some 2,.mv (.const (.string (.mk #[115,110,115,115])))⟩])
 .ret)
 .skip))))))))))
 (.seq (.ops [⟨none,some 2,.mv (.const (.string (.mk #[])))⟩])
 .ret)))
abbrev r257 : List RV:=[(.tmp 2)]
theorem F257 : FnOk Go.Proofs.Tryz.prog 257 13 c257 r257:=⟨_,Go.Proofs.Tryz.func257,by kernel_rfl,by kernel_rfl,by kernel_rfl,by kernel_rfl,by kernel_rfl⟩
noncomputable def c254 : CC:=(.seq (.ops [⟨none,some 2,.mv (.const (.string (.mk #[])))⟩,⟨none,some 3,.mv (.const (.int .i64 0))⟩])
 (.seq (.ops [⟨none,some 4,.alloc 377 (.agg #[.pointer none,.slice none 0 0])⟩])
 (.seq (.seq (.ops [⟨none,some 7,.mv (.tmp 0)⟩,⟨none,some 8,.lenL (.tmp 7)⟩,⟨none,some 9,.mv (.const (.int .i64 0))⟩])
 (.block 0
 (.loop
 (.seq (.ops [⟨none,some 10,.iop .lss (.tmp 9) (.tmp 8)⟩])
 (.seq (.cond (.tmp 10)
 .skip
 (.exit 0))
 (.seq (.block 1
 (.seq (.ops [⟨none,some 11,.iaddr 3 (.tmp 7) (.tmp 9)⟩,⟨none,some 12,.loadN 3 (.tmp 11)⟩,⟨none,some 6,.alloc 220 (.agg #[.bool false,.int .u64 0,.string (.mk #[])])⟩,⟨none,none,.storeN 3 (.tmp 6) (.tmp 12)⟩])
 (.seq (.ops [⟨none,some 13,.loadN 3 (.tmp 6)⟩,⟨none,some 14,.call 288 [.tmp 13]⟩,⟨none,some 15,.call 287 [.tmp 4,.tmp 14]⟩])
 (.seq (.ops [⟨none,some 16,.call 289 [.tmp 4]⟩,⟨none,some 17,.iop .gtr (.tmp 16) (.const (.int .i64 255))⟩])
 (.cond (.tmp 17)
 (.seq (.ops [⟨none,some 2,.mv (.const (.string (.mk #[])))⟩,⟨none,some 3,.mv (.const (.int .i64 5))⟩])
 .ret)
 .skip)))))
 (.ops [⟨none,some 18,.iop .add (.tmp 9) (.const (.int .i64 1))⟩,⟨none,some 9,.mv (.tmp 18)⟩])))))))
 (.seq (.ops [⟨none,some 19,.call 290 [.tmp 4]⟩,⟨none,some 2,.mv (.tmp 19)⟩,⟨none,some 3,.mv (.const (.int .i64 0))⟩])
 .ret))))
abbrev r254 : List RV:=[(.tmp 2),(.tmp 3)]
theorem F254 : FnOk Go.Proofs.Tryz.prog 254 20 c254 r254:=⟨_,Go.Proofs.Tryz.func254,by kernel_rfl,by kernel_rfl,by kernel_rfl,by kernel_rfl,by kernel_rfl⟩
noncomputable def c221 : CC:=(.seq (.ops [⟨none,some 2,.box 254 (.tmp 0)⟩,⟨none,some 3,.box 255 (.tmp 1)⟩,⟨none,some 4,.alloc 257 (.agg #[.nilFunc,.nilFunc])⟩])
 (.seq (.ops [⟨none,some 5,(.mkF (.func 266) [] [.tmp 2])⟩,⟨none,some 6,(.mkF (.func 267) [] [.tmp 3])⟩,⟨none,some 7,.build [.nilFunc,.nilFunc] [(0,(1,.tmp 5)),(1,(1,.tmp 6))]⟩,⟨none,none,.storeN 2 (.tmp 4) (.tmp 7)⟩])
 .ret))
abbrev r221 : List RV:=[(.cN 4 2)]
theorem F221 : FnOk Go.Proofs.Tryz.prog 221 8 c221 r221:=⟨_,Go.Proofs.Tryz.func221,by kernel_rfl,by kernel_rfl,by kernel_rfl,by kernel_rfl,by kernel_rfl⟩
noncomputable def c222 : CC:=(.seq (.ops [⟨none,some 1,.box 121 (.tmp 0)⟩,⟨none,some 2,.mv (.const (.string (.mk #[])))⟩])
 (.seq (.draw 1 (opsOf (sub (bodyOf Go.Proofs.Tryz.f222) [1,0])) [⟨none,some 3,.faddr 1 (.tmp 1)⟩,⟨none,some 4,.load1 (.tmp 3)⟩,⟨none,some 5,.call 159 [.tmp 4]⟩,⟨none,some 6,.faddr 2 (.tmp 1)⟩,⟨none,some 7,.load1 (.tmp 6)⟩,⟨none,some 8,.call 160 [.tmp 7]⟩,⟨none,some 9,.sop .add (.tmp 5) (.tmp 8)⟩,⟨none,some 10,.faddr 3 (.tmp 1)⟩,⟨none,some 11,.load1 (.tmp 10)⟩,⟨none,some 12,.call 159 [.tmp 11]⟩,⟨none,some 13,.sop .add (.tmp 9) (.tmp 12)⟩,⟨none,some 14,.faddr 4 (.tmp 1)⟩,⟨none,some 15,.load1 (.tmp 14)⟩,⟨none,some 16,.call 158 [.tmp 15]⟩,⟨none,some 17,.sop .add (.tmp 13) (.tmp 16)⟩,⟨none,some 2,.mv (.tmp 17)⟩])
 .ret))
abbrev r222 : List RV:=[(.tmp 2)]
theorem F222 : FnOk Go.Proofs.Tryz.prog 222 18 c222 r222:=⟨_,Go.Proofs.Tryz.func222,by kernel_rfl,by kernel_rfl,by kernel_rfl,by kernel_rfl,by kernel_rfl⟩
noncomputable def c159 : CC:=(.seq (.ops [⟨none,some 2,.mv (.const (.string (.mk #[])))⟩])
 (.seq (.ops [⟨none,some 3,.mv (.tmp 0)⟩,⟨none,some 4,.conv .u64 (.tmp 3)⟩,⟨none,some 5,.call 157 [.tmp 4,.const (.int .i64 4)]⟩,⟨none,some 2,.mv (.tmp 5)⟩])
 .ret))
abbrev r159 : List RV:=[(.tmp 2)]
theorem F159 : FnOk Go.Proofs.Tryz.prog 159 6 c159 r159:=⟨_,Go.Proofs.Tryz.func159,by kernel_rfl,by kernel_rfl,by kernel_rfl,by kernel_rfl,by kernel_rfl⟩
noncomputable def c160 : CC:=(.seq (.ops [⟨none,some 2,.mv (.const (.string (.mk #[])))⟩])
 (.seq (.ops [⟨none,some 3,.mv (.tmp 0)⟩,⟨none,some 4,.call 157 [.tmp 3,.const (.int .i64 8)]⟩,⟨none,some 2,.mv (.tmp 4)⟩])
 .ret))
abbrev r160 : List RV:=[(.tmp 2)]
theorem F160 : FnOk Go.Proofs.Tryz.prog 160 5 c160 r160:=⟨_,Go.Proofs.Tryz.func160,by kernel_rfl,by kernel_rfl,by kernel_rfl,by kernel_rfl,by kernel_rfl⟩
noncomputable def c158 : CC:=(.seq (.ops [⟨none,some 2,.mv (.const (.string (.mk #[])))⟩])
 (.seq (.ops [⟨none,some 3,.mv (.tmp 0)⟩,⟨none,some 4,.lenS (.tmp 3)⟩,⟨none,some 5,.conv .u32 (.tmp 4)⟩,⟨none,some 6,.call 159 [.tmp 5]⟩,⟨none,some 7,.mv (.tmp 0)⟩,⟨none,some 8,.sop .add (.tmp 6) (.tmp 7)⟩,⟨none,some 2,.mv (.tmp 8)⟩])
 .ret))
abbrev r158 : List RV:=[(.tmp 2)]
theorem F158 : FnOk Go.Proofs.Tryz.prog 158 9 c158 r158:=⟨_,Go.Proofs.Tryz.func158,by kernel_rfl,by kernel_rfl,by kernel_rfl,by kernel_rfl,by kernel_rfl⟩
noncomputable def c223 : CC:=(.seq (.ops [⟨none,some 3,.alloc 121 (.agg #[.string (.mk #[]),.int .u32 0,.int .u64 0,.int .u32 0,.string (.mk #[])])⟩])
 (.seq (.draw 1 (opsOf (sub (bodyOf Go.Proofs.Tryz.f223) [1,0])) [⟨none,some 4,.load1 (.tmp 1)⟩,⟨none,some 5,.mv (.tmp 0)⟩,⟨none,some 6,.call 224 [.tmp 5]⟩,⟨none,some 7,.mv (.tmp 0)⟩,⟨none,some 8,.call 225 [.tmp 7]⟩,⟨none,some 9,.mv (.tmp 0)⟩,⟨none,some 10,.call 224 [.tmp 9]⟩,⟨none,some 11,.mv (.tmp 0)⟩,⟨none,some 12,.call 226 [.tmp 11,.const (.int .i64 32)]⟩,⟨none,some 13,.build [.string (.mk #[]),.int .u32 0,.int .u64 0,.int .u32 0,.string (.mk #[])] [(0,(1,.tmp 4)),(1,(1,.tmp 6)),(2,(1,.tmp 8)),(3,(1,.tmp 10)),(4,(1,.tmp 12))]⟩,⟨none,none,.storeN 5 (.tmp 3) (.tmp 13)⟩])
 .ret))
abbrev r223 : List RV:=[(.cN 3 5)]
theorem F223 : FnOk Go.Proofs.Tryz.prog 223 14 c223 r223:=⟨_,Go.Proofs.Tryz.func223,by kernel_rfl,by kernel_rfl,by kernel_rfl,by kernel_rfl,by kernel_rfl⟩
noncomputable def c224 : CC:=(.seq (.ops [⟨none,some 2,.mv (.const (.int .u32 0))⟩])
 (.seq (.ops [⟨none,some 3,.mv (.tmp 0)⟩,⟨none,some 4,.call 268 [.tmp 3,.const (.int .i64 4)]⟩,⟨none,some 5,.conv .u32 (.tmp 4)⟩,⟨none,some 2,.mv (.tmp 5)⟩])
 .ret))
abbrev r224 : List RV:=[(.tmp 2)]
theorem F224 : FnOk Go.Proofs.Tryz.prog 224 6 c224 r224:=⟨_,Go.Proofs.Tryz.func224,by kernel_rfl,by kernel_rfl,by kernel_rfl,by kernel_rfl,by kernel_rfl⟩
noncomputable def c226 : CC:=(.seq (.ops [⟨none,some 4,.mv (.const (.string (.mk #[])))⟩])
 (.seq (.ops [⟨none,some 6,.mv (.tmp 0)⟩,⟨none,some 7,.call 224 [.tmp 6]⟩,⟨none,some 5,.mv (.tmp 7)⟩])
 (.seq (.seq (.ops [⟨none,some 8,.mv (.tmp 5)⟩,⟨none,some 9,.conv .u64 (.tmp 8)⟩,⟨none,some 10,.mv (.tmp 1)⟩,⟨none,some 11,.raw 20 (.mk (some 11) (.call (.mk (.builtin .max) #[.tmp 10,.const (.int .i64 0)] #[3,3])) 3 "octet.go:89" #[.mk 2 .data] none)⟩,⟨none,some 12,.conv .u64 (.tmp 11)⟩,⟨none,some 13,.iop .gtr (.tmp 9) (.tmp 12)⟩])
 (.cond (.tmp 13)
 (.seq (.ops [⟨none,some 14,.mv (.tmp 0)⟩,⟨none,some 15,.call 263 [.tmp 14,.const (.int .i64 5)]⟩])
 (.seq (.ops [⟨none,some 4,.mv (.const (.string (.mk #[])))⟩])
 .ret))
 .skip))
 (.seq (.ops [⟨none,some 16,.mv (.tmp 0)⟩,⟨none,some 17,.mv (.tmp 5)⟩,⟨none,some 18,.conv .i64 (.tmp 17)⟩,⟨none,some 19,.call 269 [.tmp 16,.tmp 18]⟩,⟨none,some 4,.mv (.tmp 19)⟩])
 .ret))))
abbrev r226 : List RV:=[(.tmp 4)]
theorem F226 : FnOk Go.Proofs.Tryz.prog 226 20 c226 r226:=⟨_,Go.Proofs.Tryz.func226,by kernel_rfl,by kernel_rfl,by kernel_rfl,by kernel_rfl,by kernel_rfl⟩
noncomputable def c215 : CC:=(.seq (.ops [⟨none,some 2,.mv (.const (.int .i64 0))⟩])
 (.seq (.seq (.ops [⟨none,some 4,.mv (.tmp 0)⟩,⟨none,some 5,.call 262 [.tmp 4]⟩,⟨none,some 3,.mv (.tmp 5)⟩])
 (.seq (.ops [⟨none,some 6,.mv (.tmp 3)⟩,⟨none,some 7,.iop .neq (.tmp 6) (.const (.int .i64 0))⟩])
 (.cond (.tmp 7)
 (.seq (.ops [⟨none,some 8,.mv (.tmp 3)⟩,⟨none,some 2,.mv (.tmp 8)⟩])
 .ret)
 .skip)))
 (.seq (.seq (.ops [⟨none,some 9,.mv (.tmp 0)⟩,⟨none,some 10,.nilc (.tmp 9)⟩,⟨none,some 11,.faddr 0 (.tmp 10)⟩,⟨none,some 12,.load1 (.tmp 11)⟩,⟨none,some 13,.lenS (.tmp 12)⟩,⟨none,some 14,.iop .gtr (.tmp 13) (.const (.int .i64 0))⟩])
 (.cond (.tmp 14)
 (.seq (.ops [⟨none,some 2,.mv (.const (.int .i64 4))⟩])
 .ret)
 .skip))
 (.seq (.ops [⟨none,some 2,.mv (.const (.int .i64 0))⟩])
 .ret))))
abbrev r215 : List RV:=[(.tmp 2)]
theorem F215 : FnOk Go.Proofs.Tryz.prog 215 15 c215 r215:=⟨_,Go.Proofs.Tryz.func215,by kernel_rfl,by kernel_rfl,by kernel_rfl,by kernel_rfl,by kernel_rfl⟩
noncomputable def c301 : CC:=(.seq (.ops [⟨none,some 2,.box 251 (.tmp 0)⟩,⟨none,some 3,.box 370 (.tmp 1)⟩,⟨none,some 4,.alloc 372 (.agg #[.nilFunc,.nilFunc])⟩])
 (.seq (.ops [⟨none,some 5,(.mkF (.func 310) [] [.tmp 2])⟩,⟨none,some 6,(.mkF (.func 311) [] [.tmp 3])⟩,⟨none,some 7,.build [.nilFunc,.nilFunc] [(0,(1,.tmp 5)),(1,(1,.tmp 6))]⟩,⟨none,none,.storeN 2 (.tmp 4) (.tmp 7)⟩])
 .ret))
abbrev r301 : List RV:=[(.cN 4 2)]
theorem F301 : FnOk Go.Proofs.Tryz.prog 301 8 c301 r301:=⟨_,Go.Proofs.Tryz.func301,by kernel_rfl,by kernel_rfl,by kernel_rfl,by kernel_rfl,by kernel_rfl⟩
noncomputable def c218 : CC:=(.seq (.ops [⟨none,some 2,.mv (.const (.bool false))⟩])
 (.seq (.ops [⟨none,some 3,.mv (.tmp 0)⟩,⟨none,some 4,.call 219 [.tmp 3]⟩,⟨none,some 5,.not (.tmp 4)⟩,⟨none,some 2,.mv (.tmp 5)⟩])
 .ret))
abbrev r218 : List RV:=[(.tmp 2)]
theorem F218 : FnOk Go.Proofs.Tryz.prog 218 6 c218 r218:=⟨_,Go.Proofs.Tryz.func218,by kernel_rfl,by kernel_rfl,by kernel_rfl,by kernel_rfl,by kernel_rfl⟩
noncomputable def c219 : CC:=(.seq (.ops [⟨none,some 2,.mv (.const (.bool false))⟩])
 (.seq (.ops [⟨none,some 3,.mv (.tmp 0)⟩,⟨none,some 4,.iop .geq (.tmp 3) (.const (.int .i32 97))⟩,⟨none,some 5,.mv (.tmp 4)⟩,⟨some (5,true),some 6,.mv (.tmp 0)⟩,⟨some (5,true),some 7,.iop .leq (.tmp 6) (.const (.int .i32 122))⟩,⟨none,some 8,.pick (.tmp 5) (.tmp 7) (.const (.bool false))⟩,⟨none,some 9,.mv (.tmp 8)⟩,⟨some (9,false),some 10,.mv (.tmp 0)⟩,⟨some (9,false),some 11,.iop .geq (.tmp 10) (.const (.int .i32 65))⟩,⟨some (9,false),some 12,.mv (.tmp 11)⟩,⟨some (12,true),some 13,.mv (.tmp 0)⟩,⟨some (12,true),some 14,.iop .leq (.tmp 13) (.const (.int .i32 90))⟩,⟨some (9,false),some 15,.pick (.tmp 12) (.tmp 14) (.const (.bool false))⟩,⟨none,some 16,.pick (.tmp 9) (.const (.bool true)) (.tmp 15)⟩,⟨none,some 17,.mv (.tmp 16)⟩,⟨some (17,false),some 18,.mv (.tmp 0)⟩,⟨some (17,false),some 19,.iop .geq (.tmp 18) (.const (.int .i32 48))⟩,⟨some (17,false),some 20,.mv (.tmp 19)⟩,⟨some (20,true),some 21,.mv (.tmp 0)⟩,⟨some (20,true),some 22,.iop .leq (.tmp 21) (.const (.int .i32 57))⟩,⟨some (17,false),some 23,.pick (.tmp 20) (.tmp 22) (.const (.bool false))⟩,⟨none,some 24,.pick (.tmp 17) (.const (.bool true)) (.tmp 23)⟩,⟨none,some 25,.mv (.tmp 24)⟩,⟨some (25,false),some 26,.mv (.tmp 0)⟩,⟨some (25,false),some 27,.iop .eql (.tmp 26) (.const (.int .i32 45))⟩,⟨none,some 28,.pick (.tmp 25) (.const (.bool true)) (.tmp 27)⟩,⟨none,some 29,.mv (.tmp 28)⟩,⟨some (29,false),some 30,.mv (.tmp 0)⟩,⟨some (29,false),some 31,.iop .eql (.tmp 30) (.const (.int .i32 95))⟩,⟨none,some 32,.pick (.tmp 29) (.const (.bool true)) (.tmp 31)⟩,⟨none,some 2,.mv (.tmp 32)⟩])
 .ret))
abbrev r219 : List RV:=[(.tmp 2)]
theorem F219 : FnOk Go.Proofs.Tryz.prog 219 33 c219 r219:=⟨_,Go.Proofs.Tryz.func219,by kernel_rfl,by kernel_rfl,by kernel_rfl,by kernel_rfl,by kernel_rfl⟩
noncomputable def c203 : CC:=(.seq (.ops [⟨none,some 2,.mv (.const (.string (.mk #[])))⟩,⟨none,some 3,.mv (.const (.bool false))⟩])
 (.seq (.seq (.ops [⟨none,some 6,.mv (.tmp 0)⟩,⟨none,some 7,.lenS (.tmp 6)⟩,⟨none,some 4,.mv (.tmp 7)⟩])
 (.block 0
 (.loop
 (.seq (.seq (.ops [⟨none,some 8,.mv (.tmp 4)⟩,⟨none,some 9,.iop .gtr (.tmp 8) (.const (.int .i64 0))⟩])
 (.cond (.tmp 9)
 .skip
 (.exit 0)))
 (.seq (.block 1
 (.seq (.ops [⟨none,some 12,.mv (.tmp 0)⟩,⟨none,some 13,.mv (.tmp 4)⟩,⟨none,some 14,.iop .sub (.tmp 13) (.const (.int .i64 1))⟩,⟨none,some 15,.sidx (.tmp 12) (.tmp 14)⟩,⟨none,some 5,.mv (.tmp 15)⟩])
 (.seq (.ops [⟨none,some 16,.mv (.tmp 5)⟩,⟨none,some 17,.iop .neq (.tmp 16) (.const (.int .u8 255))⟩])
 (.cond (.tmp 17)
 (.seq (.draw 6 (opsOf (sub (bodyOf Go.Proofs.Tryz.f203) [1,0,1,0,0,1,0,0,1,1,0,0])) [⟨none,some 18,.mv (.tmp 0)⟩,⟨none,some 19,.mv (.tmp 4)⟩,⟨none,some 20,.iop .sub (.tmp 19) (.const (.int .i64 1))⟩,⟨none,some 21,.slS (.tmp 18) none (some (.tmp 20))⟩,⟨none,some 22,.mv (.tmp 5)⟩,⟨none,some 23,.iop .add (.tmp 22) (.const (.int .u8 1))⟩,⟨none,some 24,.call 96 [.tmp 23]⟩,⟨none,some 25,.sop .add (.tmp 21) (.tmp 24)⟩,⟨none,some 2,.mv (.tmp 25)⟩,⟨none,some 3,.mv (.const (.bool true))⟩])
 .ret)
 .skip))))
 (.ops [⟨none,some 10,.mv (.tmp 4)⟩,⟨none,some 11,.iop .sub (.tmp 10) (.const (.int .i64 1))⟩,⟨none,some 4,.mv (.tmp 11)⟩]))))))
 (.seq (.ops [⟨none,some 2,.mv (.const (.string (.mk #[])))⟩,⟨none,some 3,.mv (.const (.bool false))⟩])
 .ret)))
abbrev r203 : List RV:=[(.tmp 2),(.tmp 3)]
theorem F203 : FnOk Go.Proofs.Tryz.prog 203 26 c203 r203:=⟨_,Go.Proofs.Tryz.func203,by kernel_rfl,by kernel_rfl,by kernel_rfl,by kernel_rfl,by kernel_rfl⟩
noncomputable def c291 : CC:=(.seq (.ops [⟨none,some 2,.mv (.const (.int .i64 0))⟩])
 (.seq (.seq (.ops [⟨none,some 3,.mv (.tmp 0)⟩,⟨none,some 4,.pnil 0 false (.tmp 3)⟩])
 (.cond (.tmp 4)
 (.seq (.ops [⟨none,some 2,.mv (.const (.int .i64 0))⟩])
 .ret)
 .skip))
 (.seq (.ops [⟨none,some 5,.mv (.tmp 0)⟩,⟨none,some 6,.nilc (.tmp 5)⟩,⟨none,some 7,.faddr 0 (.tmp 6)⟩,⟨none,some 8,.load1 (.tmp 7)⟩,⟨none,some 9,.lenS (.tmp 8)⟩,⟨none,some 2,.mv (.tmp 9)⟩])
 .ret)))
abbrev r291 : List RV:=[(.tmp 2)]
theorem F291 : FnOk Go.Proofs.Tryz.prog 291 10 c291 r291:=⟨_,Go.Proofs.Tryz.func291,by kernel_rfl,by kernel_rfl,by kernel_rfl,by kernel_rfl,by kernel_rfl⟩
noncomputable def c262 : CC:=(.seq (.ops [⟨none,some 2,.mv (.const (.int .i64 0))⟩])
 (.seq (.seq (.ops [⟨none,some 3,.mv (.tmp 0)⟩,⟨none,some 4,.pnil 0 false (.tmp 3)⟩])
 (.cond (.tmp 4)
 (.seq (.ops [⟨none,some 2,.mv (.const (.int .i64 1))⟩])
 .ret)
 .skip))
 (.seq (.ops [⟨none,some 5,.mv (.tmp 0)⟩,⟨none,some 6,.nilc (.tmp 5)⟩,⟨none,some 7,.faddr 1 (.tmp 6)⟩,⟨none,some 8,.load1 (.tmp 7)⟩,⟨none,some 2,.mv (.tmp 8)⟩])
 .ret)))
abbrev r262 : List RV:=[(.tmp 2)]
theorem F262 : FnOk Go.Proofs.Tryz.prog 262 9 c262 r262:=⟨_,Go.Proofs.Tryz.func262,by kernel_rfl,by kernel_rfl,by kernel_rfl,by kernel_rfl,by kernel_rfl⟩
noncomputable def c261 : CC:=(.seq (.ops [⟨none,some 2,.mv (.const (.int .u8 0))⟩])
 (.seq (.ops [⟨none,some 3,.mv (.tmp 0)⟩,⟨none,some 4,.call 268 [.tmp 3,.const (.int .i64 1)]⟩,⟨none,some 5,.conv .u8 (.tmp 4)⟩,⟨none,some 2,.mv (.tmp 5)⟩])
 .ret))
abbrev r261 : List RV:=[(.tmp 2)]
theorem F261 : FnOk Go.Proofs.Tryz.prog 261 6 c261 r261:=⟨_,Go.Proofs.Tryz.func261,by kernel_rfl,by kernel_rfl,by kernel_rfl,by kernel_rfl,by kernel_rfl⟩
noncomputable def c292 : CC:=(.seq (.ops [⟨none,some 2,.mv (.const (.string (.mk #[])))⟩])
 (.seq (.ops [⟨none,some 3,.alloc 377 (.agg #[.pointer none,.slice none 0 0])⟩])
 (.seq (.block 0
 (.loop
 (.seq (.seq (.ops [⟨none,some 5,.mv (.tmp 0)⟩,⟨none,some 6,.call 262 [.tmp 5]⟩,⟨none,some 7,.iop .eql (.tmp 6) (.const (.int .i64 0))⟩])
 (.cond (.tmp 7)
 .skip
 (.exit 0)))
 (.block 1
 (.seq (.ops [⟨none,some 8,.mv (.tmp 0)⟩,⟨none,some 9,.call 261 [.tmp 8]⟩,⟨none,some 4,.mv (.tmp 9)⟩])
 (.seq (.seq (.ops [⟨none,some 10,.mv (.tmp 4)⟩,⟨none,some 11,.iop .neq (.tmp 10) (.const (.int .u8 0))⟩])
 (.cond (.tmp 11)
 (.seq (.ops [⟨none,some 12,.mv (.tmp 4)⟩,⟨none,some 13,.call 304 [.tmp 3,.tmp 12]⟩])
 (.exit 1))
 .skip))
 (.seq (.ops [⟨none,some 14,.mv (.tmp 0)⟩,⟨none,some 15,.call 261 [.tmp 14]⟩])
 (.block 2
 (.seq (.ops [⟨none,some 19,.iop .eql (.tmp 15) (.const (.int .u8 255))⟩,⟨none,some 18,.mv (.tmp 19)⟩])
 (.cond (.tmp 18)
 (.ops [⟨none,some 20,.call 304 [.tmp 3,.const (.int .u8 0)]⟩])
 (.seq (.ops [⟨none,some 22,.iop .eql (.tmp 15) (.const (.int .u8 0))⟩,⟨none,some 21,.mv (.tmp 22)⟩])
 (.cond (.tmp 21)
 (.seq (.ops [⟨none,some 23,.call 290 [.tmp 3]⟩,⟨none,some 2,.mv (.tmp 23)⟩])
 .ret)
 (.ops [⟨none,some 16,.mv (.tmp 0)⟩,⟨none,some 17,.call 263 [.tmp 16,.const (.int .i64 20)]⟩])))))))))))))
 (.seq (.ops [⟨none,some 2,.mv (.const (.string (.mk #[])))⟩])
 .ret))))
abbrev r292 : List RV:=[(.tmp 2)]
theorem F292 : FnOk Go.Proofs.Tryz.prog 292 24 c292 r292:=⟨_,Go.Proofs.Tryz.func292,by kernel_rfl,by kernel_rfl,by kernel_rfl,by kernel_rfl,by kernel_rfl⟩
noncomputable def c263 : CC:=(.seq (.ops [⟨none,some 4,.mv (.tmp 0)⟩,⟨none,some 5,.pnil 0 true (.tmp 4)⟩,⟨none,some 6,.mv (.tmp 5)⟩,⟨some (6,true),some 7,.mv (.tmp 0)⟩,⟨some (6,true),some 8,.nilc (.tmp 7)⟩,⟨some (6,true),some 9,.faddr 1 (.tmp 8)⟩,⟨some (6,true),some 10,.load1 (.tmp 9)⟩,⟨some (6,true),some 11,.iop .eql (.tmp 10) (.const (.int .i64 0))⟩,⟨none,some 12,.pick (.tmp 6) (.tmp 11) (.const (.bool false))⟩])
 (.cond (.tmp 12)
 (.ops [⟨none,some 13,.mv (.tmp 0)⟩,⟨none,some 14,.mv (.tmp 1)⟩,⟨none,some 15,.nilc (.tmp 13)⟩,⟨none,some 16,.faddr 1 (.tmp 15)⟩,⟨none,none,.store1 (.tmp 16) (.tmp 14)⟩])
 .skip))
abbrev r263 : List RV:=[]
theorem F263 : FnOk Go.Proofs.Tryz.prog 263 17 c263 r263:=⟨_,Go.Proofs.Tryz.func263,by kernel_rfl,by kernel_rfl,by kernel_rfl,by kernel_rfl,by kernel_rfl⟩
noncomputable def c288 : CC:=(.seq (.ops [⟨none,some 1,.box 220 (.tmp 0)⟩,⟨none,some 2,.mv (.const (.string (.mk #[])))⟩])
 (.seq (.seq (.ops [⟨none,some 3,.faddr 0 (.tmp 1)⟩,⟨none,some 4,.load1 (.tmp 3)⟩,⟨none,some 5,.not (.tmp 4)⟩])
 (.cond (.tmp 5)
 (.seq (.draw 2 (opsOf (sub (bodyOf Go.Proofs.Tryz.f288) [1,0,1,0,0])) [⟨none,some 6,.call 96 [.const (.int .u8 1)]⟩,⟨none,some 7,.faddr 1 (.tmp 1)⟩,⟨none,some 8,.load1 (.tmp 7)⟩,⟨none,some 9,.call 160 [.tmp 8]⟩,⟨none,some 10,.sop .add (.tmp 6) (.tmp 9)⟩,⟨none,some 2,.mv (.tmp 10)⟩])
 .ret)
 .skip))
 (.seq (.draw 3 (opsOf (sub (bodyOf Go.Proofs.Tryz.f288) [1,1,0])) [⟨none,some 11,.call 96 [.const (.int .u8 2)]⟩,⟨none,some 12,.faddr 2 (.tmp 1)⟩,⟨none,some 13,.load1 (.tmp 12)⟩,⟨none,some 14,.call 303 [.tmp 13,.const (.string (.mk #[0])),.const (.string (.mk #[0,255]))]⟩,⟨none,some 15,.sop .add (.tmp 11) (.tmp 14)⟩,⟨none,some 16,.sop .add (.tmp 15) (.const (.string (.mk #[0,0])))⟩,⟨none,some 2,.mv (.tmp 16)⟩])
 .ret)))
abbrev r288 : List RV:=[(.tmp 2)]
theorem F288 : FnOk Go.Proofs.Tryz.prog 288 17 c288 r288:=⟨_,Go.Proofs.Tryz.func288,by kernel_rfl,by kernel_rfl,by kernel_rfl,by kernel_rfl,by kernel_rfl⟩
noncomputable def c266 : CC:=(.seq (.ops [⟨none,some 2,.box 121 (.tmp 0)⟩,⟨none,some 3,.mv (.const (.string (.mk #[])))⟩])
 (.seq (.draw 1 (opsOf (sub (bodyOf Go.Proofs.Tryz.f266) [1,0])) [⟨none,some 4,.call 96 [.const (.int .u8 1)]⟩,⟨none,some 5,.load1 (.tmp 1)⟩,⟨none,some 6,.loadN 5 (.tmp 2)⟩,⟨none,some 7,.callv (.tmp 5) [.tmp 6]⟩,⟨none,some 8,.sop .add (.tmp 4) (.tmp 7)⟩,⟨none,some 3,.mv (.tmp 8)⟩])
 .ret))
abbrev r266 : List RV:=[(.tmp 3)]
theorem F266 : FnOk Go.Proofs.Tryz.prog 266 9 c266 r266:=⟨_,Go.Proofs.Tryz.func266,by kernel_rfl,by kernel_rfl,by kernel_rfl,by kernel_rfl,by kernel_rfl⟩
noncomputable def c96 : CC:=(.seq (.ops [⟨none,some 2,.mv (.const (.string (.mk #[])))⟩])
 (.seq (.ops [⟨none,some 3,.mv (.tmp 0)⟩,⟨none,some 4,.conv .u64 (.tmp 3)⟩,⟨none,some 5,.call 157 [.tmp 4,.const (.int .i64 1)]⟩,⟨none,some 2,.mv (.tmp 5)⟩])
 .ret))
abbrev r96 : List RV:=[(.tmp 2)]
theorem F96 : FnOk Go.Proofs.Tryz.prog 96 6 c96 r96:=⟨_,Go.Proofs.Tryz.func96,by kernel_rfl,by kernel_rfl,by kernel_rfl,by kernel_rfl,by kernel_rfl⟩
noncomputable def c267 : CC:=(.seq (.ops [⟨none,some 3,.alloc 121 (.agg #[.string (.mk #[]),.int .u32 0,.int .u64 0,.int .u32 0,.string (.mk #[])])⟩])
 (.seq (.seq (.ops [⟨none,some 4,.mv (.tmp 0)⟩,⟨none,some 5,.call 261 [.tmp 4]⟩,⟨none,some 6,.iop .neq (.tmp 5) (.const (.int .u8 1))⟩])
 (.cond (.tmp 6)
 (.ops [⟨none,some 7,.mv (.tmp 0)⟩,⟨none,some 8,.call 263 [.tmp 7,.const (.int .i64 4)]⟩])
 .skip))
 (.seq (.ops [⟨none,some 9,.load1 (.tmp 1)⟩,⟨none,some 10,.mv (.tmp 0)⟩,⟨none,some 11,.callv (.tmp 9) [.tmp 10]⟩,⟨none,none,.storeN 5 (.tmp 3) (.tmp 11)⟩])
 .ret)))
abbrev r267 : List RV:=[(.cN 3 5)]
theorem F267 : FnOk Go.Proofs.Tryz.prog 267 12 c267 r267:=⟨_,Go.Proofs.Tryz.func267,by kernel_rfl,by kernel_rfl,by kernel_rfl,by kernel_rfl,by kernel_rfl⟩
noncomputable def c157 : CC:=(.seq (.ops [⟨none,some 4,.mv (.const (.string (.mk #[])))⟩])
 (.seq (.ops [⟨none,some 5,.alloc 318 (.agg #[.int .u8 0,.int .u8 0,.int .u8 0,.int .u8 0,.int .u8 0,.int .u8 0,.int .u8 0,.int .u8 0])⟩])
 (.seq (.seq (.ops [⟨none,some 7,.mv (.const (.int .i64 0))⟩])
 (.block 0
 (.loop
 (.seq (.ops [⟨none,some 8,.iop .lss (.tmp 7) (.const (.int .i64 8))⟩])
 (.seq (.cond (.tmp 8)
 .skip
 (.exit 0))
 (.seq (.block 1
 (.seq (.ops [⟨none,some 9,.mv (.tmp 7)⟩,⟨none,some 6,.mv (.tmp 9)⟩])
 (.ops [⟨none,some 10,.mv (.tmp 6)⟩,⟨none,some 11,.mv (.tmp 0)⟩,⟨none,some 12,.mv (.tmp 6)⟩,⟨none,some 13,.iop .sub (.const (.int .i64 7)) (.tmp 12)⟩,⟨none,some 14,.iop .mul (.const (.int .i64 8)) (.tmp 13)⟩,⟨none,some 15,.iop .shr (.tmp 11) (.tmp 14)⟩,⟨none,some 16,.conv .u8 (.tmp 15)⟩,⟨none,some 17,.iaddrA 8 1 (.tmp 5) (.tmp 10)⟩,⟨none,none,.store1 (.tmp 17) (.tmp 16)⟩])))
 (.ops [⟨none,some 18,.iop .add (.tmp 7) (.const (.int .i64 1))⟩,⟨none,some 7,.mv (.tmp 18)⟩])))))))
 (.seq (.ops [⟨none,some 19,.mv (.tmp 1)⟩,⟨none,some 20,.iop .sub (.const (.int .i64 8)) (.tmp 19)⟩,⟨none,some 21,.slA 8 1 (.tmp 5) (some (.tmp 20)) none⟩,⟨none,some 22,.raw 23 (.mk (some 22) (.convert 319 9 (.tmp 21)) 9 "octet.go:22" #[.mk 2 .data] none)⟩,⟨none,some 4,.mv (.tmp 22)⟩])
 .ret))))
abbrev r157 : List RV:=[(.tmp 4)]
theorem F157 : FnOk Go.Proofs.Tryz.prog 157 23 c157 r157:=⟨_,Go.Proofs.Tryz.func157,by kernel_rfl,by kernel_rfl,by kernel_rfl,by kernel_rfl,by kernel_rfl⟩
noncomputable def c310 : CC:=(.seq (.ops [⟨none,some 3,.mv (.const (.string (.mk #[])))⟩])
 (.seq (.draw 1 (opsOf (sub (bodyOf Go.Proofs.Tryz.f310) [1,0])) [⟨none,some 4,.call 96 [.const (.int .u8 1)]⟩,⟨none,some 5,.load1 (.tmp 1)⟩,⟨none,some 6,.mv (.tmp 0)⟩,⟨none,some 7,.callv (.tmp 5) [.tmp 6]⟩,⟨none,some 8,.sop .add (.tmp 4) (.tmp 7)⟩,⟨none,some 3,.mv (.tmp 8)⟩])
 .ret))
abbrev r310 : List RV:=[(.tmp 3)]
theorem F310 : FnOk Go.Proofs.Tryz.prog 310 9 c310 r310:=⟨_,Go.Proofs.Tryz.func310,by kernel_rfl,by kernel_rfl,by kernel_rfl,by kernel_rfl,by kernel_rfl⟩
noncomputable def c311 : CC:=(.seq (.ops [⟨none,some 3,.mv (.const (.int .u64 0))⟩])
 (.seq (.seq (.ops [⟨none,some 4,.mv (.tmp 0)⟩,⟨none,some 5,.call 261 [.tmp 4]⟩,⟨none,some 6,.iop .neq (.tmp 5) (.const (.int .u8 1))⟩])
 (.cond (.tmp 6)
 (.ops [⟨none,some 7,.mv (.tmp 0)⟩,⟨none,some 8,.call 263 [.tmp 7,.const (.int .i64 4)]⟩])
 .skip))
 (.seq (.ops [⟨none,some 9,.load1 (.tmp 1)⟩,⟨none,some 10,.mv (.tmp 0)⟩,⟨none,some 11,.callv (.tmp 9) [.tmp 10]⟩,⟨none,some 3,.mv (.tmp 11)⟩])
 .ret)))
abbrev r311 : List RV:=[(.tmp 3)]
theorem F311 : FnOk Go.Proofs.Tryz.prog 311 12 c311 r311:=⟨_,Go.Proofs.Tryz.func311,by kernel_rfl,by kernel_rfl,by kernel_rfl,by kernel_rfl,by kernel_rfl⟩
noncomputable def c350 : CC:=(.seq (.ops [⟨none,some 4,.mv (.const (.string (.mk #[])))⟩,⟨none,some 5,.mv (.const (.bool false))⟩,⟨none,some 6,.mv (.const (.int .i64 0))⟩])
 (.seq (.ops [⟨none,some 10,.mv (.tmp 0)⟩,⟨none,some 11,.nilc (.tmp 10)⟩,⟨none,some 12,.faddr 0 (.tmp 11)⟩,⟨none,some 13,.load1 (.tmp 12)⟩,⟨none,some 14,.mv (.tmp 1)⟩,⟨none,some 15,.raw 20 (.mk (some 15) (.lookup 172 (.tmp 13) (.tmp 14) true) 303 "registry.go:45" #[.mk 3 .data,.mk 4 .data] none)⟩,⟨none,some 9,.mv (.tmp 15)⟩,⟨none,some 16,.ext (.tmp 9) 0⟩,⟨none,some 17,.ext (.tmp 9) 1⟩,⟨none,some 7,.mv (.tmp 16)⟩,⟨none,some 8,.mv (.tmp 17)⟩])
 (.seq (.ops [⟨none,some 18,.mv (.tmp 7)⟩,⟨none,some 19,.mv (.tmp 8)⟩,⟨none,some 4,.mv (.tmp 18)⟩,⟨none,some 5,.mv (.tmp 19)⟩,⟨none,some 6,.mv (.const (.int .i64 0))⟩])
 .ret)))
abbrev r350 : List RV:=[(.tmp 4),(.tmp 5),(.tmp 6)]
theorem F350 : FnOk Go.Proofs.Tryz.prog 350 20 c350 r350:=⟨_,Go.Proofs.Tryz.func350,by kernel_rfl,by kernel_rfl,by kernel_rfl,by kernel_rfl,by kernel_rfl⟩
end Go.VrA
