import Derived.Test.YtbkddpckkgbbmaaGreatDoorProg
import Derived.Test.YtbkddpckkgbbmaaGreatDoorVcI
set_option linter.unusedSimpArgs false
set_option linter.unusedVariables false
set_option linter.unusedSectionVars false
set_option linter.unnecessarySimpa false
namespace Go.VrC
open Go Go.Vc
set_option maxRecDepth 100000
noncomputable def c135 : CC:=(.seq (.ops [⟨none,some 1,.box 232 (.tmp 0)⟩,⟨none,some 2,.mv (.const (.string (.mk #[])))⟩,⟨none,some 3,.mv (.const (.int .i64 0))⟩])
 (.seq (.ops [⟨none,some 4,.loadN 9 (.tmp 1)⟩,⟨none,some 5,.call 189 [.tmp 4]⟩,⟨none,some 6,.call 188 [.tmp 5]⟩,⟨none,some 7,.ext (.tmp 6) 0⟩,⟨none,some 8,.ext (.tmp 6) 1⟩,⟨none,some 2,.mv (.tmp 7)⟩,⟨none,some 3,.mv (.tmp 8)⟩])
 .ret))
abbrev r135 : List RV:=[(.tmp 2),(.tmp 3)]
theorem F135 : FnOk Go.Proofs.Tryz.prog 135 9 c135 r135:=⟨_,Go.Proofs.Tryz.func135,by kernel_rfl,by kernel_rfl,by kernel_rfl,by kernel_rfl,by kernel_rfl⟩
noncomputable def c189 : CC:=(.seq (.ops [⟨none,some 1,.box 232 (.tmp 0)⟩,⟨none,some 2,.mv (.const (.slice none 0 0))⟩])
 (.seq (.ops [⟨none,some 4,.faddr 0 (.tmp 1)⟩,⟨none,some 5,.load1 (.tmp 4)⟩,⟨none,some 6,.call 138 [.tmp 5]⟩,⟨none,some 7,.buildS 234 1 [.bool false,.int .u64 0,.string (.mk #[])] [(0,(3,.tmp 6))]⟩,⟨none,some 3,.mv (.tmp 7)⟩])
 (.seq (.seq (.ops [⟨none,some 8,.faddr 0 (.tmp 1)⟩,⟨none,some 9,.load1 (.tmp 8)⟩])
 (.block 0
 (.seq (.ops [⟨none,some 11,.sop .eql (.tmp 9) (.const (.string (.mk #[113])))⟩,⟨none,some 10,.mv (.tmp 11)⟩])
 (.cond (.tmp 10)
 (.ops [⟨none,some 12,.mv (.tmp 3)⟩,⟨none,some 13,.faddr 1 (.tmp 1)⟩,⟨none,some 14,.load1 (.tmp 13)⟩,⟨none,some 15,.call 138 [.tmp 14]⟩,⟨none,some 16,.buildS 234 1 [.bool false,.int .u64 0,.string (.mk #[])] [(0,(3,.tmp 15))]⟩,⟨none,some 17,.raw 74 (.mk (some 17) (.call (.mk (.builtin .append) #[.tmp 12,.tmp 16] #[237,237])) 237 "ref.go:23" #[.mk 0 .data,.mk 4 .data,.mk 3 .chain] none)⟩,⟨none,some 3,.mv (.tmp 17)⟩])
 (.seq (.ops [⟨none,some 19,.sop .eql (.tmp 9) (.const (.string (.mk #[109])))⟩,⟨none,some 18,.mv (.tmp 19)⟩])
 (.cond (.tmp 18)
 (.draw 6 (opsOf (sub (bodyOf Go.Proofs.Tryz.f189) [1,1,0,1,0,1,1,1,0])) [⟨none,some 20,.mv (.tmp 3)⟩,⟨none,some 21,.faddr 1 (.tmp 1)⟩,⟨none,some 22,.load1 (.tmp 21)⟩,⟨none,some 23,.call 138 [.tmp 22]⟩,⟨none,some 24,.faddr 2 (.tmp 1)⟩,⟨none,some 25,.load1 (.tmp 24)⟩,⟨none,some 26,.call 139 [.tmp 25]⟩,⟨none,some 27,.buildS 234 2 [.bool false,.int .u64 0,.string (.mk #[]),.bool false,.int .u64 0,.string (.mk #[])] [(0,(3,.tmp 23)),(3,(3,.tmp 26))]⟩,⟨none,some 28,.raw 74 (.mk (some 28) (.call (.mk (.builtin .append) #[.tmp 20,.tmp 27] #[237,237])) 237 "ref.go:25" #[.mk 0 .data,.mk 7 .data,.mk 6 .chain] none)⟩,⟨none,some 3,.mv (.tmp 28)⟩])
 (.seq (.ops [⟨none,some 30,.sop .eql (.tmp 9) (.const (.string (.mk #[101])))⟩,⟨none,some 29,.mv (.tmp 30)⟩])
 (.cond (.tmp 29)
 (.draw 8 (opsOf (sub (bodyOf Go.Proofs.Tryz.f189) [1,1,0,1,0,1,1,1,1,1,0])) [⟨none,some 31,.mv (.tmp 3)⟩,⟨none,some 32,.faddr 3 (.tmp 1)⟩,⟨none,some 33,.load1 (.tmp 32)⟩,⟨none,some 34,.call 139 [.tmp 33]⟩,⟨none,some 35,.faddr 1 (.tmp 1)⟩,⟨none,some 36,.load1 (.tmp 35)⟩,⟨none,some 37,.call 138 [.tmp 36]⟩,⟨none,some 38,.faddr 2 (.tmp 1)⟩,⟨none,some 39,.load1 (.tmp 38)⟩,⟨none,some 40,.call 139 [.tmp 39]⟩,⟨none,some 41,.buildS 234 3 [.bool false,.int .u64 0,.string (.mk #[]),.bool false,.int .u64 0,.string (.mk #[]),.bool false,.int .u64 0,.string (.mk #[])] [(0,(3,.tmp 34)),(3,(3,.tmp 37)),(6,(3,.tmp 40))]⟩,⟨none,some 42,.raw 74 (.mk (some 42) (.call (.mk (.builtin .append) #[.tmp 31,.tmp 41] #[237,237])) 237 "ref.go:27" #[.mk 0 .data,.mk 10 .data,.mk 9 .chain] none)⟩,⟨none,some 3,.mv (.tmp 42)⟩])
 (.seq (.ops [⟨none,some 44,.sop .eql (.tmp 9) (.const (.string (.mk #[98])))⟩,⟨none,some 43,.mv (.tmp 44)⟩])
 (.cond (.tmp 43)
 (.draw 10 (opsOf (sub (bodyOf Go.Proofs.Tryz.f189) [1,1,0,1,0,1,1,1,1,1,1,1,0])) [⟨none,some 45,.mv (.tmp 3)⟩,⟨none,some 46,.faddr 4 (.tmp 1)⟩,⟨none,some 47,.faddr 0 (.tmp 46)⟩,⟨none,some 48,.load1 (.tmp 47)⟩,⟨none,some 49,.call 138 [.tmp 48]⟩,⟨none,some 50,.faddr 4 (.tmp 1)⟩,⟨none,some 51,.faddr 1 (.tmp 50)⟩,⟨none,some 52,.load1 (.tmp 51)⟩,⟨none,some 53,.conv .u64 (.tmp 52)⟩,⟨none,some 54,.call 139 [.tmp 53]⟩,⟨none,some 55,.faddr 4 (.tmp 1)⟩,⟨none,some 56,.faddr 2 (.tmp 55)⟩,⟨none,some 57,.load1 (.tmp 56)⟩,⟨none,some 58,.call 138 [.tmp 57]⟩,⟨none,some 59,.faddr 4 (.tmp 1)⟩,⟨none,some 60,.faddr 3 (.tmp 59)⟩,⟨none,some 61,.load1 (.tmp 60)⟩,⟨none,some 62,.call 138 [.tmp 61]⟩,⟨none,some 63,.buildS 234 4 [.bool false,.int .u64 0,.string (.mk #[]),.bool false,.int .u64 0,.string (.mk #[]),.bool false,.int .u64 0,.string (.mk #[]),.bool false,.int .u64 0,.string (.mk #[])] [(0,(3,.tmp 49)),(3,(3,.tmp 54)),(6,(3,.tmp 58)),(9,(3,.tmp 62))]⟩,⟨none,some 64,.raw 74 (.mk (some 64) (.call (.mk (.builtin .append) #[.tmp 45,.tmp 63] #[237,237])) 237 "ref.go:29" #[.mk 0 .data,.mk 18 .data,.mk 17 .chain] none)⟩,⟨none,some 3,.mv (.tmp 64)⟩])
 (.seq (.ops [⟨none,some 66,.sop .eql (.tmp 9) (.const (.string (.mk #[99])))⟩,⟨none,some 65,.mv (.tmp 66)⟩])
 (.cond (.tmp 65)
 (.ops [⟨none,some 67,.mv (.tmp 3)⟩,⟨none,some 68,.faddr 8 (.tmp 1)⟩,⟨none,some 69,.load1 (.tmp 68)⟩,⟨none,some 70,.call 138 [.tmp 69]⟩,⟨none,some 71,.buildS 234 1 [.bool false,.int .u64 0,.string (.mk #[])] [(0,(3,.tmp 70))]⟩,⟨none,some 72,.raw 74 (.mk (some 72) (.call (.mk (.builtin .append) #[.tmp 67,.tmp 71] #[237,237])) 237 "ref.go:31" #[.mk 0 .data,.mk 4 .data,.mk 3 .chain] none)⟩,⟨none,some 3,.mv (.tmp 72)⟩])
 .skip))))))))))))
 (.seq (.ops [⟨none,some 73,.mv (.tmp 3)⟩,⟨none,some 2,.mv (.tmp 73)⟩])
 .ret))))
abbrev r189 : List RV:=[(.tmp 2)]
theorem F189 : FnOk Go.Proofs.Tryz.prog 189 74 c189 r189:=⟨_,Go.Proofs.Tryz.func189,by kernel_rfl,by kernel_rfl,by kernel_rfl,by kernel_rfl,by kernel_rfl⟩
noncomputable def c138 : CC:=(.seq (.ops [⟨none,some 2,.alloc 234 (.agg #[.bool false,.int .u64 0,.string (.mk #[])])⟩])
 (.seq (.ops [⟨none,some 3,.mv (.tmp 0)⟩,⟨none,some 4,.build [.bool false,.int .u64 0,.string (.mk #[])] [(0,(1,.const (.bool true))),(2,(1,.tmp 3))]⟩,⟨none,none,.storeN 3 (.tmp 2) (.tmp 4)⟩])
 .ret))
abbrev r138 : List RV:=[(.cN 2 3)]
theorem F138 : FnOk Go.Proofs.Tryz.prog 138 5 c138 r138:=⟨_,Go.Proofs.Tryz.func138,by kernel_rfl,by kernel_rfl,by kernel_rfl,by kernel_rfl,by kernel_rfl⟩
noncomputable def c139 : CC:=(.seq (.ops [⟨none,some 2,.alloc 234 (.agg #[.bool false,.int .u64 0,.string (.mk #[])])⟩])
 (.seq (.ops [⟨none,some 3,.mv (.tmp 0)⟩,⟨none,some 4,.build [.bool false,.int .u64 0,.string (.mk #[])] [(1,(1,.tmp 3))]⟩,⟨none,none,.storeN 3 (.tmp 2) (.tmp 4)⟩])
 .ret))
abbrev r139 : List RV:=[(.cN 2 3)]
theorem F139 : FnOk Go.Proofs.Tryz.prog 139 5 c139 r139:=⟨_,Go.Proofs.Tryz.func139,by kernel_rfl,by kernel_rfl,by kernel_rfl,by kernel_rfl,by kernel_rfl⟩
noncomputable def c188 : CC:=(.seq (.ops [⟨none,some 2,.mv (.const (.string (.mk #[])))⟩,⟨none,some 3,.mv (.const (.int .i64 0))⟩])
 (.seq (.ops [⟨none,some 4,.mv (.const (.string (.mk #[])))⟩])
 (.seq (.seq (.ops [⟨none,some 8,.mv (.tmp 0)⟩,⟨none,some 9,.lenL (.tmp 8)⟩,⟨none,some 10,.mv (.const (.int .i64 0))⟩])
 (.block 0
 (.loop
 (.seq (.ops [⟨none,some 11,.iop .lss (.tmp 10) (.tmp 9)⟩])
 (.seq (.cond (.tmp 11)
 .skip
 (.exit 0))
 (.seq (.block 1
 (.seq (.ops [⟨none,some 12,.iaddr 3 (.tmp 8) (.tmp 10)⟩,⟨none,some 13,.loadN 3 (.tmp 12)⟩,⟨none,some 6,.alloc 234 (.agg #[.bool false,.int .u64 0,.string (.mk #[])])⟩,⟨none,none,.storeN 3 (.tmp 6) (.tmp 13)⟩])
 (.seq (.seq (.ops [⟨none,some 14,.faddr 0 (.tmp 6)⟩,⟨none,some 15,.load1 (.tmp 14)⟩,⟨none,some 16,.not (.tmp 15)⟩])
 (.cond (.tmp 16)
 (.draw 6 (opsOf (sub (bodyOf Go.Proofs.Tryz.f188) [1,1,0,1,0,0,1,1,0,0,1,0,1,0])) [⟨none,some 17,.mv (.tmp 4)⟩,⟨none,some 18,.call 215 [.const (.int .u64 1),.const (.int .i64 1)]⟩,⟨none,some 19,.sop .add (.tmp 17) (.tmp 18)⟩,⟨none,some 20,.faddr 1 (.tmp 6)⟩,⟨none,some 21,.load1 (.tmp 20)⟩,⟨none,some 22,.call 215 [.tmp 21,.const (.int .i64 8)]⟩,⟨none,some 23,.sop .add (.tmp 19) (.tmp 22)⟩,⟨none,some 4,.mv (.tmp 23)⟩])
 (.seq (.ops [⟨none,some 24,.mv (.tmp 4)⟩,⟨none,some 25,.call 215 [.const (.int .u64 2),.const (.int .i64 1)]⟩,⟨none,some 26,.sop .add (.tmp 24) (.tmp 25)⟩,⟨none,some 4,.mv (.tmp 26)⟩])
 (.seq (.seq (.ops [⟨none,some 7,.mv (.const (.int .i64 0))⟩])
 (.block 2
 (.loop
 (.seq (.seq (.ops [⟨none,some 27,.mv (.tmp 7)⟩,⟨none,some 28,.faddr 2 (.tmp 6)⟩,⟨none,some 29,.load1 (.tmp 28)⟩,⟨none,some 30,.lenS (.tmp 29)⟩,⟨none,some 31,.iop .lss (.tmp 27) (.tmp 30)⟩])
 (.cond (.tmp 31)
 .skip
 (.exit 2)))
 (.seq (.block 3
 (.seq (.ops [⟨none,some 34,.mv (.tmp 4)⟩,⟨none,some 35,.faddr 2 (.tmp 6)⟩,⟨none,some 36,.load1 (.tmp 35)⟩,⟨none,some 37,.mv (.tmp 7)⟩,⟨none,some 38,.mv (.tmp 7)⟩,⟨none,some 39,.iop .add (.tmp 38) (.const (.int .i64 1))⟩,⟨none,some 40,.slS (.tmp 36) (some (.tmp 37)) (some (.tmp 39))⟩,⟨none,some 41,.sop .add (.tmp 34) (.tmp 40)⟩,⟨none,some 4,.mv (.tmp 41)⟩])
 (.seq (.ops [⟨none,some 42,.faddr 2 (.tmp 6)⟩,⟨none,some 43,.load1 (.tmp 42)⟩,⟨none,some 44,.mv (.tmp 7)⟩,⟨none,some 45,.sidx (.tmp 43) (.tmp 44)⟩,⟨none,some 46,.iop .eql (.tmp 45) (.const (.int .u8 0))⟩])
 (.cond (.tmp 46)
 (.ops [⟨none,some 47,.mv (.tmp 4)⟩,⟨none,some 48,.call 215 [.const (.int .u64 255),.const (.int .i64 1)]⟩,⟨none,some 49,.sop .add (.tmp 47) (.tmp 48)⟩,⟨none,some 4,.mv (.tmp 49)⟩])
 .skip))))
 (.ops [⟨none,some 32,.mv (.tmp 7)⟩,⟨none,some 33,.iop .add (.tmp 32) (.const (.int .i64 1))⟩,⟨none,some 7,.mv (.tmp 33)⟩]))))))
 (.ops [⟨none,some 50,.mv (.tmp 4)⟩,⟨none,some 51,.call 215 [.const (.int .u64 0),.const (.int .i64 2)]⟩,⟨none,some 52,.sop .add (.tmp 50) (.tmp 51)⟩,⟨none,some 4,.mv (.tmp 52)⟩])))))
 (.seq (.ops [⟨none,some 53,.mv (.tmp 4)⟩,⟨none,some 54,.lenS (.tmp 53)⟩,⟨none,some 55,.iop .gtr (.tmp 54) (.const (.int .i64 255))⟩])
 (.cond (.tmp 55)
 (.seq (.ops [⟨none,some 2,.mv (.const (.string (.mk #[])))⟩,⟨none,some 3,.mv (.const (.int .i64 5))⟩])
 .ret)
 .skip)))))
 (.ops [⟨none,some 56,.iop .add (.tmp 10) (.const (.int .i64 1))⟩,⟨none,some 10,.mv (.tmp 56)⟩])))))))
 (.seq (.ops [⟨none,some 57,.mv (.tmp 4)⟩,⟨none,some 2,.mv (.tmp 57)⟩,⟨none,some 3,.mv (.const (.int .i64 0))⟩])
 .ret))))
abbrev r188 : List RV:=[(.tmp 2),(.tmp 3)]
theorem F188 : FnOk Go.Proofs.Tryz.prog 188 58 c188 r188:=⟨_,Go.Proofs.Tryz.func188,by kernel_rfl,by kernel_rfl,by kernel_rfl,by kernel_rfl,by kernel_rfl⟩
noncomputable def c215 : CC:=(.seq (.ops [⟨none,some 4,.mv (.const (.string (.mk #[])))⟩])
 (.seq (.ops [⟨none,some 5,.alloc 288 (.agg #[.int .u8 0,.int .u8 0,.int .u8 0,.int .u8 0,.int .u8 0,.int .u8 0,.int .u8 0,.int .u8 0])⟩])
 (.seq (.seq (.ops [⟨none,some 6,.mv (.const (.int .i64 7))⟩])
 (.block 0
 (.loop
 (.seq (.seq (.ops [⟨none,some 7,.mv (.tmp 6)⟩,⟨none,some 8,.iop .geq (.tmp 7) (.const (.int .i64 0))⟩])
 (.cond (.tmp 8)
 .skip
 (.exit 0)))
 (.seq (.block 1
 (.seq (.ops [⟨none,some 11,.mv (.tmp 6)⟩,⟨none,some 12,.mv (.tmp 0)⟩,⟨none,some 13,.iop .rem (.tmp 12) (.const (.int .u64 256))⟩,⟨none,some 14,.conv .u8 (.tmp 13)⟩,⟨none,some 15,.iaddrA 8 1 (.tmp 5) (.tmp 11)⟩,⟨none,none,.store1 (.tmp 15) (.tmp 14)⟩])
 (.ops [⟨none,some 16,.mv (.tmp 0)⟩,⟨none,some 17,.iop .quo (.tmp 16) (.const (.int .u64 256))⟩,⟨none,some 0,.mv (.tmp 17)⟩])))
 (.ops [⟨none,some 9,.mv (.tmp 6)⟩,⟨none,some 10,.iop .sub (.tmp 9) (.const (.int .i64 1))⟩,⟨none,some 6,.mv (.tmp 10)⟩]))))))
 (.seq (.ops [⟨none,some 18,.mv (.tmp 1)⟩,⟨none,some 19,.iop .sub (.const (.int .i64 8)) (.tmp 18)⟩,⟨none,some 20,.slA 8 1 (.tmp 5) (some (.tmp 19)) none⟩,⟨none,some 21,.raw 22 (.mk (some 21) (.convert 110 9 (.tmp 20)) 9 "ref.go:11" #[.mk 2 .data] none)⟩,⟨none,some 4,.mv (.tmp 21)⟩])
 .ret))))
abbrev r215 : List RV:=[(.tmp 4)]
theorem F215 : FnOk Go.Proofs.Tryz.prog 215 22 c215 r215:=⟨_,Go.Proofs.Tryz.func215,by kernel_rfl,by kernel_rfl,by kernel_rfl,by kernel_rfl,by kernel_rfl⟩
end Go.VrC
