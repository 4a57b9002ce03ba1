import Derived.Test.YtpggpopbkmgodaaGreatDoorProg
import Derived.Test.YtpggpopbkmgodaaGreatDoorVcI
set_option linter.unusedSimpArgs false
set_option linter.unusedVariables false
set_option linter.unusedSectionVars false
set_option linter.unnecessarySimpa false
namespace Go.VrA
open Go Go.Vc Go.Proofs.Tryz
set_option maxRecDepth 100000
noncomputable def c138:CC:=(.seq (.ops [⟨none,some 0,.mv (.const (.bool false))⟩])
 (.seq (.ops [⟨none,some 5,.call 72 [.const (.slice none 0 0)]⟩,mvt 1 5])
 (.seq (.seq (.ops [mvt 6 1,⟨none,some 7,.pnil 0 false (.tmp 6)⟩])
 (.cond (.tmp 7)
 (.seq (.ops [⟨none,some 0,.mv (.const (.bool false))⟩])
 .ret)
 .skip))
 (.seq (.ops [mvt 8 1,⟨none,some 9,.mkI 134 (.tmp 8)⟩,⟨none,some 10,.build [.string (.mk #[]),.int .u32 0,.int .u64 0,.int .u32 0,.string (.mk #[])] [(0,(1,.const (.string (.mk #[97]))))]⟩,⟨none,some 11,.call 98 [.tmp 9,.tmp 10]⟩,mvt 2 11])
 (.seq (.ops [mvt 13 1,⟨none,some 14,.mkI 134 (.tmp 13)⟩,⟨none,some 15,.call 168 [.tmp 14,.const (.string (.mk #[])),.const (.string (.mk #[97]))]⟩,mvt 12 15,⟨none,some 16,.ext (.tmp 12) 0⟩,⟨none,some 17,.ext (.tmp 12) 1⟩,mvt 3 16,mvt 4 17])
 (.seq (.ops [mvt 18 2,⟨none,some 19,.iop .eql (.tmp 18) (.const (.int .i64 0))⟩,mvt 20 19,⟨some (20,true),some 21,.mv (.tmp 4)⟩,⟨some (20,true),some 22,.iop .eql (.tmp 21) (.const (.int .i64 0))⟩,⟨none,some 23,.pick (.tmp 20) (.tmp 22) (.const (.bool false))⟩,mvt 24 23,⟨some (24,true),some 25,.mv (.tmp 3)⟩,⟨some (24,true),some 26,.lenL (.tmp 25)⟩,⟨some (24,true),some 27,.iop .eql (.tmp 26) (.const (.int .i64 1))⟩,⟨none,some 28,.pick (.tmp 24) (.tmp 27) (.const (.bool false))⟩,mvt 29 28,⟨some (29,true),some 30,.mv (.tmp 3)⟩,⟨some (29,true),some 31,.iaddr 1 (.tmp 30) (.const (.int .i64 0))⟩,⟨some (29,true),some 32,.load1 (.tmp 31)⟩,⟨some (29,true),some 33,.sop .eql (.tmp 32) (.const (.string (.mk #[97])))⟩,⟨none,some 34,.pick (.tmp 29) (.tmp 33) (.const (.bool false))⟩,mvt 0 34])
 .ret))))))
abbrev r138:List RV:=[(.tmp 0)]
theorem F138:FnOk prog 138 35 c138 r138:=FnOk.o func138
noncomputable def c162:CC:=(.seq (.ops [⟨none,some 2,.mv (.const (.string (.mk #[])))⟩,⟨none,some 3,.mv (.const (.int .i64 0))⟩])
 (.seq (.ops [mvt 4 0,⟨none,some 5,.call 220 [.tmp 4]⟩,⟨none,some 6,.buildS 220 1 [.bool false,.int .u64 0,.string (.mk #[])] [(0,(3,.tmp 5))]⟩,⟨none,some 7,.call 202 [.const (.string (.mk #[113])),.tmp 6]⟩,⟨none,some 8,.ext (.tmp 7) 0⟩,⟨none,some 9,.ext (.tmp 7) 1⟩,mvt 2 8,mvt 3 9])
 .ret))
abbrev r162:List RV:=[(.tmp 2),(.tmp 3)]
theorem F162:FnOk prog 162 10 c162 r162:=FnOk.o func162
noncomputable def c281:CC:=(.seq (.ops [⟨none,some 2,.mv (.const (.string (.mk #[])))⟩,⟨none,some 3,.mv (.const (.int .i64 0))⟩])
 (.seq (.ops [mvt 4 0,⟨none,some 5,.call 220 [.tmp 4]⟩,⟨none,some 6,.buildS 220 1 [.bool false,.int .u64 0,.string (.mk #[])] [(0,(3,.tmp 5))]⟩,⟨none,some 7,.call 202 [.const (.string (.mk #[99])),.tmp 6]⟩,⟨none,some 8,.ext (.tmp 7) 0⟩,⟨none,some 9,.ext (.tmp 7) 1⟩,mvt 2 8,mvt 3 9])
 .ret))
abbrev r281:List RV:=[(.tmp 2),(.tmp 3)]
theorem F281:FnOk prog 281 10 c281 r281:=FnOk.o func281
noncomputable def c72:CC:=(.seq (.ops [⟨none,some 2,.mv (.const (.pointer none))⟩])
 (.seq (.ops [⟨none,some 6,.raw 25 (.mk (some 6) (.makeMap 172 none) 172 "registry.go:36" #[] none)⟩,⟨none,some 7,.build [.map none] [(0,(1,.tmp 6))]⟩,⟨none,some 8,.box 174 (.tmp 7)⟩,mvt 3 8])
 (.seq (.seq (.ops [mvt 9 0,⟨none,some 10,.lenL (.tmp 9)⟩,⟨none,some 11,.mv (.const (.int .i64 0))⟩])
 (.block 0
 (.loop
 (.seq (.ops [⟨none,some 12,.iop .lss (.tmp 11) (.tmp 10)⟩])
 (.seq (.cond (.tmp 12)
 .skip
 (.exit 0))
 (.seq (.block 1
 (.seq (.ops [⟨none,some 13,.iaddr 2 (.tmp 9) (.tmp 11)⟩,⟨none,some 14,.loadN 2 (.tmp 13)⟩,⟨none,some 5,.alloc 176 (.agg #[.string (.mk #[]),.string (.mk #[])])⟩,⟨none,none,.storeN 2 (.tmp 5) (.tmp 14)⟩])
 (.draw 5 (opsOf (sub (bodyOf f72) [1,1,0,1,0,0,1,1,0,0,1])) [mvt 15 3,⟨none,some 16,.nilc (.tmp 15)⟩,⟨none,some 17,.faddr 0 (.tmp 16)⟩,⟨none,some 18,.load1 (.tmp 17)⟩,⟨none,some 19,.faddr 0 (.tmp 5)⟩,⟨none,some 20,.load1 (.tmp 19)⟩,⟨none,some 21,.faddr 1 (.tmp 5)⟩,⟨none,some 22,.load1 (.tmp 21)⟩,⟨none,none,.raw 25 (.mk none (.mapUpdate 172 (.tmp 18) (.tmp 20) (.tmp 22)) 0 "registry.go:38" #[.mk 3 .data,.mk 5 .data,.mk 7 .data,.mk 0 .phase,.mk 1 .phase,.mk 2 .phase,.mk 3 .phase,.mk 4 .phase,.mk 5 .phase,.mk 6 .phase,.mk 7 .phase] none)⟩])))
 (.ops [⟨none,some 23,.iop .add (.tmp 11) (.const (.int .i64 1))⟩,mvt 11 23])))))))
 (.seq (.ops [mvt 24 3,mvt 2 24])
 .ret))))
abbrev r72:List RV:=[(.tmp 2)]
theorem F72:FnOk prog 72 25 c72 r72:=FnOk.o func72
noncomputable def c104:CC:=(.seq (.ops [⟨none,some 4,.alloc 121 (.agg #[.string (.mk #[]),.int .u32 0,.int .u64 0,.int .u32 0,.string (.mk #[])])⟩,⟨none,some 5,.mv (.const (.int .i64 0))⟩])
 (.seq (.ops [mvt 11 1,⟨none,some 12,.call 162 [.tmp 11]⟩,mvt 10 12,⟨none,some 13,.ext (.tmp 10) 0⟩,⟨none,some 14,.ext (.tmp 10) 1⟩,mvt 6 13,mvt 7 14])
 (.seq (.seq (.ops [mvt 15 7,⟨none,some 16,.iop .neq (.tmp 15) (.const (.int .i64 0))⟩])
 (.cond (.tmp 16)
 (.seq (.ops [⟨none,some 17,.build [.string (.mk #[]),.int .u32 0,.int .u64 0,.int .u32 0,.string (.mk #[])] []⟩,⟨none,none,.storeN 5 (.tmp 4) (.tmp 17)⟩,⟨none,some 5,.mv (.const (.int .i64 21))⟩])
 .ret)
 .skip))
 (.seq (.ops [mvt 19 0,mvt 20 6,⟨none,some 21,.inv (.tmp 19) "Get" [.tmp 20]⟩,mvt 18 21,⟨none,some 22,.ext (.tmp 18) 0⟩,⟨none,some 23,.ext (.tmp 18) 1⟩,⟨none,some 24,.ext (.tmp 18) 2⟩,mvt 8 22,mvt 9 23,mvt 7 24])
 (.seq (.block 0
 (.seq (.ops [mvt 26 7,⟨none,some 27,.iop .neq (.tmp 26) (.const (.int .i64 0))⟩,mvt 25 27])
 (.cond (.tmp 25)
 (.seq (.ops [⟨none,some 28,.build [.string (.mk #[]),.int .u32 0,.int .u64 0,.int .u32 0,.string (.mk #[])] []⟩,mvt 29 7,⟨none,none,.storeN 5 (.tmp 4) (.tmp 28)⟩,mvt 5 29])
 .ret)
 (.seq (.ops [mvt 31 9,⟨none,some 32,.not (.tmp 31)⟩,mvt 30 32])
 (.cond (.tmp 30)
 (.seq (.ops [⟨none,some 33,.build [.string (.mk #[]),.int .u32 0,.int .u64 0,.int .u32 0,.string (.mk #[])] []⟩,⟨none,none,.storeN 5 (.tmp 4) (.tmp 33)⟩,⟨none,some 5,.mv (.const (.int .i64 21))⟩])
 .ret)
 .skip)))))
 (.seq (.ops [mvt 34 1,⟨none,some 35,.call 163 [.tmp 34]⟩,mvt 36 8,⟨none,some 37,.call 175 [.tmp 35,.tmp 36]⟩,⟨none,some 38,.ext (.tmp 37) 0⟩,⟨none,some 39,.ext (.tmp 37) 1⟩,⟨none,none,.storeN 5 (.tmp 4) (.tmp 38)⟩,mvt 5 39])
 .ret))))))
abbrev r104:List RV:=[(.cN 4 5),(.tmp 5)]
theorem F104:FnOk prog 104 40 c104 r104:=FnOk.o func104
noncomputable def c235:CC:=(.seq (.ops [⟨none,some 4,.mv (.const (.int .u64 0))⟩,⟨none,some 5,.mv (.const (.int .i64 0))⟩])
 (.seq (.ops [mvt 13 1,⟨none,some 14,.call 281 [.tmp 13]⟩,mvt 12 14,⟨none,some 15,.ext (.tmp 12) 0⟩,⟨none,some 16,.ext (.tmp 12) 1⟩,mvt 6 15,mvt 7 16])
 (.seq (.seq (.ops [mvt 17 7,⟨none,some 18,.iop .neq (.tmp 17) (.const (.int .i64 0))⟩])
 (.cond (.tmp 18)
 (.seq (.ops [mvt 19 7,⟨none,some 4,.mv (.const (.int .u64 0))⟩,mvt 5 19])
 .ret)
 .skip))
 (.seq (.ops [mvt 21 0,mvt 22 6,⟨none,some 23,.inv (.tmp 21) "Get" [.tmp 22]⟩,mvt 20 23,⟨none,some 24,.ext (.tmp 20) 0⟩,⟨none,some 25,.ext (.tmp 20) 1⟩,⟨none,some 26,.ext (.tmp 20) 2⟩,mvt 8 24,mvt 9 25,mvt 7 26])
 (.seq (.seq (.ops [mvt 27 7,⟨none,some 28,.iop .neq (.tmp 27) (.const (.int .i64 0))⟩])
 (.cond (.tmp 28)
 (.seq (.ops [mvt 29 7,⟨none,some 4,.mv (.const (.int .u64 0))⟩,mvt 5 29])
 .ret)
 .skip))
 (.seq (.ops [⟨none,some 10,.mv (.const (.int .u64 0))⟩])
 (.seq (.seq (.ops [mvt 30 9])
 (.cond (.tmp 30)
 (.seq (.ops [⟨none,some 32,.call 282 []⟩,mvt 33 8,⟨none,some 34,.call 283 [.tmp 32,.tmp 33]⟩,mvt 31 34,⟨none,some 35,.ext (.tmp 31) 0⟩,⟨none,some 36,.ext (.tmp 31) 1⟩,mvt 10 35,mvt 7 36])
 (.seq (.ops [mvt 37 7,⟨none,some 38,.iop .neq (.tmp 37) (.const (.int .i64 0))⟩])
 (.cond (.tmp 38)
 (.seq (.ops [mvt 39 7,⟨none,some 4,.mv (.const (.int .u64 0))⟩,mvt 5 39])
 .ret)
 .skip)))
 .skip))
 (.seq (.seq (.ops [mvt 40 10,⟨none,some 41,.iop .eql (.tmp 40) (.const (.int .u64 18446744073709551615))⟩])
 (.cond (.tmp 41)
 (.seq (.ops [⟨none,some 4,.mv (.const (.int .u64 0))⟩,⟨none,some 5,.mv (.const (.int .i64 8))⟩])
 .ret)
 .skip))
 (.seq (.seq (.draw 14 (opsOf (sub (bodyOf f235) [1,1,1,1,1,1,1,1,0,0])) [mvt 42 0,mvt 43 6,⟨none,some 44,.call 282 []⟩,mvt 45 10,⟨none,some 46,.iop .add (.tmp 45) (.const (.int .u64 1))⟩,⟨none,some 47,.call 284 [.tmp 44,.tmp 46]⟩,⟨none,some 48,.mkF (.method "Put") [.tmp 42] []⟩,⟨none,some 49,.nilc (.tmp 48)⟩,mvt 50 42,⟨none,some 51,.inv (.tmp 50) "Put" [.tmp 43,.tmp 47]⟩,mvt 11 51])
 (.seq (.ops [mvt 52 11,⟨none,some 53,.iop .neq (.tmp 52) (.const (.int .i64 0))⟩])
 (.cond (.tmp 53)
 (.seq (.ops [mvt 54 11,⟨none,some 4,.mv (.const (.int .u64 0))⟩,mvt 5 54])
 .ret)
 .skip)))
 (.seq (.ops [mvt 55 10,⟨none,some 56,.iop .add (.tmp 55) (.const (.int .u64 1))⟩,mvt 4 56,⟨none,some 5,.mv (.const (.int .i64 0))⟩])
 .ret))))))))))
abbrev r235:List RV:=[(.tmp 4),(.tmp 5)]
theorem F235:FnOk prog 235 57 c235 r235:=FnOk.o func235
noncomputable def c98:CC:=(.seq (.ops [⟨none,some 3,.box 121 (.tmp 1)⟩,⟨none,some 4,.mv (.const (.int .i64 0))⟩])
 (.seq (.block 0
 (.seq (.ops [⟨none,some 12,.faddr 0 (.tmp 3)⟩,⟨none,some 13,.load1 (.tmp 12)⟩,⟨none,some 14,.call 161 [.tmp 13]⟩,⟨none,some 15,.not (.tmp 14)⟩,mvt 16 15,⟨some (16,false),some 17,.faddr 4 (.tmp 3)⟩,⟨some (16,false),some 18,.load1 (.tmp 17)⟩,⟨some (16,false),some 19,.sop .neq (.tmp 18) (.const (.string (.mk #[])))⟩,⟨some (16,false),some 20,.mv (.tmp 19)⟩,⟨some (20,true),some 21,.faddr 4 (.tmp 3)⟩,⟨some (20,true),some 22,.load1 (.tmp 21)⟩,⟨some (20,true),some 23,.call 161 [.tmp 22]⟩,⟨some (20,true),some 24,.not (.tmp 23)⟩,⟨some (16,false),some 25,.pick (.tmp 20) (.tmp 24) (.const (.bool false))⟩,⟨none,some 26,.pick (.tmp 16) (.const (.bool true)) (.tmp 25)⟩,mvt 11 26])
 (.cond (.tmp 11)
 (.seq (.ops [⟨none,some 4,.mv (.const (.int .i64 23))⟩])
 .ret)
 (.seq (.ops [⟨none,some 28,.faddr 4 (.tmp 3)⟩,⟨none,some 29,.load1 (.tmp 28)⟩,⟨none,some 30,.faddr 0 (.tmp 3)⟩,⟨none,some 31,.load1 (.tmp 30)⟩,⟨none,some 32,.sop .eql (.tmp 29) (.tmp 31)⟩,mvt 27 32])
 (.cond (.tmp 27)
 (.seq (.ops [⟨none,some 4,.mv (.const (.int .i64 2))⟩])
 .ret)
 (.seq (.ops [⟨none,some 34,.faddr 2 (.tmp 3)⟩,⟨none,some 35,.load1 (.tmp 34)⟩,⟨none,some 36,.iop .gtr (.tmp 35) (.const (.int .u64 1099511627776))⟩,mvt 33 36])
 (.cond (.tmp 33)
 (.seq (.ops [⟨none,some 4,.mv (.const (.int .i64 29))⟩])
 .ret)
 .skip)))))))
 (.seq (.seq (.ops [mvt 38 0,⟨none,some 39,.faddr 0 (.tmp 3)⟩,⟨none,some 40,.load1 (.tmp 39)⟩,⟨none,some 41,.call 104 [.tmp 38,.tmp 40]⟩,mvt 37 41,⟨none,some 42,.ext (.tmp 37) 0⟩,⟨none,some 43,.ext (.tmp 37) 1⟩,⟨none,some 5,.alloc 121 (.agg #[.string (.mk #[]),.int .u32 0,.int .u64 0,.int .u32 0,.string (.mk #[])])⟩,⟨none,none,.storeN 5 (.tmp 5) (.tmp 42)⟩,mvt 6 43])
 (.seq (.ops [mvt 44 6])
 (.block 1
 (.seq (.ops [⟨none,some 47,.iop .eql (.tmp 44) (.const (.int .i64 0))⟩,mvt 46 47])
 (.cond (.tmp 46)
 (.seq (.ops [⟨none,some 4,.mv (.const (.int .i64 22))⟩])
 .ret)
 (.seq (.ops [⟨none,some 49,.iop .eql (.tmp 44) (.const (.int .i64 21))⟩,mvt 48 49])
 (.cond (.tmp 48)
 .skip
 (.seq (.ops [mvt 45 6,mvt 4 45])
 .ret))))))))
 (.seq (.seq (.ops [⟨none,some 50,.faddr 4 (.tmp 3)⟩,⟨none,some 51,.load1 (.tmp 50)⟩,⟨none,some 52,.sop .neq (.tmp 51) (.const (.string (.mk #[])))⟩])
 (.cond (.tmp 52)
 (.seq (.ops [mvt 54 0,⟨none,some 55,.faddr 4 (.tmp 3)⟩,⟨none,some 56,.load1 (.tmp 55)⟩,⟨none,some 57,.call 104 [.tmp 54,.tmp 56]⟩,mvt 53 57,⟨none,some 58,.ext (.tmp 53) 0⟩,⟨none,some 59,.ext (.tmp 53) 1⟩,⟨none,some 7,.alloc 121 (.agg #[.string (.mk #[]),.int .u32 0,.int .u64 0,.int .u32 0,.string (.mk #[])])⟩,⟨none,none,.storeN 5 (.tmp 7) (.tmp 58)⟩,mvt 8 59])
 (.seq (.ops [mvt 60 8,⟨none,some 61,.iop .neq (.tmp 60) (.const (.int .i64 0))⟩])
 (.cond (.tmp 61)
 (.seq (.ops [mvt 62 8,mvt 4 62])
 .ret)
 .skip)))
 .skip))
 (.seq (.ops [⟨none,some 64,.faddr 0 (.tmp 3)⟩,⟨none,some 65,.load1 (.tmp 64)⟩,⟨none,some 66,.call 162 [.tmp 65]⟩,mvt 63 66,⟨none,some 67,.ext (.tmp 63) 0⟩,⟨none,some 68,.ext (.tmp 63) 1⟩,mvt 9 67,mvt 10 68])
 (.seq (.draw 18 (opsOf (sub (bodyOf f98) [1,1,1,1,1,0])) [mvt 69 0,mvt 70 9,⟨none,some 71,.faddr 0 (.tmp 3)⟩,⟨none,some 72,.load1 (.tmp 71)⟩,⟨none,some 73,.call 163 [.tmp 72]⟩,⟨none,some 74,.loadN 5 (.tmp 3)⟩,⟨none,some 75,.call 164 [.tmp 73,.tmp 74]⟩,⟨none,some 76,.mkF (.method "Put") [.tmp 69] []⟩,⟨none,some 77,.nilc (.tmp 76)⟩,mvt 78 69,⟨none,some 79,.inv (.tmp 78) "Put" [.tmp 70,.tmp 75]⟩,mvt 4 79])
 .ret))))))
abbrev r98:List RV:=[(.tmp 4)]
theorem F98:FnOk prog 98 80 c98 r98:=FnOk.o func98
noncomputable def c214:CC:=(.seq (.ops [⟨none,some 2,.mv (.const (.pointer none))⟩])
 (.seq (.ops [mvt 3 0,⟨none,some 4,.build [.string (.mk #[]),.int .i64 0] [(0,(1,.tmp 3))]⟩,⟨none,some 5,.box 359 (.tmp 4)⟩,mvt 2 5])
 .ret))
abbrev r214:List RV:=[(.tmp 2)]
theorem F214:FnOk prog 214 6 c214 r214:=FnOk.o func214
noncomputable def c269:CC:=(.seq (.ops [⟨none,some 4,.mv (.const (.string (.mk #[])))⟩])
 (.seq (.seq (.ops [mvt 6 0,⟨none,some 7,.pnil 0 false (.tmp 6)⟩,mvt 8 7,⟨some (8,false),some 9,.mv (.tmp 0)⟩,⟨some (8,false),some 10,.nilc (.tmp 9)⟩,⟨some (8,false),some 11,.faddr 1 (.tmp 10)⟩,⟨some (8,false),some 12,.load1 (.tmp 11)⟩,⟨some (8,false),some 13,.iop .neq (.tmp 12) (.const (.int .i64 0))⟩,⟨none,some 14,.pick (.tmp 8) (.const (.bool true)) (.tmp 13)⟩])
 (.cond (.tmp 14)
 (.seq (.ops [⟨none,some 4,.mv (.const (.string (.mk #[])))⟩])
 .ret)
 .skip))
 (.seq (.seq (.ops [mvt 15 1,⟨none,some 16,.iop .lss (.tmp 15) (.const (.int .i64 0))⟩,mvt 17 16,⟨some (17,false),some 18,.mv (.tmp 1)⟩,⟨some (17,false),some 19,.mv (.tmp 0)⟩,⟨some (17,false),some 20,.nilc (.tmp 19)⟩,⟨some (17,false),some 21,.faddr 0 (.tmp 20)⟩,⟨some (17,false),some 22,.load1 (.tmp 21)⟩,⟨some (17,false),some 23,.lenS (.tmp 22)⟩,⟨some (17,false),some 24,.iop .gtr (.tmp 18) (.tmp 23)⟩,⟨none,some 25,.pick (.tmp 17) (.const (.bool true)) (.tmp 24)⟩])
 (.cond (.tmp 25)
 (.seq (.ops [mvt 26 0,⟨none,some 27,.nilc (.tmp 26)⟩,⟨none,some 28,.faddr 1 (.tmp 27)⟩,⟨none,none,.store1 (.tmp 28) (.const (.int .i64 3))⟩])
 (.seq (.ops [⟨none,some 4,.mv (.const (.string (.mk #[])))⟩])
 .ret))
 .skip))
 (.seq (.ops [mvt 29 0,⟨none,some 30,.nilc (.tmp 29)⟩,⟨none,some 31,.faddr 0 (.tmp 30)⟩,⟨none,some 32,.load1 (.tmp 31)⟩,mvt 33 1,⟨none,some 34,.slS (.tmp 32) none (some (.tmp 33))⟩,mvt 5 34])
 (.seq (.ops [mvt 35 0,mvt 36 0,⟨none,some 37,.nilc (.tmp 36)⟩,⟨none,some 38,.faddr 0 (.tmp 37)⟩,⟨none,some 39,.load1 (.tmp 38)⟩,mvt 40 1,⟨none,some 41,.slS (.tmp 39) (some (.tmp 40)) none⟩,⟨none,some 42,.nilc (.tmp 35)⟩,⟨none,some 43,.faddr 0 (.tmp 42)⟩,⟨none,none,.store1 (.tmp 43) (.tmp 41)⟩])
 (.seq (.ops [mvt 44 5,mvt 4 44])
 .ret))))))
abbrev r269:List RV:=[(.tmp 4)]
theorem F269:FnOk prog 269 45 c269 r269:=FnOk.o func269
noncomputable def c225:CC:=(.seq (.ops [⟨none,some 2,.mv (.const (.int .u64 0))⟩])
 (.seq (.ops [mvt 3 0,⟨none,some 4,.call 268 [.tmp 3,.const (.int .i64 8)]⟩,mvt 2 4])
 .ret))
abbrev r225:List RV:=[(.tmp 2)]
theorem F225:FnOk prog 225 5 c225 r225:=FnOk.o func225
noncomputable def c351:CC:=(.seq (.ops [⟨none,some 6,.mv (.const (.int .i64 0))⟩])
 (.seq (.seq (.ops [mvt 7 1,⟨none,some 8,.lenS (.tmp 7)⟩,⟨none,some 9,.iop .gtr (.tmp 8) (.const (.int .i64 255))⟩,mvt 10 9,⟨some (10,false),some 11,.mv (.tmp 2)⟩,⟨some (10,false),some 12,.lenS (.tmp 11)⟩,⟨some (10,false),some 13,.iop .gtr (.tmp 12) (.const (.int .i64 65536))⟩,⟨none,some 14,.pick (.tmp 10) (.const (.bool true)) (.tmp 13)⟩])
 (.cond (.tmp 14)
 (.seq (.ops [⟨none,some 6,.mv (.const (.int .i64 5))⟩])
 .ret)
 .skip))
 (.seq (.ops [mvt 15 0,⟨none,some 16,.nilc (.tmp 15)⟩,⟨none,some 17,.faddr 0 (.tmp 16)⟩,⟨none,some 18,.load1 (.tmp 17)⟩,mvt 19 1,mvt 20 2,⟨none,none,.raw 21 (.mk none (.mapUpdate 172 (.tmp 18) (.tmp 19) (.tmp 20)) 0 "registry.go:68" #[.mk 3 .data,.mk 4 .data,.mk 5 .data,.mk 0 .phase,.mk 1 .phase,.mk 2 .phase,.mk 3 .phase,.mk 4 .phase,.mk 5 .phase] none)⟩])
 (.seq (.ops [⟨none,some 6,.mv (.const (.int .i64 0))⟩])
 .ret))))
abbrev r351:List RV:=[(.tmp 6)]
theorem F351:FnOk prog 351 21 c351 r351:=FnOk.o func351
noncomputable def c168:CC:=(.seq (.ops [⟨none,some 5,.box 9 (.tmp 2)⟩,⟨none,some 6,.alloc 107 (.slice none 0 0)⟩,⟨none,some 7,.alloc 48 (.int .i64 0)⟩])
 (.seq (.seq (.ops [mvt 14 1,⟨none,some 15,.sop .eql (.tmp 14) (.const (.string (.mk #[])))⟩])
 (.cond (.tmp 15)
 (.seq (.seq (.ops [mvt 17 0,⟨none,some 18,.load1 (.tmp 5)⟩,⟨none,some 19,.call 104 [.tmp 17,.tmp 18]⟩,mvt 16 19,⟨none,some 20,.ext (.tmp 16) 0⟩,⟨none,some 21,.ext (.tmp 16) 1⟩,⟨none,some 8,.alloc 121 (.agg #[.string (.mk #[]),.int .u32 0,.int .u64 0,.int .u32 0,.string (.mk #[])])⟩,⟨none,none,.storeN 5 (.tmp 8) (.tmp 20)⟩,mvt 9 21])
 (.seq (.ops [mvt 22 9,⟨none,some 23,.iop .neq (.tmp 22) (.const (.int .i64 0))⟩])
 (.cond (.tmp 23)
 (.seq (.ops [mvt 24 9,⟨none,none,.store1 (.tmp 6) (.const (.slice none 0 0))⟩,⟨none,none,.store1 (.tmp 7) (.tmp 24)⟩])
 .ret)
 .skip)))
 (.seq (.ops [⟨none,some 25,.load1 (.tmp 5)⟩,⟨none,some 26,.buildS 9 1 [.string (.mk #[])] [(0,(1,.tmp 25))]⟩,⟨none,none,.store1 (.tmp 6) (.tmp 26)⟩,⟨none,none,.store1 (.tmp 7) (.const (.int .i64 0))⟩])
 .ret))
 .skip))
 (.seq (.block 0
 (.seq (.ops [mvt 28 1,⟨none,some 29,.call 161 [.tmp 28]⟩,⟨none,some 30,.not (.tmp 29)⟩,mvt 27 30])
 (.cond (.tmp 27)
 (.seq (.ops [⟨none,none,.store1 (.tmp 6) (.const (.slice none 0 0))⟩,⟨none,none,.store1 (.tmp 7) (.const (.int .i64 23))⟩])
 .ret)
 (.seq (.ops [⟨none,some 32,.load1 (.tmp 5)⟩,⟨none,some 33,.call 227 [.tmp 32]⟩,⟨none,some 34,.not (.tmp 33)⟩,mvt 31 34])
 (.cond (.tmp 31)
 (.seq (.ops [⟨none,none,.store1 (.tmp 6) (.const (.slice none 0 0))⟩,⟨none,none,.store1 (.tmp 7) (.const (.int .i64 4))⟩])
 .ret)
 .skip)))))
 (.seq (.ops [⟨none,some 35,.call 230 [.const (.slice none 0 0)]⟩,⟨none,some 10,.alloc 327 (.pointer none)⟩,⟨none,some 11,.alloc 3 (.int .i64 0)⟩,⟨none,none,.store1 (.tmp 10) (.tmp 35)⟩,⟨none,none,.store1 (.tmp 11) (.const (.int .i64 0))⟩])
 (.seq (.seq (.ops [mvt 36 0,mvt 37 1,⟨none,some 38,.call 229 [.tmp 36,.tmp 37]⟩])
 (.block 1
 (.range (.tmp 38) #[39,40] (sub (bodyOf f168) [1,1,1,1,0,1,0,0]) (sub (bodyOf f168) [1,1,1,1,0,1,0,1])
 (.seq (.ops [⟨none,some 12,.alloc 124 (.agg #[.string (.mk #[]),.int .i64 0,.string (.mk #[]),.string (.mk #[])])⟩,⟨none,none,.storeN 4 (.tmp 12) (.tmp 39)⟩])
 (.ops [mvt 13 40]))
 (.block 2
 (.seq (.seq (.ops [mvt 41 13,⟨none,some 42,.iop .neq (.tmp 41) (.const (.int .i64 0))⟩])
 (.cond (.tmp 42)
 (.seq (.ops [mvt 43 13,⟨none,none,.store1 (.tmp 6) (.const (.slice none 0 0))⟩,⟨none,none,.store1 (.tmp 7) (.tmp 43)⟩])
 .ret)
 .skip))
 (.seq (.ops [⟨none,some 44,.load1 (.tmp 11)⟩,⟨none,some 45,.iop .add (.tmp 44) (.const (.int .i64 1))⟩,⟨none,none,.store1 (.tmp 11) (.tmp 45)⟩])
 (.seq (.ops [⟨none,some 46,.faddr 1 (.tmp 12)⟩,⟨none,some 47,.load1 (.tmp 46)⟩,⟨none,some 48,.faddr 2 (.tmp 12)⟩,⟨none,some 49,.load1 (.tmp 48)⟩,⟨none,some 50,.load1 (.tmp 5)⟩,⟨none,some 51,.call 231 [.tmp 47,.tmp 49,.tmp 50]⟩])
 (.cond (.tmp 51)
 (.ops [⟨none,some 52,.load1 (.tmp 10)⟩,⟨none,some 53,.faddr 3 (.tmp 12)⟩,⟨none,some 54,.load1 (.tmp 53)⟩,⟨none,some 55,.call 232 [.tmp 52,.tmp 54]⟩])
 .skip))))))))
 (.seq (.seq (.ops [⟨none,some 56,.load1 (.tmp 11)⟩,⟨none,some 57,.iop .eql (.tmp 56) (.const (.int .i64 0))⟩])
 (.cond (.tmp 57)
 (.seq (.ops [⟨none,none,.store1 (.tmp 6) (.const (.slice none 0 0))⟩,⟨none,none,.store1 (.tmp 7) (.const (.int .i64 21))⟩])
 .ret)
 .skip))
 (.seq (.ops [⟨none,some 58,.load1 (.tmp 10)⟩,⟨none,some 59,.call 233 [.tmp 58]⟩,⟨none,some 60,.call 62 [.tmp 59]⟩,⟨none,none,.store1 (.tmp 6) (.tmp 60)⟩,⟨none,none,.store1 (.tmp 7) (.const (.int .i64 0))⟩])
 .ret)))))))
abbrev r168:List RV:=[(.c1 6),(.c1 7)]
theorem F168:FnOk prog 168 61 c168 r168:=FnOk.o func168
noncomputable def c352:CC:=(.seq (.ops [⟨none,some 3,.box 134 (.tmp 0)⟩,⟨none,some 4,.box 9 (.tmp 1)⟩,⟨none,some 5,.box 9 (.tmp 2)⟩,⟨none,some 6,.mv (.const .nilFunc)⟩])
 (.seq (.ops [⟨none,some 7,(.mkF (.func 353) [] [.tmp 3,.tmp 4,.tmp 5])⟩,mvt 6 7])
 .ret))
abbrev r352:List RV:=[(.tmp 6)]
theorem F352:FnOk prog 352 8 c352 r352:=FnOk.o func352
noncomputable def c205:CC:=(.seq (.ops [⟨none,some 2,.alloc 227 (.agg #[.string (.mk #[]),.string (.mk #[]),.int .u64 0,.int .u64 0,.string (.mk #[]),.int .i64 0,.string (.mk #[]),.string (.mk #[]),.string (.mk #[])])⟩,⟨none,some 3,.mv (.const (.int .i64 0))⟩])
 (.seq (.ops [mvt 8 0,⟨none,some 9,.call 255 [.tmp 8]⟩,mvt 7 9,⟨none,some 10,.ext (.tmp 7) 0⟩,⟨none,some 11,.ext (.tmp 7) 1⟩,mvt 4 10,mvt 5 11])
 (.seq (.seq (.draw 2 (opsOf (sub (bodyOf f205) [1,1,0,0])) [mvt 12 5,⟨none,some 13,.iop .neq (.tmp 12) (.const (.int .i64 0))⟩,mvt 14 13,⟨some (14,false),some 15,.mv (.tmp 4)⟩,⟨some (14,false),some 16,.lenL (.tmp 15)⟩,⟨some (14,false),some 17,.iop .eql (.tmp 16) (.const (.int .i64 0))⟩,⟨none,some 18,.pick (.tmp 14) (.const (.bool true)) (.tmp 17)⟩,mvt 19 18,⟨some (19,false),some 20,.mv (.tmp 4)⟩,⟨some (19,false),some 21,.iaddr 3 (.tmp 20) (.const (.int .i64 0))⟩,⟨some (19,false),some 22,.faddr 0 (.tmp 21)⟩,⟨some (19,false),some 23,.load1 (.tmp 22)⟩,⟨some (19,false),some 24,.not (.tmp 23)⟩,⟨none,some 25,.pick (.tmp 19) (.const (.bool true)) (.tmp 24)⟩,mvt 26 25,⟨some (26,false),some 27,.mv (.tmp 4)⟩,⟨some (26,false),some 28,.slL 3 (.tmp 27) (some (.const (.int .i64 1))) none⟩,⟨some (26,false),some 29,.mv (.tmp 4)⟩,⟨some (26,false),some 30,.iaddr 3 (.tmp 29) (.const (.int .i64 0))⟩,⟨some (26,false),some 31,.faddr 2 (.tmp 30)⟩,⟨some (26,false),some 32,.load1 (.tmp 31)⟩,⟨some (26,false),some 33,.call 257 [.tmp 32]⟩,⟨some (26,false),some 34,.call 256 [.tmp 28,.tmp 33]⟩,⟨some (26,false),some 35,.not (.tmp 34)⟩,⟨none,some 36,.pick (.tmp 26) (.const (.bool true)) (.tmp 35)⟩])
 (.cond (.tmp 36)
 (.seq (.ops [⟨none,some 37,.build [.string (.mk #[]),.string (.mk #[]),.int .u64 0,.int .u64 0,.string (.mk #[]),.int .i64 0,.string (.mk #[]),.string (.mk #[]),.string (.mk #[])] []⟩,⟨none,none,.storeN 9 (.tmp 2) (.tmp 37)⟩,⟨none,some 3,.mv (.const (.int .i64 20))⟩])
 .ret)
 .skip))
 (.seq (.ops [mvt 38 4,⟨none,some 39,.iaddr 3 (.tmp 38) (.const (.int .i64 0))⟩,⟨none,some 40,.faddr 2 (.tmp 39)⟩,⟨none,some 41,.load1 (.tmp 40)⟩,⟨none,some 42,.build [.string (.mk #[]),.string (.mk #[]),.int .u64 0,.int .u64 0,.string (.mk #[]),.int .i64 0,.string (.mk #[]),.string (.mk #[]),.string (.mk #[])] [(0,(1,.tmp 41))]⟩,⟨none,some 6,.alloc 227 (.agg #[.string (.mk #[]),.string (.mk #[]),.int .u64 0,.int .u64 0,.string (.mk #[]),.int .i64 0,.string (.mk #[]),.string (.mk #[]),.string (.mk #[])])⟩,⟨none,none,.storeN 9 (.tmp 6) (.tmp 42)⟩])
 (.seq (.seq (.ops [mvt 43 4,⟨none,some 44,.slL 3 (.tmp 43) (some (.const (.int .i64 1))) none⟩,mvt 4 44])
 (.seq (.ops [⟨none,some 45,.faddr 0 (.tmp 6)⟩,⟨none,some 46,.load1 (.tmp 45)⟩])
 (.block 0
 (.seq (.ops [⟨none,some 73,.sop .eql (.tmp 46) (.const (.string (.mk #[113])))⟩,mvt 72 73])
 (.cond (.tmp 72)
 (.ops [mvt 74 4,⟨none,some 75,.iaddr 3 (.tmp 74) (.const (.int .i64 0))⟩,⟨none,some 76,.faddr 2 (.tmp 75)⟩,⟨none,some 77,.load1 (.tmp 76)⟩,⟨none,some 78,.faddr 1 (.tmp 6)⟩,⟨none,none,.store1 (.tmp 78) (.tmp 77)⟩])
 (.seq (.ops [⟨none,some 80,.sop .eql (.tmp 46) (.const (.string (.mk #[99])))⟩,mvt 79 80])
 (.cond (.tmp 79)
 (.ops [mvt 81 4,⟨none,some 82,.iaddr 3 (.tmp 81) (.const (.int .i64 0))⟩,⟨none,some 83,.faddr 2 (.tmp 82)⟩,⟨none,some 84,.load1 (.tmp 83)⟩,⟨none,some 85,.faddr 8 (.tmp 6)⟩,⟨none,none,.store1 (.tmp 85) (.tmp 84)⟩])
 (.seq (.ops [⟨none,some 87,.sop .eql (.tmp 46) (.const (.string (.mk #[109])))⟩,mvt 86 87])
 (.cond (.tmp 86)
 (.draw 15 (opsOf (sub (bodyOf f205) [1,1,1,1,0,1,1,0,1,1,1,1,1,0])) [mvt 88 4,⟨none,some 89,.iaddr 3 (.tmp 88) (.const (.int .i64 0))⟩,⟨none,some 90,.faddr 2 (.tmp 89)⟩,⟨none,some 91,.load1 (.tmp 90)⟩,mvt 92 4,⟨none,some 93,.iaddr 3 (.tmp 92) (.const (.int .i64 1))⟩,⟨none,some 94,.faddr 1 (.tmp 93)⟩,⟨none,some 95,.load1 (.tmp 94)⟩,⟨none,some 96,.faddr 1 (.tmp 6)⟩,⟨none,none,.store1 (.tmp 96) (.tmp 91)⟩,⟨none,some 97,.faddr 2 (.tmp 6)⟩,⟨none,none,.store1 (.tmp 97) (.tmp 95)⟩])
 (.seq (.ops [⟨none,some 99,.sop .eql (.tmp 46) (.const (.string (.mk #[101])))⟩,mvt 98 99])
 (.cond (.tmp 98)
 (.draw 17 (opsOf (sub (bodyOf f205) [1,1,1,1,0,1,1,0,1,1,1,1,1,1,1,0])) [mvt 100 4,⟨none,some 101,.iaddr 3 (.tmp 100) (.const (.int .i64 0))⟩,⟨none,some 102,.faddr 1 (.tmp 101)⟩,⟨none,some 103,.load1 (.tmp 102)⟩,mvt 104 4,⟨none,some 105,.iaddr 3 (.tmp 104) (.const (.int .i64 1))⟩,⟨none,some 106,.faddr 2 (.tmp 105)⟩,⟨none,some 107,.load1 (.tmp 106)⟩,mvt 108 4,⟨none,some 109,.iaddr 3 (.tmp 108) (.const (.int .i64 2))⟩,⟨none,some 110,.faddr 1 (.tmp 109)⟩,⟨none,some 111,.load1 (.tmp 110)⟩,⟨none,some 112,.faddr 3 (.tmp 6)⟩,⟨none,none,.store1 (.tmp 112) (.tmp 103)⟩,⟨none,some 113,.faddr 1 (.tmp 6)⟩,⟨none,none,.store1 (.tmp 113) (.tmp 107)⟩,⟨none,some 114,.faddr 2 (.tmp 6)⟩,⟨none,none,.store1 (.tmp 114) (.tmp 111)⟩])
 (.seq (.seq (.ops [mvt 47 4,⟨none,some 48,.iaddr 3 (.tmp 47) (.const (.int .i64 1))⟩,⟨none,some 49,.faddr 1 (.tmp 48)⟩,⟨none,some 50,.load1 (.tmp 49)⟩,⟨none,some 51,.iop .gtr (.tmp 50) (.const (.int .u64 9223372036854775807))⟩])
 (.cond (.tmp 51)
 (.seq (.ops [⟨none,some 52,.build [.string (.mk #[]),.string (.mk #[]),.int .u64 0,.int .u64 0,.string (.mk #[]),.int .i64 0,.string (.mk #[]),.string (.mk #[]),.string (.mk #[])] []⟩,⟨none,none,.storeN 9 (.tmp 2) (.tmp 52)⟩,⟨none,some 3,.mv (.const (.int .i64 20))⟩])
 .ret)
 .skip))
 (.draw 9 (opsOf (sub (bodyOf f205) [1,1,1,1,0,1,1,0,1,1,1,1,1,1,1,1,1])) [mvt 53 4,⟨none,some 54,.iaddr 3 (.tmp 53) (.const (.int .i64 0))⟩,⟨none,some 55,.faddr 2 (.tmp 54)⟩,⟨none,some 56,.load1 (.tmp 55)⟩,mvt 57 4,⟨none,some 58,.iaddr 3 (.tmp 57) (.const (.int .i64 1))⟩,⟨none,some 59,.faddr 1 (.tmp 58)⟩,⟨none,some 60,.load1 (.tmp 59)⟩,⟨none,some 61,.conv .i64 (.tmp 60)⟩,mvt 62 4,⟨none,some 63,.iaddr 3 (.tmp 62) (.const (.int .i64 2))⟩,⟨none,some 64,.faddr 2 (.tmp 63)⟩,⟨none,some 65,.load1 (.tmp 64)⟩,mvt 66 4,⟨none,some 67,.iaddr 3 (.tmp 66) (.const (.int .i64 3))⟩,⟨none,some 68,.faddr 2 (.tmp 67)⟩,⟨none,some 69,.load1 (.tmp 68)⟩,⟨none,some 70,.build [.string (.mk #[]),.int .i64 0,.string (.mk #[]),.string (.mk #[])] [(0,(1,.tmp 56)),(1,(1,.tmp 61)),(2,(1,.tmp 65)),(3,(1,.tmp 69))]⟩,⟨none,some 71,.faddr 4 (.tmp 6)⟩,⟨none,none,.storeN 4 (.tmp 71) (.tmp 70)⟩])))))))))))))
 (.seq (.ops [⟨none,some 115,.loadN 9 (.tmp 6)⟩,⟨none,none,.storeN 9 (.tmp 2) (.tmp 115)⟩,⟨none,some 3,.mv (.const (.int .i64 0))⟩])
 .ret))))))
abbrev r205:List RV:=[(.cN 2 9),(.tmp 3)]
theorem F205:FnOk prog 205 116 c205 r205:=FnOk.o func205
noncomputable def c202:CC:=(.seq (.ops [⟨none,some 4,.mv (.const (.string (.mk #[])))⟩,⟨none,some 5,.mv (.const (.int .i64 0))⟩])
 (.seq (.ops [mvt 6 0,⟨none,some 7,.call 220 [.tmp 6]⟩,⟨none,some 8,.buildS 220 1 [.bool false,.int .u64 0,.string (.mk #[])] [(0,(3,.tmp 7))]⟩,mvt 9 1,⟨none,some 10,.raw 14 (.mk (some 10) (.call (.mk (.builtin .append) #[.tmp 8,.tmp 9] #[301,301])) 301 "schema.go:31" #[.mk 2 .data,.mk 3 .data,.mk 1 .chain] none)⟩,⟨none,some 11,.call 254 [.tmp 10]⟩,⟨none,some 12,.ext (.tmp 11) 0⟩,⟨none,some 13,.ext (.tmp 11) 1⟩,mvt 4 12,mvt 5 13])
 .ret))
abbrev r202:List RV:=[(.tmp 4),(.tmp 5)]
theorem F202:FnOk prog 202 14 c202 r202:=FnOk.o func202
noncomputable def c220:CC:=(.seq (.ops [⟨none,some 2,.alloc 220 (.agg #[.bool false,.int .u64 0,.string (.mk #[])])⟩])
 (.seq (.ops [mvt 3 0,⟨none,some 4,.build [.bool false,.int .u64 0,.string (.mk #[])] [(0,(1,.const (.bool true))),(2,(1,.tmp 3))]⟩,⟨none,none,.storeN 3 (.tmp 2) (.tmp 4)⟩])
 .ret))
abbrev r220:List RV:=[(.cN 2 3)]
theorem F220:FnOk prog 220 5 c220 r220:=FnOk.o func220
noncomputable def c163:CC:=(.seq (.ops [⟨none,some 1,.box 9 (.tmp 0)⟩,⟨none,some 2,.alloc 257 (.agg #[.nilFunc,.nilFunc])⟩])
 (.seq (.ops [⟨none,some 3,(.mkF (.func 223) [] [.tmp 1])⟩,⟨none,some 4,(.call 221 [(.func 222),.tmp 3])⟩,⟨none,none,.storeN 2 (.tmp 2) (.tmp 4)⟩])
 .ret))
abbrev r163:List RV:=[(.cN 2 2)]
theorem F163:FnOk prog 163 5 c163 r163:=FnOk.o func163
noncomputable def c175:CC:=(.seq (.ops [⟨none,some 2,.box 257 (.tmp 0)⟩,⟨none,some 4,.alloc 121 (.agg #[.string (.mk #[]),.int .u32 0,.int .u64 0,.int .u32 0,.string (.mk #[])])⟩,⟨none,some 5,.mv (.const (.int .i64 0))⟩])
 (.seq (.ops [⟨none,some 6,.alloc 121 (.agg #[.string (.mk #[]),.int .u32 0,.int .u64 0,.int .u32 0,.string (.mk #[])])⟩])
 (.seq (.seq (.ops [⟨none,some 10,.faddr 1 (.tmp 2)⟩,⟨none,some 11,.load1 (.tmp 10)⟩,⟨none,some 12,.pnil 3 false (.tmp 11)⟩])
 (.cond (.tmp 12)
 (.seq (.ops [⟨none,some 13,.loadN 5 (.tmp 6)⟩,⟨none,none,.storeN 5 (.tmp 4) (.tmp 13)⟩,⟨none,some 5,.mv (.const (.int .i64 2))⟩])
 .ret)
 .skip))
 (.seq (.ops [mvt 14 1,⟨none,some 15,.call 214 [.tmp 14]⟩,mvt 7 15])
 (.seq (.ops [⟨none,some 16,.faddr 1 (.tmp 2)⟩,⟨none,some 17,.load1 (.tmp 16)⟩,mvt 18 7,⟨none,some 19,.callv (.tmp 17) [.tmp 18]⟩,⟨none,some 8,.alloc 121 (.agg #[.string (.mk #[]),.int .u32 0,.int .u64 0,.int .u32 0,.string (.mk #[])])⟩,⟨none,none,.storeN 5 (.tmp 8) (.tmp 19)⟩])
 (.seq (.seq (.ops [mvt 20 7,⟨none,some 21,.call 215 [.tmp 20]⟩,mvt 9 21])
 (.seq (.ops [mvt 22 9,⟨none,some 23,.iop .neq (.tmp 22) (.const (.int .i64 0))⟩])
 (.cond (.tmp 23)
 (.seq (.ops [⟨none,some 24,.loadN 5 (.tmp 6)⟩,mvt 25 9,⟨none,none,.storeN 5 (.tmp 4) (.tmp 24)⟩,mvt 5 25])
 .ret)
 .skip)))
 (.seq (.ops [⟨none,some 26,.loadN 5 (.tmp 8)⟩,⟨none,none,.storeN 5 (.tmp 4) (.tmp 26)⟩,⟨none,some 5,.mv (.const (.int .i64 0))⟩])
 .ret)))))))
abbrev r175:List RV:=[(.cN 4 5),(.tmp 5)]
theorem F175:FnOk prog 175 27 c175 r175:=FnOk.o func175
noncomputable def c282:CC:=(.seq (.ops [⟨none,some 0,.alloc 372 (.agg #[.nilFunc,.nilFunc])⟩])
 (.seq (.ops [⟨none,some 1,(.call 301 [(.func 160),(.func 225)])⟩,⟨none,none,.storeN 2 (.tmp 0) (.tmp 1)⟩])
 .ret))
abbrev r282:List RV:=[(.cN 0 2)]
theorem F282:FnOk prog 282 2 c282 r282:=FnOk.o func282
noncomputable def c283:CC:=(.seq (.ops [⟨none,some 2,.box 372 (.tmp 0)⟩,⟨none,some 4,.mv (.const (.int .u64 0))⟩,⟨none,some 5,.mv (.const (.int .i64 0))⟩])
 (.seq (.ops [⟨none,some 6,.mv (.const (.int .u64 0))⟩])
 (.seq (.seq (.ops [⟨none,some 10,.faddr 1 (.tmp 2)⟩,⟨none,some 11,.load1 (.tmp 10)⟩,⟨none,some 12,.pnil 3 false (.tmp 11)⟩])
 (.cond (.tmp 12)
 (.seq (.ops [mvt 13 6,mvt 4 13,⟨none,some 5,.mv (.const (.int .i64 2))⟩])
 .ret)
 .skip))
 (.seq (.ops [mvt 14 1,⟨none,some 15,.call 214 [.tmp 14]⟩,mvt 7 15])
 (.seq (.ops [⟨none,some 16,.faddr 1 (.tmp 2)⟩,⟨none,some 17,.load1 (.tmp 16)⟩,mvt 18 7,⟨none,some 19,.callv (.tmp 17) [.tmp 18]⟩,mvt 8 19])
 (.seq (.seq (.ops [mvt 20 7,⟨none,some 21,.call 215 [.tmp 20]⟩,mvt 9 21])
 (.seq (.ops [mvt 22 9,⟨none,some 23,.iop .neq (.tmp 22) (.const (.int .i64 0))⟩])
 (.cond (.tmp 23)
 (.seq (.ops [mvt 24 6,mvt 25 9,mvt 4 24,mvt 5 25])
 .ret)
 .skip)))
 (.seq (.ops [mvt 26 8,mvt 4 26,⟨none,some 5,.mv (.const (.int .i64 0))⟩])
 .ret)))))))
abbrev r283:List RV:=[(.tmp 4),(.tmp 5)]
theorem F283:FnOk prog 283 27 c283 r283:=FnOk.o func283
noncomputable def c284:CC:=(.seq (.ops [⟨none,some 2,.box 372 (.tmp 0)⟩,⟨none,some 4,.mv (.const (.string (.mk #[])))⟩])
 (.seq (.seq (.ops [⟨none,some 5,.faddr 0 (.tmp 2)⟩,⟨none,some 6,.load1 (.tmp 5)⟩,⟨none,some 7,.pnil 3 false (.tmp 6)⟩])
 (.cond (.tmp 7)
 (.seq (.ops [⟨none,some 4,.mv (.const (.string (.mk #[])))⟩])
 .ret)
 .skip))
 (.seq (.ops [⟨none,some 8,.faddr 0 (.tmp 2)⟩,⟨none,some 9,.load1 (.tmp 8)⟩,mvt 10 1,⟨none,some 11,.callv (.tmp 9) [.tmp 10]⟩,mvt 4 11])
 .ret)))
abbrev r284:List RV:=[(.tmp 4)]
theorem F284:FnOk prog 284 12 c284 r284:=FnOk.o func284
noncomputable def c161:CC:=(.seq (.ops [⟨none,some 2,.mv (.const (.bool false))⟩])
 (.seq (.ops [mvt 3 0,⟨none,some 4,.sop .neq (.tmp 3) (.const (.string (.mk #[])))⟩,mvt 5 4,⟨some (5,true),some 6,.mv (.tmp 0)⟩,⟨some (5,true),some 7,.lenS (.tmp 6)⟩,⟨some (5,true),some 8,.iop .leq (.tmp 7) (.const (.int .i64 32))⟩,⟨none,some 9,.pick (.tmp 5) (.tmp 8) (.const (.bool false))⟩,mvt 10 9,⟨some (10,true),some 11,.mv (.tmp 0)⟩,⟨some (10,true),some 12,(.call 217 [.tmp 11,(.func 218)])⟩,⟨some (10,true),some 13,.not (.tmp 12)⟩,⟨none,some 14,.pick (.tmp 10) (.tmp 13) (.const (.bool false))⟩,mvt 2 14])
 .ret))
abbrev r161:List RV:=[(.tmp 2)]
theorem F161:FnOk prog 161 15 c161 r161:=FnOk.o func161
noncomputable def c164:CC:=(.seq (.ops [⟨none,some 2,.box 257 (.tmp 0)⟩,⟨none,some 3,.box 121 (.tmp 1)⟩,⟨none,some 4,.mv (.const (.string (.mk #[])))⟩])
 (.seq (.seq (.ops [⟨none,some 5,.faddr 0 (.tmp 2)⟩,⟨none,some 6,.load1 (.tmp 5)⟩,⟨none,some 7,.pnil 3 false (.tmp 6)⟩])
 (.cond (.tmp 7)
 (.seq (.ops [⟨none,some 4,.mv (.const (.string (.mk #[])))⟩])
 .ret)
 .skip))
 (.seq (.ops [⟨none,some 8,.faddr 0 (.tmp 2)⟩,⟨none,some 9,.load1 (.tmp 8)⟩,⟨none,some 10,.loadN 5 (.tmp 3)⟩,⟨none,some 11,.callv (.tmp 9) [.tmp 10]⟩,mvt 4 11])
 .ret)))
abbrev r164:List RV:=[(.tmp 4)]
theorem F164:FnOk prog 164 12 c164 r164:=FnOk.o func164
noncomputable def c268:CC:=(.seq (.ops [⟨none,some 4,.mv (.const (.int .u64 0))⟩])
 (.seq (.ops [⟨none,some 5,.mv (.const (.int .u64 0))⟩])
 (.seq (.ops [mvt 8 0,mvt 9 1,⟨none,some 10,.call 269 [.tmp 8,.tmp 9]⟩,mvt 6 10])
 (.seq (.seq (.ops [mvt 11 6,⟨none,some 12,.lenS (.tmp 11)⟩,⟨none,some 13,.mv (.const (.int .i64 0))⟩])
 (.block 0
 (.loop
 (.seq (.ops [⟨none,some 14,.iop .lss (.tmp 13) (.tmp 12)⟩])
 (.seq (.cond (.tmp 14)
 .skip
 (.exit 0))
 (.seq (.block 1
 (.seq (.ops [mvt 15 13,mvt 7 15])
 (.ops [mvt 16 5,⟨none,some 17,.iop .shl (.tmp 16) (.const (.int .u64 8))⟩,mvt 18 6,mvt 19 7,⟨none,some 20,.sidx (.tmp 18) (.tmp 19)⟩,⟨none,some 21,.conv .u64 (.tmp 20)⟩,⟨none,some 22,.iop .or (.tmp 17) (.tmp 21)⟩,mvt 5 22])))
 (.ops [⟨none,some 23,.iop .add (.tmp 13) (.const (.int .i64 1))⟩,mvt 13 23])))))))
 (.seq (.ops [mvt 24 5,mvt 4 24])
 .ret)))))
abbrev r268:List RV:=[(.tmp 4)]
theorem F268:FnOk prog 268 25 c268 r268:=FnOk.o func268
noncomputable def c142:CC:=(.seq (.ops [⟨none,some 2,.alloc 220 (.agg #[.bool false,.int .u64 0,.string (.mk #[])])⟩])
 (.seq (.ops [mvt 3 0,⟨none,some 4,.build [.bool false,.int .u64 0,.string (.mk #[])] [(1,(1,.tmp 3))]⟩,⟨none,none,.storeN 3 (.tmp 2) (.tmp 4)⟩])
 .ret))
abbrev r142:List RV:=[(.cN 2 3)]
theorem F142:FnOk prog 142 5 c142 r142:=FnOk.o func142
noncomputable def c141:CC:=(.seq (.ops [⟨none,some 4,.mv (.const (.string (.mk #[])))⟩,⟨none,some 5,.mv (.const (.string (.mk #[])))⟩])
 (.seq (.ops [mvt 11 0,mvt 12 1,⟨none,some 13,.call 202 [.tmp 11,.tmp 12]⟩,mvt 10 13,⟨none,some 14,.ext (.tmp 10) 0⟩,⟨none,some 15,.ext (.tmp 10) 1⟩,mvt 6 14,mvt 7 15])
 (.seq (.seq (.ops [mvt 16 7,⟨none,some 17,.iop .neq (.tmp 16) (.const (.int .i64 0))⟩])
 (.cond (.tmp 17)
 (.seq (.ops [⟨none,some 4,.mv (.const (.string (.mk #[])))⟩,⟨none,some 5,.mv (.const (.string (.mk #[])))⟩])
 .ret)
 .skip))
 (.seq (.ops [mvt 19 6,⟨none,some 20,.call 203 [.tmp 19]⟩,mvt 18 20,⟨none,some 21,.ext (.tmp 18) 0⟩,⟨none,some 22,.ext (.tmp 18) 1⟩,mvt 8 21,mvt 9 22])
 (.seq (.ops [mvt 23 6,mvt 24 8,mvt 4 23,mvt 5 24])
 .ret)))))
abbrev r141:List RV:=[(.tmp 4),(.tmp 5)]
theorem F141:FnOk prog 141 25 c141 r141:=FnOk.o func141
noncomputable def c353:CC:=(.seq (.ops [⟨none,some 7,.load1 (.tmp 1)⟩,⟨none,some 8,.nilc (.tmp 7)⟩,⟨none,some 9,.faddr 0 (.tmp 8)⟩,⟨none,some 10,.load1 (.tmp 9)⟩,⟨none,some 11,.call 354 [.tmp 10]⟩,⟨none,some 12,.call 47 [.tmp 11]⟩,⟨none,some 13,.lenL (.tmp 12)⟩,⟨none,some 14,.mv (.const (.int .i64 0))⟩])
 (.block 0
 (.loop
 (.seq (.ops [⟨none,some 15,.iop .lss (.tmp 14) (.tmp 13)⟩])
 (.seq (.cond (.tmp 15)
 .skip
 (.exit 0))
 (.seq (.block 1
 (.seq (.ops [⟨none,some 16,.iaddr 1 (.tmp 12) (.tmp 14)⟩,⟨none,some 17,.load1 (.tmp 16)⟩,mvt 6 17])
 (.seq (.seq (.ops [mvt 18 6,⟨none,some 19,.load1 (.tmp 2)⟩,⟨none,some 20,.sop .lss (.tmp 18) (.tmp 19)⟩,mvt 21 20,⟨some (21,false),some 22,.load1 (.tmp 3)⟩,⟨some (21,false),some 23,.sop .neq (.tmp 22) (.const (.string (.mk #[])))⟩,⟨some (21,false),some 24,.mv (.tmp 23)⟩,⟨some (24,true),some 25,.mv (.tmp 6)⟩,⟨some (24,true),some 26,.load1 (.tmp 3)⟩,⟨some (24,true),some 27,.sop .geq (.tmp 25) (.tmp 26)⟩,⟨some (21,false),some 28,.pick (.tmp 24) (.tmp 27) (.const (.bool false))⟩,⟨none,some 29,.pick (.tmp 21) (.const (.bool true)) (.tmp 28)⟩])
 (.cond (.tmp 29)
 (.exit 1)
 .skip))
 (.seq (.ops [mvt 30 0,mvt 31 6,⟨none,some 32,.load1 (.tmp 1)⟩,⟨none,some 33,.nilc (.tmp 32)⟩,⟨none,some 34,.faddr 0 (.tmp 33)⟩,⟨none,some 35,.load1 (.tmp 34)⟩,mvt 36 6,⟨none,some 37,.raw 42 (.mk (some 37) (.lookup 172 (.tmp 35) (.tmp 36) false) 9 "registry.go:56" #[.mk 5 .data,.mk 6 .data] none)⟩,⟨none,some 38,.build [.string (.mk #[]),.string (.mk #[])] [(0,(1,.tmp 31)),(1,(1,.tmp 37))]⟩,⟨none,some 39,.callv (.tmp 30) [.tmp 38,.const (.int .i64 0)]⟩,⟨none,some 40,.not (.tmp 39)⟩])
 (.cond (.tmp 40)
 .ret
 .skip)))))
 (.ops [⟨none,some 41,.iop .add (.tmp 14) (.const (.int .i64 1))⟩,mvt 14 41])))))))
abbrev r353:List RV:=[]
theorem F353:FnOk prog 353 42 c353 r353:=FnOk.o func353
noncomputable def c255:CC:=(.seq (.ops [⟨none,some 2,.mv (.const (.slice none 0 0))⟩,⟨none,some 3,.mv (.const (.int .i64 0))⟩])
 (.seq (.seq (.ops [mvt 6 0,⟨none,some 7,.lenS (.tmp 6)⟩,⟨none,some 8,.iop .gtr (.tmp 7) (.const (.int .i64 255))⟩])
 (.cond (.tmp 8)
 (.seq (.ops [⟨none,some 2,.mv (.const (.slice none 0 0))⟩,⟨none,some 3,.mv (.const (.int .i64 20))⟩])
 .ret)
 .skip))
 (.seq (.ops [mvt 9 0,⟨none,some 10,.call 214 [.tmp 9]⟩,mvt 4 10])
 (.seq (.ops [⟨none,some 5,.mv (.const (.slice none 0 0))⟩])
 (.seq (.block 0
 (.loop
 (.seq (.seq (.ops [mvt 11 4,⟨none,some 12,.call 291 [.tmp 11]⟩,⟨none,some 13,.iop .gtr (.tmp 12) (.const (.int .i64 0))⟩,mvt 14 13,⟨some (14,true),some 15,.mv (.tmp 4)⟩,⟨some (14,true),some 16,.call 262 [.tmp 15]⟩,⟨some (14,true),some 17,.iop .eql (.tmp 16) (.const (.int .i64 0))⟩,⟨none,some 18,.pick (.tmp 14) (.tmp 17) (.const (.bool false))⟩])
 (.cond (.tmp 18)
 .skip
 (.exit 0)))
 (.block 1
 (.seq (.ops [mvt 19 4,⟨none,some 20,.call 261 [.tmp 19]⟩])
 (.block 2
 (.seq (.ops [⟨none,some 24,.iop .eql (.tmp 20) (.const (.int .u8 1))⟩,mvt 23 24])
 (.cond (.tmp 23)
 (.ops [mvt 25 5,mvt 26 4,⟨none,some 27,.call 225 [.tmp 26]⟩,⟨none,some 28,.call 142 [.tmp 27]⟩,⟨none,some 29,.buildS 220 1 [.bool false,.int .u64 0,.string (.mk #[])] [(0,(3,.tmp 28))]⟩,⟨none,some 30,.raw 43 (.mk (some 30) (.call (.mk (.builtin .append) #[.tmp 25,.tmp 29] #[301,301])) 301 "order.go:84" #[.mk 0 .data,.mk 4 .data,.mk 3 .chain] none)⟩,mvt 5 30])
 (.seq (.ops [⟨none,some 32,.iop .eql (.tmp 20) (.const (.int .u8 2))⟩,mvt 31 32])
 (.cond (.tmp 31)
 (.ops [mvt 33 5,mvt 34 4,⟨none,some 35,.call 292 [.tmp 34]⟩,⟨none,some 36,.call 220 [.tmp 35]⟩,⟨none,some 37,.buildS 220 1 [.bool false,.int .u64 0,.string (.mk #[])] [(0,(3,.tmp 36))]⟩,⟨none,some 38,.raw 43 (.mk (some 38) (.call (.mk (.builtin .append) #[.tmp 33,.tmp 37] #[301,301])) 301 "order.go:86" #[.mk 0 .data,.mk 4 .data,.mk 3 .chain] none)⟩,mvt 5 38])
 (.ops [mvt 21 4,⟨none,some 22,.call 263 [.tmp 21,.const (.int .i64 20)]⟩])))))))))))
 (.seq (.seq (.ops [mvt 39 4,⟨none,some 40,.call 262 [.tmp 39]⟩,⟨none,some 41,.iop .neq (.tmp 40) (.const (.int .i64 0))⟩])
 (.cond (.tmp 41)
 (.seq (.ops [⟨none,some 2,.mv (.const (.slice none 0 0))⟩,⟨none,some 3,.mv (.const (.int .i64 20))⟩])
 .ret)
 .skip))
 (.seq (.ops [mvt 42 5,mvt 2 42,⟨none,some 3,.mv (.const (.int .i64 0))⟩])
 .ret)))))))
abbrev r255:List RV:=[(.tmp 2),(.tmp 3)]
theorem F255:FnOk prog 255 43 c255 r255:=FnOk.o func255
noncomputable def c256:CC:=(.seq (.ops [⟨none,some 4,.mv (.const (.bool false))⟩])
 (.seq (.seq (.ops [mvt 7 0,⟨none,some 8,.lenL (.tmp 7)⟩,mvt 9 1,⟨none,some 10,.lenS (.tmp 9)⟩,⟨none,some 11,.iop .neq (.tmp 8) (.tmp 10)⟩,mvt 12 11,⟨some (12,false),some 13,.mv (.tmp 1)⟩,⟨some (12,false),some 14,.sop .eql (.tmp 13) (.const (.string (.mk #[])))⟩,⟨none,some 15,.pick (.tmp 12) (.const (.bool true)) (.tmp 14)⟩])
 (.cond (.tmp 15)
 (.seq (.ops [⟨none,some 4,.mv (.const (.bool false))⟩])
 .ret)
 .skip))
 (.seq (.seq (.ops [mvt 16 1,⟨none,some 17,.raw 30 (.mk (some 17) (.range 9 (.tmp 16)) 0 "schema.go:85" #[.mk 0 .data] none)⟩])
 (.block 0
 (.loop
 (.seq (.ops [⟨none,some 18,.raw 30 (.mk (some 18) (.next (.tmp 17) true) 0 "schema.go:85" #[] none)⟩,⟨none,some 19,.ext (.tmp 18) 0⟩])
 (.seq (.cond (.tmp 19)
 .skip
 (.exit 0))
 (.block 1
 (.seq (.ops [⟨none,some 20,.ext (.tmp 18) 1⟩,⟨none,some 21,.ext (.tmp 18) 2⟩,mvt 5 20,mvt 6 21])
 (.seq (.ops [mvt 22 0,mvt 23 5,⟨none,some 24,.iaddr 3 (.tmp 22) (.tmp 23)⟩,⟨none,some 25,.faddr 0 (.tmp 24)⟩,⟨none,some 26,.load1 (.tmp 25)⟩,mvt 27 6,⟨none,some 28,.iop .eql (.tmp 27) (.const (.int .i32 115))⟩,⟨none,some 29,.bop true (.tmp 26) (.tmp 28)⟩])
 (.cond (.tmp 29)
 (.seq (.ops [⟨none,some 4,.mv (.const (.bool false))⟩])
 .ret)
 .skip)))))))))
 (.seq (.ops [⟨none,some 4,.mv (.const (.bool true))⟩])
 .ret))))
abbrev r256:List RV:=[(.tmp 4)]
theorem F256:FnOk prog 256 30 c256 r256:=FnOk.o func256
noncomputable def c257:CC:=(.seq (.ops [⟨none,some 2,.mv (.const (.string (.mk #[])))⟩])
 (.seq (.seq (.ops [mvt 3 0])
 (.block 0
 (.seq (.seq (.ops [⟨none,some 5,.sop .eql (.tmp 3) (.const (.string (.mk #[113])))⟩,mvt 4 5])
 (.cond (.tmp 4)
 .skip
 (.ops [⟨none,some 6,.sop .eql (.tmp 3) (.const (.string (.mk #[99])))⟩,mvt 4 6])))
 (.cond (.tmp 4)
 (.seq (.ops [⟨none,some 2,.mv (.const (.string (.mk #[115])))⟩])
 .ret)
 (.seq (.ops [⟨none,some 8,.sop .eql (.tmp 3) (.const (.string (.mk #[109])))⟩,mvt 7 8])
 (.cond (.tmp 7)
 (.seq (.ops [⟨none,some 2,.mv (.const (.string (.mk #[115,110])))⟩])
 .ret)
 (.seq (.ops [⟨none,some 10,.sop .eql (.tmp 3) (.const (.string (.mk #[101])))⟩,mvt 9 10])
 (.cond (.tmp 9)
 (.seq (.ops [⟨none,some 2,.mv (.const (.string (.mk #[110,115,110])))⟩])
 .ret)
 (.seq (.ops [⟨none,some 12,.sop .eql (.tmp 3) (.const (.string (.mk #[98])))⟩,mvt 11 12])
 (.cond (.tmp 11)
 (.seq (.ops [⟨none,some 2,.mv (.const (.string (.mk #[115,110,115,115])))⟩])
 .ret)
 .skip))))))))))
 (.seq (.ops [⟨none,some 2,.mv (.const (.string (.mk #[])))⟩])
 .ret)))
abbrev r257:List RV:=[(.tmp 2)]
theorem F257:FnOk prog 257 13 c257 r257:=FnOk.o func257
noncomputable def c254:CC:=(.seq (.ops [⟨none,some 2,.mv (.const (.string (.mk #[])))⟩,⟨none,some 3,.mv (.const (.int .i64 0))⟩])
 (.seq (.ops [⟨none,some 4,.alloc 377 (.agg #[.pointer none,.slice none 0 0])⟩])
 (.seq (.seq (.ops [mvt 7 0,⟨none,some 8,.lenL (.tmp 7)⟩,⟨none,some 9,.mv (.const (.int .i64 0))⟩])
 (.block 0
 (.loop
 (.seq (.ops [⟨none,some 10,.iop .lss (.tmp 9) (.tmp 8)⟩])
 (.seq (.cond (.tmp 10)
 .skip
 (.exit 0))
 (.seq (.block 1
 (.seq (.ops [⟨none,some 11,.iaddr 3 (.tmp 7) (.tmp 9)⟩,⟨none,some 12,.loadN 3 (.tmp 11)⟩,⟨none,some 6,.alloc 220 (.agg #[.bool false,.int .u64 0,.string (.mk #[])])⟩,⟨none,none,.storeN 3 (.tmp 6) (.tmp 12)⟩])
 (.seq (.ops [⟨none,some 13,.loadN 3 (.tmp 6)⟩,⟨none,some 14,.call 288 [.tmp 13]⟩,⟨none,some 15,.call 287 [.tmp 4,.tmp 14]⟩])
 (.seq (.ops [⟨none,some 16,.call 289 [.tmp 4]⟩,⟨none,some 17,.iop .gtr (.tmp 16) (.const (.int .i64 255))⟩])
 (.cond (.tmp 17)
 (.seq (.ops [⟨none,some 2,.mv (.const (.string (.mk #[])))⟩,⟨none,some 3,.mv (.const (.int .i64 5))⟩])
 .ret)
 .skip)))))
 (.ops [⟨none,some 18,.iop .add (.tmp 9) (.const (.int .i64 1))⟩,mvt 9 18])))))))
 (.seq (.ops [⟨none,some 19,.call 290 [.tmp 4]⟩,mvt 2 19,⟨none,some 3,.mv (.const (.int .i64 0))⟩])
 .ret))))
abbrev r254:List RV:=[(.tmp 2),(.tmp 3)]
theorem F254:FnOk prog 254 20 c254 r254:=FnOk.o func254
noncomputable def c221:CC:=(.seq (.ops [⟨none,some 2,.box 254 (.tmp 0)⟩,⟨none,some 3,.box 255 (.tmp 1)⟩,⟨none,some 4,.alloc 257 (.agg #[.nilFunc,.nilFunc])⟩])
 (.seq (.ops [⟨none,some 5,(.mkF (.func 266) [] [.tmp 2])⟩,⟨none,some 6,(.mkF (.func 267) [] [.tmp 3])⟩,⟨none,some 7,.build [.nilFunc,.nilFunc] [(0,(1,.tmp 5)),(1,(1,.tmp 6))]⟩,⟨none,none,.storeN 2 (.tmp 4) (.tmp 7)⟩])
 .ret))
abbrev r221:List RV:=[(.cN 4 2)]
theorem F221:FnOk prog 221 8 c221 r221:=FnOk.o func221
noncomputable def c222:CC:=(.seq (.ops [⟨none,some 1,.box 121 (.tmp 0)⟩,⟨none,some 2,.mv (.const (.string (.mk #[])))⟩])
 (.seq (.draw 1 (opsOf (sub (bodyOf f222) [1,0])) [⟨none,some 3,.faddr 1 (.tmp 1)⟩,⟨none,some 4,.load1 (.tmp 3)⟩,⟨none,some 5,.call 159 [.tmp 4]⟩,⟨none,some 6,.faddr 2 (.tmp 1)⟩,⟨none,some 7,.load1 (.tmp 6)⟩,⟨none,some 8,.call 160 [.tmp 7]⟩,⟨none,some 9,.sop .add (.tmp 5) (.tmp 8)⟩,⟨none,some 10,.faddr 3 (.tmp 1)⟩,⟨none,some 11,.load1 (.tmp 10)⟩,⟨none,some 12,.call 159 [.tmp 11]⟩,⟨none,some 13,.sop .add (.tmp 9) (.tmp 12)⟩,⟨none,some 14,.faddr 4 (.tmp 1)⟩,⟨none,some 15,.load1 (.tmp 14)⟩,⟨none,some 16,.call 158 [.tmp 15]⟩,⟨none,some 17,.sop .add (.tmp 13) (.tmp 16)⟩,mvt 2 17])
 .ret))
abbrev r222:List RV:=[(.tmp 2)]
theorem F222:FnOk prog 222 18 c222 r222:=FnOk.o func222
noncomputable def c159:CC:=(.seq (.ops [⟨none,some 2,.mv (.const (.string (.mk #[])))⟩])
 (.seq (.ops [mvt 3 0,⟨none,some 4,.conv .u64 (.tmp 3)⟩,⟨none,some 5,.call 157 [.tmp 4,.const (.int .i64 4)]⟩,mvt 2 5])
 .ret))
abbrev r159:List RV:=[(.tmp 2)]
theorem F159:FnOk prog 159 6 c159 r159:=FnOk.o func159
noncomputable def c160:CC:=(.seq (.ops [⟨none,some 2,.mv (.const (.string (.mk #[])))⟩])
 (.seq (.ops [mvt 3 0,⟨none,some 4,.call 157 [.tmp 3,.const (.int .i64 8)]⟩,mvt 2 4])
 .ret))
abbrev r160:List RV:=[(.tmp 2)]
theorem F160:FnOk prog 160 5 c160 r160:=FnOk.o func160
noncomputable def c158:CC:=(.seq (.ops [⟨none,some 2,.mv (.const (.string (.mk #[])))⟩])
 (.seq (.ops [mvt 3 0,⟨none,some 4,.lenS (.tmp 3)⟩,⟨none,some 5,.conv .u32 (.tmp 4)⟩,⟨none,some 6,.call 159 [.tmp 5]⟩,mvt 7 0,⟨none,some 8,.sop .add (.tmp 6) (.tmp 7)⟩,mvt 2 8])
 .ret))
abbrev r158:List RV:=[(.tmp 2)]
theorem F158:FnOk prog 158 9 c158 r158:=FnOk.o func158
noncomputable def c223:CC:=(.seq (.ops [⟨none,some 3,.alloc 121 (.agg #[.string (.mk #[]),.int .u32 0,.int .u64 0,.int .u32 0,.string (.mk #[])])⟩])
 (.seq (.draw 1 (opsOf (sub (bodyOf f223) [1,0])) [⟨none,some 4,.load1 (.tmp 1)⟩,mvt 5 0,⟨none,some 6,.call 224 [.tmp 5]⟩,mvt 7 0,⟨none,some 8,.call 225 [.tmp 7]⟩,mvt 9 0,⟨none,some 10,.call 224 [.tmp 9]⟩,mvt 11 0,⟨none,some 12,.call 226 [.tmp 11,.const (.int .i64 32)]⟩,⟨none,some 13,.build [.string (.mk #[]),.int .u32 0,.int .u64 0,.int .u32 0,.string (.mk #[])] [(0,(1,.tmp 4)),(1,(1,.tmp 6)),(2,(1,.tmp 8)),(3,(1,.tmp 10)),(4,(1,.tmp 12))]⟩,⟨none,none,.storeN 5 (.tmp 3) (.tmp 13)⟩])
 .ret))
abbrev r223:List RV:=[(.cN 3 5)]
theorem F223:FnOk prog 223 14 c223 r223:=FnOk.o func223
noncomputable def c224:CC:=(.seq (.ops [⟨none,some 2,.mv (.const (.int .u32 0))⟩])
 (.seq (.ops [mvt 3 0,⟨none,some 4,.call 268 [.tmp 3,.const (.int .i64 4)]⟩,⟨none,some 5,.conv .u32 (.tmp 4)⟩,mvt 2 5])
 .ret))
abbrev r224:List RV:=[(.tmp 2)]
theorem F224:FnOk prog 224 6 c224 r224:=FnOk.o func224
noncomputable def c226:CC:=(.seq (.ops [⟨none,some 4,.mv (.const (.string (.mk #[])))⟩])
 (.seq (.ops [mvt 6 0,⟨none,some 7,.call 224 [.tmp 6]⟩,mvt 5 7])
 (.seq (.seq (.ops [mvt 8 5,⟨none,some 9,.conv .u64 (.tmp 8)⟩,mvt 10 1,⟨none,some 11,.raw 20 (.mk (some 11) (.call (.mk (.builtin .max) #[.tmp 10,.const (.int .i64 0)] #[3,3])) 3 "octet.go:89" #[.mk 2 .data] none)⟩,⟨none,some 12,.conv .u64 (.tmp 11)⟩,⟨none,some 13,.iop .gtr (.tmp 9) (.tmp 12)⟩])
 (.cond (.tmp 13)
 (.seq (.ops [mvt 14 0,⟨none,some 15,.call 263 [.tmp 14,.const (.int .i64 5)]⟩])
 (.seq (.ops [⟨none,some 4,.mv (.const (.string (.mk #[])))⟩])
 .ret))
 .skip))
 (.seq (.ops [mvt 16 0,mvt 17 5,⟨none,some 18,.conv .i64 (.tmp 17)⟩,⟨none,some 19,.call 269 [.tmp 16,.tmp 18]⟩,mvt 4 19])
 .ret))))
abbrev r226:List RV:=[(.tmp 4)]
theorem F226:FnOk prog 226 20 c226 r226:=FnOk.o func226
noncomputable def c215:CC:=(.seq (.ops [⟨none,some 2,.mv (.const (.int .i64 0))⟩])
 (.seq (.seq (.ops [mvt 4 0,⟨none,some 5,.call 262 [.tmp 4]⟩,mvt 3 5])
 (.seq (.ops [mvt 6 3,⟨none,some 7,.iop .neq (.tmp 6) (.const (.int .i64 0))⟩])
 (.cond (.tmp 7)
 (.seq (.ops [mvt 8 3,mvt 2 8])
 .ret)
 .skip)))
 (.seq (.seq (.ops [mvt 9 0,⟨none,some 10,.nilc (.tmp 9)⟩,⟨none,some 11,.faddr 0 (.tmp 10)⟩,⟨none,some 12,.load1 (.tmp 11)⟩,⟨none,some 13,.lenS (.tmp 12)⟩,⟨none,some 14,.iop .gtr (.tmp 13) (.const (.int .i64 0))⟩])
 (.cond (.tmp 14)
 (.seq (.ops [⟨none,some 2,.mv (.const (.int .i64 4))⟩])
 .ret)
 .skip))
 (.seq (.ops [⟨none,some 2,.mv (.const (.int .i64 0))⟩])
 .ret))))
abbrev r215:List RV:=[(.tmp 2)]
theorem F215:FnOk prog 215 15 c215 r215:=FnOk.o func215
noncomputable def c301:CC:=(.seq (.ops [⟨none,some 2,.box 251 (.tmp 0)⟩,⟨none,some 3,.box 370 (.tmp 1)⟩,⟨none,some 4,.alloc 372 (.agg #[.nilFunc,.nilFunc])⟩])
 (.seq (.ops [⟨none,some 5,(.mkF (.func 310) [] [.tmp 2])⟩,⟨none,some 6,(.mkF (.func 311) [] [.tmp 3])⟩,⟨none,some 7,.build [.nilFunc,.nilFunc] [(0,(1,.tmp 5)),(1,(1,.tmp 6))]⟩,⟨none,none,.storeN 2 (.tmp 4) (.tmp 7)⟩])
 .ret))
abbrev r301:List RV:=[(.cN 4 2)]
theorem F301:FnOk prog 301 8 c301 r301:=FnOk.o func301
noncomputable def c218:CC:=(.seq (.ops [⟨none,some 2,.mv (.const (.bool false))⟩])
 (.seq (.ops [mvt 3 0,⟨none,some 4,.call 219 [.tmp 3]⟩,⟨none,some 5,.not (.tmp 4)⟩,mvt 2 5])
 .ret))
abbrev r218:List RV:=[(.tmp 2)]
theorem F218:FnOk prog 218 6 c218 r218:=FnOk.o func218
noncomputable def c219:CC:=(.seq (.ops [⟨none,some 2,.mv (.const (.bool false))⟩])
 (.seq (.ops [mvt 3 0,⟨none,some 4,.iop .geq (.tmp 3) (.const (.int .i32 97))⟩,mvt 5 4,⟨some (5,true),some 6,.mv (.tmp 0)⟩,⟨some (5,true),some 7,.iop .leq (.tmp 6) (.const (.int .i32 122))⟩,⟨none,some 8,.pick (.tmp 5) (.tmp 7) (.const (.bool false))⟩,mvt 9 8,⟨some (9,false),some 10,.mv (.tmp 0)⟩,⟨some (9,false),some 11,.iop .geq (.tmp 10) (.const (.int .i32 65))⟩,⟨some (9,false),some 12,.mv (.tmp 11)⟩,⟨some (12,true),some 13,.mv (.tmp 0)⟩,⟨some (12,true),some 14,.iop .leq (.tmp 13) (.const (.int .i32 90))⟩,⟨some (9,false),some 15,.pick (.tmp 12) (.tmp 14) (.const (.bool false))⟩,⟨none,some 16,.pick (.tmp 9) (.const (.bool true)) (.tmp 15)⟩,mvt 17 16,⟨some (17,false),some 18,.mv (.tmp 0)⟩,⟨some (17,false),some 19,.iop .geq (.tmp 18) (.const (.int .i32 48))⟩,⟨some (17,false),some 20,.mv (.tmp 19)⟩,⟨some (20,true),some 21,.mv (.tmp 0)⟩,⟨some (20,true),some 22,.iop .leq (.tmp 21) (.const (.int .i32 57))⟩,⟨some (17,false),some 23,.pick (.tmp 20) (.tmp 22) (.const (.bool false))⟩,⟨none,some 24,.pick (.tmp 17) (.const (.bool true)) (.tmp 23)⟩,mvt 25 24,⟨some (25,false),some 26,.mv (.tmp 0)⟩,⟨some (25,false),some 27,.iop .eql (.tmp 26) (.const (.int .i32 45))⟩,⟨none,some 28,.pick (.tmp 25) (.const (.bool true)) (.tmp 27)⟩,mvt 29 28,⟨some (29,false),some 30,.mv (.tmp 0)⟩,⟨some (29,false),some 31,.iop .eql (.tmp 30) (.const (.int .i32 95))⟩,⟨none,some 32,.pick (.tmp 29) (.const (.bool true)) (.tmp 31)⟩,mvt 2 32])
 .ret))
abbrev r219:List RV:=[(.tmp 2)]
theorem F219:FnOk prog 219 33 c219 r219:=FnOk.o func219
noncomputable def c203:CC:=(.seq (.ops [⟨none,some 2,.mv (.const (.string (.mk #[])))⟩,⟨none,some 3,.mv (.const (.bool false))⟩])
 (.seq (.seq (.ops [mvt 6 0,⟨none,some 7,.lenS (.tmp 6)⟩,mvt 4 7])
 (.block 0
 (.loop
 (.seq (.seq (.ops [mvt 8 4,⟨none,some 9,.iop .gtr (.tmp 8) (.const (.int .i64 0))⟩])
 (.cond (.tmp 9)
 .skip
 (.exit 0)))
 (.seq (.block 1
 (.seq (.ops [mvt 12 0,mvt 13 4,⟨none,some 14,.iop .sub (.tmp 13) (.const (.int .i64 1))⟩,⟨none,some 15,.sidx (.tmp 12) (.tmp 14)⟩,mvt 5 15])
 (.seq (.ops [mvt 16 5,⟨none,some 17,.iop .neq (.tmp 16) (.const (.int .u8 255))⟩])
 (.cond (.tmp 17)
 (.seq (.draw 6 (opsOf (sub (bodyOf f203) [1,0,1,0,0,1,0,0,1,1,0,0])) [mvt 18 0,mvt 19 4,⟨none,some 20,.iop .sub (.tmp 19) (.const (.int .i64 1))⟩,⟨none,some 21,.slS (.tmp 18) none (some (.tmp 20))⟩,mvt 22 5,⟨none,some 23,.iop .add (.tmp 22) (.const (.int .u8 1))⟩,⟨none,some 24,.call 96 [.tmp 23]⟩,⟨none,some 25,.sop .add (.tmp 21) (.tmp 24)⟩,mvt 2 25,⟨none,some 3,.mv (.const (.bool true))⟩])
 .ret)
 .skip))))
 (.ops [mvt 10 4,⟨none,some 11,.iop .sub (.tmp 10) (.const (.int .i64 1))⟩,mvt 4 11]))))))
 (.seq (.ops [⟨none,some 2,.mv (.const (.string (.mk #[])))⟩,⟨none,some 3,.mv (.const (.bool false))⟩])
 .ret)))
abbrev r203:List RV:=[(.tmp 2),(.tmp 3)]
theorem F203:FnOk prog 203 26 c203 r203:=FnOk.o func203
noncomputable def c291:CC:=(.seq (.ops [⟨none,some 2,.mv (.const (.int .i64 0))⟩])
 (.seq (.seq (.ops [mvt 3 0,⟨none,some 4,.pnil 0 false (.tmp 3)⟩])
 (.cond (.tmp 4)
 (.seq (.ops [⟨none,some 2,.mv (.const (.int .i64 0))⟩])
 .ret)
 .skip))
 (.seq (.ops [mvt 5 0,⟨none,some 6,.nilc (.tmp 5)⟩,⟨none,some 7,.faddr 0 (.tmp 6)⟩,⟨none,some 8,.load1 (.tmp 7)⟩,⟨none,some 9,.lenS (.tmp 8)⟩,mvt 2 9])
 .ret)))
abbrev r291:List RV:=[(.tmp 2)]
theorem F291:FnOk prog 291 10 c291 r291:=FnOk.o func291
noncomputable def c262:CC:=(.seq (.ops [⟨none,some 2,.mv (.const (.int .i64 0))⟩])
 (.seq (.seq (.ops [mvt 3 0,⟨none,some 4,.pnil 0 false (.tmp 3)⟩])
 (.cond (.tmp 4)
 (.seq (.ops [⟨none,some 2,.mv (.const (.int .i64 1))⟩])
 .ret)
 .skip))
 (.seq (.ops [mvt 5 0,⟨none,some 6,.nilc (.tmp 5)⟩,⟨none,some 7,.faddr 1 (.tmp 6)⟩,⟨none,some 8,.load1 (.tmp 7)⟩,mvt 2 8])
 .ret)))
abbrev r262:List RV:=[(.tmp 2)]
theorem F262:FnOk prog 262 9 c262 r262:=FnOk.o func262
noncomputable def c261:CC:=(.seq (.ops [⟨none,some 2,.mv (.const (.int .u8 0))⟩])
 (.seq (.ops [mvt 3 0,⟨none,some 4,.call 268 [.tmp 3,.const (.int .i64 1)]⟩,⟨none,some 5,.conv .u8 (.tmp 4)⟩,mvt 2 5])
 .ret))
abbrev r261:List RV:=[(.tmp 2)]
theorem F261:FnOk prog 261 6 c261 r261:=FnOk.o func261
noncomputable def c292:CC:=(.seq (.ops [⟨none,some 2,.mv (.const (.string (.mk #[])))⟩])
 (.seq (.ops [⟨none,some 3,.alloc 377 (.agg #[.pointer none,.slice none 0 0])⟩])
 (.seq (.block 0
 (.loop
 (.seq (.seq (.ops [mvt 5 0,⟨none,some 6,.call 262 [.tmp 5]⟩,⟨none,some 7,.iop .eql (.tmp 6) (.const (.int .i64 0))⟩])
 (.cond (.tmp 7)
 .skip
 (.exit 0)))
 (.block 1
 (.seq (.ops [mvt 8 0,⟨none,some 9,.call 261 [.tmp 8]⟩,mvt 4 9])
 (.seq (.seq (.ops [mvt 10 4,⟨none,some 11,.iop .neq (.tmp 10) (.const (.int .u8 0))⟩])
 (.cond (.tmp 11)
 (.seq (.ops [mvt 12 4,⟨none,some 13,.call 304 [.tmp 3,.tmp 12]⟩])
 (.exit 1))
 .skip))
 (.seq (.ops [mvt 14 0,⟨none,some 15,.call 261 [.tmp 14]⟩])
 (.block 2
 (.seq (.ops [⟨none,some 19,.iop .eql (.tmp 15) (.const (.int .u8 255))⟩,mvt 18 19])
 (.cond (.tmp 18)
 (.ops [⟨none,some 20,.call 304 [.tmp 3,.const (.int .u8 0)]⟩])
 (.seq (.ops [⟨none,some 22,.iop .eql (.tmp 15) (.const (.int .u8 0))⟩,mvt 21 22])
 (.cond (.tmp 21)
 (.seq (.ops [⟨none,some 23,.call 290 [.tmp 3]⟩,mvt 2 23])
 .ret)
 (.ops [mvt 16 0,⟨none,some 17,.call 263 [.tmp 16,.const (.int .i64 20)]⟩])))))))))))))
 (.seq (.ops [⟨none,some 2,.mv (.const (.string (.mk #[])))⟩])
 .ret))))
abbrev r292:List RV:=[(.tmp 2)]
theorem F292:FnOk prog 292 24 c292 r292:=FnOk.o func292
noncomputable def c263:CC:=(.seq (.ops [mvt 4 0,⟨none,some 5,.pnil 0 true (.tmp 4)⟩,mvt 6 5,⟨some (6,true),some 7,.mv (.tmp 0)⟩,⟨some (6,true),some 8,.nilc (.tmp 7)⟩,⟨some (6,true),some 9,.faddr 1 (.tmp 8)⟩,⟨some (6,true),some 10,.load1 (.tmp 9)⟩,⟨some (6,true),some 11,.iop .eql (.tmp 10) (.const (.int .i64 0))⟩,⟨none,some 12,.pick (.tmp 6) (.tmp 11) (.const (.bool false))⟩])
 (.cond (.tmp 12)
 (.ops [mvt 13 0,mvt 14 1,⟨none,some 15,.nilc (.tmp 13)⟩,⟨none,some 16,.faddr 1 (.tmp 15)⟩,⟨none,none,.store1 (.tmp 16) (.tmp 14)⟩])
 .skip))
abbrev r263:List RV:=[]
theorem F263:FnOk prog 263 17 c263 r263:=FnOk.o func263
noncomputable def c288:CC:=(.seq (.ops [⟨none,some 1,.box 220 (.tmp 0)⟩,⟨none,some 2,.mv (.const (.string (.mk #[])))⟩])
 (.seq (.seq (.ops [⟨none,some 3,.faddr 0 (.tmp 1)⟩,⟨none,some 4,.load1 (.tmp 3)⟩,⟨none,some 5,.not (.tmp 4)⟩])
 (.cond (.tmp 5)
 (.seq (.draw 2 (opsOf (sub (bodyOf f288) [1,0,1,0,0])) [⟨none,some 6,.call 96 [.const (.int .u8 1)]⟩,⟨none,some 7,.faddr 1 (.tmp 1)⟩,⟨none,some 8,.load1 (.tmp 7)⟩,⟨none,some 9,.call 160 [.tmp 8]⟩,⟨none,some 10,.sop .add (.tmp 6) (.tmp 9)⟩,mvt 2 10])
 .ret)
 .skip))
 (.seq (.draw 3 (opsOf (sub (bodyOf f288) [1,1,0])) [⟨none,some 11,.call 96 [.const (.int .u8 2)]⟩,⟨none,some 12,.faddr 2 (.tmp 1)⟩,⟨none,some 13,.load1 (.tmp 12)⟩,⟨none,some 14,.call 303 [.tmp 13,.const (.string (.mk #[0])),.const (.string (.mk #[0,255]))]⟩,⟨none,some 15,.sop .add (.tmp 11) (.tmp 14)⟩,⟨none,some 16,.sop .add (.tmp 15) (.const (.string (.mk #[0,0])))⟩,mvt 2 16])
 .ret)))
abbrev r288:List RV:=[(.tmp 2)]
theorem F288:FnOk prog 288 17 c288 r288:=FnOk.o func288
noncomputable def c266:CC:=(.seq (.ops [⟨none,some 2,.box 121 (.tmp 0)⟩,⟨none,some 3,.mv (.const (.string (.mk #[])))⟩])
 (.seq (.draw 1 (opsOf (sub (bodyOf f266) [1,0])) [⟨none,some 4,.call 96 [.const (.int .u8 1)]⟩,⟨none,some 5,.load1 (.tmp 1)⟩,⟨none,some 6,.loadN 5 (.tmp 2)⟩,⟨none,some 7,.callv (.tmp 5) [.tmp 6]⟩,⟨none,some 8,.sop .add (.tmp 4) (.tmp 7)⟩,mvt 3 8])
 .ret))
abbrev r266:List RV:=[(.tmp 3)]
theorem F266:FnOk prog 266 9 c266 r266:=FnOk.o func266
noncomputable def c96:CC:=(.seq (.ops [⟨none,some 2,.mv (.const (.string (.mk #[])))⟩])
 (.seq (.ops [mvt 3 0,⟨none,some 4,.conv .u64 (.tmp 3)⟩,⟨none,some 5,.call 157 [.tmp 4,.const (.int .i64 1)]⟩,mvt 2 5])
 .ret))
abbrev r96:List RV:=[(.tmp 2)]
theorem F96:FnOk prog 96 6 c96 r96:=FnOk.o func96
noncomputable def c267:CC:=(.seq (.ops [⟨none,some 3,.alloc 121 (.agg #[.string (.mk #[]),.int .u32 0,.int .u64 0,.int .u32 0,.string (.mk #[])])⟩])
 (.seq (.seq (.ops [mvt 4 0,⟨none,some 5,.call 261 [.tmp 4]⟩,⟨none,some 6,.iop .neq (.tmp 5) (.const (.int .u8 1))⟩])
 (.cond (.tmp 6)
 (.ops [mvt 7 0,⟨none,some 8,.call 263 [.tmp 7,.const (.int .i64 4)]⟩])
 .skip))
 (.seq (.ops [⟨none,some 9,.load1 (.tmp 1)⟩,mvt 10 0,⟨none,some 11,.callv (.tmp 9) [.tmp 10]⟩,⟨none,none,.storeN 5 (.tmp 3) (.tmp 11)⟩])
 .ret)))
abbrev r267:List RV:=[(.cN 3 5)]
theorem F267:FnOk prog 267 12 c267 r267:=FnOk.o func267
noncomputable def c157:CC:=(.seq (.ops [⟨none,some 4,.mv (.const (.string (.mk #[])))⟩])
 (.seq (.ops [⟨none,some 5,.alloc 318 (.agg #[.int .u8 0,.int .u8 0,.int .u8 0,.int .u8 0,.int .u8 0,.int .u8 0,.int .u8 0,.int .u8 0])⟩])
 (.seq (.seq (.ops [⟨none,some 7,.mv (.const (.int .i64 0))⟩])
 (.block 0
 (.loop
 (.seq (.ops [⟨none,some 8,.iop .lss (.tmp 7) (.const (.int .i64 8))⟩])
 (.seq (.cond (.tmp 8)
 .skip
 (.exit 0))
 (.seq (.block 1
 (.seq (.ops [mvt 9 7,mvt 6 9])
 (.ops [mvt 10 6,mvt 11 0,mvt 12 6,⟨none,some 13,.iop .sub (.const (.int .i64 7)) (.tmp 12)⟩,⟨none,some 14,.iop .mul (.const (.int .i64 8)) (.tmp 13)⟩,⟨none,some 15,.iop .shr (.tmp 11) (.tmp 14)⟩,⟨none,some 16,.conv .u8 (.tmp 15)⟩,⟨none,some 17,.iaddrA 8 1 (.tmp 5) (.tmp 10)⟩,⟨none,none,.store1 (.tmp 17) (.tmp 16)⟩])))
 (.ops [⟨none,some 18,.iop .add (.tmp 7) (.const (.int .i64 1))⟩,mvt 7 18])))))))
 (.seq (.ops [mvt 19 1,⟨none,some 20,.iop .sub (.const (.int .i64 8)) (.tmp 19)⟩,⟨none,some 21,.slA 8 1 (.tmp 5) (some (.tmp 20)) none⟩,⟨none,some 22,.raw 23 (.mk (some 22) (.convert 319 9 (.tmp 21)) 9 "octet.go:22" #[.mk 2 .data] none)⟩,mvt 4 22])
 .ret))))
abbrev r157:List RV:=[(.tmp 4)]
theorem F157:FnOk prog 157 23 c157 r157:=FnOk.o func157
noncomputable def c310:CC:=(.seq (.ops [⟨none,some 3,.mv (.const (.string (.mk #[])))⟩])
 (.seq (.draw 1 (opsOf (sub (bodyOf f310) [1,0])) [⟨none,some 4,.call 96 [.const (.int .u8 1)]⟩,⟨none,some 5,.load1 (.tmp 1)⟩,mvt 6 0,⟨none,some 7,.callv (.tmp 5) [.tmp 6]⟩,⟨none,some 8,.sop .add (.tmp 4) (.tmp 7)⟩,mvt 3 8])
 .ret))
abbrev r310:List RV:=[(.tmp 3)]
theorem F310:FnOk prog 310 9 c310 r310:=FnOk.o func310
noncomputable def c311:CC:=(.seq (.ops [⟨none,some 3,.mv (.const (.int .u64 0))⟩])
 (.seq (.seq (.ops [mvt 4 0,⟨none,some 5,.call 261 [.tmp 4]⟩,⟨none,some 6,.iop .neq (.tmp 5) (.const (.int .u8 1))⟩])
 (.cond (.tmp 6)
 (.ops [mvt 7 0,⟨none,some 8,.call 263 [.tmp 7,.const (.int .i64 4)]⟩])
 .skip))
 (.seq (.ops [⟨none,some 9,.load1 (.tmp 1)⟩,mvt 10 0,⟨none,some 11,.callv (.tmp 9) [.tmp 10]⟩,mvt 3 11])
 .ret)))
abbrev r311:List RV:=[(.tmp 3)]
theorem F311:FnOk prog 311 12 c311 r311:=FnOk.o func311
noncomputable def c350:CC:=(.seq (.ops [⟨none,some 4,.mv (.const (.string (.mk #[])))⟩,⟨none,some 5,.mv (.const (.bool false))⟩,⟨none,some 6,.mv (.const (.int .i64 0))⟩])
 (.seq (.ops [mvt 10 0,⟨none,some 11,.nilc (.tmp 10)⟩,⟨none,some 12,.faddr 0 (.tmp 11)⟩,⟨none,some 13,.load1 (.tmp 12)⟩,mvt 14 1,⟨none,some 15,.raw 20 (.mk (some 15) (.lookup 172 (.tmp 13) (.tmp 14) true) 303 "registry.go:45" #[.mk 3 .data,.mk 4 .data] none)⟩,mvt 9 15,⟨none,some 16,.ext (.tmp 9) 0⟩,⟨none,some 17,.ext (.tmp 9) 1⟩,mvt 7 16,mvt 8 17])
 (.seq (.ops [mvt 18 7,mvt 19 8,mvt 4 18,mvt 5 19,⟨none,some 6,.mv (.const (.int .i64 0))⟩])
 .ret)))
abbrev r350:List RV:=[(.tmp 4),(.tmp 5),(.tmp 6)]
theorem F350:FnOk prog 350 20 c350 r350:=FnOk.o func350
end Go.VrA
