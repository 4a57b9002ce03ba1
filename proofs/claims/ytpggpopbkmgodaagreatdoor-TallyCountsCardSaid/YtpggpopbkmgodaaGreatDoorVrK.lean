import Derived.Test.YtpggpopbkmgodaaGreatDoorProg
import Derived.Test.YtpggpopbkmgodaaGreatDoorVcI
import Derived.Test.YtpggpopbkmgodaaGreatDoorVoW
import Derived.Test.YtpggpopbkmgodaaGreatDoorVcE
import Derived.ChangeArms
import Derived.DataReads
import Derived.Laws.Entries
import Derived.Test.YtpggpopbkmgodaaGreatDoorVcP
import Derived.Lib.LaidTab
import Derived.Lib.BitFns
set_option linter.unusedSimpArgs false
set_option linter.unusedVariables false
set_option linter.unusedSectionVars false
set_option linter.unnecessarySimpa false
namespace Go.VrB
open Go Go.Vc Go.Proofs.Tryz
set_option maxRecDepth 100000
noncomputable def c69:CC:=(.seq (.ops [⟨none,some 0,.mv (.const (.bool false))⟩])
 (.seq (.ops [⟨none,some 7,.call 72 [.const (.slice none 0 0)]⟩,mvt 1 7])
 (.seq (.seq (.ops [mvt 8 1,⟨none,some 9,.pnil 0 false (.tmp 8)⟩,mvt 10 9,⟨some (10,false),some 11,.call 83 []⟩,⟨some (10,false),some 12,.not (.tmp 11)⟩,⟨none,some 13,.pick (.tmp 10) (.const (.bool true)) (.tmp 12)⟩])
 (.cond (.tmp 13)
 (.seq (.ops [⟨none,some 0,.mv (.const (.bool false))⟩])
 .ret)
 .skip))
 (.seq (.ops [mvt 14 1,⟨none,some 15,.mkI 134 (.tmp 14)⟩,⟨none,some 16,.build [.string (.mk #[]),.int .u64 0,.int .u32 0,.int .u64 0,.string (.mk #[])] [(0,(1,.const (.string (.mk #[97])))),(1,(1,.const (.int .u64 1))),(3,(1,.const (.int .u64 5)))]⟩,⟨none,some 17,.call 84 [.tmp 15,.tmp 16]⟩,mvt 2 17])
 (.seq (.ops [mvt 19 1,⟨none,some 20,.mkI 134 (.tmp 19)⟩,⟨none,some 21,.call 86 [.tmp 20,.const (.int .u64 4)]⟩,⟨none,some 22,.call 85 [.tmp 21]⟩,mvt 18 22,⟨none,some 23,.ext (.tmp 18) 0⟩,⟨none,some 24,.ext (.tmp 18) 1⟩,mvt 3 23,mvt 4 24])
 (.seq (.ops [mvt 26 1,⟨none,some 27,.mkI 134 (.tmp 26)⟩,⟨none,some 28,.call 86 [.tmp 27,.const (.int .u64 5)]⟩,⟨none,some 29,.call 85 [.tmp 28]⟩,mvt 25 29,⟨none,some 30,.ext (.tmp 25) 0⟩,⟨none,some 31,.ext (.tmp 25) 1⟩,mvt 5 30,mvt 6 31])
 (.seq (.ops [mvt 32 2,⟨none,some 33,.iop .eql (.tmp 32) (.const (.int .i64 0))⟩,mvt 34 33,⟨some (34,true),some 35,.mv (.tmp 4)⟩,⟨some (34,true),some 36,.iop .eql (.tmp 35) (.const (.int .i64 0))⟩,⟨none,some 37,.pick (.tmp 34) (.tmp 36) (.const (.bool false))⟩,mvt 38 37,⟨some (38,true),some 39,.mv (.tmp 3)⟩,⟨some (38,true),some 40,.lenL (.tmp 39)⟩,⟨some (38,true),some 41,.iop .eql (.tmp 40) (.const (.int .i64 0))⟩,⟨none,some 42,.pick (.tmp 38) (.tmp 41) (.const (.bool false))⟩,mvt 43 42,⟨some (43,true),some 44,.mv (.tmp 6)⟩,⟨some (43,true),some 45,.iop .eql (.tmp 44) (.const (.int .i64 0))⟩,⟨none,some 46,.pick (.tmp 43) (.tmp 45) (.const (.bool false))⟩,mvt 47 46,⟨some (47,true),some 48,.mv (.tmp 5)⟩,⟨some (47,true),some 49,.lenL (.tmp 48)⟩,⟨some (47,true),some 50,.iop .eql (.tmp 49) (.const (.int .i64 1))⟩,⟨none,some 51,.pick (.tmp 47) (.tmp 50) (.const (.bool false))⟩,mvt 0 51])
 .ret)))))))
abbrev r69:List RV:=[(.tmp 0)]
theorem F69:FnOk prog 69 52 c69 r69:=FnOk.o func69
noncomputable def c84:CC:=(.seq (.ops [⟨none,some 3,.box 128 (.tmp 1)⟩,⟨none,some 4,.mv (.const (.int .i64 0))⟩])
 (.seq (.ops [⟨none,some 12,.loadN 5 (.tmp 3)⟩,⟨none,some 13,.call 139 [.tmp 12]⟩,mvt 11 13,⟨none,some 14,.ext (.tmp 11) 0⟩,⟨none,some 15,.ext (.tmp 11) 1⟩,⟨none,some 16,.ext (.tmp 11) 2⟩,mvt 5 14,mvt 6 15,mvt 7 16])
 (.seq (.seq (.ops [mvt 17 7,⟨none,some 18,.iop .neq (.tmp 17) (.const (.int .i64 0))⟩])
 (.cond (.tmp 18)
 (.seq (.ops [mvt 19 7,mvt 4 19])
 .ret)
 .skip))
 (.seq (.seq (.ops [mvt 21 0,mvt 22 5,⟨none,some 23,.inv (.tmp 21) "Get" [.tmp 22]⟩,mvt 20 23,⟨none,some 24,.ext (.tmp 20) 0⟩,⟨none,some 25,.ext (.tmp 20) 1⟩,⟨none,some 26,.ext (.tmp 20) 2⟩,mvt 8 24,mvt 9 25,mvt 10 26])
 (.block 0
 (.seq (.ops [mvt 28 10,⟨none,some 29,.iop .neq (.tmp 28) (.const (.int .i64 0))⟩,mvt 27 29])
 (.cond (.tmp 27)
 (.seq (.ops [mvt 30 10,mvt 4 30])
 .ret)
 (.seq (.ops [mvt 32 9,mvt 31 32])
 (.cond (.tmp 31)
 (.seq (.ops [⟨none,some 4,.mv (.const (.int .i64 22))⟩])
 .ret)
 .skip))))))
 (.seq (.ops [mvt 33 0,⟨none,some 34,.loadN 5 (.tmp 3)⟩,⟨none,some 35,.call 140 [.tmp 33,.tmp 34]⟩,mvt 4 35])
 .ret)))))
abbrev r84:List RV:=[(.tmp 4)]
theorem F84:FnOk prog 84 36 c84 r84:=FnOk.o func84
noncomputable def c199:CC:=(.seq (.ops [⟨none,some 6,.mv (.const (.string (.mk #[])))⟩,⟨none,some 7,.mv (.const (.int .i64 0))⟩])
 (.seq (.ops [mvt 8 0,⟨none,some 9,.call 142 [.tmp 8]⟩,mvt 10 1,⟨none,some 11,.call 220 [.tmp 10]⟩,mvt 12 2,⟨none,some 13,.call 142 [.tmp 12]⟩,⟨none,some 14,.buildS 220 3 [.bool false,.int .u64 0,.string (.mk #[]),.bool false,.int .u64 0,.string (.mk #[]),.bool false,.int .u64 0,.string (.mk #[])] [(0,(3,.tmp 9)),(3,(3,.tmp 11)),(6,(3,.tmp 13))]⟩,⟨none,some 15,.call 202 [.const (.string (.mk #[101])),.tmp 14]⟩,⟨none,some 16,.ext (.tmp 15) 0⟩,⟨none,some 17,.ext (.tmp 15) 1⟩,mvt 6 16,mvt 7 17])
 .ret))
abbrev r199:List RV:=[(.tmp 6),(.tmp 7)]
theorem F199:FnOk prog 199 18 c199 r199:=FnOk.o func199
noncomputable def c86:CC:=(.seq (.ops [⟨none,some 2,.box 216 (.tmp 0)⟩,⟨none,some 4,.mv (.const .nilFunc)⟩])
 (.seq (.ops [⟨none,some 8,.call 141 [.const (.string (.mk #[101])),.const (.slice none 0 0)]⟩,mvt 7 8,⟨none,some 9,.ext (.tmp 7) 0⟩,⟨none,some 10,.ext (.tmp 7) 1⟩,mvt 5 9,mvt 6 10])
 (.seq (.seq (.ops [mvt 11 1,⟨none,some 12,.iop .lss (.tmp 11) (.const (.int .u64 18446744073709551615))⟩])
 (.cond (.tmp 12)
 (.ops [mvt 14 1,⟨none,some 15,.iop .add (.tmp 14) (.const (.int .u64 1))⟩,⟨none,some 16,.call 142 [.tmp 15]⟩,⟨none,some 17,.buildS 220 1 [.bool false,.int .u64 0,.string (.mk #[])] [(0,(3,.tmp 16))]⟩,⟨none,some 18,.call 141 [.const (.string (.mk #[101])),.tmp 17]⟩,mvt 13 18,⟨none,some 19,.ext (.tmp 13) 0⟩,⟨none,some 20,.ext (.tmp 13) 1⟩,mvt 6 19])
 .skip))
 (.seq (.ops [⟨none,some 21,.load1 (.tmp 2)⟩,mvt 22 5,mvt 23 6,⟨none,some 24,.inv (.tmp 21) "Range" [.tmp 22,.tmp 23]⟩,⟨none,some 25,(.mkF (.func 144) [] [.tmp 2])⟩,⟨none,some 26,.call 143 [.tmp 24,.tmp 25]⟩,mvt 4 26])
 .ret))))
abbrev r86:List RV:=[(.tmp 4)]
theorem F86:FnOk prog 86 27 c86 r86:=FnOk.o func86
noncomputable def c145:CC:=(.seq (.ops [⟨none,some 6,.alloc 128 (.agg #[.string (.mk #[]),.int .u64 0,.int .u32 0,.int .u64 0,.string (.mk #[])])⟩,⟨none,some 7,.mv (.const (.int .i64 0))⟩])
 (.seq (.ops [mvt 13 1,mvt 14 2,⟨none,some 15,.call 198 [.tmp 13,.tmp 14]⟩,mvt 12 15,⟨none,some 16,.ext (.tmp 12) 0⟩,⟨none,some 17,.ext (.tmp 12) 1⟩,mvt 8 16,mvt 9 17])
 (.seq (.seq (.ops [mvt 18 9,⟨none,some 19,.iop .neq (.tmp 18) (.const (.int .i64 0))⟩])
 (.cond (.tmp 19)
 (.seq (.ops [⟨none,some 20,.build [.string (.mk #[]),.int .u64 0,.int .u32 0,.int .u64 0,.string (.mk #[])] []⟩,⟨none,none,.storeN 5 (.tmp 6) (.tmp 20)⟩,⟨none,some 7,.mv (.const (.int .i64 21))⟩])
 .ret)
 .skip))
 (.seq (.ops [mvt 22 0,mvt 23 8,⟨none,some 24,.inv (.tmp 22) "Get" [.tmp 23]⟩,mvt 21 24,⟨none,some 25,.ext (.tmp 21) 0⟩,⟨none,some 26,.ext (.tmp 21) 1⟩,⟨none,some 27,.ext (.tmp 21) 2⟩,mvt 10 25,mvt 11 26,mvt 9 27])
 (.seq (.block 0
 (.seq (.ops [mvt 29 9,⟨none,some 30,.iop .neq (.tmp 29) (.const (.int .i64 0))⟩,mvt 28 30])
 (.cond (.tmp 28)
 (.seq (.ops [⟨none,some 31,.build [.string (.mk #[]),.int .u64 0,.int .u32 0,.int .u64 0,.string (.mk #[])] []⟩,mvt 32 9,⟨none,none,.storeN 5 (.tmp 6) (.tmp 31)⟩,mvt 7 32])
 .ret)
 (.seq (.ops [mvt 34 11,⟨none,some 35,.not (.tmp 34)⟩,mvt 33 35])
 (.cond (.tmp 33)
 (.seq (.ops [⟨none,some 36,.build [.string (.mk #[]),.int .u64 0,.int .u32 0,.int .u64 0,.string (.mk #[])] []⟩,⟨none,none,.storeN 5 (.tmp 6) (.tmp 36)⟩,⟨none,some 7,.mv (.const (.int .i64 21))⟩])
 .ret)
 .skip)))))
 (.seq (.ops [mvt 37 1,mvt 38 2,⟨none,some 39,.call 200 [.tmp 37,.tmp 38]⟩,mvt 40 10,⟨none,some 41,.call 206 [.tmp 39,.tmp 40]⟩,⟨none,some 42,.ext (.tmp 41) 0⟩,⟨none,some 43,.ext (.tmp 41) 1⟩,⟨none,none,.storeN 5 (.tmp 6) (.tmp 42)⟩,mvt 7 43])
 .ret))))))
abbrev r145:List RV:=[(.cN 6 5),(.tmp 7)]
theorem F145:FnOk prog 145 44 c145 r145:=FnOk.o func145
noncomputable def c85:CC:=(.seq (.ops [⟨none,some 2,.alloc 50 (.slice none 0 0)⟩,⟨none,some 3,.alloc 48 (.int .i64 0)⟩])
 (.seq (.ops [⟨none,some 4,.alloc 50 (.slice none 0 0)⟩])
 (.seq (.seq (.ops [mvt 7 0])
 (.block 0
 (.range (.tmp 7) #[8,9] (sub (bodyOf f85) [1,1,0,1,0,0]) (sub (bodyOf f85) [1,1,0,1,0,1])
 (.seq (.ops [⟨none,some 5,.alloc 128 (.agg #[.string (.mk #[]),.int .u64 0,.int .u32 0,.int .u64 0,.string (.mk #[])])⟩,⟨none,none,.storeN 5 (.tmp 5) (.tmp 8)⟩])
 (.ops [mvt 6 9]))
 (.block 1
 (.seq (.seq (.ops [mvt 10 6,⟨none,some 11,.iop .neq (.tmp 10) (.const (.int .i64 0))⟩])
 (.cond (.tmp 11)
 (.seq (.ops [mvt 12 6,⟨none,none,.store1 (.tmp 2) (.const (.slice none 0 0))⟩,⟨none,none,.store1 (.tmp 3) (.tmp 12)⟩])
 .ret)
 .skip))
 (.ops [⟨none,some 13,.load1 (.tmp 4)⟩,⟨none,some 14,.loadN 5 (.tmp 5)⟩,⟨none,some 15,.buildS 128 1 [.string (.mk #[]),.int .u64 0,.int .u32 0,.int .u64 0,.string (.mk #[])] [(0,(5,.tmp 14))]⟩,⟨none,some 16,.raw 18 (.mk (some 16) (.call (.mk (.builtin .append) #[.tmp 13,.tmp 15] #[50,50])) 50 "law.go:38" #[.mk 0 .data,.mk 2 .data] none)⟩,⟨none,none,.store1 (.tmp 4) (.tmp 16)⟩]))))))
 (.seq (.ops [⟨none,some 17,.load1 (.tmp 4)⟩,⟨none,none,.store1 (.tmp 2) (.tmp 17)⟩,⟨none,none,.store1 (.tmp 3) (.const (.int .i64 0))⟩])
 .ret))))
abbrev r85:List RV:=[(.c1 2),(.c1 3)]
theorem F85:FnOk prog 85 18 c85 r85:=FnOk.o func85
noncomputable def c83:CC:=(.seq (.ops [⟨none,some 0,.mv (.const (.bool false))⟩])
 (.seq (.ops [⟨none,some 1,.call 138 []⟩,mvt 0 1])
 .ret))
abbrev r83:List RV:=[(.tmp 0)]
theorem F83:FnOk prog 83 2 c83 r83:=FnOk.o func83
noncomputable def c139:CC:=(.seq (.ops [⟨none,some 1,.box 128 (.tmp 0)⟩,⟨none,some 2,.mv (.const (.string (.mk #[])))⟩,⟨none,some 3,.mv (.const (.string (.mk #[])))⟩,⟨none,some 4,.mv (.const (.int .i64 0))⟩])
 (.seq (.ops [⟨none,some 9,.faddr 0 (.tmp 1)⟩,⟨none,some 10,.load1 (.tmp 9)⟩,⟨none,some 11,.faddr 1 (.tmp 1)⟩,⟨none,some 12,.load1 (.tmp 11)⟩,⟨none,some 13,.call 198 [.tmp 10,.tmp 12]⟩,mvt 8 13,⟨none,some 14,.ext (.tmp 8) 0⟩,⟨none,some 15,.ext (.tmp 8) 1⟩,mvt 5 14,mvt 6 15])
 (.seq (.seq (.ops [mvt 16 6,⟨none,some 17,.iop .neq (.tmp 16) (.const (.int .i64 0))⟩,mvt 18 17,⟨some (18,false),some 19,.faddr 3 (.tmp 1)⟩,⟨some (18,false),some 20,.load1 (.tmp 19)⟩,⟨some (18,false),some 21,.iop .eql (.tmp 20) (.const (.int .u64 0))⟩,⟨none,some 22,.pick (.tmp 18) (.const (.bool true)) (.tmp 21)⟩])
 (.cond (.tmp 22)
 (.seq (.ops [mvt 23 5,mvt 24 6,mvt 2 23,⟨none,some 3,.mv (.const (.string (.mk #[])))⟩,mvt 4 24])
 .ret)
 .skip))
 (.seq (.ops [⟨none,some 26,.faddr 3 (.tmp 1)⟩,⟨none,some 27,.load1 (.tmp 26)⟩,⟨none,some 28,.faddr 0 (.tmp 1)⟩,⟨none,some 29,.load1 (.tmp 28)⟩,⟨none,some 30,.faddr 1 (.tmp 1)⟩,⟨none,some 31,.load1 (.tmp 30)⟩,⟨none,some 32,.call 199 [.tmp 27,.tmp 29,.tmp 31]⟩,mvt 25 32,⟨none,some 33,.ext (.tmp 25) 0⟩,⟨none,some 34,.ext (.tmp 25) 1⟩,mvt 7 33,mvt 6 34])
 (.seq (.ops [mvt 35 5,mvt 36 7,mvt 37 6,mvt 2 35,mvt 3 36,mvt 4 37])
 .ret)))))
abbrev r139:List RV:=[(.tmp 2),(.tmp 3),(.tmp 4)]
theorem F139:FnOk prog 139 38 c139 r139:=FnOk.o func139
noncomputable def c140:CC:=(.seq (.ops [⟨none,some 3,.box 128 (.tmp 1)⟩,⟨none,some 4,.mv (.const (.int .i64 0))⟩])
 (.seq (.ops [⟨none,some 10,.loadN 5 (.tmp 3)⟩,⟨none,some 11,.call 139 [.tmp 10]⟩,mvt 9 11,⟨none,some 12,.ext (.tmp 9) 0⟩,⟨none,some 13,.ext (.tmp 9) 1⟩,⟨none,some 14,.ext (.tmp 9) 2⟩,mvt 5 12,mvt 6 13,mvt 7 14])
 (.seq (.seq (.ops [mvt 15 7,⟨none,some 16,.iop .neq (.tmp 15) (.const (.int .i64 0))⟩])
 (.cond (.tmp 16)
 (.seq (.ops [mvt 17 7,mvt 4 17])
 .ret)
 .skip))
 (.seq (.seq (.draw 4 (opsOf (sub (bodyOf f140) [1,1,1,0,0])) [mvt 18 0,mvt 19 5,⟨none,some 20,.faddr 0 (.tmp 3)⟩,⟨none,some 21,.load1 (.tmp 20)⟩,⟨none,some 22,.faddr 1 (.tmp 3)⟩,⟨none,some 23,.load1 (.tmp 22)⟩,⟨none,some 24,.call 200 [.tmp 21,.tmp 23]⟩,⟨none,some 25,.loadN 5 (.tmp 3)⟩,⟨none,some 26,.call 201 [.tmp 24,.tmp 25]⟩,⟨none,some 27,.mkF (.method "Put") [.tmp 18] []⟩,⟨none,some 28,.nilc (.tmp 27)⟩,mvt 29 18,⟨none,some 30,.inv (.tmp 29) "Put" [.tmp 19,.tmp 26]⟩,mvt 8 30])
 (.seq (.ops [mvt 31 8,⟨none,some 32,.iop .neq (.tmp 31) (.const (.int .i64 0))⟩,mvt 33 32,⟨some (33,false),some 34,.mv (.tmp 6)⟩,⟨some (33,false),some 35,.sop .eql (.tmp 34) (.const (.string (.mk #[])))⟩,⟨none,some 36,.pick (.tmp 33) (.const (.bool true)) (.tmp 35)⟩])
 (.cond (.tmp 36)
 (.seq (.ops [mvt 37 8,mvt 4 37])
 .ret)
 .skip)))
 (.seq (.ops [mvt 38 0,mvt 39 6,⟨none,some 40,.inv (.tmp 38) "Put" [.tmp 39,.const (.string (.mk #[]))]⟩,mvt 4 40])
 .ret)))))
abbrev r140:List RV:=[(.tmp 4)]
theorem F140:FnOk prog 140 41 c140 r140:=FnOk.o func140
noncomputable def c143:CC:=(.seq (.ops [⟨none,some 2,.box 224 (.tmp 0)⟩,⟨none,some 3,.box 230 (.tmp 1)⟩,⟨none,some 4,.mv (.const .nilFunc)⟩])
 (.seq (.ops [⟨none,some 5,(.mkF (.func 204) [] [.tmp 2,.tmp 3])⟩,mvt 4 5])
 .ret))
abbrev r143:List RV:=[(.tmp 4)]
theorem F143:FnOk prog 143 6 c143 r143:=FnOk.o func143
noncomputable def c144:CC:=(.seq (.ops [⟨none,some 3,.box 227 (.tmp 0)⟩,⟨none,some 5,.alloc 128 (.agg #[.string (.mk #[]),.int .u64 0,.int .u32 0,.int .u64 0,.string (.mk #[])])⟩,⟨none,some 6,.mv (.const (.int .i64 0))⟩])
 (.seq (.ops [⟨none,some 10,.load1 (.tmp 2)⟩,⟨none,some 11,.faddr 1 (.tmp 3)⟩,⟨none,some 12,.load1 (.tmp 11)⟩,⟨none,some 13,.faddr 2 (.tmp 3)⟩,⟨none,some 14,.load1 (.tmp 13)⟩,⟨none,some 15,.call 145 [.tmp 10,.tmp 12,.tmp 14]⟩,mvt 9 15,⟨none,some 16,.ext (.tmp 9) 0⟩,⟨none,some 17,.ext (.tmp 9) 1⟩,⟨none,some 7,.alloc 128 (.agg #[.string (.mk #[]),.int .u64 0,.int .u32 0,.int .u64 0,.string (.mk #[])])⟩,⟨none,none,.storeN 5 (.tmp 7) (.tmp 16)⟩,mvt 8 17])
 (.seq (.seq (.ops [mvt 18 8,⟨none,some 19,.iop .eql (.tmp 18) (.const (.int .i64 21))⟩,mvt 20 19,⟨some (20,false),some 21,.mv (.tmp 8)⟩,⟨some (20,false),some 22,.iop .eql (.tmp 21) (.const (.int .i64 0))⟩,⟨some (20,false),some 23,.mv (.tmp 22)⟩,⟨some (23,true),some 24,.faddr 3 (.tmp 7)⟩,⟨some (23,true),some 25,.load1 (.tmp 24)⟩,⟨some (23,true),some 26,.faddr 3 (.tmp 3)⟩,⟨some (23,true),some 27,.load1 (.tmp 26)⟩,⟨some (23,true),some 28,.iop .neq (.tmp 25) (.tmp 27)⟩,⟨some (20,false),some 29,.pick (.tmp 23) (.tmp 28) (.const (.bool false))⟩,⟨none,some 30,.pick (.tmp 20) (.const (.bool true)) (.tmp 29)⟩])
 (.cond (.tmp 30)
 (.seq (.ops [⟨none,some 31,.build [.string (.mk #[]),.int .u64 0,.int .u32 0,.int .u64 0,.string (.mk #[])] []⟩,⟨none,none,.storeN 5 (.tmp 5) (.tmp 31)⟩,⟨none,some 6,.mv (.const (.int .i64 31))⟩])
 .ret)
 .skip))
 (.seq (.ops [⟨none,some 32,.loadN 5 (.tmp 7)⟩,mvt 33 8,⟨none,none,.storeN 5 (.tmp 5) (.tmp 32)⟩,mvt 6 33])
 .ret))))
abbrev r144:List RV:=[(.cN 5 5),(.tmp 6)]
theorem F144:FnOk prog 144 34 c144 r144:=FnOk.o func144
noncomputable def c198:CC:=(.seq (.ops [⟨none,some 4,.mv (.const (.string (.mk #[])))⟩,⟨none,some 5,.mv (.const (.int .i64 0))⟩])
 (.seq (.ops [mvt 6 0,⟨none,some 7,.call 220 [.tmp 6]⟩,mvt 8 1,⟨none,some 9,.call 142 [.tmp 8]⟩,⟨none,some 10,.buildS 220 2 [.bool false,.int .u64 0,.string (.mk #[]),.bool false,.int .u64 0,.string (.mk #[])] [(0,(3,.tmp 7)),(3,(3,.tmp 9))]⟩,⟨none,some 11,.call 202 [.const (.string (.mk #[109])),.tmp 10]⟩,⟨none,some 12,.ext (.tmp 11) 0⟩,⟨none,some 13,.ext (.tmp 11) 1⟩,mvt 4 12,mvt 5 13])
 .ret))
abbrev r198:List RV:=[(.tmp 4),(.tmp 5)]
theorem F198:FnOk prog 198 14 c198 r198:=FnOk.o func198
noncomputable def c200:CC:=(.seq (.ops [⟨none,some 2,.box 9 (.tmp 0)⟩,⟨none,some 3,.box 27 (.tmp 1)⟩,⟨none,some 4,.alloc 299 (.agg #[.nilFunc,.nilFunc])⟩])
 (.seq (.ops [⟨none,some 5,(.mkF (.func 253) [] [.tmp 2,.tmp 3])⟩,⟨none,some 6,(.call 251 [(.func 252),.tmp 5])⟩,⟨none,none,.storeN 2 (.tmp 4) (.tmp 6)⟩])
 .ret))
abbrev r200:List RV:=[(.cN 4 2)]
theorem F200:FnOk prog 200 7 c200 r200:=FnOk.o func200
noncomputable def c206:CC:=(.seq (.ops [⟨none,some 2,.box 299 (.tmp 0)⟩,⟨none,some 4,.alloc 128 (.agg #[.string (.mk #[]),.int .u64 0,.int .u32 0,.int .u64 0,.string (.mk #[])])⟩,⟨none,some 5,.mv (.const (.int .i64 0))⟩])
 (.seq (.ops [⟨none,some 6,.alloc 128 (.agg #[.string (.mk #[]),.int .u64 0,.int .u32 0,.int .u64 0,.string (.mk #[])])⟩])
 (.seq (.seq (.ops [⟨none,some 10,.faddr 1 (.tmp 2)⟩,⟨none,some 11,.load1 (.tmp 10)⟩,⟨none,some 12,.pnil 3 false (.tmp 11)⟩])
 (.cond (.tmp 12)
 (.seq (.ops [⟨none,some 13,.loadN 5 (.tmp 6)⟩,⟨none,none,.storeN 5 (.tmp 4) (.tmp 13)⟩,⟨none,some 5,.mv (.const (.int .i64 2))⟩])
 .ret)
 .skip))
 (.seq (.ops [mvt 14 1,⟨none,some 15,.call 214 [.tmp 14]⟩,mvt 7 15])
 (.seq (.ops [⟨none,some 16,.faddr 1 (.tmp 2)⟩,⟨none,some 17,.load1 (.tmp 16)⟩,mvt 18 7,⟨none,some 19,.callv (.tmp 17) [.tmp 18]⟩,⟨none,some 8,.alloc 128 (.agg #[.string (.mk #[]),.int .u64 0,.int .u32 0,.int .u64 0,.string (.mk #[])])⟩,⟨none,none,.storeN 5 (.tmp 8) (.tmp 19)⟩])
 (.seq (.seq (.ops [mvt 20 7,⟨none,some 21,.call 215 [.tmp 20]⟩,mvt 9 21])
 (.seq (.ops [mvt 22 9,⟨none,some 23,.iop .neq (.tmp 22) (.const (.int .i64 0))⟩])
 (.cond (.tmp 23)
 (.seq (.ops [⟨none,some 24,.loadN 5 (.tmp 6)⟩,mvt 25 9,⟨none,none,.storeN 5 (.tmp 4) (.tmp 24)⟩,mvt 5 25])
 .ret)
 .skip)))
 (.seq (.ops [⟨none,some 26,.loadN 5 (.tmp 8)⟩,⟨none,none,.storeN 5 (.tmp 4) (.tmp 26)⟩,⟨none,some 5,.mv (.const (.int .i64 0))⟩])
 .ret)))))))
abbrev r206:List RV:=[(.cN 4 5),(.tmp 5)]
theorem F206:FnOk prog 206 27 c206 r206:=FnOk.o func206
noncomputable def c54:CC:=(.seq (.ops [⟨none,some 0,.mv (.const (.bool false))⟩])
 (.seq (.ops [⟨none,some 1,.call 69 []⟩,mvt 0 1])
 .ret))
abbrev r54:List RV:=[(.tmp 0)]
theorem F54:FnOk prog 54 2 c54 r54:=FnOk.o func54
noncomputable def c201:CC:=(.seq (.ops [⟨none,some 2,.box 299 (.tmp 0)⟩,⟨none,some 3,.box 128 (.tmp 1)⟩,⟨none,some 4,.mv (.const (.string (.mk #[])))⟩])
 (.seq (.seq (.ops [⟨none,some 5,.faddr 0 (.tmp 2)⟩,⟨none,some 6,.load1 (.tmp 5)⟩,⟨none,some 7,.pnil 3 false (.tmp 6)⟩])
 (.cond (.tmp 7)
 (.seq (.ops [⟨none,some 4,.mv (.const (.string (.mk #[])))⟩])
 .ret)
 .skip))
 (.seq (.ops [⟨none,some 8,.faddr 0 (.tmp 2)⟩,⟨none,some 9,.load1 (.tmp 8)⟩,⟨none,some 10,.loadN 5 (.tmp 3)⟩,⟨none,some 11,.callv (.tmp 9) [.tmp 10]⟩,mvt 4 11])
 .ret)))
abbrev r201:List RV:=[(.tmp 4)]
theorem F201:FnOk prog 201 12 c201 r201:=FnOk.o func201
noncomputable def c204:CC:=(.seq (.ops [⟨none,some 3,.box 305 (.tmp 0)⟩])
 (.seq (.ops [⟨none,some 8,.load1 (.tmp 1)⟩])
 (.block 0
 (.range (.tmp 8) #[9,10] (sub (bodyOf f204) [1,1,0,0]) (sub (bodyOf f204) [1,1,0,1])
 (.seq (.ops [⟨none,some 4,.alloc 176 (.agg #[.string (.mk #[]),.string (.mk #[])])⟩,⟨none,none,.storeN 2 (.tmp 4) (.tmp 9)⟩])
 (.ops [mvt 5 10]))
 (.block 1
 (.seq (.ops [⟨none,some 6,.alloc 227 (.agg #[.string (.mk #[]),.string (.mk #[]),.int .u64 0,.int .u64 0,.string (.mk #[]),.int .i64 0,.string (.mk #[]),.string (.mk #[]),.string (.mk #[])])⟩])
 (.seq (.ops [⟨none,some 7,.alloc 128 (.agg #[.string (.mk #[]),.int .u64 0,.int .u32 0,.int .u64 0,.string (.mk #[])])⟩])
 (.seq (.seq (.ops [mvt 11 5,⟨none,some 12,.iop .eql (.tmp 11) (.const (.int .i64 0))⟩])
 (.cond (.tmp 12)
 (.ops [⟨none,some 14,.faddr 0 (.tmp 4)⟩,⟨none,some 15,.load1 (.tmp 14)⟩,⟨none,some 16,.call 205 [.tmp 15]⟩,mvt 13 16,⟨none,some 17,.ext (.tmp 13) 0⟩,⟨none,some 18,.ext (.tmp 13) 1⟩,⟨none,none,.storeN 9 (.tmp 6) (.tmp 17)⟩,mvt 5 18])
 .skip))
 (.seq (.seq (.ops [mvt 19 5,⟨none,some 20,.iop .eql (.tmp 19) (.const (.int .i64 0))⟩])
 (.cond (.tmp 20)
 (.ops [⟨none,some 22,.load1 (.tmp 2)⟩,⟨none,some 23,.loadN 9 (.tmp 6)⟩,⟨none,some 24,.faddr 1 (.tmp 4)⟩,⟨none,some 25,.load1 (.tmp 24)⟩,⟨none,some 26,.callv (.tmp 22) [.tmp 23,.tmp 25]⟩,mvt 21 26,⟨none,some 27,.ext (.tmp 21) 0⟩,⟨none,some 28,.ext (.tmp 21) 1⟩,⟨none,none,.storeN 5 (.tmp 7) (.tmp 27)⟩,mvt 5 28])
 .skip))
 (.seq (.ops [⟨none,some 29,.load1 (.tmp 3)⟩,⟨none,some 30,.loadN 5 (.tmp 7)⟩,mvt 31 5,⟨none,some 32,.callv (.tmp 29) [.tmp 30,.tmp 31]⟩,⟨none,some 33,.not (.tmp 32)⟩,mvt 34 33,⟨some (34,false),some 35,.mv (.tmp 5)⟩,⟨some (34,false),some 36,.iop .neq (.tmp 35) (.const (.int .i64 0))⟩,⟨none,some 37,.pick (.tmp 34) (.const (.bool true)) (.tmp 36)⟩])
 (.cond (.tmp 37)
 .ret
 .skip)))))))))))
abbrev r204:List RV:=[]
theorem F204:FnOk prog 204 38 c204 r204:=FnOk.o func204
noncomputable def c252:CC:=(.seq (.ops [⟨none,some 1,.box 128 (.tmp 0)⟩,⟨none,some 2,.mv (.const (.string (.mk #[])))⟩])
 (.seq (.draw 1 (opsOf (sub (bodyOf f252) [1,0])) [⟨none,some 3,.faddr 2 (.tmp 1)⟩,⟨none,some 4,.load1 (.tmp 3)⟩,⟨none,some 5,.call 159 [.tmp 4]⟩,⟨none,some 6,.faddr 3 (.tmp 1)⟩,⟨none,some 7,.load1 (.tmp 6)⟩,⟨none,some 8,.call 160 [.tmp 7]⟩,⟨none,some 9,.sop .add (.tmp 5) (.tmp 8)⟩,⟨none,some 10,.faddr 4 (.tmp 1)⟩,⟨none,some 11,.load1 (.tmp 10)⟩,⟨none,some 12,.call 158 [.tmp 11]⟩,⟨none,some 13,.sop .add (.tmp 9) (.tmp 12)⟩,mvt 2 13])
 .ret))
abbrev r252:List RV:=[(.tmp 2)]
theorem F252:FnOk prog 252 14 c252 r252:=FnOk.o func252
noncomputable def c253:CC:=(.seq (.ops [⟨none,some 4,.alloc 128 (.agg #[.string (.mk #[]),.int .u64 0,.int .u32 0,.int .u64 0,.string (.mk #[])])⟩])
 (.seq (.draw 1 (opsOf (sub (bodyOf f253) [1,0])) [⟨none,some 5,.load1 (.tmp 1)⟩,⟨none,some 6,.load1 (.tmp 2)⟩,mvt 7 0,⟨none,some 8,.call 224 [.tmp 7]⟩,mvt 9 0,⟨none,some 10,.call 225 [.tmp 9]⟩,mvt 11 0,⟨none,some 12,.call 226 [.tmp 11,.const (.int .i64 32768)]⟩,⟨none,some 13,.build [.string (.mk #[]),.int .u64 0,.int .u32 0,.int .u64 0,.string (.mk #[])] [(0,(1,.tmp 5)),(1,(1,.tmp 6)),(2,(1,.tmp 8)),(3,(1,.tmp 10)),(4,(1,.tmp 12))]⟩,⟨none,none,.storeN 5 (.tmp 4) (.tmp 13)⟩])
 .ret))
abbrev r253:List RV:=[(.cN 4 5)]
theorem F253:FnOk prog 253 14 c253 r253:=FnOk.o func253
noncomputable def c251:CC:=(.seq (.ops [⟨none,some 2,.box 296 (.tmp 0)⟩,⟨none,some 3,.box 297 (.tmp 1)⟩,⟨none,some 4,.alloc 299 (.agg #[.nilFunc,.nilFunc])⟩])
 (.seq (.ops [⟨none,some 5,(.mkF (.func 285) [] [.tmp 2])⟩,⟨none,some 6,(.mkF (.func 286) [] [.tmp 3])⟩,⟨none,some 7,.build [.nilFunc,.nilFunc] [(0,(1,.tmp 5)),(1,(1,.tmp 6))]⟩,⟨none,none,.storeN 2 (.tmp 4) (.tmp 7)⟩])
 .ret))
abbrev r251:List RV:=[(.cN 4 2)]
theorem F251:FnOk prog 251 8 c251 r251:=FnOk.o func251
noncomputable def c285:CC:=(.seq (.ops [⟨none,some 2,.box 128 (.tmp 0)⟩,⟨none,some 3,.mv (.const (.string (.mk #[])))⟩])
 (.seq (.draw 1 (opsOf (sub (bodyOf f285) [1,0])) [⟨none,some 4,.call 96 [.const (.int .u8 1)]⟩,⟨none,some 5,.load1 (.tmp 1)⟩,⟨none,some 6,.loadN 5 (.tmp 2)⟩,⟨none,some 7,.callv (.tmp 5) [.tmp 6]⟩,⟨none,some 8,.sop .add (.tmp 4) (.tmp 7)⟩,mvt 3 8])
 .ret))
abbrev r285:List RV:=[(.tmp 3)]
theorem F285:FnOk prog 285 9 c285 r285:=FnOk.o func285
noncomputable def c286:CC:=(.seq (.ops [⟨none,some 3,.alloc 128 (.agg #[.string (.mk #[]),.int .u64 0,.int .u32 0,.int .u64 0,.string (.mk #[])])⟩])
 (.seq (.seq (.ops [mvt 4 0,⟨none,some 5,.call 261 [.tmp 4]⟩,⟨none,some 6,.iop .neq (.tmp 5) (.const (.int .u8 1))⟩])
 (.cond (.tmp 6)
 (.ops [mvt 7 0,⟨none,some 8,.call 263 [.tmp 7,.const (.int .i64 4)]⟩])
 .skip))
 (.seq (.ops [⟨none,some 9,.load1 (.tmp 1)⟩,mvt 10 0,⟨none,some 11,.callv (.tmp 9) [.tmp 10]⟩,⟨none,none,.storeN 5 (.tmp 3) (.tmp 11)⟩])
 .ret)))
abbrev r286:List RV:=[(.cN 3 5)]
theorem F286:FnOk prog 286 12 c286 r286:=FnOk.o func286
end Go.VrB
namespace Go.Oct
open Go Go.Vc Go.VrA Go.VrB Go.Proofs.Tryz
set_option maxRecDepth 100000
def messageK (queue:ByteArray) (n:Nat):ByteArray × Int:=keyL [str ⟨#[109]⟩,str queue,num' n] []
def termK (at_:Nat) (queue:ByteArray) (n:Nat):ByteArray × Int:=keyL [str ⟨#[101]⟩,num' at_,str queue,num' n] []
theorem message_c (queue:ByteArray) (n:Nat) (m:Int) (w:World) (K:Value→World→Prop) (hg:Gl m w) (hs:queue.size<4294967281) (hn:n<2^64)
  (h:∀w',Mod (fun _=>False) w w'→K (.tuple #[.string (messageK queue n).1,.int .i64 (messageK queue n).2]) w') :
  Ok prog 198 #[.string queue,.int .u64 n] w K:=by
 refine F198.enter (args:=[.string queue,.int .u64 n]) (by simp) ?_
 unfold c198 r198
 simp only [ZB,insVc,ne_eq,reduceCtorEq,Zac,Zae,Zab,Za]
 refine str_c queue w _ ?_
 intro w1 hm1
 simp only [ZB,insVc,ne_eq,Nat.reduceEqDiff,Zac,Zae,Zab,Za,Zag,Pt.val,Pt.cells,str]
 refine num_c n w1 _ ?_
 intro w2 hm2
 simp only [ZB,insVc,fillL,buildSK,Value.cells,ne_eq,Nat.reduceEqDiff,Nat.reduceAdd,Nat.reduceLeDiff,Zae,Zab,Zai,Zak,Zaj,Zbe,Zbf,Zbd,Zbc,Zal,Zam,Zan,Zbh,Zaa,Pt.val,Pt.cells,num']
 have hm3:=(hm1.trans hm2).alloc (.cells #[.bool true,.int .u64 0,.string queue,.bool false,.int .u64 n,.string e0] 220)
 refine key_c ⟨#[109]⟩ [str queue,num' n] _ m _ _ (hg.mod hm3 id) (.inr (pts_lit w2 [str queue,num' n] _ rfl)) (by simp) (by decide) ?_ ?_
 ·intro p hp
  rcases List.mem_cons.1 hp with rfl|hp
  ·exact ⟨by simp [str],hs⟩
  ·rcases List.mem_cons.1 hp with rfl|hp
   ·exact ⟨hn,by simp [num',e0,ByteArray.size]⟩
   ·cases hp
 intro w4 hm4
 simp only [ZB,endK,resK,packed,insVc,extK,ne_eq,Nat.reduceEqDiff,Za,Zag,Zah,Zad,Zaw]
 exact h w4 (hm3.trans hm4)
theorem term_c (at_:Nat) (queue:ByteArray) (n:Nat) (m:Int) (w:World) (K:Value→World→Prop) (hg:Gl m w) (ha:at_<2^64) (hs:queue.size<4294967281) (hn:n<2^64)
  (h:∀w',Mod (fun _=>False) w w'→K (.tuple #[.string (termK at_ queue n).1,.int .i64 (termK at_ queue n).2]) w') :
  Ok prog 199 #[.int .u64 at_,.string queue,.int .u64 n] w K:=by
 refine F199.enter (args:=[.int .u64 at_,.string queue,.int .u64 n]) (by simp) ?_
 unfold c199 r199
 simp only [ZB,insVc,ne_eq,reduceCtorEq,Zac,Zae,Zab,Za]
 refine num_c at_ w _ ?_
 intro w0 hm0
 simp only [ZB,insVc,ne_eq,Nat.reduceEqDiff,Zac,Zae,Zab,Za,Zag,Pt.val,Pt.cells,num']
 refine str_c queue w0 _ ?_
 intro w1 hm1
 simp only [ZB,insVc,ne_eq,Nat.reduceEqDiff,Zac,Zae,Zab,Za,Zag,Pt.val,Pt.cells,str]
 refine num_c n w1 _ ?_
 intro w2 hm2
 simp only [ZB,insVc,fillL,buildSK,Value.cells,ne_eq,Nat.reduceEqDiff,Nat.reduceAdd,Nat.reduceLeDiff,Zae,Zab,Zai,Zak,Zaj,Zbe,Zbf,Zbd,Zbc,Zal,Zam,Zan,Zbh,Zaa,Pt.val,Pt.cells,num']
 have hm3:=((hm0.trans hm1).trans hm2).alloc (.cells #[.bool false,.int .u64 at_,.string e0,.bool true,.int .u64 0,.string queue,.bool false,.int .u64 n,.string e0] 220)
 refine key_c ⟨#[101]⟩ [num' at_,str queue,num' n] _ m _ _ (hg.mod hm3 id) (.inr (pts_lit w2 [num' at_,str queue,num' n] _ rfl)) (by simp) (by decide) ?_ ?_
 ·intro p hp
  rcases List.mem_cons.1 hp with rfl|hp
  ·exact ⟨ha,by simp [num',e0,ByteArray.size]⟩
  rcases List.mem_cons.1 hp with rfl|hp
  ·exact ⟨by simp [str],hs⟩
  ·rcases List.mem_cons.1 hp with rfl|hp
   ·exact ⟨hn,by simp [num',e0,ByteArray.size]⟩
   ·cases hp
 intro w4 hm4
 simp only [ZB,endK,resK,packed,insVc,extK,ne_eq,Nat.reduceEqDiff,Za,Zag,Zah,Zad,Zaw]
 exact h w4 (hm3.trans hm4)
structure Ms where
 queue:ByteArray
 id:Nat
 tries:Nat
 expiry:Nat
 body:ByteArray
def Ms.cells (q:Ms):List Value:=[.string q.queue,.int .u64 q.id,.int .u32 q.tries,.int .u64 q.expiry,.string q.body]
def Ms.val (q:Ms):Value:=.agg q.cells.toArray
def ms0:Ms:=⟨e0,0,0,0,e0⟩
def Ms.good (q:Ms):Prop:=q.tries<2^32∧q.expiry<2^64∧q.body.size<2^60
def mput (q:Ms):ByteArray:=big q.tries 4 ++ big q.expiry 8 ++ textB q.body
def mget (queue:ByteArray) (id:Nat) (r:Rd):Ms × Rd :=
 let a:=number r 4
 let b:=number a.2 8
 let d:=text b.2 32768
 (⟨queue,id,a.1%2^32,b.1,d.1⟩,d.2)
def mread (queue:ByteArray) (id:Nat) (s:ByteArray):Ms × Int :=
 let x:=mget queue id (ver (s,0))
 if ende x.2≠0 then (ms0,ende x.2) else (x.1,0)
def mbytes (q:Ms):ByteArray:=big 1 1 ++ mput q
abbrev zms:Array Value:=#[.string ⟨#[]⟩,.int .u64 0,.int .u32 0,.int .u64 0,.string ⟨#[]⟩]
theorem mput_c (q:Ms) (w:World) (K:Value→World→Prop) (hq:q.good) (h:∀w',Mod (fun _=>False) w w'→K (.string (mput q)) w') :
  Ok prog 252 #[q.val] w K:=by
 refine F252.enter (args:=[q.val]) (by simp) ?_
 unfold c252 r252
 simp only [ZB,insVc,Value.cells,Zac,Za,Ms.val,Ms.cells]
 have hb0:(w.alloc (.cells #[.string q.queue,.int .u64 q.id,.int .u32 q.tries,.int .u64 q.expiry,.string q.body] 128)).drew.heap[w.heap.size]? = some (.cells #[.string q.queue,.int .u64 q.id,.int .u32 q.tries,.int .u64 q.expiry,.string q.body] 128 (0,0)):=get_alloc_new _ _
 have hm0:Mod (fun _=>False) w (w.alloc (.cells #[.string q.queue,.int .u64 q.id,.int .u32 q.tries,.int .u64 q.expiry,.string q.body] 128)).drew:=((Mod.refl _ _).alloc _).drew
 refine draw_d (fun w'=>w'.heap[w.heap.size]? = some (.cells #[.string q.queue,.int .u64 q.id,.int .u32 q.tries,.int .u64 q.expiry,.string q.body] 128 (0,0))) (by kernel_rfl) (by kernel_rfl) (by kernel_rfl) (by kernel_rfl) hb0 ?_
 generalize (w.alloc (.cells #[.string q.queue,.int .u64 q.id,.int .u32 q.tries,.int .u64 q.expiry,.string q.body] 128)).drew=w1 at *
 simp only [ZB,endK,resK,packed,insVc,sopK,sopV,faddrK,ne_eq,Nat.reduceEqDiff,Zae,Zab,Zad,Zaa,Zaf,pureI,vcD_nil,vcD_cons,stepD_pure,stepD_load,stepD_step,kindI,loadI]
 refine loadD1 (b:=w.heap.size) (o:=2) (v:=.int .u32 q.tries) rfl (fun w' hw'=>⟨_,_,_,hw',rfl⟩) ?_
 refine wfour_c q.tries w1 _ hq.1 ?_
 intro w2 hm2
 refine ⟨hm2.keep hb0 id, ?_⟩
 refine loadD1 (b:=w.heap.size) (o:=3) (v:=.int .u64 q.expiry) rfl (fun w' hw'=>⟨_,_,_,hw',rfl⟩) ?_
 refine weight_c q.expiry w2 _ hq.2.1 ?_
 intro w3 hm3
 refine ⟨hm3.keep (hm2.keep hb0 id) id, ?_⟩
 have x1:¬(((big q.tries 4).size+(big q.expiry 8).size:Nat):Int) > IntKind.i64.max:=by simp only [big_size,imax];omega
 simp only [loadV_some,Zaf,x1]
 refine loadD1 (b:=w.heap.size) (o:=4) (v:=.string q.body) rfl (fun w' hw'=>⟨_,_,_,hw',rfl⟩) ?_
 refine wtext_c q.body w3 _ (by have:=hq.2.2;omega) ?_
 intro w5 hm5
 refine ⟨hm5.keep (hm3.keep (hm2.keep hb0 id) id) id, ?_⟩
 have x3:¬(((big q.tries 4 ++ big q.expiry 8).size+(textB q.body).size:Nat):Int) > IntKind.i64.max:=by
  have:=hq.2.2
  simp only [Zbt,big_size,textB_size,imax];omega
 simp only [loadV_some,Zaf,x3]
 exact h w5 (((hm0.trans hm2).trans hm3).trans hm5)
theorem mget_c (b nb ib:Nat) (queue:ByteArray) (n:Nat) (r:Rd) (w:World) (K:Value→World→Prop) (hb:IsRd w b r) (hn:w.heap[nb]? = some (.cells #[.string queue] 9 (0,0))) (hi:w.heap[ib]? = some (.cells #[.int .u64 n] 27 (0,0))) (hne:nb≠b) (hie:ib≠b) (hs:(r.1.size:Int)<2^63)
  (h:∀w',Mod (fun k=>k=b) w w'→IsRd w' b (mget queue n r).2→K (mget queue n r).1.val w') :
  Ok prog 253 #[ptr b,ptr nb,ptr ib] w K:=by
 refine F253.enter (args:=[ptr b,ptr nb,ptr ib]) (by simp) ?_
 unfold c253 r253
 simp only [ZB,insVc,Value.cells]
 have hm0:Mod (fun k=>k=b) w (w.alloc (.cells zms 128)).drew:=((Mod.refl _ _).alloc _).drew
 have hn0:=hm0.keep hn hne
 have hi0:=hm0.keep hi hie
 have hbl:=lt_of_get hb
 have hb0:IsRd (w.alloc (.cells zms 128)).drew b r:=by
  unfold IsRd;rw [get_drew,get_alloc_old _ _ _ hbl];exact hb
 have hr0:(w.alloc (.cells zms 128)).drew.heap[w.heap.size]? = some (.cells zms 128 (0,0)):=get_alloc_new _ _
 refine draw_d (fun w'=>w'.heap[nb]? = some (.cells #[.string queue] 9 (0,0))∧w'.heap[ib]? = some (.cells #[.int .u64 n] 27 (0,0))) (by kernel_rfl) (by kernel_rfl) (by kernel_rfl) (by kernel_rfl) ⟨hn0,hi0⟩ ?_
 generalize (w.alloc (.cells zms 128)).drew=w1 at *
 have hne':w.heap.size≠b:=by omega
 have hnn:w.heap.size≠nb:=by have:=lt_of_get hn;omega
 have hni:w.heap.size≠ib:=by have:=lt_of_get hi;omega
 simp only [ZB,endK,resK,resN,packed,insVc,storeNK,buildK,fillL,Value.cells,ne_eq,Nat.reduceEqDiff,Nat.reduceAdd,Nat.reduceLeDiff,reduceCtorEq,Zac,Zae,Zab,Za,Zai,Zak,Zaj,Zad,Zaa,Zaf,pureI,vcD_nil,vcD_cons,stepD_pure,stepD_load,stepD_step,kindI,loadI]
 refine loadD1 (b:=nb) (o:=0) (v:=.string queue) rfl (fun w' hw'=>⟨_,_,_,hw'.1,rfl⟩) ?_
 refine loadD1 (b:=ib) (o:=0) (v:=.int .u64 n) rfl (fun w' hw'=>⟨_,_,_,hw'.2,rfl⟩) ?_
 refine four_c b r w1 _ hb0 hs ?_
 intro w2 hm2 hb2
 refine ⟨⟨hm2.keep hn0 hne,hm2.keep hi0 hie⟩, ?_⟩
 simp only [Nat.reduceAdd,Nat.reduceLeDiff,Zai,Zak,Zaj,Zbe,Zbf,Zbd,Zbc,Zal,Zam,Zan,and_true,and_self,Zaa,Nat.zero_add,Nat.add_zero]
 refine eight_c b _ w2 _ hb2 (by have:=number_size r 4;omega) ?_
 intro w3 hm3 hb3
 have hn3:=hm3.keep (hm2.keep hn0 hne) hne
 have hi3:=hm3.keep (hm2.keep hi0 hie) hie
 refine ⟨⟨hn3,hi3⟩, ?_⟩
 simp only [Nat.reduceAdd,Nat.reduceLeDiff,Zai,Zak,Zaj,Zbe,Zbf,Zbd,Zbc,Zal,Zam,Zan,and_true,Zaa,Nat.zero_add,Nat.add_zero]
 refine text_c b _ 32768 w3 _ hb3 (by have:=number_size r 4;have:=number_size (number r 4).2 8;omega) (by omega) ?_
 intro w5 hm5 hb5
 refine ⟨⟨hm5.keep hn3 hne,hm5.keep hi3 hie⟩, ?_⟩
 have hr5:=hm5.keep (hm3.keep (hm2.keep hr0 hne') hne') hne'
 have hl5:=lt_of_get hr5
 simp only [resNO_cells,storeNO_cells,setMany,isPlain,Nat.reduceAdd,Nat.reduceLeDiff,Zai,Zak,Zaj,Zbe,Zbf,Zbd,Zbc,Zal,Zam,Zan,true_and,and_self,Zaa,Nat.zero_add,Nat.add_zero,Bool.and_true,Zar,Zap,Zaq,Zao,Zas,Zat,Zau,Zav,Zax,Zbb,hr5,hl5]
 refine ⟨⟨by rw [get_set_other _ _ _ _ (Ne.symm hnn)];exact hm5.keep hn3 hne,by rw [get_set_other _ _ _ _ (Ne.symm hni)];exact hm5.keep hi3 hie⟩, ?_⟩
 have hx:(mget queue n r).1.val = .agg #[.string queue,.int .u64 n,.int .u32 ((number r 4).1%2^32:Nat),.int .u64 ((number (number r 4).2 8).1:Nat),.string (text (number (number r 4).2 8).2 32768).1]:=rfl
 rw [hx] at h
 refine h _ ?_ ?_
 ·exact ((((hm0.trans hm2).trans hm3).trans hm5)).set (.inl (Nat.le_refl _))
 ·unfold IsRd
  rw [get_set_other _ _ _ _ (Ne.symm hne')]
  exact hb5
end Go.Oct
namespace Go.Vc
open Go Go.ChangeShapes
theorem choose_list {α:Type} {R:Nat→α→Prop}:∀(n:Nat),(∀i,i<n→∃x,R i x)→∃l:List α,l.length=n∧∀(i:Nat) x,l[i]? = some x→R i x:=by
 intro n
 induction n with
 | zero=>exact fun _=>⟨[],rfl,fun i x h=>by simp at h⟩
 | succ n ih =>
  intro h
  obtain ⟨l,hl,hr⟩:=ih (fun i hi=>h i (by omega))
  obtain ⟨x,hx⟩:=h n (by omega)
  refine ⟨l ++ [x],by simp [hl],fun i y hy => ?_⟩
  rw [List.getElem?_append] at hy
  split at hy
  ·exact hr i y hy
  ·rename_i hi
   have h1:=(List.getElem?_eq_some_iff.1 hy).1
   have h2:i-l.length=0:=by simpa using h1
   have h3:i=n:=by omega
   rw [h2] at hy
   simp at hy
   rw [h3,← hy];exact hx
section
variable {H:Type} {enc:TypeId × Value→H} {P:Program} {W:World} {base:Nat} {spare:Nat→Bool} {held:Bool}
theorem cells_at {a:Addr} {n:Nat} {cs:List Value} (h:W.cells? base a n=some cs) (hn:0<n):∃b o cur t f,a=⟨b,o,none⟩∧W.heap[b]? = some (.cells cur t f)∧o+n≤cur.size∧cur.extract o (o+n)=cs.toArray:=by
 obtain ⟨_,hlen,hc⟩:=World.cells?_some h
 obtain ⟨b,o,sp⟩:=a
 have h0:=hc 0 hn
 obtain ⟨c0,hc0⟩:∃c0,cs[0]? = some c0:=⟨_,List.getElem?_eq_getElem (by omega)⟩
 rw [hc0] at h0
 have hsp:sp=none:=by simpa [Addr.add] using World.cell?_spot h0
 subst hsp
 have hheap:∃cur t f,W.heap[b]? = some (.cells cur t f):=by
  rw [Addr.add_lit] at h0
  unfold World.cell? at h0
  cases ho:W.heap[b]? with
  | none=>rw [ho] at h0;cases h0
  | some x =>
   rw [ho] at h0
   cases x with
   | cells cur t f=>exact ⟨cur,t,f,rfl⟩
   | _=>cases h0
 obtain ⟨cur,t,f,hb⟩:=hheap
 have hcell:∀i,i<n→cur[o+i]? = cs[i]?:=by
  intro i hi
  have:=hc i hi
  rw [Addr.add_lit] at this
  rw [← this]
  simp [World.cell?,hb]
 have hsz:o+n≤cur.size:=by
  have:=hcell (n-1) (by omega)
  obtain ⟨c1,hc1⟩:∃c1,cs[n-1]? = some c1:=⟨_,List.getElem?_eq_getElem (by omega)⟩
  rw [hc1] at this
  have:=(Array.getElem?_eq_some_iff.1 this).1
  omega
 refine ⟨b,o,cur,t,f,rfl,hb,hsz, ?_⟩
 apply Array.ext
 ·simp;omega
 ·intro i h1 h2
  have hi:i<n:=by simp at h2;omega
  have:=hcell i hi
  rw [Array.getElem?_eq_getElem (by omega),List.getElem?_eq_getElem (by omega)] at this
  simpa using Option.some.inj this
theorem slice_list {α:Type} {t e:TypeId} {fuel:Nat} {x:DataW H × List MemPlace} {a0:Option Addr} {len cap:Nat} (cells:α→List Value) (G:α→Prop) (s:Nat) (hs:0<s) (ht:P.underlying t=some (.slice e)) (hc:P.cellsOf e=s)
  (each:∀(n:Nat) cs y,DataW.trod enc P W base spare held n e cs=some y→∃v,cs=cells v∧G v) (h:DataW.trod enc P W base spare held fuel t [.slice a0 len cap]=some x) :
  ∃l:List α,len=l.length∧(∀v∈l,G v)∧(a0=none→len=0∧cap=0)∧len≤cap∧cap≤maxLen ∧
   ∀(i:Nat) v,l[i]? = some v→∃b o cur t f,a0=some ⟨b,o,none⟩∧W.heap[b]? = some (.cells cur t f)∧o+i * s+s≤cur.size∧cur.extract (o+i * s) (o+i * s+s)=(cells v).toArray:=by
 rcases DataW.trod_slice ht h with ⟨h0,_⟩|⟨a,len',cap',elems,rest,n,_,h0,_,_,hl,hm,hlen,hel,_⟩
 ·simp at h0
  obtain ⟨rfl,rfl,rfl⟩:=h0
  exact ⟨[],rfl,by simp,fun _=>⟨rfl,rfl⟩,Nat.le_refl _,by simp [maxLen],fun i v hv=>by simp at hv⟩
 ·simp at h0
  obtain ⟨rfl,rfl,rfl⟩:=h0
  have hall:∀i,i<len→∃v,G v∧W.cells? base (a.add (i * s)) s=some (cells v):=by
   intro i hi
   have:=hel i hi
   rw [hc] at this
   rw [List.getElem?_eq_getElem (by omega)] at this
   obtain ⟨cs,h1,h2⟩:=Option.bind_eq_some_iff.1 this
   obtain ⟨v,rfl,hg⟩:=each n cs _ h2
   exact ⟨v,hg,h1⟩
  obtain ⟨l,hll,hr⟩:=choose_list len hall
  refine ⟨l,hll.symm,fun v hv => ?_,(fun e=>by cases e),hl,hm,fun i v hv => ?_⟩
  ·obtain ⟨i,hi⟩:=List.getElem?_of_mem hv
   exact (hr i v hi).1
  ·have h1:=(hr i v hv).2
   have h00:a.spot=none:=by
    have hz:0<l.length:=by have:=(List.getElem?_eq_some_iff.1 hv).1;omega
    obtain ⟨b,o,cur,t',f,ha,_⟩:=cells_at (hr 0 l[0] (List.getElem?_eq_getElem hz)).2 hs
    simp [Addr.add] at ha
    rw [ha]
   obtain ⟨ab,ao,asp⟩:=a
   simp only at h00
   subst h00
   rw [Addr.add_lit] at h1
   obtain ⟨b,o,cur,t',f,ha,hb,hsz,hex⟩:=cells_at h1 hs
   simp at ha
   obtain ⟨rfl,rfl⟩:=ha
   exact ⟨_,_,cur,t',f,rfl,hb,hsz,hex⟩
theorem trod_fields {t:TypeId} {fs:Array Field} {fuel:Nat} {cs:List Value} {x:DataW H × List MemPlace} (ht:P.underlying t=some (.struct fs)) (L:List (TypeId × Nat)) (hL:(fs.toList.map fun f=>(f.type,f.offset))=L)
  (h:DataW.trod enc P W base spare held fuel t cs=some x):cs.length=P.cellsOf t∧∀p∈L,∃n y,DataW.trod enc P W base spare held n p.1 ((cs.drop p.2).take (P.cellsOf p.1))=some y:=by
 obtain ⟨xs,n,_,_,hl,hxl,hf⟩:=DataW.trod_struct ht h
 refine ⟨hl,fun p hp => ?_⟩
 rw [← hL] at hp
 obtain ⟨f,hfm,rfl⟩:=List.mem_map.1 hp
 obtain ⟨i,hi⟩:=List.getElem?_of_mem hfm
 have hi':fs[i]? = some f:=by simpa using hi
 have:=hf i f hi'
 have hlt:i<xs.length:=by have:=(Array.getElem?_eq_some_iff.1 hi').1;omega
 rw [List.getElem?_eq_getElem hlt] at this
 exact ⟨n,_,this⟩
end
end Go.Vc
namespace Go.Oct
open Go Go.Vc Go.ChangeShapes
set_option maxRecDepth 100000
section
variable {H:Type} {enc:TypeId × Value→H} {W:World} {base:Nat} {spare:Nat→Bool} {held:Bool}
theorem wf_u64 {n:Int} (h:(Lit.int .u64 n).wf=true):∃k:Nat,n=(k:Int)∧k<2^64:=by
 simp only [Lit.wf,Zbk,IntKind.min,IntKind.max,IntKind.signed,IntKind.bits] at h
 exact ⟨n.toNat,by simp at h;omega,by simp at h;omega⟩
end
end Go.Oct
namespace Go.Vc
open Go
variable {P:Program} {ro:Option Nat} {n:Nat} {ops:Array Oper}
def depsOf (ops:Array Oper):List (List Nat):=ops.toList.map fun o=>(o.after.toList.filter (Region.binds .any)).map (·.on)
theorem countP_set (L:Nat→Bool) (i:Nat):∀l:List Nat,l.Nodup→i∈l→L i=false→l.countP (fun k => !(k == i || L k))+1=l.countP (fun k => !L k):=by
 intro l
 induction l with
 | nil=>intro _ h _;cases h
 | cons x l ih =>
  intro hn hi hL
  have hn':=List.nodup_cons.1 hn
  rw [List.countP_cons,List.countP_cons]
  by_cases hx:x=i
  ·subst hx
   have hsame:l.countP (fun k => !(k == x || L k))=l.countP (fun k => !L k):=by
    refine List.countP_congr ?_
    intro k hk
    have hne:k≠x:=fun e=>hn'.1 (e ▸ hk)
    simp [hne]
   rw [hsame,hL];simp
  ·have hi':i∈l:=by rcases List.mem_cons.1 hi with e|h;exact absurd e.symm hx;exact h
   have:=ih hn'.2 hi' hL
   have hb:(x == i)=false:=by simpa using hx
   rw [hb]
   simp only [Zbz]
   omega
theorem wpAnyIn_of_I {l:List In} {dp:List (List Nat)} {ds:List Deferred} (I:(Nat→Bool)→Env→World→Prop) {Q':Exit→Act→World→Prop} (hl:compOps P n ops ops.toList=some l) (hdp:depsOf ops=dp)
  (hg:∀x∈l,x.g=none)
  (hlt:∀(i:Nat) (d:List Nat),dp[i]? = some d→∀k∈d,k<i)
  (hs:∀(L:Nat→Bool) (ρ:Env) (w:World) (i:Nat) (x:In) (d:List Nat),l[i]? = some x→dp[i]? = some d→L i=false→(∀k∈d,L k=true)→I L ρ w→insVc P (fun v w'=>I (fun k=>k == i || L k) (updO ρ x.d v) w') ρ ds w x.i)
  (he:∀(L:Nat→Bool) (ρ:Env) (w:World),(∀i,i<ops.size→L i=true)→I L ρ w→Q' .normal (mkA n ρ ds) w) :
  ∀(fuel:Nat) (listed:Array Bool) (ρ:Env) (w:World),listed.size=ops.size→(List.range ops.size).countP (fun k => !(listed.getD k false))≤fuel→I (fun k=>listed.getD k false) ρ w →
   wpAnyIn (FW ro) 0 P .any ops Q' fuel listed (mkA n ρ ds) w:=by
 have hcomp:∀(l0:List Oper) (li:List In),compOps P n ops l0=some li→(∀x∈li,x.g=none)→∀(i:Nat) (o:Oper),l0[i]? = some o→li[i]? = some (⟨none,o.dst,compOp P n o⟩:In)∧compG n ops o.guard=some none:=by
  intro l0
  induction l0 with
  | nil=>intro li _ _ i o h;simp at h
  | cons o0 l0 ih =>
   intro li hc hgn i o h
   simp only [compOps] at hc
   split at hc
   ·rename_i g l' hgc hl'
    simp at hc;subst hc
    have h0:=hgn _ (List.mem_cons_self)
    simp only at h0
    subst h0
    cases i with
    | zero=>simp at h;subst h;exact ⟨rfl,hgc⟩
    | succ i=>simp at h;simpa using ih l' hl' (fun x hx=>hgn x (List.mem_cons_of_mem _ hx)) i o h
   ·cases hc
 have hall:∀(listed:Array Bool),listed.size=ops.size→Region.ready .any ops listed=[]→∀i,i<ops.size→listed.getD i false=true:=by
  intro listed hsz hr i
  induction i using Nat.strongRecOn with
  | ind i ih =>
   intro hi
   cases hb:listed.getD i false with
   | true=>rfl
   | false =>
    exfalso
    obtain ⟨o,ho⟩:∃o,ops[i]? = some o:=⟨_,Array.getElem?_eq_getElem hi⟩
    have hmem:i∈Region.ready .any ops listed:=by
     rw [mem_ready]
     refine ⟨?_,o,ho, ?_⟩
     ·have hi':i<listed.size:=by omega
      simp only [Zce,Array.getElem?_eq_getElem hi',Zac] at hb ⊢
      exact hb
     ·intro e he' hbd
      have hd:dp[i]? = some ((o.after.toList.filter (Region.binds .any)).map (·.on)):=by
       rw [← hdp]
       simp [depsOf,ho]
      have hk:=hlt i _ hd e.on (List.mem_map.2 ⟨e,List.mem_filter.2 ⟨Array.mem_toList_iff.2 he',hbd⟩,rfl⟩)
      exact ih e.on hk (by omega)
    rw [hr] at hmem;cases hmem
 intro fuel
 induction fuel with
 | zero =>
  intro listed ρ w hsz hc hI
  have hall':∀i,i<ops.size→listed.getD i false=true:=by
   intro i hi
   have:=List.countP_eq_zero.1 (Nat.le_zero.1 hc) i (List.mem_range.2 hi)
   simpa using this
  refine ⟨?_,he _ ρ w hall' hI⟩
  refine List.eq_nil_iff_forall_not_mem.2 ?_
  intro j hj
  obtain ⟨h0,o,ho,_⟩:=mem_ready.1 hj
  have hj':j<ops.size:=(Array.getElem?_eq_some_iff.1 ho).1
  have h1:=hall' j hj'
  have hjl:j<listed.size:=by omega
  simp only [Zce,Array.getElem?_eq_getElem hjl,Zac] at h0 h1
  rw [h1] at h0;cases h0
 | succ fuel ih =>
  intro listed ρ w hsz hc hI
  refine ⟨fun h0=>he _ ρ w (hall listed hsz h0) hI, ?_⟩
  intro i hi
  obtain ⟨h0,o,ho,hdeps⟩:=mem_ready.1 hi
  have hi':i<ops.size:=(Array.getElem?_eq_some_iff.1 ho).1
  have hil:i<listed.size:=by omega
  have hLi:listed.getD i false=false:=by
   simp only [Zce,Array.getElem?_eq_getElem hil,Zac] at h0 ⊢
   exact h0
  have ho':ops.toList[i]? = some o:=by simpa using ho
  obtain ⟨hx,hgd⟩:=hcomp _ _ hl hg i o ho'
  have hd:dp[i]? = some ((o.after.toList.filter (Region.binds .any)).map (·.on)):=by
   rw [← hdp]
   simp [depsOf,ho]
  have hins:=hs _ ρ w i _ _ hx hd hLi (by
   intro k hk
   obtain ⟨e,he',rfl⟩:=List.mem_map.1 hk
   obtain ⟨h1,h2⟩:=List.mem_filter.1 he'
   exact hdeps e (Array.mem_toList_iff.1 h1) h2) hI
  unfold wpOpIn
  simp only [ho]
  have hwg:=wanted_gate (ρ:=ρ) (ds:=ds) hgd
  rw [hwg]
  simp only [gateOf,Zaa]
  refine wpIn_of_upon (upon_mono ?_ (sound_ins n o hins))
  intro v w' h
  rw [mkA_put]
  refine ih _ _ _ (by simp [hsz]) ?_ ?_
  ·have hfun:(fun k => !((listed.setIfInBounds i true).getD k false))=fun k => !(k == i || listed.getD k false):=by
    funext k
    by_cases hk:i=k
    ·subst hk;simp [hil]
    ·have:(k == i)=false:=by simpa using fun e=>hk e.symm
     rw [getD_set_ne false hk,this];rfl
   have:=countP_set (fun k=>listed.getD k false) i (List.range ops.size) List.nodup_range (List.mem_range.2 hi') hLi
   rw [hfun]
   omega
  ·have hfun:(fun k=>(listed.setIfInBounds i true).getD k false)=fun k=>(k == i || listed.getD k false):=by
    funext k
    by_cases hk:i=k
    ·subst hk;simp [hil]
    ·have:(k == i)=false:=by simpa using fun e=>hk e.symm
     rw [getD_set_ne false hk,this];rfl
   rw [hfun]
   exact h
theorem draw_i (I:(Nat→Bool)→Env→World→Prop) {id:Nat} {l:List In} {dp:List (List Nat)} {Q:QT} {ρ:Env} {ds:List Deferred} {w:World} (hm:P.follows .mixedOrders=true) (hl:compOps P n ops ops.toList=some l) (hdp:depsOf ops=dp)
  (hg:l.all (fun x=>x.g.isNone)=true) (hlt:(dp.zipIdx.all fun x=>x.1.all fun k=>decide (k<x.2))=true)
  (h0:I (fun _=>false) ρ w.drew)
  (hs:∀(L:Nat→Bool) (ρ:Env) (w:World) (i:Nat) (x:In) (d:List Nat),l[i]? = some x→dp[i]? = some d→L i=false→(∀k∈d,L k=true)→I L ρ w→insVc P (fun v w'=>I (fun k=>k == i || L k) (updO ρ x.d v) w') ρ ds w x.i)
  (he:∀(L:Nat→Bool) (ρ:Env) (w:World),(∀i,i<ops.size→L i=true)→I L ρ w→Q .normal ρ ds w):vc P ro n (.draw id ops l) Q ρ ds w:=by
 intro t
 simp only [Region.schedule,hm,Zbw,Zaa]
 refine wpAnyIn_sound ops.size t _ _ _ ?_
 refine wpAnyIn_of_I (ds:=ds) I hl hdp ?_ ?_ hs (fun L ρ w h1 h2=>⟨ρ,ds,rfl,he L ρ w h1 h2⟩) ops.size _ ρ w.drew (by simp) ?_ ?_
 ·intro x hx
  have:=List.all_eq_true.1 hg x hx
  simpa using this
 ·intro i d hd k hk
  have h1:=List.all_eq_true.1 hlt (d,i) (List.mem_zipIdx_iff_getElem?.2 hd)
  simpa using List.all_eq_true.1 h1 k hk
 ·refine Nat.le_trans List.countP_le_length (by simp)
 ·have:(fun k=>(Array.replicate ops.size false).getD k false)=fun _=>false:=by
   funext k
   by_cases hk:k<ops.size
   ·simp [hk]
   ·simp [hk]
  rw [this];exact h0
variable {P:Program} {go:Value→World→Prop} {w:World}
theorem mk_size (a:List UInt8):(⟨a.toArray⟩:ByteArray).size=a.length:=by simp [ByteArray.size]
theorem mk_toList (a:List UInt8):(⟨a.toArray⟩:ByteArray).toList=a:=by rw [ByteArray.toList_eq]
theorem mk_self (s:ByteArray):(⟨s.data.toList.toArray⟩:ByteArray)=s:=rfl
def IsT {α:Type} (cells:α→List Value) (s:Nat) (w:World) (v:Value) (l:List α):Prop :=
 (∃a c,v = .slice a l.length c)∧∀(i:Nat) x,l[i]? = some x→∃b o c cur t f,v = .slice (some ⟨b,o,none⟩) l.length c∧w.heap[b]? = some (.cells cur t f)∧o+i * s+s≤cur.size∧cur.extract (o+i * s) (o+i * s+s)=(cells x).toArray
variable {α:Type} {cells:α→List Value} {s:Nat} {w w':World} {v:Value} {l:List α}
theorem IsT.mod {S:Nat→Prop} (h:IsT cells s w v l) (hm:Mod S w w') (hS:∀k,v.ownBlock=some k→¬S k):IsT cells s w' v l :=
 ⟨h.1,fun i x hx=>by obtain ⟨b,o,c,cur,t,f,h1,h2,h3⟩:=h.2 i x hx;exact ⟨b,o,c,cur,t,f,h1,hm.keep h2 (hS b (by rw [h1];rfl)),h3⟩⟩
theorem IsT.keep (h:IsT cells s w v l) (hm:Mod (fun _=>False) w w'):IsT cells s w' v l:=h.mod hm (fun _ _ x=>x)
theorem IsT.nil (c:Nat) (a:Option Addr):IsT cells s w (.slice a 0 c) ([]:List α):=⟨⟨a,c,rfl⟩,fun i x hx=>by simp at hx⟩
theorem IsT.at {a:Option Addr} {n c i:Nat} {x:α} (h:IsT cells s w (.slice a n c) l) (hx:l[i]? = some x) :
  ∃b o cur t f,a=some ⟨b,o,none⟩∧w.heap[b]? = some (.cells cur t f)∧o+i * s+s≤cur.size∧cur.extract (o+i * s) (o+i * s+s)=(cells x).toArray:=by
 obtain ⟨b,o,c',cur,t,f,he,h1,h2,h3⟩:=h.2 i x hx
 exact ⟨b,o,cur,t,f,by simpa using congrArg (fun x=>match x with | .slice a _ _=>a|_=>none) he,h1,h2,h3⟩
theorem extract_cell {cur:Array Value} {o s:Nat} {cs:List Value} (hsz:o+s≤cur.size) (h:cur.extract o (o+s)=cs.toArray) {j:Nat} (hj:j<s):cur[o+j]? = cs[j]?:=by
 have:=congrArg (fun z=>z[j]?) h
 simp only [Array.getElem?_extract,Zah] at this
 rw [if_pos (by omega)] at this
 exact this
theorem IsT.of_list {a0:Option Addr} {len cap:Nat} (hl:len=l.length) (h:∀(i:Nat) v,l[i]? = some v→∃b o cur t f,a0=some ⟨b,o,none⟩∧w.heap[b]? = some (.cells cur t f)∧o+i * s+s≤cur.size∧cur.extract (o+i * s) (o+i * s+s)=(cells v).toArray):IsT cells s w (.slice a0 len cap) l:=by
 subst hl
 refine ⟨⟨_,_,rfl⟩,fun i x hx => ?_⟩
 obtain ⟨b,o,cur,t,f,rfl,h2⟩:=h i x hx
 exact ⟨b,o,cap,cur,t,f,rfl,h2⟩
theorem IsT.len {a:Option Addr} {n c:Nat} (h:IsT cells s w (.slice a n c) l):n=l.length:=by
 obtain ⟨a',c',e⟩:=h.1
 exact congrArg (fun x=>match x with | .slice _ n _=>n|_=>0) e
end Go.Vc
namespace Go.Vc
open Go Go.ChangeShapes
section
variable {H:Type} {enc:TypeId × Value→H} {P:Program} {W:World} {base:Nat} {spare:Nat→Bool} {held:Bool}
theorem slice_T {α:Type} {t e:TypeId} {fuel:Nat} {x:DataW H × List MemPlace} {v:Value} (cells:α→List Value) (G:α→Prop) (s:Nat) (hs:0<s) (ht:P.underlying t=some (.slice e)) (hc:P.cellsOf e=s)
  (each:∀(n:Nat) cs y,DataW.trod enc P W base spare held n e cs=some y→∃v,cs=cells v∧G v) (h:DataW.trod enc P W base spare held fuel t [v]=some x) :
  ∃l:List α,IsT cells s W v l∧(∀y∈l,G y)∧l.length≤maxLen:=by
 have hv:∃a len cap,v = .slice a len cap:=by
  rcases DataW.trod_slice ht h with ⟨h0,_⟩|⟨a,len',cap',elems,rest,n,_,h0,_⟩
  ·exact ⟨_,_,_,by simpa using h0⟩
  ·exact ⟨_,_,_,by simpa using h0⟩
 obtain ⟨a,len,cap,rfl⟩:=hv
 obtain ⟨l,hl,hg,_,hlc,hcm,hat⟩:=slice_list cells G s hs ht hc each h
 exact ⟨l,IsT.of_list hl hat,hg,by omega⟩
end
end Go.Vc
namespace Go.Oct
open Go Go.Vc Go.ChangeShapes Go.Proofs.Tryz
set_option maxRecDepth 100000
section
variable {H:Type} {enc:TypeId × Value→H} {W:World} {base:Nat} {spare:Nat→Bool} {held:Bool}
theorem trod_u64 (n:Nat) (cs:List Value) (y:DataW H × List MemPlace) (h:DataW.trod enc prog W base spare held n 27 cs=some y):∃k:Nat,cs=[.int .u64 (k:Int)]∧k<18446744073709551616:=by
 have u64:prog.underlying 27=some (.int .u64):=by kernel_rfl
 obtain ⟨n1,e1,_,w1⟩:=DataW.trod_int u64 h
 obtain ⟨k1,rfl,b1⟩:=wf_u64 w1
 exact ⟨k1,e1,b1⟩
theorem cells_of_strs {P:Program} {fuel:Nat} {t e:TypeId} {n:Nat} {cs:List Value} {zs:List (List UInt8)} {p:List MemPlace}
  (ht:P.underlying t=some (.array n e)) (he:P.underlying e=some .string) (hce:P.cellsOf e=1) (hct:P.cellsOf t=n)
  (h:DataW.trod enc P W base spare held fuel t cs=some (.agg (zs.map fun z=>.lit (.string z)),p)):cs=zs.map fun z=>Value.string ⟨z.toArray⟩:=by
 cases fuel with
 | zero=>simp [DataW.trod] at h
 | succ fuel =>
  simp only [DataW.trod,ht,hce,hct,Zbm] at h
  split at h
  ·rename_i hl
   obtain ⟨xs,hm,hx⟩:=Option.map_eq_some_iff.1 h
   have hxs:xs.map (·.1)=zs.map fun z=>(DataW.lit (.string z):DataW H):=by
    have:=congrArg Prod.fst hx
    simpa using this
   have hxl:xs.length=n:=by simpa using Lib.mapM_length hm
   have hzl:zs.length=n:=by
    have:=congrArg List.length hxs
    simp at this
    omega
   apply List.ext_getElem?
   intro i
   by_cases hi:i<n
   ·obtain ⟨b,hb,hf⟩:=Lib.mapM_at hm i i (by simp [hi])
    obtain ⟨z,hc,rfl,_⟩:=DataW.trod_string he hf
    have h1:cs[i]? = some (.string z):=by
     have:=congrArg (·[0]?) hc
     simpa [List.getElem?_take,List.getElem?_drop] using this
    have h2:(xs.map (·.1))[i]? = some (DataW.lit (.string z.data.toList):DataW H):=by simp [hb]
    rw [hxs] at h2
    simp only [List.getElem?_map,Option.map_eq_some_iff,DataW.lit.injEq,Lit.string.injEq] at h2
    obtain ⟨z',hz',rfl⟩:=h2
    simp [h1,hz']
   ·rw [List.getElem?_eq_none (by omega),List.getElem?_eq_none (by simp;omega)]
  ·cases h
end
end Go.Oct
namespace Go.Tal
open Go
def cls (n:Nat):Nat:=Lib.bitLen n
theorem cls_le {a:Nat} (h:a<18446744073709551616):cls a≤64:=Lib.bitLen_le a 64 (by omega) (by omega)
theorem cls_zero:cls 0=0:=by decide
def cAt (l:List Nat) (i:Nat):Nat:=l.countP (fun n=>decide (cls n=i))
def pre (l:List Nat) (i:Nat):Nat:=l.countP (fun n=>decide (cls n≤i))
def below (l:List Nat) (i:Nat):Nat:=l.countP (fun n=>decide (cls n<i))
theorem pre_eq (l:List Nat) (i:Nat):pre l i=below l i+cAt l i:=by
 induction l with
 | nil=>rfl
 | cons a r ih =>
  simp only [pre,below,cAt,List.countP_cons,decide_eq_true_eq] at ih ⊢
  rcases Nat.lt_trichotomy (cls a) i with h|h|h
  ·rw [if_pos (by omega),if_pos h,if_neg (by omega)];omega
  ·rw [if_pos (by omega),if_neg (by omega),if_pos h];omega
  ·rw [if_neg (by omega),if_neg (by omega),if_neg (by omega)];omega
theorem below_succ (l:List Nat) (i:Nat):below l (i+1)=pre l i:=by
 unfold below pre
 congr 1
 funext n
 simp only [decide_eq_decide]
 omega
theorem below_zero (l:List Nat):below l 0=0:=by
 unfold below
 rw [List.countP_eq_zero]
 intro a _
 simp
theorem pre_mono (l:List Nat) {i j:Nat} (h:i≤j):pre l i≤pre l j:=by
 unfold pre
 refine List.countP_mono_left (fun x _ hx => ?_)
 simp only [decide_eq_true_eq] at hx ⊢
 omega
theorem pre_le (l:List Nat) (i:Nat):pre l i≤l.length:=List.countP_le_length
theorem pre_all (l:List Nat) (h:∀n∈l,n<18446744073709551616) (i:Nat) (hi:64≤i):pre l i=l.length:=by
 unfold pre
 rw [List.countP_eq_length]
 intro a ha
 have:=cls_le (h a ha)
 simp only [decide_eq_true_eq]
 omega
structure Rw where
 c:Nat
 s:Nat
 lo:Nat
 hi:Nat
 cl:List Nat
def zs:List Nat:=List.replicate 65 0
def Rw.zero:Rw:=⟨0,0,0,0,zs⟩
def addL (a b:List Nat):List Nat:=List.zipWith (fun x y=>(x+y)%18446744073709551616) a b
def Rw.plus (r s:Rw):Rw :=
 if s.c=0 then r else if r.c=0 then s else
  ⟨(r.c+s.c)%18446744073709551616,(r.s+s.s)%18446744073709551616,min r.lo s.lo,max r.hi s.hi,addL r.cl s.cl⟩
def Rw.one (n:Nat):Rw:=⟨1,n,n,n,zs.set (cls n) 1⟩
def sumN (l:List Nat):Nat:=l.foldl (fun a n=>(a+n)%18446744073709551616) 0
def minN:List Nat→Nat
 | []=>0
 | a :: r=>r.foldl min a
def maxN (l:List Nat):Nat:=l.foldl max 0
def rowOf (l:List Nat):Rw:=⟨l.length,sumN l,minN l,maxN l,(List.range 65).map (cAt l)⟩
theorem rowOf_nil:rowOf []=Rw.zero:=by
 unfold rowOf Rw.zero sumN minN maxN zs
 congr 1
theorem sumN_append (l:List Nat) (n:Nat):sumN (l ++ [n])=(sumN l+n)%18446744073709551616:=by
 simp [sumN,List.foldl_append]
theorem minN_append (l:List Nat) (h:l≠[]) (n:Nat):minN (l ++ [n])=min (minN l) n:=by
 cases l with
 | nil=>exact (h rfl).elim
 | cons a r=>simp [minN,List.foldl_append]
theorem maxN_append (l:List Nat) (n:Nat):maxN (l ++ [n])=max (maxN l) n:=by
 simp [maxN,List.foldl_append]
theorem cAt_append (l:List Nat) (n i:Nat):cAt (l ++ [n]) i=cAt l i+(if cls n=i then 1 else 0):=by
 unfold cAt
 rw [List.countP_append,List.countP_singleton]
 simp only [decide_eq_true_eq]
theorem one_cl (n:Nat):(Rw.one n).cl=(List.range 65).map (fun i=>if cls n=i then 1 else 0):=by
 unfold Rw.one zs
 apply List.ext_getElem?
 intro i
 simp only [List.getElem?_map,List.getElem?_set,List.length_replicate,List.getElem?_replicate]
 by_cases hi:i<65
 ·by_cases hc:cls n=i
  ·subst hc;simp [hi]
  ·simp [hc,hi]
 ·have h2:(List.range 65)[i]? = none:=by simp;omega
  rw [h2]
  by_cases hc:cls n=i
  ·subst hc;simp [hi]
  ·simp [hc,hi]
theorem cl_append (l:List Nat) (n:Nat) (hlen:l.length<18446744073709551615):addL ((List.range 65).map (cAt l)) (Rw.one n).cl=(List.range 65).map (cAt (l ++ [n])):=by
 rw [one_cl]
 unfold addL
 rw [List.zipWith_map,List.zipWith_self]
 refine List.map_congr_left (fun i _ => ?_)
 rw [cAt_append]
 have:cAt l i≤l.length:=List.countP_le_length
 apply Nat.mod_eq_of_lt
 split <;> omega
theorem row_one (n:Nat) (hn:n<18446744073709551616):Rw.one n=rowOf [n]:=by
 unfold rowOf sumN minN maxN
 have e:(List.range 65).map (cAt [n])=(Rw.one n).cl:=by
  rw [one_cl]
  refine List.map_congr_left (fun i _ => ?_)
  simp [cAt,List.countP_cons]
 rw [e]
 simp only [List.length_singleton,Zbd,Zbc,Nat.zero_add,Nat.mod_eq_of_lt hn,Nat.zero_max]
 rfl
theorem row_plus (l:List Nat) (n:Nat) (hn:n<18446744073709551616) (hlen:l.length<18446744073709551615):(rowOf l).plus (Rw.one n)=rowOf (l ++ [n]):=by
 unfold Rw.plus
 rw [if_neg (by simp [Rw.one])]
 by_cases h:l=[]
 ·subst h
  rw [if_pos (show (rowOf []).c=0 from rfl)]
  exact row_one n hn
 ·have hl:l.length≠0:=by simpa using h
  rw [if_neg (by exact hl)]
  show Rw.mk _ _ _ _ _=_
  unfold rowOf
  simp only [cl_append l n hlen,sumN_append,minN_append l h,maxN_append,Zcb,List.length_singleton]
  rw [show (Rw.one n).c=1 from rfl,show (Rw.one n).s=n from rfl,show (Rw.one n).lo=n from rfl,show (Rw.one n).hi=n from rfl,Nat.mod_eq_of_lt (by omega)]
def needN (c s o:Nat):Nat:=if o≤s then c else c * s/o+(if 0<c * s%o then 1 else 0)
def atF (least:Nat):List Nat→Nat→Nat→Nat
 | [],_,_=>64
 | c :: r,seen,i=>if least≤(seen+c)%18446744073709551616 then i else atF least r ((seen+c)%18446744073709551616) (i+1)
def Rw.at (r:Rw) (share of:Nat):Nat:=if r.c=0∨of=0∨share=0 then 0 else atF (needN r.c share of) r.cl 0 0
theorem need_le (c s o:Nat) (ho:0<o):needN c s o≤c:=by
 unfold needN
 split
 ·exact Nat.le_refl _
 ·rename_i h
  split
  ·rename_i hr
   have h1:c * s/o<c:=by
    rw [Nat.div_lt_iff_lt_mul ho]
    rcases Nat.eq_zero_or_pos c with rfl|hc
    ·simp at hr
    ·exact (Nat.mul_lt_mul_left hc).2 (by omega)
   omega
  ·have:c * s/o≤c:=by
    rw [Nat.div_le_iff_le_mul_add_pred ho]
    have:c * s≤c * o:=Nat.mul_le_mul_left _ (by omega)
    rw [Nat.mul_comm o c];omega
   omega
theorem need_iff (c s o k:Nat) (ho:0<o) (hs:s<o):needN c s o≤k ↔ c * s≤k * o:=by
 unfold needN
 rw [if_neg (by omega)]
 have hd:=Nat.div_add_mod (c * s) o
 have hm:=Nat.mod_lt (c * s) ho
 generalize c * s/o=q at *
 generalize c * s%o=r at *
 constructor
 ·intro h
  by_cases hr:0<r
  ·rw [if_pos hr] at h
   have:o * (q+1)≤o * k:=Nat.mul_le_mul_left _ h
   rw [Nat.mul_comm k o]
   rw [Nat.mul_add] at this
   omega
  ·rw [if_neg hr] at h
   have:o * q≤o * k:=Nat.mul_le_mul_left _ (by omega)
   rw [Nat.mul_comm k o]
   omega
 ·intro h
  rw [Nat.mul_comm k o] at h
  by_cases hr:0<r
  ·rw [if_pos hr]
   have:o * q<o * k:=by omega
   have:=Nat.lt_of_mul_lt_mul_left this
   omega
  ·rw [if_neg hr]
   have:o * q≤o * k:=by omega
   have:=Nat.le_of_mul_le_mul_left this ho
   omega
theorem need_pos (c s o:Nat) (ho:0<o) (hc:0<c) (hs:0<s):0<needN c s o:=by
 by_cases h:o≤s
 ·unfold needN;rw [if_pos h];exact hc
 ·refine Nat.pos_of_ne_zero (fun h0 => ?_)
  have:=(need_iff c s o 0 ho (by omega)).1 (by omega)
  have:0<c * s:=Nat.mul_pos hc hs
  omega
theorem atF_spec (l:List Nat) (hl:l.length<18446744073709551616) (hb:∀n∈l,n<18446744073709551616) (least:Nat) (h1:least≤l.length):∀(m i:Nat),i+m=65→below l i<least →
  (let k:=atF least (((List.range 65).map (cAt l)).drop i) (below l i) i;k≤64∧least≤pre l k∧below l k<least):=by
 intro m
 induction m with
 | zero =>
  intro i hi hlt
  have:i=65:=by omega
  subst this
  rw [below_succ,pre_all l hb 64 (by omega)] at hlt
  omega
 | succ m ih =>
  intro i hi hlt
  have hd:((List.range 65).map (cAt l)).drop i=cAt l i :: ((List.range 65).map (cAt l)).drop (i+1):=by
   rw [List.drop_eq_getElem_cons (by simp;omega)]
   simp
  have hp:=pre_eq l i
  have hle:=pre_le l i
  have hmod:(below l i+cAt l i)%18446744073709551616=pre l i:=by rw [← hp];exact Nat.mod_eq_of_lt (by omega)
  rw [hd]
  simp only [atF,hmod]
  by_cases hc:least≤pre l i
  ·rw [if_pos hc];exact ⟨by omega,hc,hlt⟩
  ·rw [if_neg hc]
   have:=ih (i+1) (by omega) (by rw [below_succ];omega)
   rw [below_succ] at this
   exact this
theorem at_spec (l:List Nat) (hl:l.length<18446744073709551616) (hb:∀n∈l,n<18446744073709551616) (share o:Nat) (h0:l≠[]) (ho:0<o) (hs:0<share) :
  (rowOf l).at share o≤64∧needN l.length share o≤pre l ((rowOf l).at share o)∧below l ((rowOf l).at share o)<needN l.length share o:=by
 have hlen:l.length≠0:=by simpa using h0
 have he:(rowOf l).at share o=atF (needN l.length share o) ((List.range 65).map (cAt l)) 0 0:=by
  unfold Rw.at
  rw [if_neg]
  ·rfl
  ·rintro (x|x|x)
   ·exact hlen x
   ·omega
   ·omega
 rw [he]
 have:=atF_spec l hl hb (needN l.length share o) (need_le _ _ _ ho) 65 0 (by omega) (by rw [below_zero];exact need_pos _ _ _ ho (by omega) hs)
 rw [below_zero,List.drop_zero] at this
 exact this
theorem at_empty (share o:Nat):(rowOf []).at share o=0:=by unfold Rw.at;rw [if_pos (.inl rfl)]
theorem at_zero (r:Rw) (o:Nat):r.at 0 o=0:=by unfold Rw.at;rw [if_pos (.inr (.inr rfl))]
theorem at_le (l:List Nat) (hl:l.length<18446744073709551616) (hb:∀n∈l,n<18446744073709551616) (share o:Nat):(rowOf l).at share o≤64:=by
 by_cases h0:l=[]
 ·rw [h0,at_empty];omega
 by_cases ho:o=0
 ·unfold Rw.at;rw [if_pos (.inr (.inl ho))];omega
 by_cases hs:share=0
 ·rw [hs,at_zero];omega
 exact (at_spec l hl hb share o h0 (by omega) (by omega)).1
theorem below_mono (l:List Nat) {i j:Nat} (h:i≤j):below l i≤below l j:=by
 unfold below
 refine List.countP_mono_left (fun x _ hx => ?_)
 simp only [decide_eq_true_eq] at hx ⊢
 omega
theorem pre_lt_below (l:List Nat) {i j:Nat} (h:i<j):pre l i≤below l j:=by rw [← below_succ];exact below_mono l h
theorem foldl_max_ge (l:List Nat):∀a,a≤l.foldl max a∧∀n∈l,n≤l.foldl max a:=by
 induction l with
 | nil=>intro a;simp
 | cons b r ih =>
  intro a
  have:=ih (max a b)
  simp only [Zbd]
  refine ⟨by omega,fun n hn => ?_⟩
  rcases List.mem_cons.1 hn with rfl|hn
  ·omega
  ·exact this.2 n hn
theorem foldl_max_mem (l:List Nat):∀a,l.foldl max a=a∨l.foldl max a∈l:=by
 induction l with
 | nil=>intro a;exact .inl rfl
 | cons b r ih =>
  intro a
  simp only [Zbd]
  rcases ih (max a b) with h|h
  ·rw [h]
   rcases Nat.le_total a b with x|x
   ·right;rw [Nat.max_eq_right x];simp
   ·left;exact Nat.max_eq_left x
  ·exact .inr (List.mem_cons_of_mem _ h)
theorem maxN_mem (l:List Nat) (h0:l≠[]):maxN l∈l:=by
 rcases foldl_max_mem l 0 with h|h
 ·cases l with
  | nil=>exact (h0 rfl).elim
  | cons a r =>
   have:=(foldl_max_ge (a :: r) 0).2 a (by simp)
   rw [h] at this
   have:a=0:=by omega
   subst this
   unfold maxN
   rw [h];simp
 ·exact h
end Go.Tal
namespace Go.VrK
open Go Go.Vc Go.Proofs.Tryz
set_option maxRecDepth 100000
noncomputable def c6:CC:=(.seq (.ops [⟨none,some 6,.alloc 4 (.bool false)⟩])
 (.seq (.seq (.ops [⟨none,some 15,.call 7 []⟩,⟨none,some 16,.not (.tmp 15)⟩])
 (.cond (.tmp 16)
 (.seq (.ops [⟨none,none,.store1 (.tmp 6) (.const (.bool false))⟩])
 .ret)
 .skip))
 (.seq (.seq (.ops [mvt 17 0,⟨none,some 18,.lenL (.tmp 17)⟩,⟨none,some 19,.iop .gtr (.tmp 18) (.const (.int .i64 100))⟩])
 (.cond (.tmp 19)
 (.seq (.ops [⟨none,none,.store1 (.tmp 6) (.const (.bool true))⟩])
 .ret)
 .skip))
 (.seq (.ops [⟨none,some 20,.call 8 []⟩,mvt 7 20])
 (.seq (.seq (.ops [mvt 21 0,⟨none,some 22,.lenL (.tmp 21)⟩,⟨none,some 23,.mv (.const (.int .i64 0))⟩])
 (.block 0
 (.loop
 (.seq (.ops [⟨none,some 24,.iop .lss (.tmp 23) (.tmp 22)⟩])
 (.seq (.cond (.tmp 24)
 .skip
 (.exit 0))
 (.seq (.block 1
 (.seq (.ops [⟨none,some 25,.iaddr 2 (.tmp 21) (.tmp 23)⟩,⟨none,some 26,.loadN 2 (.tmp 25)⟩,⟨none,some 9,.alloc 29 (.agg #[.string (.mk #[]),.int .u64 0])⟩,⟨none,none,.storeN 2 (.tmp 9) (.tmp 26)⟩])
 (.seq (.ops [mvt 27 7,⟨none,some 28,.faddr 0 (.tmp 9)⟩,⟨none,some 29,.load1 (.tmp 28)⟩,⟨none,some 30,.faddr 1 (.tmp 9)⟩,⟨none,some 31,.load1 (.tmp 30)⟩,⟨none,some 32,.call 9 [.tmp 27,.tmp 29,.tmp 31]⟩])
 (.seq (.draw 10 (opsOf (sub (bodyOf f6) [1,1,1,1,0,1,0,0,1,1,0,0,1,1,0])) [⟨none,some 33,.faddr 1 (.tmp 9)⟩,⟨none,some 34,.load1 (.tmp 33)⟩,⟨none,some 35,.call 22 [.tmp 34]⟩,⟨none,some 36,.faddr 1 (.tmp 9)⟩,⟨none,some 37,.load1 (.tmp 36)⟩,⟨none,some 38,.call 23 [.tmp 37]⟩,⟨none,some 39,.iop .neq (.tmp 35) (.tmp 38)⟩])
 (.cond (.tmp 39)
 (.seq (.ops [⟨none,none,.store1 (.tmp 6) (.const (.bool false))⟩])
 .ret)
 .skip)))))
 (.ops [⟨none,some 40,.iop .add (.tmp 23) (.const (.int .i64 1))⟩,mvt 23 40])))))))
 (.seq (.ops [mvt 41 0,⟨none,some 42,.call 16 [.tmp 41]⟩,mvt 10 42])
 (.seq (.seq (.ops [mvt 43 10,⟨none,some 44,.raw 91 (.mk (some 44) (.range 44 (.tmp 43)) 0 "law.go:69" #[.mk 0 .data] none)⟩])
 (.block 2
 (.loop
 (.seq (.ops [⟨none,some 45,.raw 91 (.mk (some 45) (.next (.tmp 44) false) 0 "law.go:69" #[] none)⟩,⟨none,some 46,.ext (.tmp 45) 0⟩])
 (.seq (.cond (.tmp 46)
 .skip
 (.exit 2))
 (.block 3
 (.seq (.ops [⟨none,some 47,.raw 91 (.mk (some 47) (.entry (.tmp 44)) 0 "law.go:69" #[] none)⟩,⟨none,some 48,.ext (.tmp 47) 0⟩,⟨none,some 49,.ext (.tmp 47) 1⟩,mvt 11 48,mvt 12 49])
 (.seq (.ops [mvt 50 7,mvt 51 11,⟨none,some 52,.call 24 [.tmp 50,.tmp 51]⟩,mvt 53 1,mvt 54 2,⟨none,some 55,.call 21 [.tmp 52,.tmp 53,.tmp 54]⟩,mvt 56 12,mvt 57 1,mvt 58 2,⟨none,some 59,.call 25 [.tmp 56,.tmp 57,.tmp 58]⟩,⟨none,some 60,.iop .neq (.tmp 55) (.tmp 59)⟩])
 (.cond (.tmp 60)
 (.seq (.ops [⟨none,none,.store1 (.tmp 6) (.const (.bool false))⟩])
 .ret)
 .skip)))))))))
 (.seq (.ops [⟨none,some 13,.mv (.const (.pointer none))⟩])
 (.seq (.ops [mvt 61 13,⟨none,some 62,.call 19 [.tmp 61,.const (.int .i64 1),.const (.int .u64 1)]⟩])
 (.seq (.ops [mvt 63 13,⟨none,some 64,.call 18 []⟩,⟨none,some 65,.call 26 [.tmp 63,.tmp 64]⟩])
 (.seq (.seq (.ops [mvt 66 13,⟨none,some 67,.call 27 [.tmp 66]⟩])
 (.block 4
 (.range (.tmp 67) #[68,69] (sub (bodyOf f6) [1,1,1,1,1,1,1,1,1,1,0,1,0,0]) (sub (bodyOf f6) [1,1,1,1,1,1,1,1,1,1,0,1,0,1])
 .skip
 (.block 5
 (.seq (.ops [⟨none,none,.store1 (.tmp 6) (.const (.bool false))⟩])
 .ret)))))
 (.seq (.ops [⟨none,some 70,.build [.int .u64 0,.int .u64 0,.int .u64 0,.int .u64 0,.int .u64 0,.int .u64 0,.int .u64 0,.int .u64 0,.int .u64 0,.int .u64 0,.int .u64 0,.int .u64 0,.int .u64 0,.int .u64 0,.int .u64 0,.int .u64 0,.int .u64 0,.int .u64 0,.int .u64 0,.int .u64 0,.int .u64 0,.int .u64 0,.int .u64 0,.int .u64 0,.int .u64 0,.int .u64 0,.int .u64 0,.int .u64 0,.int .u64 0,.int .u64 0,.int .u64 0,.int .u64 0,.int .u64 0,.int .u64 0,.int .u64 0,.int .u64 0,.int .u64 0,.int .u64 0,.int .u64 0,.int .u64 0,.int .u64 0,.int .u64 0,.int .u64 0,.int .u64 0,.int .u64 0,.int .u64 0,.int .u64 0,.int .u64 0,.int .u64 0,.int .u64 0,.int .u64 0,.int .u64 0,.int .u64 0,.int .u64 0,.int .u64 0,.int .u64 0,.int .u64 0,.int .u64 0,.int .u64 0,.int .u64 0,.int .u64 0,.int .u64 0,.int .u64 0,.int .u64 0,.int .u64 0,.int .u64 0,.int .u64 0,.int .u64 0,.int .u64 0] []⟩,⟨none,some 14,.alloc 42 (.agg #[.int .u64 0,.int .u64 0,.int .u64 0,.int .u64 0,.int .u64 0,.int .u64 0,.int .u64 0,.int .u64 0,.int .u64 0,.int .u64 0,.int .u64 0,.int .u64 0,.int .u64 0,.int .u64 0,.int .u64 0,.int .u64 0,.int .u64 0,.int .u64 0,.int .u64 0,.int .u64 0,.int .u64 0,.int .u64 0,.int .u64 0,.int .u64 0,.int .u64 0,.int .u64 0,.int .u64 0,.int .u64 0,.int .u64 0,.int .u64 0,.int .u64 0,.int .u64 0,.int .u64 0,.int .u64 0,.int .u64 0,.int .u64 0,.int .u64 0,.int .u64 0,.int .u64 0,.int .u64 0,.int .u64 0,.int .u64 0,.int .u64 0,.int .u64 0,.int .u64 0,.int .u64 0,.int .u64 0,.int .u64 0,.int .u64 0,.int .u64 0,.int .u64 0,.int .u64 0,.int .u64 0,.int .u64 0,.int .u64 0,.int .u64 0,.int .u64 0,.int .u64 0,.int .u64 0,.int .u64 0,.int .u64 0,.int .u64 0,.int .u64 0,.int .u64 0,.int .u64 0,.int .u64 0,.int .u64 0,.int .u64 0,.int .u64 0])⟩,⟨none,none,.storeN 69 (.tmp 14) (.tmp 70)⟩])
 (.seq (.draw 25 (opsOf (sub (bodyOf f6) [1,1,1,1,1,1,1,1,1,1,1,1,0])) [mvt 71 7,mvt 72 10,⟨none,some 73,.call 15 [.tmp 71,.tmp 72]⟩,mvt 74 73,⟨some (74,true),some 75,.mv (.tmp 7)⟩,⟨some (74,true),some 76,.call 24 [.tmp 75,.const (.string (.mk #[110,111,32,115,117,99,104,32,107,101,121]))]⟩,⟨some (74,true),some 77,.loadN 69 (.tmp 14)⟩,⟨some (74,true),some 78,.raw 91 (.mk (some 78) (.binOp .eql 42 (.tmp 76) (.tmp 77) 42) 4 "law.go:81" #[.mk 5 .data,.mk 6 .data,.mk 3 .guard] (some (3,true)))⟩,⟨some (74,true),some 79,.mv (.tmp 10)⟩,⟨some (74,true),some 80,.raw 91 (.mk (some 80) (.lookup 44 (.tmp 79) (.const (.string (.mk #[110,111,32,115,117,99,104,32,107,101,121]))) false) 49 "law.go:81" #[.mk 8 .data,.mk 3 .guard] (some (3,true)))⟩,⟨some (74,true),some 81,.lenL (.tmp 80)⟩,⟨some (74,true),some 82,.iop .eql (.tmp 81) (.const (.int .i64 0))⟩,⟨some (74,true),some 83,.bop false (.tmp 78) (.tmp 82)⟩,⟨none,some 84,.pick (.tmp 74) (.tmp 83) (.const (.bool false))⟩,mvt 85 84,⟨some (85,true),some 86,.mv (.tmp 13)⟩,⟨some (85,true),some 87,.call 20 [.tmp 86,.const (.int .i64 1)]⟩,⟨some (85,true),some 88,.loadN 69 (.tmp 14)⟩,⟨some (85,true),some 89,.raw 91 (.mk (some 89) (.binOp .eql 42 (.tmp 87) (.tmp 88) 42) 4 "law.go:81" #[.mk 16 .data,.mk 17 .data,.mk 14 .guard] (some (14,true)))⟩,⟨none,some 90,.pick (.tmp 85) (.tmp 89) (.const (.bool false))⟩,⟨none,none,.store1 (.tmp 6) (.tmp 90)⟩])
 .ret)))))))))))))
abbrev r6:List RV:=[(.c1 6)]
theorem F6:FnOk prog 6 91 c6 r6:=FnOk.o func6
noncomputable def c7:CC:=(.seq (.ops [⟨none,some 0,.mv (.const (.bool false))⟩])
 (.seq (.ops [⟨none,some 2,.call 8 []⟩,mvt 1 2])
 (.seq (.seq (.ops [mvt 3 1,⟨none,some 4,.pnil 0 false (.tmp 3)⟩,mvt 5 4,⟨some (5,false),some 6,.call 28 []⟩,⟨some (5,false),some 7,.not (.tmp 6)⟩,⟨none,some 8,.pick (.tmp 5) (.const (.bool true)) (.tmp 7)⟩])
 (.cond (.tmp 8)
 (.seq (.ops [⟨none,some 0,.mv (.const (.bool false))⟩])
 .ret)
 .skip))
 (.seq (.ops [mvt 9 1,⟨none,some 10,.call 9 [.tmp 9,.const (.string (.mk #[97])),.const (.int .u64 5)]⟩])
 (.seq (.ops [⟨none,some 11,.call 22 [.const (.int .u64 5)]⟩,⟨none,some 12,.iop .eql (.tmp 11) (.const (.int .i64 3))⟩,mvt 13 12,⟨some (13,true),some 14,.mv (.tmp 1)⟩,⟨some (13,true),some 15,.call 24 [.tmp 14,.const (.string (.mk #[97]))]⟩,⟨some (13,true),some 16,.fld1 0 (.tmp 15)⟩,⟨some (13,true),some 17,.iop .eql (.tmp 16) (.const (.int .u64 1))⟩,⟨none,some 18,.pick (.tmp 13) (.tmp 17) (.const (.bool false))⟩,mvt 19 18,⟨some (19,true),some 20,.mv (.tmp 1)⟩,⟨some (19,true),some 21,.call 24 [.tmp 20,.const (.string (.mk #[97]))]⟩,⟨some (19,true),some 22,.fldN 4 65 (.tmp 21)⟩,⟨some (19,true),some 23,.raw 26 (.mk (some 23) (.index 40 (.tmp 22) (.const (.int .i64 3))) 27 "law.go:18" #[.mk 11 .data,.mk 8 .guard] (some (8,true)))⟩,⟨some (19,true),some 24,.iop .eql (.tmp 23) (.const (.int .u64 1))⟩,⟨none,some 25,.pick (.tmp 19) (.tmp 24) (.const (.bool false))⟩,mvt 0 25])
 .ret)))))
abbrev r7:List RV:=[(.tmp 0)]
theorem F7:FnOk prog 7 26 c7 r7:=FnOk.o func7
noncomputable def c8:CC:=(.seq (.ops [⟨none,some 0,.mv (.const (.pointer none))⟩])
 (.seq (.ops [⟨none,some 1,.raw 4 (.mk (some 1) (.makeMap 70 none) 70 "tally.go:25" #[] none)⟩,⟨none,some 2,.build [.map none] [(0,(1,.tmp 1))]⟩,⟨none,some 3,.box 72 (.tmp 2)⟩,mvt 0 3])
 .ret))
abbrev r8:List RV:=[(.tmp 0)]
theorem F8:FnOk prog 8 4 c8 r8:=FnOk.o func8
noncomputable def c9:CC:=(.seq (.seq (.ops [mvt 7 0,⟨none,some 8,.pnil 0 false (.tmp 7)⟩])
 (.cond (.tmp 8)
 .ret
 .skip))
 (.seq (.ops [mvt 9 2,mvt 10 2,mvt 11 2,⟨none,some 12,.build [.int .u64 0,.int .u64 0,.int .u64 0,.int .u64 0,.int .u64 0,.int .u64 0,.int .u64 0,.int .u64 0,.int .u64 0,.int .u64 0,.int .u64 0,.int .u64 0,.int .u64 0,.int .u64 0,.int .u64 0,.int .u64 0,.int .u64 0,.int .u64 0,.int .u64 0,.int .u64 0,.int .u64 0,.int .u64 0,.int .u64 0,.int .u64 0,.int .u64 0,.int .u64 0,.int .u64 0,.int .u64 0,.int .u64 0,.int .u64 0,.int .u64 0,.int .u64 0,.int .u64 0,.int .u64 0,.int .u64 0,.int .u64 0,.int .u64 0,.int .u64 0,.int .u64 0,.int .u64 0,.int .u64 0,.int .u64 0,.int .u64 0,.int .u64 0,.int .u64 0,.int .u64 0,.int .u64 0,.int .u64 0,.int .u64 0,.int .u64 0,.int .u64 0,.int .u64 0,.int .u64 0,.int .u64 0,.int .u64 0,.int .u64 0,.int .u64 0,.int .u64 0,.int .u64 0,.int .u64 0,.int .u64 0,.int .u64 0,.int .u64 0,.int .u64 0,.int .u64 0,.int .u64 0,.int .u64 0,.int .u64 0,.int .u64 0] [(0,(1,.const (.int .u64 1))),(1,(1,.tmp 9)),(2,(1,.tmp 10)),(3,(1,.tmp 11))]⟩,⟨none,some 6,.alloc 42 (.agg #[.int .u64 0,.int .u64 0,.int .u64 0,.int .u64 0,.int .u64 0,.int .u64 0,.int .u64 0,.int .u64 0,.int .u64 0,.int .u64 0,.int .u64 0,.int .u64 0,.int .u64 0,.int .u64 0,.int .u64 0,.int .u64 0,.int .u64 0,.int .u64 0,.int .u64 0,.int .u64 0,.int .u64 0,.int .u64 0,.int .u64 0,.int .u64 0,.int .u64 0,.int .u64 0,.int .u64 0,.int .u64 0,.int .u64 0,.int .u64 0,.int .u64 0,.int .u64 0,.int .u64 0,.int .u64 0,.int .u64 0,.int .u64 0,.int .u64 0,.int .u64 0,.int .u64 0,.int .u64 0,.int .u64 0,.int .u64 0,.int .u64 0,.int .u64 0,.int .u64 0,.int .u64 0,.int .u64 0,.int .u64 0,.int .u64 0,.int .u64 0,.int .u64 0,.int .u64 0,.int .u64 0,.int .u64 0,.int .u64 0,.int .u64 0,.int .u64 0,.int .u64 0,.int .u64 0,.int .u64 0,.int .u64 0,.int .u64 0,.int .u64 0,.int .u64 0,.int .u64 0,.int .u64 0,.int .u64 0,.int .u64 0,.int .u64 0])⟩,⟨none,none,.storeN 69 (.tmp 6) (.tmp 12)⟩])
 (.seq (.ops [mvt 13 2,⟨none,some 14,.call 22 [.tmp 13]⟩,⟨none,some 15,.faddr 4 (.tmp 6)⟩,⟨none,some 16,.iaddrA 65 1 (.tmp 15) (.tmp 14)⟩,⟨none,none,.store1 (.tmp 16) (.const (.int .u64 1))⟩])
 (.draw 3 (opsOf (sub (bodyOf f9) [1,1,1])) [mvt 17 0,⟨none,some 18,.nilc (.tmp 17)⟩,⟨none,some 19,.faddr 0 (.tmp 18)⟩,⟨none,some 20,.load1 (.tmp 19)⟩,mvt 21 1,mvt 22 0,⟨none,some 23,.nilc (.tmp 22)⟩,⟨none,some 24,.faddr 0 (.tmp 23)⟩,⟨none,some 25,.load1 (.tmp 24)⟩,mvt 26 1,⟨none,some 27,.raw 30 (.mk (some 27) (.lookup 70 (.tmp 25) (.tmp 26) false) 42 "tally.go:54" #[.mk 8 .data,.mk 9 .data] none)⟩,⟨none,some 28,.loadN 69 (.tmp 6)⟩,⟨none,some 29,.call 29 [.tmp 27,.tmp 28]⟩,⟨none,none,.raw 30 (.mk none (.mapUpdate 70 (.tmp 20) (.tmp 21) (.tmp 29)) 0 "tally.go:54" #[.mk 3 .data,.mk 4 .data,.mk 12 .data,.mk 12 .chain,.mk 0 .phase,.mk 1 .phase,.mk 2 .phase,.mk 3 .phase,.mk 4 .phase,.mk 5 .phase,.mk 6 .phase,.mk 7 .phase,.mk 8 .phase,.mk 9 .phase,.mk 10 .phase,.mk 11 .phase,.mk 12 .phase] none)⟩]))))
abbrev r9:List RV:=[]
theorem F9:FnOk prog 9 30 c9 r9:=FnOk.o func9
noncomputable def c15:CC:=(.seq (.ops [⟨none,some 3,.box 44 (.tmp 1)⟩,⟨none,some 4,.alloc 4 (.bool false)⟩])
 (.seq (.ops [⟨none,some 5,.alloc 3 (.int .i64 0)⟩,⟨none,some 6,.alloc 9 (.string (.mk #[]))⟩,⟨none,none,.store1 (.tmp 5) (.const (.int .i64 0))⟩,⟨none,none,.store1 (.tmp 6) (.const (.string (.mk #[])))⟩])
 (.seq (.seq (.ops [mvt 12 0,⟨none,some 13,.call 30 [.tmp 12]⟩])
 (.block 0
 (.range (.tmp 13) #[14,15] (sub (bodyOf f15) [1,1,0,1,0,0]) (sub (bodyOf f15) [1,1,0,1,0,1])
 (.seq (.ops [mvt 7 14])
 (.ops [⟨none,some 8,.alloc 42 (.agg #[.int .u64 0,.int .u64 0,.int .u64 0,.int .u64 0,.int .u64 0,.int .u64 0,.int .u64 0,.int .u64 0,.int .u64 0,.int .u64 0,.int .u64 0,.int .u64 0,.int .u64 0,.int .u64 0,.int .u64 0,.int .u64 0,.int .u64 0,.int .u64 0,.int .u64 0,.int .u64 0,.int .u64 0,.int .u64 0,.int .u64 0,.int .u64 0,.int .u64 0,.int .u64 0,.int .u64 0,.int .u64 0,.int .u64 0,.int .u64 0,.int .u64 0,.int .u64 0,.int .u64 0,.int .u64 0,.int .u64 0,.int .u64 0,.int .u64 0,.int .u64 0,.int .u64 0,.int .u64 0,.int .u64 0,.int .u64 0,.int .u64 0,.int .u64 0,.int .u64 0,.int .u64 0,.int .u64 0,.int .u64 0,.int .u64 0,.int .u64 0,.int .u64 0,.int .u64 0,.int .u64 0,.int .u64 0,.int .u64 0,.int .u64 0,.int .u64 0,.int .u64 0,.int .u64 0,.int .u64 0,.int .u64 0,.int .u64 0,.int .u64 0,.int .u64 0,.int .u64 0,.int .u64 0,.int .u64 0,.int .u64 0,.int .u64 0])⟩,⟨none,none,.storeN 69 (.tmp 8) (.tmp 15)⟩]))
 (.block 1
 (.seq (.ops [⟨none,some 17,.load1 (.tmp 3)⟩,mvt 18 7,⟨none,some 19,.raw 56 (.mk (some 19) (.lookup 44 (.tmp 17) (.tmp 18) true) 85 "law.go:40" #[.mk 0 .data,.mk 1 .data] none)⟩,mvt 16 19,⟨none,some 20,.ext (.tmp 16) 0⟩,⟨none,some 21,.ext (.tmp 16) 1⟩,mvt 9 20,mvt 10 21])
 (.seq (.seq (.draw 6 (opsOf (sub (bodyOf f15) [1,1,0,1,0,1,0,1,0,0])) [mvt 22 10,⟨none,some 23,.not (.tmp 22)⟩,mvt 24 23,⟨some (24,false),some 25,.loadN 69 (.tmp 8)⟩,⟨some (24,false),some 26,.mv (.tmp 9)⟩,⟨some (24,false),some 27,.call 34 [.tmp 26]⟩,⟨some (24,false),some 28,.raw 56 (.mk (some 28) (.binOp .neq 86 (.tmp 25) (.tmp 27) 86) 4 "law.go:41" #[.mk 3 .data,.mk 5 .data,.mk 2 .guard] (some (2,false)))⟩,⟨none,some 29,.pick (.tmp 24) (.const (.bool true)) (.tmp 28)⟩,mvt 30 29,⟨some (30,false),some 31,.load1 (.tmp 5)⟩,⟨some (30,false),some 32,.iop .gtr (.tmp 31) (.const (.int .i64 0))⟩,⟨some (30,false),some 33,.mv (.tmp 32)⟩,⟨some (33,true),some 34,.mv (.tmp 7)⟩,⟨some (33,true),some 35,.load1 (.tmp 6)⟩,⟨some (33,true),some 36,.sop .leq (.tmp 34) (.tmp 35)⟩,⟨some (30,false),some 37,.pick (.tmp 33) (.tmp 36) (.const (.bool false))⟩,⟨none,some 38,.pick (.tmp 30) (.const (.bool true)) (.tmp 37)⟩])
 (.cond (.tmp 38)
 (.seq (.ops [⟨none,none,.store1 (.tmp 4) (.const (.bool false))⟩])
 .ret)
 .skip))
 (.ops [⟨none,some 39,.load1 (.tmp 5)⟩,⟨none,some 40,.iop .add (.tmp 39) (.const (.int .i64 1))⟩,mvt 41 7,⟨none,none,.store1 (.tmp 5) (.tmp 40)⟩,⟨none,none,.store1 (.tmp 6) (.tmp 41)⟩])))))))
 (.seq (.ops [⟨none,some 11,.alloc 3 (.int .i64 0)⟩,⟨none,none,.store1 (.tmp 11) (.const (.int .i64 0))⟩])
 (.seq (.seq (.ops [mvt 42 0,⟨none,some 43,.call 35 [.tmp 42]⟩])
 (.block 2
 (.range (.tmp 43) #[44] (sub (bodyOf f15) [1,1,1,1,0,1,0,0]) (sub (bodyOf f15) [1,1,1,1,0,1,0,1])
 .skip
 (.block 3
 (.ops [⟨none,some 45,.load1 (.tmp 11)⟩,⟨none,some 46,.iop .add (.tmp 45) (.const (.int .i64 1))⟩,⟨none,none,.store1 (.tmp 11) (.tmp 46)⟩])))))
 (.seq (.ops [⟨none,some 47,.load1 (.tmp 5)⟩,⟨none,some 48,.load1 (.tmp 3)⟩,⟨none,some 49,.raw 56 (.mk (some 49) (.call (.mk (.builtin .len) #[.tmp 48] #[44])) 3 "law.go:50" #[.mk 1 .data] none)⟩,⟨none,some 50,.iop .eql (.tmp 47) (.tmp 49)⟩,mvt 51 50,⟨some (51,true),some 52,.load1 (.tmp 11)⟩,⟨some (51,true),some 53,.load1 (.tmp 5)⟩,⟨some (51,true),some 54,.iop .eql (.tmp 52) (.tmp 53)⟩,⟨none,some 55,.pick (.tmp 51) (.tmp 54) (.const (.bool false))⟩,⟨none,none,.store1 (.tmp 4) (.tmp 55)⟩])
 .ret))))))
abbrev r15:List RV:=[(.c1 4)]
theorem F15:FnOk prog 15 56 c15 r15:=FnOk.o func15
noncomputable def c16:CC:=(.seq (.ops [⟨none,some 2,.mv (.const (.map none))⟩])
 (.seq (.ops [⟨none,some 6,.raw 26 (.mk (some 6) (.makeMap 44 none) 44 "law.go:29" #[] none)⟩,mvt 3 6])
 (.seq (.seq (.ops [mvt 7 0,⟨none,some 8,.lenL (.tmp 7)⟩,⟨none,some 9,.mv (.const (.int .i64 0))⟩])
 (.block 0
 (.loop
 (.seq (.ops [⟨none,some 10,.iop .lss (.tmp 9) (.tmp 8)⟩])
 (.seq (.cond (.tmp 10)
 .skip
 (.exit 0))
 (.seq (.block 1
 (.seq (.ops [⟨none,some 11,.iaddr 2 (.tmp 7) (.tmp 9)⟩,⟨none,some 12,.loadN 2 (.tmp 11)⟩,⟨none,some 5,.alloc 29 (.agg #[.string (.mk #[]),.int .u64 0])⟩,⟨none,none,.storeN 2 (.tmp 5) (.tmp 12)⟩])
 (.draw 5 (opsOf (sub (bodyOf f16) [1,1,0,1,0,0,1,1,0,0,1])) [mvt 13 3,⟨none,some 14,.faddr 0 (.tmp 5)⟩,⟨none,some 15,.load1 (.tmp 14)⟩,mvt 16 3,⟨none,some 17,.faddr 0 (.tmp 5)⟩,⟨none,some 18,.load1 (.tmp 17)⟩,⟨none,some 19,.raw 26 (.mk (some 19) (.lookup 44 (.tmp 16) (.tmp 18) false) 49 "law.go:31" #[.mk 3 .data,.mk 5 .data] none)⟩,⟨none,some 20,.faddr 1 (.tmp 5)⟩,⟨none,some 21,.load1 (.tmp 20)⟩,⟨none,some 22,.buildS 27 1 [.int .u64 0] [(0,(1,.tmp 21))]⟩,⟨none,some 23,.raw 26 (.mk (some 23) (.call (.mk (.builtin .append) #[.tmp 19,.tmp 22] #[49,49])) 49 "law.go:31" #[.mk 6 .data,.mk 9 .data] none)⟩,⟨none,none,.raw 26 (.mk none (.mapUpdate 44 (.tmp 13) (.tmp 15) (.tmp 23)) 0 "law.go:31" #[.mk 0 .data,.mk 2 .data,.mk 10 .data,.mk 10 .chain,.mk 0 .phase,.mk 1 .phase,.mk 2 .phase,.mk 3 .phase,.mk 4 .phase,.mk 5 .phase,.mk 6 .phase,.mk 7 .phase,.mk 8 .phase,.mk 9 .phase,.mk 10 .phase] none)⟩])))
 (.ops [⟨none,some 24,.iop .add (.tmp 9) (.const (.int .i64 1))⟩,mvt 9 24])))))))
 (.seq (.ops [mvt 25 3,mvt 2 25])
 .ret))))
abbrev r16:List RV:=[(.tmp 2)]
theorem F16:FnOk prog 16 26 c16 r16:=FnOk.o func16
noncomputable def c18:CC:=(.seq (.ops [⟨none,some 0,.mv (.const (.pointer none))⟩])
 (.seq (.ops [⟨none,some 1,.raw 4 (.mk (some 1) (.makeMap 93 none) 93 "tally.go:25" #[] none)⟩,⟨none,some 2,.build [.map none] [(0,(1,.tmp 1))]⟩,⟨none,some 3,.box 95 (.tmp 2)⟩,mvt 0 3])
 .ret))
abbrev r18:List RV:=[(.tmp 0)]
theorem F18:FnOk prog 18 4 c18 r18:=FnOk.o func18
noncomputable def c19:CC:=(.seq (.seq (.ops [mvt 7 0,⟨none,some 8,.pnil 0 false (.tmp 7)⟩])
 (.cond (.tmp 8)
 .ret
 .skip))
 (.seq (.ops [mvt 9 2,mvt 10 2,mvt 11 2,⟨none,some 12,.build [.int .u64 0,.int .u64 0,.int .u64 0,.int .u64 0,.int .u64 0,.int .u64 0,.int .u64 0,.int .u64 0,.int .u64 0,.int .u64 0,.int .u64 0,.int .u64 0,.int .u64 0,.int .u64 0,.int .u64 0,.int .u64 0,.int .u64 0,.int .u64 0,.int .u64 0,.int .u64 0,.int .u64 0,.int .u64 0,.int .u64 0,.int .u64 0,.int .u64 0,.int .u64 0,.int .u64 0,.int .u64 0,.int .u64 0,.int .u64 0,.int .u64 0,.int .u64 0,.int .u64 0,.int .u64 0,.int .u64 0,.int .u64 0,.int .u64 0,.int .u64 0,.int .u64 0,.int .u64 0,.int .u64 0,.int .u64 0,.int .u64 0,.int .u64 0,.int .u64 0,.int .u64 0,.int .u64 0,.int .u64 0,.int .u64 0,.int .u64 0,.int .u64 0,.int .u64 0,.int .u64 0,.int .u64 0,.int .u64 0,.int .u64 0,.int .u64 0,.int .u64 0,.int .u64 0,.int .u64 0,.int .u64 0,.int .u64 0,.int .u64 0,.int .u64 0,.int .u64 0,.int .u64 0,.int .u64 0,.int .u64 0,.int .u64 0] [(0,(1,.const (.int .u64 1))),(1,(1,.tmp 9)),(2,(1,.tmp 10)),(3,(1,.tmp 11))]⟩,⟨none,some 6,.alloc 42 (.agg #[.int .u64 0,.int .u64 0,.int .u64 0,.int .u64 0,.int .u64 0,.int .u64 0,.int .u64 0,.int .u64 0,.int .u64 0,.int .u64 0,.int .u64 0,.int .u64 0,.int .u64 0,.int .u64 0,.int .u64 0,.int .u64 0,.int .u64 0,.int .u64 0,.int .u64 0,.int .u64 0,.int .u64 0,.int .u64 0,.int .u64 0,.int .u64 0,.int .u64 0,.int .u64 0,.int .u64 0,.int .u64 0,.int .u64 0,.int .u64 0,.int .u64 0,.int .u64 0,.int .u64 0,.int .u64 0,.int .u64 0,.int .u64 0,.int .u64 0,.int .u64 0,.int .u64 0,.int .u64 0,.int .u64 0,.int .u64 0,.int .u64 0,.int .u64 0,.int .u64 0,.int .u64 0,.int .u64 0,.int .u64 0,.int .u64 0,.int .u64 0,.int .u64 0,.int .u64 0,.int .u64 0,.int .u64 0,.int .u64 0,.int .u64 0,.int .u64 0,.int .u64 0,.int .u64 0,.int .u64 0,.int .u64 0,.int .u64 0,.int .u64 0,.int .u64 0,.int .u64 0,.int .u64 0,.int .u64 0,.int .u64 0,.int .u64 0])⟩,⟨none,none,.storeN 69 (.tmp 6) (.tmp 12)⟩])
 (.seq (.ops [mvt 13 2,⟨none,some 14,.call 22 [.tmp 13]⟩,⟨none,some 15,.faddr 4 (.tmp 6)⟩,⟨none,some 16,.iaddrA 65 1 (.tmp 15) (.tmp 14)⟩,⟨none,none,.store1 (.tmp 16) (.const (.int .u64 1))⟩])
 (.draw 3 (opsOf (sub (bodyOf f19) [1,1,1])) [mvt 17 0,⟨none,some 18,.nilc (.tmp 17)⟩,⟨none,some 19,.faddr 0 (.tmp 18)⟩,⟨none,some 20,.load1 (.tmp 19)⟩,mvt 21 1,mvt 22 0,⟨none,some 23,.nilc (.tmp 22)⟩,⟨none,some 24,.faddr 0 (.tmp 23)⟩,⟨none,some 25,.load1 (.tmp 24)⟩,mvt 26 1,⟨none,some 27,.raw 30 (.mk (some 27) (.lookup 93 (.tmp 25) (.tmp 26) false) 42 "tally.go:54" #[.mk 8 .data,.mk 9 .data] none)⟩,⟨none,some 28,.loadN 69 (.tmp 6)⟩,⟨none,some 29,.call 29 [.tmp 27,.tmp 28]⟩,⟨none,none,.raw 30 (.mk none (.mapUpdate 93 (.tmp 20) (.tmp 21) (.tmp 29)) 0 "tally.go:54" #[.mk 3 .data,.mk 4 .data,.mk 12 .data,.mk 12 .chain,.mk 0 .phase,.mk 1 .phase,.mk 2 .phase,.mk 3 .phase,.mk 4 .phase,.mk 5 .phase,.mk 6 .phase,.mk 7 .phase,.mk 8 .phase,.mk 9 .phase,.mk 10 .phase,.mk 11 .phase,.mk 12 .phase] none)⟩]))))
abbrev r19:List RV:=[]
theorem F19:FnOk prog 19 30 c19 r19:=FnOk.o func19
noncomputable def c20:CC:=(.seq (.ops [⟨none,some 4,.alloc 42 (.agg #[.int .u64 0,.int .u64 0,.int .u64 0,.int .u64 0,.int .u64 0,.int .u64 0,.int .u64 0,.int .u64 0,.int .u64 0,.int .u64 0,.int .u64 0,.int .u64 0,.int .u64 0,.int .u64 0,.int .u64 0,.int .u64 0,.int .u64 0,.int .u64 0,.int .u64 0,.int .u64 0,.int .u64 0,.int .u64 0,.int .u64 0,.int .u64 0,.int .u64 0,.int .u64 0,.int .u64 0,.int .u64 0,.int .u64 0,.int .u64 0,.int .u64 0,.int .u64 0,.int .u64 0,.int .u64 0,.int .u64 0,.int .u64 0,.int .u64 0,.int .u64 0,.int .u64 0,.int .u64 0,.int .u64 0,.int .u64 0,.int .u64 0,.int .u64 0,.int .u64 0,.int .u64 0,.int .u64 0,.int .u64 0,.int .u64 0,.int .u64 0,.int .u64 0,.int .u64 0,.int .u64 0,.int .u64 0,.int .u64 0,.int .u64 0,.int .u64 0,.int .u64 0,.int .u64 0,.int .u64 0,.int .u64 0,.int .u64 0,.int .u64 0,.int .u64 0,.int .u64 0,.int .u64 0,.int .u64 0,.int .u64 0,.int .u64 0])⟩])
 (.seq (.seq (.ops [mvt 5 0,⟨none,some 6,.pnil 0 false (.tmp 5)⟩])
 (.cond (.tmp 6)
 (.seq (.ops [⟨none,some 7,.build [.int .u64 0,.int .u64 0,.int .u64 0,.int .u64 0,.int .u64 0,.int .u64 0,.int .u64 0,.int .u64 0,.int .u64 0,.int .u64 0,.int .u64 0,.int .u64 0,.int .u64 0,.int .u64 0,.int .u64 0,.int .u64 0,.int .u64 0,.int .u64 0,.int .u64 0,.int .u64 0,.int .u64 0,.int .u64 0,.int .u64 0,.int .u64 0,.int .u64 0,.int .u64 0,.int .u64 0,.int .u64 0,.int .u64 0,.int .u64 0,.int .u64 0,.int .u64 0,.int .u64 0,.int .u64 0,.int .u64 0,.int .u64 0,.int .u64 0,.int .u64 0,.int .u64 0,.int .u64 0,.int .u64 0,.int .u64 0,.int .u64 0,.int .u64 0,.int .u64 0,.int .u64 0,.int .u64 0,.int .u64 0,.int .u64 0,.int .u64 0,.int .u64 0,.int .u64 0,.int .u64 0,.int .u64 0,.int .u64 0,.int .u64 0,.int .u64 0,.int .u64 0,.int .u64 0,.int .u64 0,.int .u64 0,.int .u64 0,.int .u64 0,.int .u64 0,.int .u64 0,.int .u64 0,.int .u64 0,.int .u64 0,.int .u64 0] []⟩,⟨none,none,.storeN 69 (.tmp 4) (.tmp 7)⟩])
 .ret)
 .skip))
 (.seq (.ops [mvt 8 0,⟨none,some 9,.nilc (.tmp 8)⟩,⟨none,some 10,.faddr 0 (.tmp 9)⟩,⟨none,some 11,.load1 (.tmp 10)⟩,mvt 12 1,⟨none,some 13,.raw 14 (.mk (some 13) (.lookup 93 (.tmp 11) (.tmp 12) false) 42 "tally.go:62" #[.mk 3 .data,.mk 4 .data] none)⟩,⟨none,none,.storeN 69 (.tmp 4) (.tmp 13)⟩])
 .ret)))
abbrev r20:List RV:=[(.cN 4 69)]
theorem F20:FnOk prog 20 14 c20 r20:=FnOk.o func20
noncomputable def c21:CC:=(.seq (.ops [⟨none,some 3,.box 42 (.tmp 0)⟩,⟨none,some 6,.mv (.const (.int .i64 0))⟩])
 (.seq (.seq (.ops [⟨none,some 11,.faddr 0 (.tmp 3)⟩,⟨none,some 12,.load1 (.tmp 11)⟩,⟨none,some 13,.iop .eql (.tmp 12) (.const (.int .u64 0))⟩,mvt 14 13,⟨some (14,false),some 15,.mv (.tmp 2)⟩,⟨some (14,false),some 16,.iop .eql (.tmp 15) (.const (.int .u64 0))⟩,⟨none,some 17,.pick (.tmp 14) (.const (.bool true)) (.tmp 16)⟩,mvt 18 17,⟨some (18,false),some 19,.mv (.tmp 1)⟩,⟨some (18,false),some 20,.iop .eql (.tmp 19) (.const (.int .u64 0))⟩,⟨none,some 21,.pick (.tmp 18) (.const (.bool true)) (.tmp 20)⟩])
 (.cond (.tmp 21)
 (.seq (.ops [⟨none,some 6,.mv (.const (.int .i64 0))⟩])
 .ret)
 .skip))
 (.seq (.ops [⟨none,some 22,.faddr 0 (.tmp 3)⟩,⟨none,some 23,.load1 (.tmp 22)⟩,mvt 24 1,mvt 25 2,⟨none,some 26,.call 36 [.tmp 23,.tmp 24,.tmp 25]⟩,mvt 7 26])
 (.seq (.ops [⟨none,some 8,.mv (.const (.int .u64 0))⟩])
 (.seq (.seq (.ops [⟨none,some 27,.faddr 4 (.tmp 3)⟩,⟨none,some 28,.loadN 65 (.tmp 27)⟩,⟨none,some 29,.mv (.const (.int .i64 0))⟩])
 (.block 0
 (.loop
 (.seq (.ops [⟨none,some 30,.iop .lss (.tmp 29) (.const (.int .i64 65))⟩])
 (.seq (.cond (.tmp 30)
 .skip
 (.exit 0))
 (.seq (.block 1
 (.seq (.ops [mvt 31 29,⟨none,some 32,.raw 41 (.mk (some 32) (.index 40 (.tmp 28) (.tmp 29)) 27 "tally.go:119" #[] none)⟩,mvt 9 31,mvt 10 32])
 (.seq (.ops [mvt 33 8,mvt 34 10,⟨none,some 35,.iop .add (.tmp 33) (.tmp 34)⟩,mvt 8 35])
 (.seq (.ops [mvt 36 8,mvt 37 7,⟨none,some 38,.iop .geq (.tmp 36) (.tmp 37)⟩])
 (.cond (.tmp 38)
 (.seq (.ops [mvt 39 9,mvt 6 39])
 .ret)
 .skip)))))
 (.ops [⟨none,some 40,.iop .add (.tmp 29) (.const (.int .i64 1))⟩,mvt 29 40])))))))
 (.seq (.ops [⟨none,some 6,.mv (.const (.int .i64 64))⟩])
 .ret))))))
abbrev r21:List RV:=[(.tmp 6)]
theorem F21:FnOk prog 21 41 c21 r21:=FnOk.o func21
noncomputable def c22:CC:=(.seq (.ops [⟨none,some 2,.mv (.const (.int .i64 0))⟩])
 (.seq (.ops [mvt 3 0,⟨none,some 4,.call 37 [.tmp 3]⟩,mvt 2 4])
 .ret))
abbrev r22:List RV:=[(.tmp 2)]
theorem F22:FnOk prog 22 5 c22 r22:=FnOk.o func22
noncomputable def c23:CC:=(.seq (.ops [⟨none,some 2,.mv (.const (.int .i64 0))⟩])
 (.seq (.ops [⟨none,some 3,.mv (.const (.int .i64 0))⟩])
 (.seq (.block 0
 (.loop
 (.seq (.seq (.ops [mvt 4 0,⟨none,some 5,.iop .gtr (.tmp 4) (.const (.int .u64 0))⟩])
 (.cond (.tmp 5)
 .skip
 (.exit 0)))
 (.block 1
 (.seq (.ops [mvt 6 0,⟨none,some 7,.iop .quo (.tmp 6) (.const (.int .u64 2))⟩,mvt 0 7])
 (.ops [mvt 8 3,⟨none,some 9,.iop .add (.tmp 8) (.const (.int .i64 1))⟩,mvt 3 9]))))))
 (.seq (.ops [mvt 10 3,mvt 2 10])
 .ret))))
abbrev r23:List RV:=[(.tmp 2)]
theorem F23:FnOk prog 23 11 c23 r23:=FnOk.o func23
noncomputable def c24:CC:=(.seq (.ops [⟨none,some 4,.alloc 42 (.agg #[.int .u64 0,.int .u64 0,.int .u64 0,.int .u64 0,.int .u64 0,.int .u64 0,.int .u64 0,.int .u64 0,.int .u64 0,.int .u64 0,.int .u64 0,.int .u64 0,.int .u64 0,.int .u64 0,.int .u64 0,.int .u64 0,.int .u64 0,.int .u64 0,.int .u64 0,.int .u64 0,.int .u64 0,.int .u64 0,.int .u64 0,.int .u64 0,.int .u64 0,.int .u64 0,.int .u64 0,.int .u64 0,.int .u64 0,.int .u64 0,.int .u64 0,.int .u64 0,.int .u64 0,.int .u64 0,.int .u64 0,.int .u64 0,.int .u64 0,.int .u64 0,.int .u64 0,.int .u64 0,.int .u64 0,.int .u64 0,.int .u64 0,.int .u64 0,.int .u64 0,.int .u64 0,.int .u64 0,.int .u64 0,.int .u64 0,.int .u64 0,.int .u64 0,.int .u64 0,.int .u64 0,.int .u64 0,.int .u64 0,.int .u64 0,.int .u64 0,.int .u64 0,.int .u64 0,.int .u64 0,.int .u64 0,.int .u64 0,.int .u64 0,.int .u64 0,.int .u64 0,.int .u64 0,.int .u64 0,.int .u64 0,.int .u64 0])⟩])
 (.seq (.seq (.ops [mvt 5 0,⟨none,some 6,.pnil 0 false (.tmp 5)⟩])
 (.cond (.tmp 6)
 (.seq (.ops [⟨none,some 7,.build [.int .u64 0,.int .u64 0,.int .u64 0,.int .u64 0,.int .u64 0,.int .u64 0,.int .u64 0,.int .u64 0,.int .u64 0,.int .u64 0,.int .u64 0,.int .u64 0,.int .u64 0,.int .u64 0,.int .u64 0,.int .u64 0,.int .u64 0,.int .u64 0,.int .u64 0,.int .u64 0,.int .u64 0,.int .u64 0,.int .u64 0,.int .u64 0,.int .u64 0,.int .u64 0,.int .u64 0,.int .u64 0,.int .u64 0,.int .u64 0,.int .u64 0,.int .u64 0,.int .u64 0,.int .u64 0,.int .u64 0,.int .u64 0,.int .u64 0,.int .u64 0,.int .u64 0,.int .u64 0,.int .u64 0,.int .u64 0,.int .u64 0,.int .u64 0,.int .u64 0,.int .u64 0,.int .u64 0,.int .u64 0,.int .u64 0,.int .u64 0,.int .u64 0,.int .u64 0,.int .u64 0,.int .u64 0,.int .u64 0,.int .u64 0,.int .u64 0,.int .u64 0,.int .u64 0,.int .u64 0,.int .u64 0,.int .u64 0,.int .u64 0,.int .u64 0,.int .u64 0,.int .u64 0,.int .u64 0,.int .u64 0,.int .u64 0] []⟩,⟨none,none,.storeN 69 (.tmp 4) (.tmp 7)⟩])
 .ret)
 .skip))
 (.seq (.ops [mvt 8 0,⟨none,some 9,.nilc (.tmp 8)⟩,⟨none,some 10,.faddr 0 (.tmp 9)⟩,⟨none,some 11,.load1 (.tmp 10)⟩,mvt 12 1,⟨none,some 13,.raw 14 (.mk (some 13) (.lookup 70 (.tmp 11) (.tmp 12) false) 42 "tally.go:62" #[.mk 3 .data,.mk 4 .data] none)⟩,⟨none,none,.storeN 69 (.tmp 4) (.tmp 13)⟩])
 .ret)))
abbrev r24:List RV:=[(.cN 4 69)]
theorem F24:FnOk prog 24 14 c24 r24:=FnOk.o func24
noncomputable def c25:CC:=(.seq (.ops [⟨none,some 6,.mv (.const (.int .i64 0))⟩])
 (.seq (.seq (.ops [mvt 11 0,⟨none,some 12,.lenL (.tmp 11)⟩,⟨none,some 13,.iop .eql (.tmp 12) (.const (.int .i64 0))⟩,mvt 14 13,⟨some (14,false),some 15,.mv (.tmp 2)⟩,⟨some (14,false),some 16,.iop .eql (.tmp 15) (.const (.int .u64 0))⟩,⟨none,some 17,.pick (.tmp 14) (.const (.bool true)) (.tmp 16)⟩,mvt 18 17,⟨some (18,false),some 19,.mv (.tmp 1)⟩,⟨some (18,false),some 20,.iop .eql (.tmp 19) (.const (.int .u64 0))⟩,⟨none,some 21,.pick (.tmp 18) (.const (.bool true)) (.tmp 20)⟩])
 (.cond (.tmp 21)
 (.seq (.ops [⟨none,some 6,.mv (.const (.int .i64 0))⟩])
 .ret)
 .skip))
 (.seq (.seq (.ops [mvt 22 1,mvt 23 2,⟨none,some 24,.iop .gtr (.tmp 22) (.tmp 23)⟩])
 (.cond (.tmp 24)
 (.ops [mvt 25 2,mvt 1 25])
 .skip))
 (.seq (.seq (.ops [⟨none,some 7,.mv (.const (.int .i64 0))⟩])
 (.block 0
 (.loop
 (.seq (.seq (.ops [mvt 26 7,⟨none,some 27,.iop .leq (.tmp 26) (.const (.int .i64 64))⟩])
 (.cond (.tmp 27)
 .skip
 (.exit 0)))
 (.seq (.block 1
 (.seq (.ops [⟨none,some 8,.mv (.const (.int .u64 0))⟩])
 (.seq (.seq (.ops [mvt 30 0,⟨none,some 31,.lenL (.tmp 30)⟩,⟨none,some 32,.mv (.const (.int .i64 0))⟩])
 (.block 2
 (.loop
 (.seq (.ops [⟨none,some 33,.iop .lss (.tmp 32) (.tmp 31)⟩])
 (.seq (.cond (.tmp 33)
 .skip
 (.exit 2))
 (.seq (.block 3
 (.seq (.ops [⟨none,some 34,.iaddr 1 (.tmp 30) (.tmp 32)⟩,⟨none,some 35,.load1 (.tmp 34)⟩,mvt 10 35])
 (.seq (.ops [mvt 36 10,⟨none,some 37,.call 23 [.tmp 36]⟩,mvt 38 7,⟨none,some 39,.iop .leq (.tmp 37) (.tmp 38)⟩])
 (.cond (.tmp 39)
 (.ops [mvt 40 8,⟨none,some 41,.iop .add (.tmp 40) (.const (.int .u64 1))⟩,mvt 8 41])
 .skip))))
 (.ops [⟨none,some 42,.iop .add (.tmp 32) (.const (.int .i64 1))⟩,mvt 32 42])))))))
 (.seq (.ops [mvt 43 8,mvt 44 2,mvt 45 0,⟨none,some 46,.lenL (.tmp 45)⟩,⟨none,some 47,.conv .u64 (.tmp 46)⟩,mvt 48 1,⟨none,some 49,.call 38 [.tmp 43,.tmp 44,.tmp 47,.tmp 48]⟩])
 (.cond (.tmp 49)
 (.seq (.ops [mvt 50 7,mvt 6 50])
 .ret)
 .skip)))))
 (.ops [mvt 28 7,⟨none,some 29,.iop .add (.tmp 28) (.const (.int .i64 1))⟩,mvt 7 29]))))))
 (.seq (.ops [⟨none,some 6,.mv (.const (.int .i64 64))⟩])
 .ret)))))
abbrev r25:List RV:=[(.tmp 6)]
theorem F25:FnOk prog 25 51 c25 r25:=FnOk.o func25
noncomputable def c26:CC:=(.seq (.ops [⟨none,some 2,.box 56 (.tmp 0)⟩])
 (.seq (.ops [mvt 6 1,⟨none,some 7,.call 27 [.tmp 6]⟩])
 (.block 0
 (.range (.tmp 7) #[8,9] (sub (bodyOf f26) [1,1,0,0]) (sub (bodyOf f26) [1,1,0,1])
 (.seq (.ops [mvt 4 8])
 (.ops [⟨none,some 5,.alloc 42 (.agg #[.int .u64 0,.int .u64 0,.int .u64 0,.int .u64 0,.int .u64 0,.int .u64 0,.int .u64 0,.int .u64 0,.int .u64 0,.int .u64 0,.int .u64 0,.int .u64 0,.int .u64 0,.int .u64 0,.int .u64 0,.int .u64 0,.int .u64 0,.int .u64 0,.int .u64 0,.int .u64 0,.int .u64 0,.int .u64 0,.int .u64 0,.int .u64 0,.int .u64 0,.int .u64 0,.int .u64 0,.int .u64 0,.int .u64 0,.int .u64 0,.int .u64 0,.int .u64 0,.int .u64 0,.int .u64 0,.int .u64 0,.int .u64 0,.int .u64 0,.int .u64 0,.int .u64 0,.int .u64 0,.int .u64 0,.int .u64 0,.int .u64 0,.int .u64 0,.int .u64 0,.int .u64 0,.int .u64 0,.int .u64 0,.int .u64 0,.int .u64 0,.int .u64 0,.int .u64 0,.int .u64 0,.int .u64 0,.int .u64 0,.int .u64 0,.int .u64 0,.int .u64 0,.int .u64 0,.int .u64 0,.int .u64 0,.int .u64 0,.int .u64 0,.int .u64 0,.int .u64 0,.int .u64 0,.int .u64 0,.int .u64 0,.int .u64 0])⟩,⟨none,none,.storeN 69 (.tmp 5) (.tmp 9)⟩]))
 (.block 1
 (.seq (.ops [⟨none,some 10,.load1 (.tmp 2)⟩,⟨none,some 11,.pnil 0 true (.tmp 10)⟩])
 (.cond (.tmp 11)
 (.draw 5 (opsOf (sub (bodyOf f26) [1,1,0,1,0,1,0])) [⟨none,some 12,.load1 (.tmp 2)⟩,⟨none,some 13,.nilc (.tmp 12)⟩,⟨none,some 14,.faddr 0 (.tmp 13)⟩,⟨none,some 15,.load1 (.tmp 14)⟩,mvt 16 4,⟨none,some 17,.load1 (.tmp 2)⟩,⟨none,some 18,.nilc (.tmp 17)⟩,⟨none,some 19,.faddr 0 (.tmp 18)⟩,⟨none,some 20,.load1 (.tmp 19)⟩,mvt 21 4,⟨none,some 22,.raw 25 (.mk (some 22) (.lookup 93 (.tmp 20) (.tmp 21) false) 42 "tally.go:94" #[.mk 8 .data,.mk 9 .data] none)⟩,⟨none,some 23,.loadN 69 (.tmp 5)⟩,⟨none,some 24,.call 29 [.tmp 22,.tmp 23]⟩,⟨none,none,.raw 25 (.mk none (.mapUpdate 93 (.tmp 15) (.tmp 16) (.tmp 24)) 0 "tally.go:94" #[.mk 3 .data,.mk 4 .data,.mk 12 .data,.mk 12 .chain,.mk 0 .phase,.mk 1 .phase,.mk 2 .phase,.mk 3 .phase,.mk 4 .phase,.mk 5 .phase,.mk 6 .phase,.mk 7 .phase,.mk 8 .phase,.mk 9 .phase,.mk 10 .phase,.mk 11 .phase,.mk 12 .phase] none)⟩])
 .skip)))))))
abbrev r26:List RV:=[]
theorem F26:FnOk prog 26 25 c26 r26:=FnOk.o func26
noncomputable def c27:CC:=(.seq (.ops [⟨none,some 1,.box 56 (.tmp 0)⟩,⟨none,some 2,.mv (.const .nilFunc)⟩])
 (.seq (.ops [⟨none,some 3,(.mkF (.func 39) [] [.tmp 1])⟩,mvt 2 3])
 .ret))
abbrev r27:List RV:=[(.tmp 2)]
theorem F27:FnOk prog 27 4 c27 r27:=FnOk.o func27
noncomputable def c29:CC:=(.seq (.ops [⟨none,some 2,.box 42 (.tmp 0)⟩,⟨none,some 3,.box 42 (.tmp 1)⟩,⟨none,some 4,.alloc 42 (.agg #[.int .u64 0,.int .u64 0,.int .u64 0,.int .u64 0,.int .u64 0,.int .u64 0,.int .u64 0,.int .u64 0,.int .u64 0,.int .u64 0,.int .u64 0,.int .u64 0,.int .u64 0,.int .u64 0,.int .u64 0,.int .u64 0,.int .u64 0,.int .u64 0,.int .u64 0,.int .u64 0,.int .u64 0,.int .u64 0,.int .u64 0,.int .u64 0,.int .u64 0,.int .u64 0,.int .u64 0,.int .u64 0,.int .u64 0,.int .u64 0,.int .u64 0,.int .u64 0,.int .u64 0,.int .u64 0,.int .u64 0,.int .u64 0,.int .u64 0,.int .u64 0,.int .u64 0,.int .u64 0,.int .u64 0,.int .u64 0,.int .u64 0,.int .u64 0,.int .u64 0,.int .u64 0,.int .u64 0,.int .u64 0,.int .u64 0,.int .u64 0,.int .u64 0,.int .u64 0,.int .u64 0,.int .u64 0,.int .u64 0,.int .u64 0,.int .u64 0,.int .u64 0,.int .u64 0,.int .u64 0,.int .u64 0,.int .u64 0,.int .u64 0,.int .u64 0,.int .u64 0,.int .u64 0,.int .u64 0,.int .u64 0,.int .u64 0])⟩])
 (.seq (.block 0
 (.seq (.ops [⟨none,some 8,.faddr 0 (.tmp 3)⟩,⟨none,some 9,.load1 (.tmp 8)⟩,⟨none,some 10,.iop .eql (.tmp 9) (.const (.int .u64 0))⟩,mvt 7 10])
 (.cond (.tmp 7)
 (.seq (.ops [⟨none,some 11,.loadN 69 (.tmp 2)⟩,⟨none,none,.storeN 69 (.tmp 4) (.tmp 11)⟩])
 .ret)
 (.seq (.ops [⟨none,some 13,.faddr 0 (.tmp 2)⟩,⟨none,some 14,.load1 (.tmp 13)⟩,⟨none,some 15,.iop .eql (.tmp 14) (.const (.int .u64 0))⟩,mvt 12 15])
 (.cond (.tmp 12)
 (.seq (.ops [⟨none,some 16,.loadN 69 (.tmp 3)⟩,⟨none,none,.storeN 69 (.tmp 4) (.tmp 16)⟩])
 .ret)
 .skip)))))
 (.seq (.ops [⟨none,some 17,.faddr 0 (.tmp 2)⟩,⟨none,some 18,.load1 (.tmp 17)⟩,⟨none,some 19,.faddr 0 (.tmp 3)⟩,⟨none,some 20,.load1 (.tmp 19)⟩,⟨none,some 21,.iop .add (.tmp 18) (.tmp 20)⟩,⟨none,some 22,.faddr 0 (.tmp 2)⟩,⟨none,none,.store1 (.tmp 22) (.tmp 21)⟩])
 (.seq (.ops [⟨none,some 23,.faddr 1 (.tmp 2)⟩,⟨none,some 24,.load1 (.tmp 23)⟩,⟨none,some 25,.faddr 1 (.tmp 3)⟩,⟨none,some 26,.load1 (.tmp 25)⟩,⟨none,some 27,.iop .add (.tmp 24) (.tmp 26)⟩,⟨none,some 28,.faddr 1 (.tmp 2)⟩,⟨none,none,.store1 (.tmp 28) (.tmp 27)⟩])
 (.seq (.draw 7 (opsOf (sub (bodyOf f29) [1,1,1,1,0])) [⟨none,some 29,.faddr 2 (.tmp 2)⟩,⟨none,some 30,.load1 (.tmp 29)⟩,⟨none,some 31,.faddr 2 (.tmp 3)⟩,⟨none,some 32,.load1 (.tmp 31)⟩,⟨none,some 33,.raw 57 (.mk (some 33) (.call (.mk (.builtin .min) #[.tmp 30,.tmp 32] #[27,27])) 27 "tally.go:40" #[.mk 1 .data,.mk 3 .data] none)⟩,⟨none,some 34,.faddr 3 (.tmp 2)⟩,⟨none,some 35,.load1 (.tmp 34)⟩,⟨none,some 36,.faddr 3 (.tmp 3)⟩,⟨none,some 37,.load1 (.tmp 36)⟩,⟨none,some 38,.raw 57 (.mk (some 38) (.call (.mk (.builtin .max) #[.tmp 35,.tmp 37] #[27,27])) 27 "tally.go:40" #[.mk 6 .data,.mk 8 .data] none)⟩,⟨none,some 39,.faddr 2 (.tmp 2)⟩,⟨none,none,.store1 (.tmp 39) (.tmp 33)⟩,⟨none,some 40,.faddr 3 (.tmp 2)⟩,⟨none,none,.store1 (.tmp 40) (.tmp 38)⟩])
 (.seq (.seq (.ops [⟨none,some 41,.faddr 4 (.tmp 3)⟩,⟨none,some 42,.loadN 65 (.tmp 41)⟩,⟨none,some 43,.mv (.const (.int .i64 0))⟩])
 (.block 1
 (.loop
 (.seq (.ops [⟨none,some 44,.iop .lss (.tmp 43) (.const (.int .i64 65))⟩])
 (.seq (.cond (.tmp 44)
 .skip
 (.exit 1))
 (.seq (.block 2
 (.seq (.ops [mvt 45 43,⟨none,some 46,.raw 57 (.mk (some 46) (.index 40 (.tmp 42) (.tmp 43)) 27 "tally.go:41" #[] none)⟩,mvt 5 45,mvt 6 46])
 (.ops [mvt 47 5,⟨none,some 48,.faddr 4 (.tmp 2)⟩,⟨none,some 49,.iaddrA 65 1 (.tmp 48) (.tmp 47)⟩,⟨none,some 50,.load1 (.tmp 49)⟩,mvt 51 6,⟨none,some 52,.iop .add (.tmp 50) (.tmp 51)⟩,⟨none,some 53,.faddr 4 (.tmp 2)⟩,⟨none,some 54,.iaddrA 65 1 (.tmp 53) (.tmp 47)⟩,⟨none,none,.store1 (.tmp 54) (.tmp 52)⟩])))
 (.ops [⟨none,some 55,.iop .add (.tmp 43) (.const (.int .i64 1))⟩,mvt 43 55])))))))
 (.seq (.ops [⟨none,some 56,.loadN 69 (.tmp 2)⟩,⟨none,none,.storeN 69 (.tmp 4) (.tmp 56)⟩])
 .ret)))))))
abbrev r29:List RV:=[(.cN 4 69)]
theorem F29:FnOk prog 29 57 c29 r29:=FnOk.o func29
noncomputable def c30:CC:=(.seq (.ops [⟨none,some 1,.box 25 (.tmp 0)⟩,⟨none,some 2,.mv (.const .nilFunc)⟩])
 (.seq (.ops [⟨none,some 3,(.mkF (.func 42) [] [.tmp 1])⟩,mvt 2 3])
 .ret))
abbrev r30:List RV:=[(.tmp 2)]
theorem F30:FnOk prog 30 4 c30 r30:=FnOk.o func30
noncomputable def c34:CC:=(.seq (.ops [⟨none,some 2,.alloc 86 (.agg #[.int .u64 0,.int .u64 0,.int .u64 0,.int .u64 0,.int .u64 0,.int .u64 0,.int .u64 0,.int .u64 0,.int .u64 0,.int .u64 0,.int .u64 0,.int .u64 0,.int .u64 0,.int .u64 0,.int .u64 0,.int .u64 0,.int .u64 0,.int .u64 0,.int .u64 0,.int .u64 0,.int .u64 0,.int .u64 0,.int .u64 0,.int .u64 0,.int .u64 0,.int .u64 0,.int .u64 0,.int .u64 0,.int .u64 0,.int .u64 0,.int .u64 0,.int .u64 0,.int .u64 0,.int .u64 0,.int .u64 0,.int .u64 0,.int .u64 0,.int .u64 0,.int .u64 0,.int .u64 0,.int .u64 0,.int .u64 0,.int .u64 0,.int .u64 0,.int .u64 0,.int .u64 0,.int .u64 0,.int .u64 0,.int .u64 0,.int .u64 0,.int .u64 0,.int .u64 0,.int .u64 0,.int .u64 0,.int .u64 0,.int .u64 0,.int .u64 0,.int .u64 0,.int .u64 0,.int .u64 0,.int .u64 0,.int .u64 0,.int .u64 0,.int .u64 0,.int .u64 0,.int .u64 0,.int .u64 0,.int .u64 0,.int .u64 0])⟩])
 (.seq (.ops [⟨none,some 3,.alloc 86 (.agg #[.int .u64 0,.int .u64 0,.int .u64 0,.int .u64 0,.int .u64 0,.int .u64 0,.int .u64 0,.int .u64 0,.int .u64 0,.int .u64 0,.int .u64 0,.int .u64 0,.int .u64 0,.int .u64 0,.int .u64 0,.int .u64 0,.int .u64 0,.int .u64 0,.int .u64 0,.int .u64 0,.int .u64 0,.int .u64 0,.int .u64 0,.int .u64 0,.int .u64 0,.int .u64 0,.int .u64 0,.int .u64 0,.int .u64 0,.int .u64 0,.int .u64 0,.int .u64 0,.int .u64 0,.int .u64 0,.int .u64 0,.int .u64 0,.int .u64 0,.int .u64 0,.int .u64 0,.int .u64 0,.int .u64 0,.int .u64 0,.int .u64 0,.int .u64 0,.int .u64 0,.int .u64 0,.int .u64 0,.int .u64 0,.int .u64 0,.int .u64 0,.int .u64 0,.int .u64 0,.int .u64 0,.int .u64 0,.int .u64 0,.int .u64 0,.int .u64 0,.int .u64 0,.int .u64 0,.int .u64 0,.int .u64 0,.int .u64 0,.int .u64 0,.int .u64 0,.int .u64 0,.int .u64 0,.int .u64 0,.int .u64 0,.int .u64 0])⟩])
 (.seq (.seq (.ops [mvt 6 0,⟨none,some 7,.lenL (.tmp 6)⟩,⟨none,some 8,.mv (.const (.int .i64 0))⟩])
 (.block 0
 (.loop
 (.seq (.ops [⟨none,some 9,.iop .lss (.tmp 8) (.tmp 7)⟩])
 (.seq (.cond (.tmp 9)
 .skip
 (.exit 0))
 (.seq (.block 1
 (.seq (.ops [mvt 10 8,⟨none,some 11,.iaddr 1 (.tmp 6) (.tmp 8)⟩,⟨none,some 12,.load1 (.tmp 11)⟩,mvt 4 10,mvt 5 12])
 (.seq (.ops [⟨none,some 13,.faddr 0 (.tmp 3)⟩,⟨none,some 14,.load1 (.tmp 13)⟩,⟨none,some 15,.iop .add (.tmp 14) (.const (.int .u64 1))⟩,⟨none,some 16,.faddr 0 (.tmp 3)⟩,⟨none,none,.store1 (.tmp 16) (.tmp 15)⟩])
 (.seq (.ops [⟨none,some 17,.faddr 1 (.tmp 3)⟩,⟨none,some 18,.load1 (.tmp 17)⟩,mvt 19 5,⟨none,some 20,.iop .add (.tmp 18) (.tmp 19)⟩,⟨none,some 21,.faddr 1 (.tmp 3)⟩,⟨none,none,.store1 (.tmp 21) (.tmp 20)⟩])
 (.seq (.seq (.ops [mvt 22 4,⟨none,some 23,.iop .eql (.tmp 22) (.const (.int .i64 0))⟩,mvt 24 23,⟨some (24,false),some 25,.mv (.tmp 5)⟩,⟨some (24,false),some 26,.faddr 2 (.tmp 3)⟩,⟨some (24,false),some 27,.load1 (.tmp 26)⟩,⟨some (24,false),some 28,.iop .lss (.tmp 25) (.tmp 27)⟩,⟨none,some 29,.pick (.tmp 24) (.const (.bool true)) (.tmp 28)⟩])
 (.cond (.tmp 29)
 (.ops [mvt 30 5,⟨none,some 31,.faddr 2 (.tmp 3)⟩,⟨none,none,.store1 (.tmp 31) (.tmp 30)⟩])
 .skip))
 (.seq (.seq (.ops [mvt 32 5,⟨none,some 33,.faddr 3 (.tmp 3)⟩,⟨none,some 34,.load1 (.tmp 33)⟩,⟨none,some 35,.iop .gtr (.tmp 32) (.tmp 34)⟩])
 (.cond (.tmp 35)
 (.ops [mvt 36 5,⟨none,some 37,.faddr 3 (.tmp 3)⟩,⟨none,none,.store1 (.tmp 37) (.tmp 36)⟩])
 .skip))
 (.ops [mvt 38 5,⟨none,some 39,.call 23 [.tmp 38]⟩,⟨none,some 40,.faddr 4 (.tmp 3)⟩,⟨none,some 41,.iaddrA 65 1 (.tmp 40) (.tmp 39)⟩,⟨none,some 42,.load1 (.tmp 41)⟩,⟨none,some 43,.iop .add (.tmp 42) (.const (.int .u64 1))⟩,⟨none,some 44,.faddr 4 (.tmp 3)⟩,⟨none,some 45,.iaddrA 65 1 (.tmp 44) (.tmp 39)⟩,⟨none,none,.store1 (.tmp 45) (.tmp 43)⟩])))))))
 (.ops [⟨none,some 46,.iop .add (.tmp 8) (.const (.int .i64 1))⟩,mvt 8 46])))))))
 (.seq (.ops [⟨none,some 47,.loadN 69 (.tmp 3)⟩,⟨none,none,.storeN 69 (.tmp 2) (.tmp 47)⟩])
 .ret))))
abbrev r34:List RV:=[(.cN 2 69)]
theorem F34:FnOk prog 34 48 c34 r34:=FnOk.o func34
noncomputable def c35:CC:=(.seq (.ops [⟨none,some 1,.box 25 (.tmp 0)⟩,⟨none,some 2,.mv (.const .nilFunc)⟩])
 (.seq (.ops [⟨none,some 3,(.mkF (.func 46) [] [.tmp 1])⟩,mvt 2 3])
 .ret))
abbrev r35:List RV:=[(.tmp 2)]
theorem F35:FnOk prog 35 4 c35 r35:=FnOk.o func35
noncomputable def c36:CC:=(.seq (.ops [⟨none,some 6,.mv (.const (.int .u64 0))⟩])
 (.seq (.seq (.ops [mvt 11 1,mvt 12 2,⟨none,some 13,.iop .geq (.tmp 11) (.tmp 12)⟩])
 (.cond (.tmp 13)
 (.seq (.ops [mvt 14 0,mvt 6 14])
 .ret)
 .skip))
 (.seq (.ops [mvt 16 0,mvt 17 1,⟨none,some 18,.call 49 [.tmp 16,.tmp 17]⟩,mvt 15 18,⟨none,some 19,.ext (.tmp 15) 0⟩,⟨none,some 20,.ext (.tmp 15) 1⟩,mvt 7 19,mvt 8 20])
 (.seq (.ops [mvt 22 7,mvt 23 8,mvt 24 2,⟨none,some 25,.call 50 [.tmp 22,.tmp 23,.tmp 24]⟩,mvt 21 25,⟨none,some 26,.ext (.tmp 21) 0⟩,⟨none,some 27,.ext (.tmp 21) 1⟩,mvt 9 26,mvt 10 27])
 (.seq (.seq (.ops [mvt 28 10,⟨none,some 29,.iop .gtr (.tmp 28) (.const (.int .u64 0))⟩])
 (.cond (.tmp 29)
 (.ops [mvt 30 9,⟨none,some 31,.iop .add (.tmp 30) (.const (.int .u64 1))⟩,mvt 9 31])
 .skip))
 (.seq (.ops [mvt 32 9,mvt 6 32])
 .ret))))))
abbrev r36:List RV:=[(.tmp 6)]
theorem F36:FnOk prog 36 33 c36 r36:=FnOk.o func36
noncomputable def c38:CC:=(.seq (.ops [⟨none,some 8,.mv (.const (.bool false))⟩])
 (.seq (.ops [mvt 13 0,mvt 14 1,⟨none,some 15,.iop .quo (.tmp 14) (.const (.int .u64 4294967296))⟩,⟨none,some 16,.iop .mul (.tmp 13) (.tmp 15)⟩,mvt 17 2,mvt 18 3,⟨none,some 19,.iop .quo (.tmp 18) (.const (.int .u64 4294967296))⟩,⟨none,some 20,.iop .mul (.tmp 17) (.tmp 19)⟩,mvt 9 16,mvt 10 20])
 (.seq (.ops [mvt 21 0,mvt 22 1,⟨none,some 23,.iop .rem (.tmp 22) (.const (.int .u64 4294967296))⟩,⟨none,some 24,.iop .mul (.tmp 21) (.tmp 23)⟩,mvt 25 2,mvt 26 3,⟨none,some 27,.iop .rem (.tmp 26) (.const (.int .u64 4294967296))⟩,⟨none,some 28,.iop .mul (.tmp 25) (.tmp 27)⟩,mvt 11 24,mvt 12 28])
 (.seq (.ops [mvt 29 9,mvt 30 11,⟨none,some 31,.iop .quo (.tmp 30) (.const (.int .u64 4294967296))⟩,⟨none,some 32,.iop .add (.tmp 29) (.tmp 31)⟩,mvt 9 32])
 (.seq (.ops [mvt 33 10,mvt 34 12,⟨none,some 35,.iop .quo (.tmp 34) (.const (.int .u64 4294967296))⟩,⟨none,some 36,.iop .add (.tmp 33) (.tmp 35)⟩,mvt 10 36])
 (.seq (.ops [mvt 37 9,mvt 38 10,⟨none,some 39,.iop .gtr (.tmp 37) (.tmp 38)⟩,mvt 40 39,⟨some (40,false),some 41,.mv (.tmp 9)⟩,⟨some (40,false),some 42,.mv (.tmp 10)⟩,⟨some (40,false),some 43,.iop .eql (.tmp 41) (.tmp 42)⟩,⟨some (40,false),some 44,.mv (.tmp 43)⟩,⟨some (44,true),some 45,.mv (.tmp 11)⟩,⟨some (44,true),some 46,.iop .rem (.tmp 45) (.const (.int .u64 4294967296))⟩,⟨some (44,true),some 47,.mv (.tmp 12)⟩,⟨some (44,true),some 48,.iop .rem (.tmp 47) (.const (.int .u64 4294967296))⟩,⟨some (44,true),some 49,.iop .geq (.tmp 46) (.tmp 48)⟩,⟨some (40,false),some 50,.pick (.tmp 44) (.tmp 49) (.const (.bool false))⟩,⟨none,some 51,.pick (.tmp 40) (.const (.bool true)) (.tmp 50)⟩,mvt 8 51])
 .ret))))))
abbrev r38:List RV:=[(.tmp 8)]
theorem F38:FnOk prog 38 52 c38 r38:=FnOk.o func38
noncomputable def c39:CC:=(.seq (.ops [⟨none,some 2,.box 98 (.tmp 0)⟩])
 (.seq (.ops [⟨none,some 4,.load1 (.tmp 1)⟩,⟨none,some 5,.call 40 [.tmp 4]⟩])
 (.block 0
 (.range (.tmp 5) #[6] (sub (bodyOf f39) [1,1,0,0]) (sub (bodyOf f39) [1,1,0,1])
 (.ops [mvt 3 6])
 (.block 1
 (.seq (.draw 3 (opsOf (sub (bodyOf f39) [1,1,0,1,0,0])) [⟨none,some 7,.load1 (.tmp 2)⟩,mvt 8 3,⟨none,some 9,.load1 (.tmp 1)⟩,mvt 10 3,⟨none,some 11,.call 20 [.tmp 9,.tmp 10]⟩,⟨none,some 12,.callv (.tmp 7) [.tmp 8,.tmp 11]⟩,⟨none,some 13,.not (.tmp 12)⟩])
 (.cond (.tmp 13)
 .ret
 .skip)))))))
abbrev r39:List RV:=[]
theorem F39:FnOk prog 39 14 c39 r39:=FnOk.o func39
noncomputable def c40:CC:=(.seq (.ops [⟨none,some 1,.box 56 (.tmp 0)⟩,⟨none,some 2,.mv (.const .nilFunc)⟩])
 (.seq (.ops [⟨none,some 3,(.mkF (.func 51) [] [.tmp 1])⟩,mvt 2 3])
 .ret))
abbrev r40:List RV:=[(.tmp 2)]
theorem F40:FnOk prog 40 4 c40 r40:=FnOk.o func40
noncomputable def c42:CC:=(.seq (.ops [⟨none,some 2,.box 102 (.tmp 0)⟩])
 (.seq (.ops [⟨none,some 4,.load1 (.tmp 1)⟩,⟨none,some 5,.call 35 [.tmp 4]⟩])
 (.block 0
 (.range (.tmp 5) #[6] (sub (bodyOf f42) [1,1,0,0]) (sub (bodyOf f42) [1,1,0,1])
 (.ops [mvt 3 6])
 (.block 1
 (.seq (.draw 3 (opsOf (sub (bodyOf f42) [1,1,0,1,0,0])) [⟨none,some 7,.load1 (.tmp 2)⟩,mvt 8 3,⟨none,some 9,.load1 (.tmp 1)⟩,mvt 10 3,⟨none,some 11,.call 24 [.tmp 9,.tmp 10]⟩,⟨none,some 12,.callv (.tmp 7) [.tmp 8,.tmp 11]⟩,⟨none,some 13,.not (.tmp 12)⟩])
 (.cond (.tmp 13)
 .ret
 .skip)))))))
abbrev r42:List RV:=[]
theorem F42:FnOk prog 42 14 c42 r42:=FnOk.o func42
noncomputable def c46:CC:=(.seq (.seq (.ops [⟨none,some 5,.load1 (.tmp 1)⟩,⟨none,some 6,.pnil 0 false (.tmp 5)⟩])
 (.cond (.tmp 6)
 .ret
 .skip))
 (.seq (.ops [⟨none,some 7,.load1 (.tmp 1)⟩,⟨none,some 8,.nilc (.tmp 7)⟩,⟨none,some 9,.faddr 0 (.tmp 8)⟩,⟨none,some 10,.load1 (.tmp 9)⟩,⟨none,some 11,.call 48 [.tmp 10]⟩,⟨none,some 12,.call 47 [.tmp 11]⟩,⟨none,some 13,.lenL (.tmp 12)⟩,⟨none,some 14,.mv (.const (.int .i64 0))⟩])
 (.block 0
 (.loop
 (.seq (.ops [⟨none,some 15,.iop .lss (.tmp 14) (.tmp 13)⟩])
 (.seq (.cond (.tmp 15)
 .skip
 (.exit 0))
 (.seq (.block 1
 (.seq (.ops [⟨none,some 16,.iaddr 1 (.tmp 12) (.tmp 14)⟩,⟨none,some 17,.load1 (.tmp 16)⟩,mvt 4 17])
 (.seq (.ops [mvt 18 0,mvt 19 4,⟨none,some 20,.callv (.tmp 18) [.tmp 19]⟩,⟨none,some 21,.not (.tmp 20)⟩])
 (.cond (.tmp 21)
 .ret
 .skip))))
 (.ops [⟨none,some 22,.iop .add (.tmp 14) (.const (.int .i64 1))⟩,mvt 14 22]))))))))
abbrev r46:List RV:=[]
theorem F46:FnOk prog 46 23 c46 r46:=FnOk.o func46
noncomputable def c51:CC:=(.seq (.seq (.ops [⟨none,some 5,.load1 (.tmp 1)⟩,⟨none,some 6,.pnil 0 false (.tmp 5)⟩])
 (.cond (.tmp 6)
 .ret
 .skip))
 (.seq (.ops [⟨none,some 7,.load1 (.tmp 1)⟩,⟨none,some 8,.nilc (.tmp 7)⟩,⟨none,some 9,.faddr 0 (.tmp 8)⟩,⟨none,some 10,.load1 (.tmp 9)⟩,⟨none,some 11,.call 53 [.tmp 10]⟩,⟨none,some 12,.call 52 [.tmp 11]⟩,⟨none,some 13,.lenL (.tmp 12)⟩,⟨none,some 14,.mv (.const (.int .i64 0))⟩])
 (.block 0
 (.loop
 (.seq (.ops [⟨none,some 15,.iop .lss (.tmp 14) (.tmp 13)⟩])
 (.seq (.cond (.tmp 15)
 .skip
 (.exit 0))
 (.seq (.block 1
 (.seq (.ops [⟨none,some 16,.iaddr 1 (.tmp 12) (.tmp 14)⟩,⟨none,some 17,.load1 (.tmp 16)⟩,mvt 4 17])
 (.seq (.ops [mvt 18 0,mvt 19 4,⟨none,some 20,.callv (.tmp 18) [.tmp 19]⟩,⟨none,some 21,.not (.tmp 20)⟩])
 (.cond (.tmp 21)
 .ret
 .skip))))
 (.ops [⟨none,some 22,.iop .add (.tmp 14) (.const (.int .i64 1))⟩,mvt 14 22]))))))))
abbrev r51:List RV:=[]
theorem F51:FnOk prog 51 23 c51 r51:=FnOk.o func51
noncomputable def c53:CC:=(.seq (.ops [⟨none,some 1,.box 93 (.tmp 0)⟩,⟨none,some 2,.mv (.const .nilFunc)⟩])
 (.seq (.ops [⟨none,some 3,(.mkF (.func 68) [] [.tmp 1])⟩,mvt 2 3])
 .ret))
abbrev r53:List RV:=[(.tmp 2)]
theorem F53:FnOk prog 53 4 c53 r53:=FnOk.o func53
noncomputable def c68:CC:=(.seq (.ops [⟨none,some 4,.load1 (.tmp 1)⟩,⟨none,some 5,.raw 14 (.mk (some 5) (.range 93 (.tmp 4)) 0 "iter.go:27" #[.mk 0 .data] none)⟩])
 (.block 0
 (.loop
 (.seq (.ops [⟨none,some 6,.raw 14 (.mk (some 6) (.next (.tmp 5) false) 0 "iter.go:27" #[] none)⟩,⟨none,some 7,.ext (.tmp 6) 0⟩])
 (.seq (.cond (.tmp 7)
 .skip
 (.exit 0))
 (.block 1
 (.seq (.ops [⟨none,some 8,.raw 14 (.mk (some 8) (.entry (.tmp 5)) 0 "iter.go:27" #[] none)⟩,⟨none,some 9,.ext (.tmp 8) 0⟩,mvt 3 9])
 (.seq (.ops [mvt 10 0,mvt 11 3,⟨none,some 12,.callv (.tmp 10) [.tmp 11]⟩,⟨none,some 13,.not (.tmp 12)⟩])
 (.cond (.tmp 13)
 .ret
 .skip)))))))))
abbrev r68:List RV:=[]
theorem F68:FnOk prog 68 14 c68 r68:=FnOk.o func68
end Go.VrK
