import Derived.Test.YtcbacomljnjacaaGreatDoorVoV
import Derived.Test.YtcbacomljnjacaaGreatDoorProg
import Derived.Test.YtcbacomljnjacaaGreatDoorVcI
import Derived.Test.YtcbacomljnjacaaGreatDoorVcE
import Derived.ChangeArms
import Derived.DataReads
import Derived.Laws.Entries
import Derived.Lib.LaidTab
import Derived.Lib.BitFns
set_option linter.unusedSimpArgs false
set_option linter.unusedVariables false
set_option linter.unusedSectionVars false
set_option linter.unnecessarySimpa false
namespace Go.Oct
open Go
def first (s : ByteArray) : Nat:=((s.data[0]?).getD 0).toNat
end Go.Oct
namespace Go.Oct
open Go Go.Vc Go.VrA
set_option maxRecDepth 100000
def m2 (C B : List UInt8) : M:=[(ckL,C),(qkL,B)]
theorem mk_toList (s : ByteArray) : (⟨s.data.toList.toArray⟩ : ByteArray) = s:=by cases s; simp
end Go.Oct
namespace Go.VrB
open Go Go.Vc
set_option maxRecDepth 100000
noncomputable def c69 : CC:=(.seq (.ops [⟨none,(some 0),(.mv (.const (.bool false)))⟩])
 (.seq (.ops [⟨none,(some 7),(.call 72 [(.const (.slice none 0 0))])⟩,⟨none,(some 1),(.mv (.tmp 7))⟩])
 (.seq (.seq (.ops [⟨none,(some 8),(.mv (.tmp 1))⟩,⟨none,(some 9),(.pnil 0 false (.tmp 8))⟩,⟨none,(some 10),(.mv (.tmp 9))⟩,⟨(some (10,false)),(some 11),(.call 83 [])⟩,⟨(some (10,false)),(some 12),(.not (.tmp 11))⟩,⟨none,(some 13),(.pick (.tmp 10) (.const (.bool true)) (.tmp 12))⟩])
 (.cond (.tmp 13)
 (.seq (.ops [⟨none,(some 0),(.mv (.const (.bool false)))⟩])
 .ret)
 .skip))
 (.seq (.ops [⟨none,(some 14),(.mv (.tmp 1))⟩,⟨none,(some 15),(.mkI 134 (.tmp 14))⟩,⟨none,(some 16),(.build [(.string (.mk #[])),(.int .u64 0),(.int .u32 0),(.int .u64 0),(.string (.mk #[]))] [(0,(1,(.const (.string (.mk #[97]))))),(1,(1,(.const (.int .u64 1)))),(3,(1,(.const (.int .u64 5))))])⟩,⟨none,(some 17),(.call 84 [(.tmp 15),(.tmp 16)])⟩,⟨none,(some 2),(.mv (.tmp 17))⟩])
 (.seq (.ops [⟨none,(some 19),(.mv (.tmp 1))⟩,⟨none,(some 20),(.mkI 134 (.tmp 19))⟩,⟨none,(some 21),(.call 86 [(.tmp 20),(.const (.int .u64 4))])⟩,⟨none,(some 22),(.call 85 [(.tmp 21)])⟩,⟨none,(some 18),(.mv (.tmp 22))⟩,⟨none,(some 23),(.ext (.tmp 18) 0)⟩,⟨none,(some 24),(.ext (.tmp 18) 1)⟩,⟨none,(some 3),(.mv (.tmp 23))⟩,⟨none,(some 4),(.mv (.tmp 24))⟩])
 (.seq (.ops [⟨none,(some 26),(.mv (.tmp 1))⟩,⟨none,(some 27),(.mkI 134 (.tmp 26))⟩,⟨none,(some 28),(.call 86 [(.tmp 27),(.const (.int .u64 5))])⟩,⟨none,(some 29),(.call 85 [(.tmp 28)])⟩,⟨none,(some 25),(.mv (.tmp 29))⟩,⟨none,(some 30),(.ext (.tmp 25) 0)⟩,⟨none,(some 31),(.ext (.tmp 25) 1)⟩,⟨none,(some 5),(.mv (.tmp 30))⟩,⟨none,(some 6),(.mv (.tmp 31))⟩])
 (.seq (.ops [⟨none,(some 32),(.mv (.tmp 2))⟩,⟨none,(some 33),(.iop .eql (.tmp 32) (.const (.int .i64 0)))⟩,⟨none,(some 34),(.mv (.tmp 33))⟩,⟨(some (34,true)),(some 35),(.mv (.tmp 4))⟩,⟨(some (34,true)),(some 36),(.iop .eql (.tmp 35) (.const (.int .i64 0)))⟩,⟨none,(some 37),(.pick (.tmp 34) (.tmp 36) (.const (.bool false)))⟩,⟨none,(some 38),(.mv (.tmp 37))⟩,⟨(some (38,true)),(some 39),(.mv (.tmp 3))⟩,⟨(some (38,true)),(some 40),(.lenL (.tmp 39))⟩,⟨(some (38,true)),(some 41),(.iop .eql (.tmp 40) (.const (.int .i64 0)))⟩,⟨none,(some 42),(.pick (.tmp 38) (.tmp 41) (.const (.bool false)))⟩,⟨none,(some 43),(.mv (.tmp 42))⟩,⟨(some (43,true)),(some 44),(.mv (.tmp 6))⟩,⟨(some (43,true)),(some 45),(.iop .eql (.tmp 44) (.const (.int .i64 0)))⟩,⟨none,(some 46),(.pick (.tmp 43) (.tmp 45) (.const (.bool false)))⟩,⟨none,(some 47),(.mv (.tmp 46))⟩,⟨(some (47,true)),(some 48),(.mv (.tmp 5))⟩,⟨(some (47,true)),(some 49),(.lenL (.tmp 48))⟩,⟨(some (47,true)),(some 50),(.iop .eql (.tmp 49) (.const (.int .i64 1)))⟩,⟨none,(some 51),(.pick (.tmp 47) (.tmp 50) (.const (.bool false)))⟩,⟨none,(some 0),(.mv (.tmp 51))⟩])
 .ret)))))))
abbrev r69 : List RV:=[(.tmp 0)]
theorem F69 : FnOk Go.Proofs.Tryz.prog 69 52 c69 r69:=⟨_,Go.Proofs.Tryz.func69,by kernel_rfl,by kernel_rfl,by kernel_rfl,by kernel_rfl,by kernel_rfl⟩
noncomputable def c84 : CC:=(.seq (.ops [⟨none,(some 3),(.box 128 (.tmp 1))⟩,⟨none,(some 4),(.mv (.const (.int .i64 0)))⟩])
 (.seq (.ops [⟨none,(some 12),(.loadN 5 (.tmp 3))⟩,⟨none,(some 13),(.call 139 [(.tmp 12)])⟩,⟨none,(some 11),(.mv (.tmp 13))⟩,⟨none,(some 14),(.ext (.tmp 11) 0)⟩,⟨none,(some 15),(.ext (.tmp 11) 1)⟩,⟨none,(some 16),(.ext (.tmp 11) 2)⟩,⟨none,(some 5),(.mv (.tmp 14))⟩,⟨none,(some 6),(.mv (.tmp 15))⟩,⟨none,(some 7),(.mv (.tmp 16))⟩])
 (.seq (.seq (.ops [⟨none,(some 17),(.mv (.tmp 7))⟩,⟨none,(some 18),(.iop .neq (.tmp 17) (.const (.int .i64 0)))⟩])
 (.cond (.tmp 18)
 (.seq (.ops [⟨none,(some 19),(.mv (.tmp 7))⟩,⟨none,(some 4),(.mv (.tmp 19))⟩])
 .ret)
 .skip))
 (.seq (.seq (.ops [⟨none,(some 21),(.mv (.tmp 0))⟩,⟨none,(some 22),(.mv (.tmp 5))⟩,⟨none,(some 23),(.inv (.tmp 21) "Get" [(.tmp 22)])⟩,⟨none,(some 20),(.mv (.tmp 23))⟩,⟨none,(some 24),(.ext (.tmp 20) 0)⟩,⟨none,(some 25),(.ext (.tmp 20) 1)⟩,⟨none,(some 26),(.ext (.tmp 20) 2)⟩,⟨none,(some 8),(.mv (.tmp 24))⟩,⟨none,(some 9),(.mv (.tmp 25))⟩,⟨none,(some 10),(.mv (.tmp 26))⟩])
 (.block 0
 (.seq (.ops [⟨none,(some 28),(.mv (.tmp 10))⟩,⟨none,(some 29),(.iop .neq (.tmp 28) (.const (.int .i64 0)))⟩,⟨none,(some 27),(.mv (.tmp 29))⟩])
 (.cond (.tmp 27)
 (.seq (.ops [⟨none,(some 30),(.mv (.tmp 10))⟩,⟨none,(some 4),(.mv (.tmp 30))⟩])
 .ret)
 (.seq (.ops [⟨none,(some 32),(.mv (.tmp 9))⟩,⟨none,(some 31),(.mv (.tmp 32))⟩])
 (.cond (.tmp 31)
 (.seq (.ops [⟨none,(some 4),(.mv (.const (.int .i64 22)))⟩])
 .ret)
 .skip))))))
 (.seq (.ops [⟨none,(some 33),(.mv (.tmp 0))⟩,⟨none,(some 34),(.loadN 5 (.tmp 3))⟩,⟨none,(some 35),(.call 140 [(.tmp 33),(.tmp 34)])⟩,⟨none,(some 4),(.mv (.tmp 35))⟩])
 .ret)))))
abbrev r84 : List RV:=[(.tmp 4)]
theorem F84 : FnOk Go.Proofs.Tryz.prog 84 36 c84 r84:=⟨_,Go.Proofs.Tryz.func84,by kernel_rfl,by kernel_rfl,by kernel_rfl,by kernel_rfl,by kernel_rfl⟩
noncomputable def c199 : CC:=(.seq (.ops [⟨none,(some 6),(.mv (.const (.string (.mk #[]))))⟩,⟨none,(some 7),(.mv (.const (.int .i64 0)))⟩])
 (.seq (.ops [⟨none,(some 8),(.mv (.tmp 0))⟩,⟨none,(some 9),(.call 142 [(.tmp 8)])⟩,⟨none,(some 10),(.mv (.tmp 1))⟩,⟨none,(some 11),(.call 220 [(.tmp 10)])⟩,⟨none,(some 12),(.mv (.tmp 2))⟩,⟨none,(some 13),(.call 142 [(.tmp 12)])⟩,⟨none,(some 14),(.buildS 220 3 [(.bool false),(.int .u64 0),(.string (.mk #[])),(.bool false),(.int .u64 0),(.string (.mk #[])),(.bool false),(.int .u64 0),(.string (.mk #[]))] [(0,(3,(.tmp 9))),(3,(3,(.tmp 11))),(6,(3,(.tmp 13)))])⟩,⟨none,(some 15),(.call 202 [(.const (.string (.mk #[101]))),(.tmp 14)])⟩,⟨none,(some 16),(.ext (.tmp 15) 0)⟩,⟨none,(some 17),(.ext (.tmp 15) 1)⟩,⟨none,(some 6),(.mv (.tmp 16))⟩,⟨none,(some 7),(.mv (.tmp 17))⟩])
 .ret))
abbrev r199 : List RV:=[(.tmp 6),(.tmp 7)]
theorem F199 : FnOk Go.Proofs.Tryz.prog 199 18 c199 r199:=⟨_,Go.Proofs.Tryz.func199,by kernel_rfl,by kernel_rfl,by kernel_rfl,by kernel_rfl,by kernel_rfl⟩
noncomputable def c86 : CC:=(.seq (.ops [⟨none,(some 2),(.box 216 (.tmp 0))⟩,⟨none,(some 4),(.mv (.const .nilFunc))⟩])
 (.seq (.ops [⟨none,(some 8),(.call 141 [(.const (.string (.mk #[101]))),(.const (.slice none 0 0))])⟩,⟨none,(some 7),(.mv (.tmp 8))⟩,⟨none,(some 9),(.ext (.tmp 7) 0)⟩,⟨none,(some 10),(.ext (.tmp 7) 1)⟩,⟨none,(some 5),(.mv (.tmp 9))⟩,⟨none,(some 6),(.mv (.tmp 10))⟩])
 (.seq (.seq (.ops [⟨none,(some 11),(.mv (.tmp 1))⟩,⟨none,(some 12),(.iop .lss (.tmp 11) (.const (.int .u64 18446744073709551615)))⟩])
 (.cond (.tmp 12)
 (.ops [⟨none,(some 14),(.mv (.tmp 1))⟩,⟨none,(some 15),(.iop .add (.tmp 14) (.const (.int .u64 1)))⟩,⟨none,(some 16),(.call 142 [(.tmp 15)])⟩,⟨none,(some 17),(.buildS 220 1 [(.bool false),(.int .u64 0),(.string (.mk #[]))] [(0,(3,(.tmp 16)))])⟩,⟨none,(some 18),(.call 141 [(.const (.string (.mk #[101]))),(.tmp 17)])⟩,⟨none,(some 13),(.mv (.tmp 18))⟩,⟨none,(some 19),(.ext (.tmp 13) 0)⟩,⟨none,(some 20),(.ext (.tmp 13) 1)⟩,⟨none,(some 6),(.mv (.tmp 19))⟩])
 .skip))
 (.seq (.ops [⟨none,(some 21),(.load1 (.tmp 2))⟩,⟨none,(some 22),(.mv (.tmp 5))⟩,⟨none,(some 23),(.mv (.tmp 6))⟩,⟨none,(some 24),(.inv (.tmp 21) "Range" [(.tmp 22),(.tmp 23)])⟩,⟨none,(some 25),(.mkF (.func 144) [] [(.tmp 2)])⟩,⟨none,(some 26),(.call 143 [(.tmp 24),(.tmp 25)])⟩,⟨none,(some 4),(.mv (.tmp 26))⟩])
 .ret))))
abbrev r86 : List RV:=[(.tmp 4)]
theorem F86 : FnOk Go.Proofs.Tryz.prog 86 27 c86 r86:=⟨_,Go.Proofs.Tryz.func86,by kernel_rfl,by kernel_rfl,by kernel_rfl,by kernel_rfl,by kernel_rfl⟩
noncomputable def c145 : CC:=(.seq (.ops [⟨none,(some 6),(.alloc 128 (.agg #[(.string (.mk #[])),(.int .u64 0),(.int .u32 0),(.int .u64 0),(.string (.mk #[]))]))⟩,⟨none,(some 7),(.mv (.const (.int .i64 0)))⟩])
 (.seq (.ops [⟨none,(some 13),(.mv (.tmp 1))⟩,⟨none,(some 14),(.mv (.tmp 2))⟩,⟨none,(some 15),(.call 198 [(.tmp 13),(.tmp 14)])⟩,⟨none,(some 12),(.mv (.tmp 15))⟩,⟨none,(some 16),(.ext (.tmp 12) 0)⟩,⟨none,(some 17),(.ext (.tmp 12) 1)⟩,⟨none,(some 8),(.mv (.tmp 16))⟩,⟨none,(some 9),(.mv (.tmp 17))⟩])
 (.seq (.seq (.ops [⟨none,(some 18),(.mv (.tmp 9))⟩,⟨none,(some 19),(.iop .neq (.tmp 18) (.const (.int .i64 0)))⟩])
 (.cond (.tmp 19)
 (.seq (.ops [⟨none,(some 20),(.build [(.string (.mk #[])),(.int .u64 0),(.int .u32 0),(.int .u64 0),(.string (.mk #[]))] [])⟩,⟨none,none,(.storeN 5 (.tmp 6) (.tmp 20))⟩,⟨none,(some 7),(.mv (.const (.int .i64 21)))⟩])
 .ret)
 .skip))
 (.seq (.ops [⟨none,(some 22),(.mv (.tmp 0))⟩,⟨none,(some 23),(.mv (.tmp 8))⟩,⟨none,(some 24),(.inv (.tmp 22) "Get" [(.tmp 23)])⟩,⟨none,(some 21),(.mv (.tmp 24))⟩,⟨none,(some 25),(.ext (.tmp 21) 0)⟩,⟨none,(some 26),(.ext (.tmp 21) 1)⟩,⟨none,(some 27),(.ext (.tmp 21) 2)⟩,⟨none,(some 10),(.mv (.tmp 25))⟩,⟨none,(some 11),(.mv (.tmp 26))⟩,⟨none,(some 9),(.mv (.tmp 27))⟩])
 (.seq (.block 0
 (.seq (.ops [⟨none,(some 29),(.mv (.tmp 9))⟩,⟨none,(some 30),(.iop .neq (.tmp 29) (.const (.int .i64 0)))⟩,⟨none,(some 28),(.mv (.tmp 30))⟩])
 (.cond (.tmp 28)
 (.seq (.ops [⟨none,(some 31),(.build [(.string (.mk #[])),(.int .u64 0),(.int .u32 0),(.int .u64 0),(.string (.mk #[]))] [])⟩,⟨none,(some 32),(.mv (.tmp 9))⟩,⟨none,none,(.storeN 5 (.tmp 6) (.tmp 31))⟩,⟨none,(some 7),(.mv (.tmp 32))⟩])
 .ret)
 (.seq (.ops [⟨none,(some 34),(.mv (.tmp 11))⟩,⟨none,(some 35),(.not (.tmp 34))⟩,⟨none,(some 33),(.mv (.tmp 35))⟩])
 (.cond (.tmp 33)
 (.seq (.ops [⟨none,(some 36),(.build [(.string (.mk #[])),(.int .u64 0),(.int .u32 0),(.int .u64 0),(.string (.mk #[]))] [])⟩,⟨none,none,(.storeN 5 (.tmp 6) (.tmp 36))⟩,⟨none,(some 7),(.mv (.const (.int .i64 21)))⟩])
 .ret)
 .skip)))))
 (.seq (.ops [⟨none,(some 37),(.mv (.tmp 1))⟩,⟨none,(some 38),(.mv (.tmp 2))⟩,⟨none,(some 39),(.call 200 [(.tmp 37),(.tmp 38)])⟩,⟨none,(some 40),(.mv (.tmp 10))⟩,⟨none,(some 41),(.call 206 [(.tmp 39),(.tmp 40)])⟩,⟨none,(some 42),(.ext (.tmp 41) 0)⟩,⟨none,(some 43),(.ext (.tmp 41) 1)⟩,⟨none,none,(.storeN 5 (.tmp 6) (.tmp 42))⟩,⟨none,(some 7),(.mv (.tmp 43))⟩])
 .ret))))))
abbrev r145 : List RV:=[(.cN 6 5),(.tmp 7)]
theorem F145 : FnOk Go.Proofs.Tryz.prog 145 44 c145 r145:=⟨_,Go.Proofs.Tryz.func145,by kernel_rfl,by kernel_rfl,by kernel_rfl,by kernel_rfl,by kernel_rfl⟩
noncomputable def c85 : CC:=(.seq (.ops [⟨none,(some 2),(.alloc 50 (.slice none 0 0))⟩,⟨none,(some 3),(.alloc 48 (.int .i64 0))⟩])
 (.seq (.ops [⟨none,(some 4),(.alloc 50 (.slice none 0 0))⟩])
 (.seq (.seq (.ops [⟨none,(some 7),(.mv (.tmp 0))⟩])
 (.block 0
 (.range (.tmp 7) #[8,9] (sub (bodyOf Go.Proofs.Tryz.f85) [1,1,0,1,0,0]) (sub (bodyOf Go.Proofs.Tryz.f85) [1,1,0,1,0,1])
 (.seq (.ops [⟨none,(some 5),(.alloc 128 (.agg #[(.string (.mk #[])),(.int .u64 0),(.int .u32 0),(.int .u64 0),(.string (.mk #[]))]))⟩,⟨none,none,(.storeN 5 (.tmp 5) (.tmp 8))⟩])
 (.ops [⟨none,(some 6),(.mv (.tmp 9))⟩]))
 (.block 1
 (.seq (.seq (.ops [⟨none,(some 10),(.mv (.tmp 6))⟩,⟨none,(some 11),(.iop .neq (.tmp 10) (.const (.int .i64 0)))⟩])
 (.cond (.tmp 11)
 (.seq (.ops [⟨none,(some 12),(.mv (.tmp 6))⟩,⟨none,none,(.store1 (.tmp 2) (.const (.slice none 0 0)))⟩,⟨none,none,(.store1 (.tmp 3) (.tmp 12))⟩])
 .ret)
 .skip))
 (.ops [⟨none,(some 13),(.load1 (.tmp 4))⟩,⟨none,(some 14),(.loadN 5 (.tmp 5))⟩,⟨none,(some 15),(.buildS 128 1 [(.string (.mk #[])),(.int .u64 0),(.int .u32 0),(.int .u64 0),(.string (.mk #[]))] [(0,(5,(.tmp 14)))])⟩,⟨none,(some 16),(.raw 18 (.mk (some 16) (.call (.mk (.builtin .append) #[(.tmp 13),(.tmp 15)] #[50,50])) 50 "law.go:38" #[(.mk 0 .data),(.mk 2 .data)] none))⟩,⟨none,none,(.store1 (.tmp 4) (.tmp 16))⟩]))))))
 (.seq (.ops [⟨none,(some 17),(.load1 (.tmp 4))⟩,⟨none,none,(.store1 (.tmp 2) (.tmp 17))⟩,⟨none,none,(.store1 (.tmp 3) (.const (.int .i64 0)))⟩])
 .ret))))
abbrev r85 : List RV:=[(.c1 2),(.c1 3)]
theorem F85 : FnOk Go.Proofs.Tryz.prog 85 18 c85 r85:=⟨_,Go.Proofs.Tryz.func85,by kernel_rfl,by kernel_rfl,by kernel_rfl,by kernel_rfl,by kernel_rfl⟩
noncomputable def c83 : CC:=(.seq (.ops [⟨none,(some 0),(.mv (.const (.bool false)))⟩])
 (.seq (.ops [⟨none,(some 1),(.call 138 [])⟩,⟨none,(some 0),(.mv (.tmp 1))⟩])
 .ret))
abbrev r83 : List RV:=[(.tmp 0)]
theorem F83 : FnOk Go.Proofs.Tryz.prog 83 2 c83 r83:=⟨_,Go.Proofs.Tryz.func83,by kernel_rfl,by kernel_rfl,by kernel_rfl,by kernel_rfl,by kernel_rfl⟩
noncomputable def c139 : CC:=(.seq (.ops [⟨none,(some 1),(.box 128 (.tmp 0))⟩,⟨none,(some 2),(.mv (.const (.string (.mk #[]))))⟩,⟨none,(some 3),(.mv (.const (.string (.mk #[]))))⟩,⟨none,(some 4),(.mv (.const (.int .i64 0)))⟩])
 (.seq (.ops [⟨none,(some 9),(.faddr 0 (.tmp 1))⟩,⟨none,(some 10),(.load1 (.tmp 9))⟩,⟨none,(some 11),(.faddr 1 (.tmp 1))⟩,⟨none,(some 12),(.load1 (.tmp 11))⟩,⟨none,(some 13),(.call 198 [(.tmp 10),(.tmp 12)])⟩,⟨none,(some 8),(.mv (.tmp 13))⟩,⟨none,(some 14),(.ext (.tmp 8) 0)⟩,⟨none,(some 15),(.ext (.tmp 8) 1)⟩,⟨none,(some 5),(.mv (.tmp 14))⟩,⟨none,(some 6),(.mv (.tmp 15))⟩])
 (.seq (.seq (.ops [⟨none,(some 16),(.mv (.tmp 6))⟩,⟨none,(some 17),(.iop .neq (.tmp 16) (.const (.int .i64 0)))⟩,⟨none,(some 18),(.mv (.tmp 17))⟩,⟨(some (18,false)),(some 19),(.faddr 3 (.tmp 1))⟩,⟨(some (18,false)),(some 20),(.load1 (.tmp 19))⟩,⟨(some (18,false)),(some 21),(.iop .eql (.tmp 20) (.const (.int .u64 0)))⟩,⟨none,(some 22),(.pick (.tmp 18) (.const (.bool true)) (.tmp 21))⟩])
 (.cond (.tmp 22)
 (.seq (.ops [⟨none,(some 23),(.mv (.tmp 5))⟩,⟨none,(some 24),(.mv (.tmp 6))⟩,⟨none,(some 2),(.mv (.tmp 23))⟩,⟨none,(some 3),(.mv (.const (.string (.mk #[]))))⟩,⟨none,(some 4),(.mv (.tmp 24))⟩])
 .ret)
 .skip))
 (.seq (.ops [⟨none,(some 26),(.faddr 3 (.tmp 1))⟩,⟨none,(some 27),(.load1 (.tmp 26))⟩,⟨none,(some 28),(.faddr 0 (.tmp 1))⟩,⟨none,(some 29),(.load1 (.tmp 28))⟩,⟨none,(some 30),(.faddr 1 (.tmp 1))⟩,⟨none,(some 31),(.load1 (.tmp 30))⟩,⟨none,(some 32),(.call 199 [(.tmp 27),(.tmp 29),(.tmp 31)])⟩,⟨none,(some 25),(.mv (.tmp 32))⟩,⟨none,(some 33),(.ext (.tmp 25) 0)⟩,⟨none,(some 34),(.ext (.tmp 25) 1)⟩,⟨none,(some 7),(.mv (.tmp 33))⟩,⟨none,(some 6),(.mv (.tmp 34))⟩])
 (.seq (.ops [⟨none,(some 35),(.mv (.tmp 5))⟩,⟨none,(some 36),(.mv (.tmp 7))⟩,⟨none,(some 37),(.mv (.tmp 6))⟩,⟨none,(some 2),(.mv (.tmp 35))⟩,⟨none,(some 3),(.mv (.tmp 36))⟩,⟨none,(some 4),(.mv (.tmp 37))⟩])
 .ret)))))
abbrev r139 : List RV:=[(.tmp 2),(.tmp 3),(.tmp 4)]
theorem F139 : FnOk Go.Proofs.Tryz.prog 139 38 c139 r139:=⟨_,Go.Proofs.Tryz.func139,by kernel_rfl,by kernel_rfl,by kernel_rfl,by kernel_rfl,by kernel_rfl⟩
noncomputable def c140 : CC:=(.seq (.ops [⟨none,(some 3),(.box 128 (.tmp 1))⟩,⟨none,(some 4),(.mv (.const (.int .i64 0)))⟩])
 (.seq (.ops [⟨none,(some 10),(.loadN 5 (.tmp 3))⟩,⟨none,(some 11),(.call 139 [(.tmp 10)])⟩,⟨none,(some 9),(.mv (.tmp 11))⟩,⟨none,(some 12),(.ext (.tmp 9) 0)⟩,⟨none,(some 13),(.ext (.tmp 9) 1)⟩,⟨none,(some 14),(.ext (.tmp 9) 2)⟩,⟨none,(some 5),(.mv (.tmp 12))⟩,⟨none,(some 6),(.mv (.tmp 13))⟩,⟨none,(some 7),(.mv (.tmp 14))⟩])
 (.seq (.seq (.ops [⟨none,(some 15),(.mv (.tmp 7))⟩,⟨none,(some 16),(.iop .neq (.tmp 15) (.const (.int .i64 0)))⟩])
 (.cond (.tmp 16)
 (.seq (.ops [⟨none,(some 17),(.mv (.tmp 7))⟩,⟨none,(some 4),(.mv (.tmp 17))⟩])
 .ret)
 .skip))
 (.seq (.seq (.draw 4 (opsOf (sub (bodyOf Go.Proofs.Tryz.f140) [1,1,1,0,0])) [⟨none,(some 18),(.mv (.tmp 0))⟩,⟨none,(some 19),(.mv (.tmp 5))⟩,⟨none,(some 20),(.faddr 0 (.tmp 3))⟩,⟨none,(some 21),(.load1 (.tmp 20))⟩,⟨none,(some 22),(.faddr 1 (.tmp 3))⟩,⟨none,(some 23),(.load1 (.tmp 22))⟩,⟨none,(some 24),(.call 200 [(.tmp 21),(.tmp 23)])⟩,⟨none,(some 25),(.loadN 5 (.tmp 3))⟩,⟨none,(some 26),(.call 201 [(.tmp 24),(.tmp 25)])⟩,⟨none,(some 27),(.mkF (.method "Put") [(.tmp 18)] [])⟩,⟨none,(some 28),(.nilc (.tmp 27))⟩,⟨none,(some 29),(.mv (.tmp 18))⟩,⟨none,(some 30),(.inv (.tmp 29) "Put" [(.tmp 19),(.tmp 26)])⟩,⟨none,(some 8),(.mv (.tmp 30))⟩])
 (.seq (.ops [⟨none,(some 31),(.mv (.tmp 8))⟩,⟨none,(some 32),(.iop .neq (.tmp 31) (.const (.int .i64 0)))⟩,⟨none,(some 33),(.mv (.tmp 32))⟩,⟨(some (33,false)),(some 34),(.mv (.tmp 6))⟩,⟨(some (33,false)),(some 35),(.sop .eql (.tmp 34) (.const (.string (.mk #[]))))⟩,⟨none,(some 36),(.pick (.tmp 33) (.const (.bool true)) (.tmp 35))⟩])
 (.cond (.tmp 36)
 (.seq (.ops [⟨none,(some 37),(.mv (.tmp 8))⟩,⟨none,(some 4),(.mv (.tmp 37))⟩])
 .ret)
 .skip)))
 (.seq (.ops [⟨none,(some 38),(.mv (.tmp 0))⟩,⟨none,(some 39),(.mv (.tmp 6))⟩,⟨none,(some 40),(.inv (.tmp 38) "Put" [(.tmp 39),(.const (.string (.mk #[])))])⟩,⟨none,(some 4),(.mv (.tmp 40))⟩])
 .ret)))))
abbrev r140 : List RV:=[(.tmp 4)]
theorem F140 : FnOk Go.Proofs.Tryz.prog 140 41 c140 r140:=⟨_,Go.Proofs.Tryz.func140,by kernel_rfl,by kernel_rfl,by kernel_rfl,by kernel_rfl,by kernel_rfl⟩
noncomputable def c143 : CC:=(.seq (.ops [⟨none,(some 2),(.box 224 (.tmp 0))⟩,⟨none,(some 3),(.box 230 (.tmp 1))⟩,⟨none,(some 4),(.mv (.const .nilFunc))⟩])
 (.seq (.ops [⟨none,(some 5),(.mkF (.func 204) [] [(.tmp 2),(.tmp 3)])⟩,⟨none,(some 4),(.mv (.tmp 5))⟩])
 .ret))
abbrev r143 : List RV:=[(.tmp 4)]
theorem F143 : FnOk Go.Proofs.Tryz.prog 143 6 c143 r143:=⟨_,Go.Proofs.Tryz.func143,by kernel_rfl,by kernel_rfl,by kernel_rfl,by kernel_rfl,by kernel_rfl⟩
noncomputable def c144 : CC:=(.seq (.ops [⟨none,(some 3),(.box 227 (.tmp 0))⟩,⟨none,(some 5),(.alloc 128 (.agg #[(.string (.mk #[])),(.int .u64 0),(.int .u32 0),(.int .u64 0),(.string (.mk #[]))]))⟩,⟨none,(some 6),(.mv (.const (.int .i64 0)))⟩])
 (.seq (.ops [⟨none,(some 10),(.load1 (.tmp 2))⟩,⟨none,(some 11),(.faddr 1 (.tmp 3))⟩,⟨none,(some 12),(.load1 (.tmp 11))⟩,⟨none,(some 13),(.faddr 2 (.tmp 3))⟩,⟨none,(some 14),(.load1 (.tmp 13))⟩,⟨none,(some 15),(.call 145 [(.tmp 10),(.tmp 12),(.tmp 14)])⟩,⟨none,(some 9),(.mv (.tmp 15))⟩,⟨none,(some 16),(.ext (.tmp 9) 0)⟩,⟨none,(some 17),(.ext (.tmp 9) 1)⟩,⟨none,(some 7),(.alloc 128 (.agg #[(.string (.mk #[])),(.int .u64 0),(.int .u32 0),(.int .u64 0),(.string (.mk #[]))]))⟩,⟨none,none,(.storeN 5 (.tmp 7) (.tmp 16))⟩,⟨none,(some 8),(.mv (.tmp 17))⟩])
 (.seq (.seq (.ops [⟨none,(some 18),(.mv (.tmp 8))⟩,⟨none,(some 19),(.iop .eql (.tmp 18) (.const (.int .i64 21)))⟩,⟨none,(some 20),(.mv (.tmp 19))⟩,⟨(some (20,false)),(some 21),(.mv (.tmp 8))⟩,⟨(some (20,false)),(some 22),(.iop .eql (.tmp 21) (.const (.int .i64 0)))⟩,⟨(some (20,false)),(some 23),(.mv (.tmp 22))⟩,⟨(some (23,true)),(some 24),(.faddr 3 (.tmp 7))⟩,⟨(some (23,true)),(some 25),(.load1 (.tmp 24))⟩,⟨(some (23,true)),(some 26),(.faddr 3 (.tmp 3))⟩,⟨(some (23,true)),(some 27),(.load1 (.tmp 26))⟩,⟨(some (23,true)),(some 28),(.iop .neq (.tmp 25) (.tmp 27))⟩,⟨(some (20,false)),(some 29),(.pick (.tmp 23) (.tmp 28) (.const (.bool false)))⟩,⟨none,(some 30),(.pick (.tmp 20) (.const (.bool true)) (.tmp 29))⟩])
 (.cond (.tmp 30)
 (.seq (.ops [⟨none,(some 31),(.build [(.string (.mk #[])),(.int .u64 0),(.int .u32 0),(.int .u64 0),(.string (.mk #[]))] [])⟩,⟨none,none,(.storeN 5 (.tmp 5) (.tmp 31))⟩,⟨none,(some 6),(.mv (.const (.int .i64 31)))⟩])
 .ret)
 .skip))
 (.seq (.ops [⟨none,(some 32),(.loadN 5 (.tmp 7))⟩,⟨none,(some 33),(.mv (.tmp 8))⟩,⟨none,none,(.storeN 5 (.tmp 5) (.tmp 32))⟩,⟨none,(some 6),(.mv (.tmp 33))⟩])
 .ret))))
abbrev r144 : List RV:=[(.cN 5 5),(.tmp 6)]
theorem F144 : FnOk Go.Proofs.Tryz.prog 144 34 c144 r144:=⟨_,Go.Proofs.Tryz.func144,by kernel_rfl,by kernel_rfl,by kernel_rfl,by kernel_rfl,by kernel_rfl⟩
noncomputable def c198 : CC:=(.seq (.ops [⟨none,(some 4),(.mv (.const (.string (.mk #[]))))⟩,⟨none,(some 5),(.mv (.const (.int .i64 0)))⟩])
 (.seq (.ops [⟨none,(some 6),(.mv (.tmp 0))⟩,⟨none,(some 7),(.call 220 [(.tmp 6)])⟩,⟨none,(some 8),(.mv (.tmp 1))⟩,⟨none,(some 9),(.call 142 [(.tmp 8)])⟩,⟨none,(some 10),(.buildS 220 2 [(.bool false),(.int .u64 0),(.string (.mk #[])),(.bool false),(.int .u64 0),(.string (.mk #[]))] [(0,(3,(.tmp 7))),(3,(3,(.tmp 9)))])⟩,⟨none,(some 11),(.call 202 [(.const (.string (.mk #[109]))),(.tmp 10)])⟩,⟨none,(some 12),(.ext (.tmp 11) 0)⟩,⟨none,(some 13),(.ext (.tmp 11) 1)⟩,⟨none,(some 4),(.mv (.tmp 12))⟩,⟨none,(some 5),(.mv (.tmp 13))⟩])
 .ret))
abbrev r198 : List RV:=[(.tmp 4),(.tmp 5)]
theorem F198 : FnOk Go.Proofs.Tryz.prog 198 14 c198 r198:=⟨_,Go.Proofs.Tryz.func198,by kernel_rfl,by kernel_rfl,by kernel_rfl,by kernel_rfl,by kernel_rfl⟩
noncomputable def c200 : CC:=(.seq (.ops [⟨none,(some 2),(.box 9 (.tmp 0))⟩,⟨none,(some 3),(.box 27 (.tmp 1))⟩,⟨none,(some 4),(.alloc 299 (.agg #[.nilFunc,.nilFunc]))⟩])
 (.seq (.ops [⟨none,(some 5),(.mkF (.func 253) [] [(.tmp 2),(.tmp 3)])⟩,⟨none,(some 6),(.call 251 [(.func 252),(.tmp 5)])⟩,⟨none,none,(.storeN 2 (.tmp 4) (.tmp 6))⟩])
 .ret))
abbrev r200 : List RV:=[(.cN 4 2)]
theorem F200 : FnOk Go.Proofs.Tryz.prog 200 7 c200 r200:=⟨_,Go.Proofs.Tryz.func200,by kernel_rfl,by kernel_rfl,by kernel_rfl,by kernel_rfl,by kernel_rfl⟩
noncomputable def c206 : CC:=(.seq (.ops [⟨none,(some 2),(.box 299 (.tmp 0))⟩,⟨none,(some 4),(.alloc 128 (.agg #[(.string (.mk #[])),(.int .u64 0),(.int .u32 0),(.int .u64 0),(.string (.mk #[]))]))⟩,⟨none,(some 5),(.mv (.const (.int .i64 0)))⟩])
 (.seq (.ops [⟨none,(some 6),(.alloc 128 (.agg #[(.string (.mk #[])),(.int .u64 0),(.int .u32 0),(.int .u64 0),(.string (.mk #[]))]))⟩])
 (.seq (.seq (.ops [⟨none,(some 10),(.faddr 1 (.tmp 2))⟩,⟨none,(some 11),(.load1 (.tmp 10))⟩,⟨none,(some 12),(.pnil 3 false (.tmp 11))⟩])
 (.cond (.tmp 12)
 (.seq (.ops [⟨none,(some 13),(.loadN 5 (.tmp 6))⟩,⟨none,none,(.storeN 5 (.tmp 4) (.tmp 13))⟩,⟨none,(some 5),(.mv (.const (.int .i64 2)))⟩])
 .ret)
 .skip))
 (.seq (.ops [⟨none,(some 14),(.mv (.tmp 1))⟩,⟨none,(some 15),(.call 214 [(.tmp 14)])⟩,⟨none,(some 7),(.mv (.tmp 15))⟩])
 (.seq (.ops [⟨none,(some 16),(.faddr 1 (.tmp 2))⟩,⟨none,(some 17),(.load1 (.tmp 16))⟩,⟨none,(some 18),(.mv (.tmp 7))⟩,⟨none,(some 19),(.callv (.tmp 17) [(.tmp 18)])⟩,⟨none,(some 8),(.alloc 128 (.agg #[(.string (.mk #[])),(.int .u64 0),(.int .u32 0),(.int .u64 0),(.string (.mk #[]))]))⟩,⟨none,none,(.storeN 5 (.tmp 8) (.tmp 19))⟩])
 (.seq (.seq (.ops [⟨none,(some 20),(.mv (.tmp 7))⟩,⟨none,(some 21),(.call 215 [(.tmp 20)])⟩,⟨none,(some 9),(.mv (.tmp 21))⟩])
 (.seq (.ops [⟨none,(some 22),(.mv (.tmp 9))⟩,⟨none,(some 23),(.iop .neq (.tmp 22) (.const (.int .i64 0)))⟩])
 (.cond (.tmp 23)
 (.seq (.ops [⟨none,(some 24),(.loadN 5 (.tmp 6))⟩,⟨none,(some 25),(.mv (.tmp 9))⟩,⟨none,none,(.storeN 5 (.tmp 4) (.tmp 24))⟩,⟨none,(some 5),(.mv (.tmp 25))⟩])
 .ret)
 .skip)))
 (.seq (.ops [⟨none,(some 26),(.loadN 5 (.tmp 8))⟩,⟨none,none,(.storeN 5 (.tmp 4) (.tmp 26))⟩,⟨none,(some 5),(.mv (.const (.int .i64 0)))⟩])
 .ret)))))))
abbrev r206 : List RV:=[(.cN 4 5),(.tmp 5)]
theorem F206 : FnOk Go.Proofs.Tryz.prog 206 27 c206 r206:=⟨_,Go.Proofs.Tryz.func206,by kernel_rfl,by kernel_rfl,by kernel_rfl,by kernel_rfl,by kernel_rfl⟩
noncomputable def c54 : CC:=(.seq (.ops [⟨none,(some 0),(.mv (.const (.bool false)))⟩])
 (.seq (.ops [⟨none,(some 1),(.call 69 [])⟩,⟨none,(some 0),(.mv (.tmp 1))⟩])
 .ret))
abbrev r54 : List RV:=[(.tmp 0)]
theorem F54 : FnOk Go.Proofs.Tryz.prog 54 2 c54 r54:=⟨_,Go.Proofs.Tryz.func54,by kernel_rfl,by kernel_rfl,by kernel_rfl,by kernel_rfl,by kernel_rfl⟩
noncomputable def c201 : CC:=(.seq (.ops [⟨none,(some 2),(.box 299 (.tmp 0))⟩,⟨none,(some 3),(.box 128 (.tmp 1))⟩,⟨none,(some 4),(.mv (.const (.string (.mk #[]))))⟩])
 (.seq (.seq (.ops [⟨none,(some 5),(.faddr 0 (.tmp 2))⟩,⟨none,(some 6),(.load1 (.tmp 5))⟩,⟨none,(some 7),(.pnil 3 false (.tmp 6))⟩])
 (.cond (.tmp 7)
 (.seq (.ops [⟨none,(some 4),(.mv (.const (.string (.mk #[]))))⟩])
 .ret)
 .skip))
 (.seq (.ops [⟨none,(some 8),(.faddr 0 (.tmp 2))⟩,⟨none,(some 9),(.load1 (.tmp 8))⟩,⟨none,(some 10),(.loadN 5 (.tmp 3))⟩,⟨none,(some 11),(.callv (.tmp 9) [(.tmp 10)])⟩,⟨none,(some 4),(.mv (.tmp 11))⟩])
 .ret)))
abbrev r201 : List RV:=[(.tmp 4)]
theorem F201 : FnOk Go.Proofs.Tryz.prog 201 12 c201 r201:=⟨_,Go.Proofs.Tryz.func201,by kernel_rfl,by kernel_rfl,by kernel_rfl,by kernel_rfl,by kernel_rfl⟩
noncomputable def c204 : CC:=(.seq (.ops [⟨none,(some 3),(.box 305 (.tmp 0))⟩])
 (.seq (.ops [⟨none,(some 8),(.load1 (.tmp 1))⟩])
 (.block 0
 (.range (.tmp 8) #[9,10] (sub (bodyOf Go.Proofs.Tryz.f204) [1,1,0,0]) (sub (bodyOf Go.Proofs.Tryz.f204) [1,1,0,1])
 (.seq (.ops [⟨none,(some 4),(.alloc 176 (.agg #[(.string (.mk #[])),(.string (.mk #[]))]))⟩,⟨none,none,(.storeN 2 (.tmp 4) (.tmp 9))⟩])
 (.ops [⟨none,(some 5),(.mv (.tmp 10))⟩]))
 (.block 1
 (.seq (.ops [⟨none,(some 6),(.alloc 227 (.agg #[(.string (.mk #[])),(.string (.mk #[])),(.int .u64 0),(.int .u64 0),(.string (.mk #[])),(.int .i64 0),(.string (.mk #[])),(.string (.mk #[])),(.string (.mk #[]))]))⟩])
 (.seq (.ops [⟨none,(some 7),(.alloc 128 (.agg #[(.string (.mk #[])),(.int .u64 0),(.int .u32 0),(.int .u64 0),(.string (.mk #[]))]))⟩])
 (.seq (.seq (.ops [⟨none,(some 11),(.mv (.tmp 5))⟩,⟨none,(some 12),(.iop .eql (.tmp 11) (.const (.int .i64 0)))⟩])
 (.cond (.tmp 12)
 (.ops [⟨none,(some 14),(.faddr 0 (.tmp 4))⟩,⟨none,(some 15),(.load1 (.tmp 14))⟩,⟨none,(some 16),(.call 205 [(.tmp 15)])⟩,⟨none,(some 13),(.mv (.tmp 16))⟩,⟨none,(some 17),(.ext (.tmp 13) 0)⟩,⟨none,(some 18),(.ext (.tmp 13) 1)⟩,⟨none,none,(.storeN 9 (.tmp 6) (.tmp 17))⟩,⟨none,(some 5),(.mv (.tmp 18))⟩])
 .skip))
 (.seq (.seq (.ops [⟨none,(some 19),(.mv (.tmp 5))⟩,⟨none,(some 20),(.iop .eql (.tmp 19) (.const (.int .i64 0)))⟩])
 (.cond (.tmp 20)
 (.ops [⟨none,(some 22),(.load1 (.tmp 2))⟩,⟨none,(some 23),(.loadN 9 (.tmp 6))⟩,⟨none,(some 24),(.faddr 1 (.tmp 4))⟩,⟨none,(some 25),(.load1 (.tmp 24))⟩,⟨none,(some 26),(.callv (.tmp 22) [(.tmp 23),(.tmp 25)])⟩,⟨none,(some 21),(.mv (.tmp 26))⟩,⟨none,(some 27),(.ext (.tmp 21) 0)⟩,⟨none,(some 28),(.ext (.tmp 21) 1)⟩,⟨none,none,(.storeN 5 (.tmp 7) (.tmp 27))⟩,⟨none,(some 5),(.mv (.tmp 28))⟩])
 .skip))
 (.seq (.ops [⟨none,(some 29),(.load1 (.tmp 3))⟩,⟨none,(some 30),(.loadN 5 (.tmp 7))⟩,⟨none,(some 31),(.mv (.tmp 5))⟩,⟨none,(some 32),(.callv (.tmp 29) [(.tmp 30),(.tmp 31)])⟩,⟨none,(some 33),(.not (.tmp 32))⟩,⟨none,(some 34),(.mv (.tmp 33))⟩,⟨(some (34,false)),(some 35),(.mv (.tmp 5))⟩,⟨(some (34,false)),(some 36),(.iop .neq (.tmp 35) (.const (.int .i64 0)))⟩,⟨none,(some 37),(.pick (.tmp 34) (.const (.bool true)) (.tmp 36))⟩])
 (.cond (.tmp 37)
 .ret
 .skip)))))))))))
abbrev r204 : List RV:=[]
theorem F204 : FnOk Go.Proofs.Tryz.prog 204 38 c204 r204:=⟨_,Go.Proofs.Tryz.func204,by kernel_rfl,by kernel_rfl,by kernel_rfl,by kernel_rfl,by kernel_rfl⟩
noncomputable def c252 : CC:=(.seq (.ops [⟨none,(some 1),(.box 128 (.tmp 0))⟩,⟨none,(some 2),(.mv (.const (.string (.mk #[]))))⟩])
 (.seq (.draw 1 (opsOf (sub (bodyOf Go.Proofs.Tryz.f252) [1,0])) [⟨none,(some 3),(.faddr 2 (.tmp 1))⟩,⟨none,(some 4),(.load1 (.tmp 3))⟩,⟨none,(some 5),(.call 159 [(.tmp 4)])⟩,⟨none,(some 6),(.faddr 3 (.tmp 1))⟩,⟨none,(some 7),(.load1 (.tmp 6))⟩,⟨none,(some 8),(.call 160 [(.tmp 7)])⟩,⟨none,(some 9),(.sop .add (.tmp 5) (.tmp 8))⟩,⟨none,(some 10),(.faddr 4 (.tmp 1))⟩,⟨none,(some 11),(.load1 (.tmp 10))⟩,⟨none,(some 12),(.call 158 [(.tmp 11)])⟩,⟨none,(some 13),(.sop .add (.tmp 9) (.tmp 12))⟩,⟨none,(some 2),(.mv (.tmp 13))⟩])
 .ret))
abbrev r252 : List RV:=[(.tmp 2)]
theorem F252 : FnOk Go.Proofs.Tryz.prog 252 14 c252 r252:=⟨_,Go.Proofs.Tryz.func252,by kernel_rfl,by kernel_rfl,by kernel_rfl,by kernel_rfl,by kernel_rfl⟩
noncomputable def c253 : CC:=(.seq (.ops [⟨none,(some 4),(.alloc 128 (.agg #[(.string (.mk #[])),(.int .u64 0),(.int .u32 0),(.int .u64 0),(.string (.mk #[]))]))⟩])
 (.seq (.draw 1 (opsOf (sub (bodyOf Go.Proofs.Tryz.f253) [1,0])) [⟨none,(some 5),(.load1 (.tmp 1))⟩,⟨none,(some 6),(.load1 (.tmp 2))⟩,⟨none,(some 7),(.mv (.tmp 0))⟩,⟨none,(some 8),(.call 224 [(.tmp 7)])⟩,⟨none,(some 9),(.mv (.tmp 0))⟩,⟨none,(some 10),(.call 225 [(.tmp 9)])⟩,⟨none,(some 11),(.mv (.tmp 0))⟩,⟨none,(some 12),(.call 226 [(.tmp 11),(.const (.int .i64 32768))])⟩,⟨none,(some 13),(.build [(.string (.mk #[])),(.int .u64 0),(.int .u32 0),(.int .u64 0),(.string (.mk #[]))] [(0,(1,(.tmp 5))),(1,(1,(.tmp 6))),(2,(1,(.tmp 8))),(3,(1,(.tmp 10))),(4,(1,(.tmp 12)))])⟩,⟨none,none,(.storeN 5 (.tmp 4) (.tmp 13))⟩])
 .ret))
abbrev r253 : List RV:=[(.cN 4 5)]
theorem F253 : FnOk Go.Proofs.Tryz.prog 253 14 c253 r253:=⟨_,Go.Proofs.Tryz.func253,by kernel_rfl,by kernel_rfl,by kernel_rfl,by kernel_rfl,by kernel_rfl⟩
noncomputable def c251 : CC:=(.seq (.ops [⟨none,(some 2),(.box 296 (.tmp 0))⟩,⟨none,(some 3),(.box 297 (.tmp 1))⟩,⟨none,(some 4),(.alloc 299 (.agg #[.nilFunc,.nilFunc]))⟩])
 (.seq (.ops [⟨none,(some 5),(.mkF (.func 285) [] [(.tmp 2)])⟩,⟨none,(some 6),(.mkF (.func 286) [] [(.tmp 3)])⟩,⟨none,(some 7),(.build [.nilFunc,.nilFunc] [(0,(1,(.tmp 5))),(1,(1,(.tmp 6)))])⟩,⟨none,none,(.storeN 2 (.tmp 4) (.tmp 7))⟩])
 .ret))
abbrev r251 : List RV:=[(.cN 4 2)]
theorem F251 : FnOk Go.Proofs.Tryz.prog 251 8 c251 r251:=⟨_,Go.Proofs.Tryz.func251,by kernel_rfl,by kernel_rfl,by kernel_rfl,by kernel_rfl,by kernel_rfl⟩
noncomputable def c285 : CC:=(.seq (.ops [⟨none,(some 2),(.box 128 (.tmp 0))⟩,⟨none,(some 3),(.mv (.const (.string (.mk #[]))))⟩])
 (.seq (.draw 1 (opsOf (sub (bodyOf Go.Proofs.Tryz.f285) [1,0])) [⟨none,(some 4),(.call 96 [(.const (.int .u8 1))])⟩,⟨none,(some 5),(.load1 (.tmp 1))⟩,⟨none,(some 6),(.loadN 5 (.tmp 2))⟩,⟨none,(some 7),(.callv (.tmp 5) [(.tmp 6)])⟩,⟨none,(some 8),(.sop .add (.tmp 4) (.tmp 7))⟩,⟨none,(some 3),(.mv (.tmp 8))⟩])
 .ret))
abbrev r285 : List RV:=[(.tmp 3)]
theorem F285 : FnOk Go.Proofs.Tryz.prog 285 9 c285 r285:=⟨_,Go.Proofs.Tryz.func285,by kernel_rfl,by kernel_rfl,by kernel_rfl,by kernel_rfl,by kernel_rfl⟩
noncomputable def c286 : CC:=(.seq (.ops [⟨none,(some 3),(.alloc 128 (.agg #[(.string (.mk #[])),(.int .u64 0),(.int .u32 0),(.int .u64 0),(.string (.mk #[]))]))⟩])
 (.seq (.seq (.ops [⟨none,(some 4),(.mv (.tmp 0))⟩,⟨none,(some 5),(.call 261 [(.tmp 4)])⟩,⟨none,(some 6),(.iop .neq (.tmp 5) (.const (.int .u8 1)))⟩])
 (.cond (.tmp 6)
 (.ops [⟨none,(some 7),(.mv (.tmp 0))⟩,⟨none,(some 8),(.call 263 [(.tmp 7),(.const (.int .i64 4))])⟩])
 .skip))
 (.seq (.ops [⟨none,(some 9),(.load1 (.tmp 1))⟩,⟨none,(some 10),(.mv (.tmp 0))⟩,⟨none,(some 11),(.callv (.tmp 9) [(.tmp 10)])⟩,⟨none,none,(.storeN 5 (.tmp 3) (.tmp 11))⟩])
 .ret)))
abbrev r286 : List RV:=[(.cN 3 5)]
theorem F286 : FnOk Go.Proofs.Tryz.prog 286 12 c286 r286:=⟨_,Go.Proofs.Tryz.func286,by kernel_rfl,by kernel_rfl,by kernel_rfl,by kernel_rfl,by kernel_rfl⟩
end Go.VrB
namespace Go.Oct
open Go Go.Vc Go.VrA Go.VrB
set_option maxRecDepth 100000
def messageK (queue : ByteArray) (n : Nat) : ByteArray × Int:=keyL [str ⟨#[109]⟩,str queue,num' n] []
def termK (at_ : Nat) (queue : ByteArray) (n : Nat) : ByteArray × Int:=keyL [str ⟨#[101]⟩,num' at_,str queue,num' n] []
theorem message_c (queue : ByteArray) (n : Nat) (m : Int) (w : World) (K : Value→World→Prop) (hg : Gl m w) (hs : queue.size < 4294967281) (hn : n < 2 ^ 64)
    (h : ∀ w',Mod (fun _=>False) w w'→K (.tuple #[.string (messageK queue n).1,.int .i64 (messageK queue n).2]) w') :
    Ok Proofs.Tryz.prog 198 #[.string queue,.int .u64 n] w K:=by
  refine F198.enter (args:=[.string queue,.int .u64 n]) (by simp) ?_
  unfold c198 r198
  simp only [ZB,insVc,ne_eq,reduceCtorEq,Zaf,Zad,Zac,Za]
  refine str_c queue w _ ?_
  intro w1 hm1
  simp only [ZB,insVc,ne_eq,Nat.reduceEqDiff,Zaf,Zad,Zac,Za,Zag,Pt.val,Pt.cells,str]
  refine num_c n w1 _ ?_
  intro w2 hm2
  simp only [ZB,insVc,fillL,buildSK,Value.cells,ne_eq,Nat.reduceEqDiff,Nat.reduceAdd,Nat.reduceLeDiff,Zad,Zac,Zai,Zaj,Zak,Zbd,Zbe,Zbc,Zbb,Zal,Zam,Zan,Zbh,Zab,Pt.val,Pt.cells,num']
  have hm3:=(hm1.trans hm2).alloc (.cells #[.bool true,.int .u64 0,.string queue,.bool false,.int .u64 n,.string e0] 220)
  refine key_c ⟨#[109]⟩ [str queue,num' n] _ m _ _ (hg.mod hm3 id) (.inr (pts_lit w2 [str queue,num' n] _ rfl)) (by simp) (by decide) ?_ ?_
  · intro p hp
    rcases List.mem_cons.1 hp with rfl | hp
    · exact ⟨by simp [str],hs⟩
    · rcases List.mem_cons.1 hp with rfl | hp
      · exact ⟨hn,by simp [num',e0,ByteArray.size]⟩
      · cases hp
  intro w4 hm4
  simp only [ZB,endK,resK,packed,insVc,extK,ne_eq,Nat.reduceEqDiff,Za,Zag,Zah,Zaa,Zav]
  exact h w4 (hm3.trans hm4)
theorem term_c (at_ : Nat) (queue : ByteArray) (n : Nat) (m : Int) (w : World) (K : Value→World→Prop) (hg : Gl m w) (ha : at_ < 2 ^ 64) (hs : queue.size < 4294967281) (hn : n < 2 ^ 64)
    (h : ∀ w',Mod (fun _=>False) w w'→K (.tuple #[.string (termK at_ queue n).1,.int .i64 (termK at_ queue n).2]) w') :
    Ok Proofs.Tryz.prog 199 #[.int .u64 at_,.string queue,.int .u64 n] w K:=by
  refine F199.enter (args:=[.int .u64 at_,.string queue,.int .u64 n]) (by simp) ?_
  unfold c199 r199
  simp only [ZB,insVc,ne_eq,reduceCtorEq,Zaf,Zad,Zac,Za]
  refine num_c at_ w _ ?_
  intro w0 hm0
  simp only [ZB,insVc,ne_eq,Nat.reduceEqDiff,Zaf,Zad,Zac,Za,Zag,Pt.val,Pt.cells,num']
  refine str_c queue w0 _ ?_
  intro w1 hm1
  simp only [ZB,insVc,ne_eq,Nat.reduceEqDiff,Zaf,Zad,Zac,Za,Zag,Pt.val,Pt.cells,str]
  refine num_c n w1 _ ?_
  intro w2 hm2
  simp only [ZB,insVc,fillL,buildSK,Value.cells,ne_eq,Nat.reduceEqDiff,Nat.reduceAdd,Nat.reduceLeDiff,Zad,Zac,Zai,Zaj,Zak,Zbd,Zbe,Zbc,Zbb,Zal,Zam,Zan,Zbh,Zab,Pt.val,Pt.cells,num']
  have hm3:=((hm0.trans hm1).trans hm2).alloc (.cells #[.bool false,.int .u64 at_,.string e0,.bool true,.int .u64 0,.string queue,.bool false,.int .u64 n,.string e0] 220)
  refine key_c ⟨#[101]⟩ [num' at_,str queue,num' n] _ m _ _ (hg.mod hm3 id) (.inr (pts_lit w2 [num' at_,str queue,num' n] _ rfl)) (by simp) (by decide) ?_ ?_
  · intro p hp
    rcases List.mem_cons.1 hp with rfl | hp
    · exact ⟨ha,by simp [num',e0,ByteArray.size]⟩
    rcases List.mem_cons.1 hp with rfl | hp
    · exact ⟨by simp [str],hs⟩
    · rcases List.mem_cons.1 hp with rfl | hp
      · exact ⟨hn,by simp [num',e0,ByteArray.size]⟩
      · cases hp
  intro w4 hm4
  simp only [ZB,endK,resK,packed,insVc,extK,ne_eq,Nat.reduceEqDiff,Za,Zag,Zah,Zaa,Zav]
  exact h w4 (hm3.trans hm4)
end Go.Oct
namespace Go.Oct
open Go Go.Vc Go.VrA Go.VrB
set_option maxRecDepth 100000
structure Ms where
  queue : ByteArray
  id : Nat
  tries : Nat
  expiry : Nat
  body : ByteArray
def Ms.cells (q : Ms) : List Value:=[.string q.queue,.int .u64 q.id,.int .u32 q.tries,.int .u64 q.expiry,.string q.body]
def Ms.val (q : Ms) : Value:=.agg q.cells.toArray
def ms0 : Ms:=⟨e0,0,0,0,e0⟩
def Ms.good (q : Ms) : Prop:=q.tries < 2 ^ 32∧q.expiry < 2 ^ 64∧q.body.size < 2 ^ 60
def mput (q : Ms) : ByteArray:=big q.tries 4 ++ big q.expiry 8 ++ textB q.body
def mget (queue : ByteArray) (id : Nat) (r : Rd) : Ms × Rd :=
  let a:=number r 4
  let b:=number a.2 8
  let d:=text b.2 32768
  (⟨queue,id,a.1 % 2 ^ 32,b.1,d.1⟩,d.2)
def mread (queue : ByteArray) (id : Nat) (s : ByteArray) : Ms × Int :=
  let x:=mget queue id (ver (s,0))
  if ende x.2≠0 then (ms0,ende x.2) else (x.1,0)
def mbytes (q : Ms) : ByteArray:=big 1 1 ++ mput q
abbrev zms : Array Value:=#[.string ⟨#[]⟩,.int .u64 0,.int .u32 0,.int .u64 0,.string ⟨#[]⟩]
theorem mput_c (q : Ms) (w : World) (K : Value→World→Prop) (hq : q.good) (h : ∀ w',Mod (fun _=>False) w w'→K (.string (mput q)) w') :
    Ok Proofs.Tryz.prog 252 #[q.val] w K:=by
  refine F252.enter (args:=[q.val]) (by simp) ?_
  unfold c252 r252
  simp only [ZB,insVc,Value.cells,Zaf,Za,Ms.val,Ms.cells]
  have hb0 : (w.alloc (.cells #[.string q.queue,.int .u64 q.id,.int .u32 q.tries,.int .u64 q.expiry,.string q.body] 128)).drew.heap[w.heap.size]? = some (.cells #[.string q.queue,.int .u64 q.id,.int .u32 q.tries,.int .u64 q.expiry,.string q.body] 128 (0,0)):=get_alloc_new _ _
  have hm0 : Mod (fun _=>False) w (w.alloc (.cells #[.string q.queue,.int .u64 q.id,.int .u32 q.tries,.int .u64 q.expiry,.string q.body] 128)).drew:=((Mod.refl _ _).alloc _).drew
  refine draw_d (fun w'=>w'.heap[w.heap.size]? = some (.cells #[.string q.queue,.int .u64 q.id,.int .u32 q.tries,.int .u64 q.expiry,.string q.body] 128 (0,0))) (by kernel_rfl) (by kernel_rfl) (by kernel_rfl) (by kernel_rfl) hb0 ?_
  generalize (w.alloc (.cells #[.string q.queue,.int .u64 q.id,.int .u32 q.tries,.int .u64 q.expiry,.string q.body] 128)).drew = w1 at *
  simp only [ZB,endK,resK,packed,insVc,sopK,sopV,faddrK,ne_eq,Nat.reduceEqDiff,Zad,Zac,Zaa,Zab,Zae,pureI,vcD_nil,vcD_cons,stepD_pure,stepD_load,stepD_step,kindI,loadI]
  refine loadD1 (b:=w.heap.size) (o:=2) (v:=.int .u32 q.tries) rfl (fun w' hw'=>⟨_,_,_,hw',rfl⟩) ?_
  refine wfour_c q.tries w1 _ hq.1 ?_
  intro w2 hm2
  refine ⟨hm2.keep hb0 id, ?_⟩
  refine loadD1 (b:=w.heap.size) (o:=3) (v:=.int .u64 q.expiry) rfl (fun w' hw'=>⟨_,_,_,hw',rfl⟩) ?_
  refine weight_c q.expiry w2 _ hq.2.1 ?_
  intro w3 hm3
  refine ⟨hm3.keep (hm2.keep hb0 id) id, ?_⟩
  have x1 : ¬ (((big q.tries 4).size + (big q.expiry 8).size : Nat) : Int) > IntKind.i64.max:=by simp only [big_size,imax]; omega
  simp only [loadV_some,Zae,x1]
  refine loadD1 (b:=w.heap.size) (o:=4) (v:=.string q.body) rfl (fun w' hw'=>⟨_,_,_,hw',rfl⟩) ?_
  refine wtext_c q.body w3 _ (by have:=hq.2.2; omega) ?_
  intro w5 hm5
  refine ⟨hm5.keep (hm3.keep (hm2.keep hb0 id) id) id, ?_⟩
  have x3 : ¬ (((big q.tries 4 ++ big q.expiry 8).size + (textB q.body).size : Nat) : Int) > IntKind.i64.max:=by
    have:=hq.2.2
    simp only [Zbs,big_size,textB_size,imax]; omega
  simp only [loadV_some,Zae,x3]
  exact h w5 (((hm0.trans hm2).trans hm3).trans hm5)
theorem mget_c (b nb ib : Nat) (queue : ByteArray) (n : Nat) (r : Rd) (w : World) (K : Value→World→Prop) (hb : IsRd w b r) (hn : w.heap[nb]? = some (.cells #[.string queue] 9 (0,0))) (hi : w.heap[ib]? = some (.cells #[.int .u64 n] 27 (0,0))) (hne : nb≠b) (hie : ib≠b) (hs : (r.1.size : Int) < 2 ^ 63)
    (h : ∀ w',Mod (fun k=>k = b) w w'→IsRd w' b (mget queue n r).2→K (mget queue n r).1.val w') :
    Ok Proofs.Tryz.prog 253 #[ptr b,ptr nb,ptr ib] w K:=by
  refine F253.enter (args:=[ptr b,ptr nb,ptr ib]) (by simp) ?_
  unfold c253 r253
  simp only [ZB,insVc,Value.cells]
  have hm0 : Mod (fun k=>k = b) w (w.alloc (.cells zms 128)).drew:=((Mod.refl _ _).alloc _).drew
  have hn0:=hm0.keep hn hne
  have hi0:=hm0.keep hi hie
  have hbl:=lt_of_get hb
  have hb0 : IsRd (w.alloc (.cells zms 128)).drew b r:=by
    unfold IsRd; rw [get_drew,get_alloc_old _ _ _ hbl]; exact hb
  have hr0 : (w.alloc (.cells zms 128)).drew.heap[w.heap.size]? = some (.cells zms 128 (0,0)):=get_alloc_new _ _
  refine draw_d (fun w'=>w'.heap[nb]? = some (.cells #[.string queue] 9 (0,0))∧w'.heap[ib]? = some (.cells #[.int .u64 n] 27 (0,0))) (by kernel_rfl) (by kernel_rfl) (by kernel_rfl) (by kernel_rfl) ⟨hn0,hi0⟩ ?_
  generalize (w.alloc (.cells zms 128)).drew = w1 at *
  have hne' : w.heap.size≠b:=by omega
  have hnn : w.heap.size≠nb:=by have:=lt_of_get hn; omega
  have hni : w.heap.size≠ib:=by have:=lt_of_get hi; omega
  simp only [ZB,endK,resK,resN,packed,insVc,storeNK,buildK,fillL,Value.cells,ne_eq,Nat.reduceEqDiff,Nat.reduceAdd,Nat.reduceLeDiff,reduceCtorEq,Zaf,Zad,Zac,Za,Zai,Zaj,Zak,Zaa,Zab,Zae,pureI,vcD_nil,vcD_cons,stepD_pure,stepD_load,stepD_step,kindI,loadI]
  refine loadD1 (b:=nb) (o:=0) (v:=.string queue) rfl (fun w' hw'=>⟨_,_,_,hw'.1,rfl⟩) ?_
  refine loadD1 (b:=ib) (o:=0) (v:=.int .u64 n) rfl (fun w' hw'=>⟨_,_,_,hw'.2,rfl⟩) ?_
  refine four_c b r w1 _ hb0 hs ?_
  intro w2 hm2 hb2
  refine ⟨⟨hm2.keep hn0 hne,hm2.keep hi0 hie⟩, ?_⟩
  simp only [Nat.reduceAdd,Nat.reduceLeDiff,Zai,Zaj,Zak,Zbd,Zbe,Zbc,Zbb,Zal,Zam,Zan,and_true,and_self,Zab,Nat.zero_add,Nat.add_zero]
  refine eight_c b _ w2 _ hb2 (by have:=number_size r 4; omega) ?_
  intro w3 hm3 hb3
  have hn3:=hm3.keep (hm2.keep hn0 hne) hne
  have hi3:=hm3.keep (hm2.keep hi0 hie) hie
  refine ⟨⟨hn3,hi3⟩, ?_⟩
  simp only [Nat.reduceAdd,Nat.reduceLeDiff,Zai,Zaj,Zak,Zbd,Zbe,Zbc,Zbb,Zal,Zam,Zan,and_true,Zab,Nat.zero_add,Nat.add_zero]
  refine text_c b _ 32768 w3 _ hb3 (by have:=number_size r 4; have:=number_size (number r 4).2 8; omega) (by omega) ?_
  intro w5 hm5 hb5
  refine ⟨⟨hm5.keep hn3 hne,hm5.keep hi3 hie⟩, ?_⟩
  have hr5:=hm5.keep (hm3.keep (hm2.keep hr0 hne') hne') hne'
  have hl5:=lt_of_get hr5
  simp only [resNO_cells,storeNO_cells,setMany,isPlain,Nat.reduceAdd,Nat.reduceLeDiff,Zai,Zaj,Zak,Zbd,Zbe,Zbc,Zbb,Zal,Zam,Zan,true_and,and_self,Zab,Nat.zero_add,Nat.add_zero,Bool.and_true,Zaq,Zap,Zar,Zao,Zas,Zat,Zau,Zaw,Zax,Zbf,hr5,hl5]
  refine ⟨⟨by rw [get_set_other _ _ _ _ (Ne.symm hnn)]; exact hm5.keep hn3 hne,by rw [get_set_other _ _ _ _ (Ne.symm hni)]; exact hm5.keep hi3 hie⟩, ?_⟩
  have hx : (mget queue n r).1.val = .agg #[.string queue,.int .u64 n,.int .u32 ((number r 4).1 % 2 ^ 32 : Nat),.int .u64 ((number (number r 4).2 8).1 : Nat),.string (text (number (number r 4).2 8).2 32768).1]:=rfl
  rw [hx] at h
  refine h _ ?_ ?_
  · exact ((((hm0.trans hm2).trans hm3).trans hm5)).set (.inl (Nat.le_refl _))
  · unfold IsRd
    rw [get_set_other _ _ _ _ (Ne.symm hne')]
    exact hb5
end Go.Oct
namespace Go.Vc
open Go Go.ChangeShapes
theorem choose_list {α : Type} {R : Nat→α→Prop} : ∀ (n : Nat),(∀ i,i < n→∃ x,R i x)→∃ l : List α,l.length = n∧∀ (i : Nat) x,l[i]? = some x→R i x:=by
  intro n
  induction n with
  | zero=>exact fun _=>⟨[],rfl,fun i x h=>by simp at h⟩
  | succ n ih =>
    intro h
    obtain ⟨l,hl,hr⟩:=ih (fun i hi=>h i (by omega))
    obtain ⟨x,hx⟩:=h n (by omega)
    refine ⟨l ++ [x],by simp [hl],fun i y hy => ?_⟩
    rw [List.getElem?_append] at hy
    split at hy
    · exact hr i y hy
    · rename_i hi
      have h1:=(List.getElem?_eq_some_iff.1 hy).1
      have h2 : i - l.length = 0:=by simpa using h1
      have h3 : i = n:=by omega
      rw [h2] at hy
      simp at hy
      rw [h3,← hy]; exact hx
section
variable {H : Type} {enc : TypeId × Value→H} {P : Program} {W : World} {base : Nat} {spare : Nat→Bool} {held : Bool}
theorem cells_at {a : Addr} {n : Nat} {cs : List Value} (h : W.cells? base a n = some cs) (hn : 0 < n) : ∃ b o cur t f,a = ⟨b,o,none⟩∧W.heap[b]? = some (.cells cur t f)∧o + n≤cur.size∧cur.extract o (o + n) = cs.toArray:=by
  obtain ⟨_,hlen,hc⟩:=World.cells?_some h
  obtain ⟨b,o,sp⟩:=a
  have h0:=hc 0 hn
  obtain ⟨c0,hc0⟩ : ∃ c0,cs[0]? = some c0:=⟨_,List.getElem?_eq_getElem (by omega)⟩
  rw [hc0] at h0
  have hsp : sp = none:=by simpa [Addr.add] using World.cell?_spot h0
  subst hsp
  have hheap : ∃ cur t f,W.heap[b]? = some (.cells cur t f):=by
    rw [Addr.add_lit] at h0
    unfold World.cell? at h0
    cases ho : W.heap[b]? with
    | none=>rw [ho] at h0; cases h0
    | some x =>
      rw [ho] at h0
      cases x with
      | cells cur t f=>exact ⟨cur,t,f,rfl⟩
      | _=>cases h0
  obtain ⟨cur,t,f,hb⟩:=hheap
  have hcell : ∀ i,i < n→cur[o + i]? = cs[i]?:=by
    intro i hi
    have:=hc i hi
    rw [Addr.add_lit] at this
    rw [← this]
    simp [World.cell?,hb]
  have hsz : o + n≤cur.size:=by
    have:=hcell (n - 1) (by omega)
    obtain ⟨c1,hc1⟩ : ∃ c1,cs[n - 1]? = some c1:=⟨_,List.getElem?_eq_getElem (by omega)⟩
    rw [hc1] at this
    have:=(Array.getElem?_eq_some_iff.1 this).1
    omega
  refine ⟨b,o,cur,t,f,rfl,hb,hsz, ?_⟩
  apply Array.ext
  · simp; omega
  · intro i h1 h2
    have hi : i < n:=by simp at h2; omega
    have:=hcell i hi
    rw [Array.getElem?_eq_getElem (by omega),List.getElem?_eq_getElem (by omega)] at this
    simpa using Option.some.inj this
theorem slice_list {α : Type} {t e : TypeId} {fuel : Nat} {x : DataW H × List MemPlace} {a0 : Option Addr} {len cap : Nat} (cells : α→List Value) (G : α→Prop) (s : Nat) (hs : 0 < s) (ht : P.underlying t = some (.slice e)) (hc : P.cellsOf e = s)
    (each : ∀ (n : Nat) cs y,DataW.trod enc P W base spare held n e cs = some y→∃ v,cs = cells v∧G v) (h : DataW.trod enc P W base spare held fuel t [.slice a0 len cap] = some x) :
    ∃ l : List α,len = l.length∧(∀ v ∈ l,G v)∧(a0 = none→len = 0∧cap = 0)∧len≤cap∧cap≤maxLen ∧
      ∀ (i : Nat) v,l[i]? = some v→∃ b o cur t f,a0 = some ⟨b,o,none⟩∧W.heap[b]? = some (.cells cur t f)∧o + i * s + s≤cur.size∧cur.extract (o + i * s) (o + i * s + s) = (cells v).toArray:=by
  rcases DataW.trod_slice ht h with ⟨h0,_⟩ | ⟨a,len',cap',elems,rest,n,_,h0,_,_,hl,hm,hlen,hel,_⟩
  · simp at h0
    obtain ⟨rfl,rfl,rfl⟩:=h0
    exact ⟨[],rfl,by simp,fun _=>⟨rfl,rfl⟩,Nat.le_refl _,by simp [maxLen],fun i v hv=>by simp at hv⟩
  · simp at h0
    obtain ⟨rfl,rfl,rfl⟩:=h0
    have hall : ∀ i,i < len→∃ v,G v∧W.cells? base (a.add (i * s)) s = some (cells v):=by
      intro i hi
      have:=hel i hi
      rw [hc] at this
      rw [List.getElem?_eq_getElem (by omega)] at this
      obtain ⟨cs,h1,h2⟩:=Option.bind_eq_some_iff.1 this
      obtain ⟨v,rfl,hg⟩:=each n cs _ h2
      exact ⟨v,hg,h1⟩
    obtain ⟨l,hll,hr⟩:=choose_list len hall
    refine ⟨l,hll.symm,fun v hv => ?_,(fun e=>by cases e),hl,hm,fun i v hv => ?_⟩
    · obtain ⟨i,hi⟩:=List.getElem?_of_mem hv
      exact (hr i v hi).1
    · have h1:=(hr i v hv).2
      have h00 : a.spot = none:=by
        have hz : 0 < l.length:=by have:=(List.getElem?_eq_some_iff.1 hv).1; omega
        obtain ⟨b,o,cur,t',f,ha,_⟩:=cells_at (hr 0 l[0] (List.getElem?_eq_getElem hz)).2 hs
        simp [Addr.add] at ha
        rw [ha]
      obtain ⟨ab,ao,asp⟩:=a
      simp only at h00
      subst h00
      rw [Addr.add_lit] at h1
      obtain ⟨b,o,cur,t',f,ha,hb,hsz,hex⟩:=cells_at h1 hs
      simp at ha
      obtain ⟨rfl,rfl⟩:=ha
      exact ⟨_,_,cur,t',f,rfl,hb,hsz,hex⟩
end
end Go.Vc
namespace Go.Oct
open Go Go.Vc Go.ChangeShapes
set_option maxRecDepth 100000
section
variable {H : Type} {enc : TypeId × Value→H} {W : World} {base : Nat} {spare : Nat→Bool} {held : Bool}
theorem wf_u64 {n : Int} (h : (Lit.int .u64 n).wf = true) : ∃ k : Nat,n = (k : Int)∧k < 2 ^ 64:=by
  simp only [Lit.wf,Zbl,IntKind.min,IntKind.max,IntKind.signed,IntKind.bits] at h
  exact ⟨n.toNat,by simp at h; omega,by simp at h; omega⟩
theorem wf_u32 {n : Int} (h : (Lit.int .u32 n).wf = true) : ∃ k : Nat,n = (k : Int)∧k < 2 ^ 32:=by
  simp only [Lit.wf,Zbl,IntKind.min,IntKind.max,IntKind.signed,IntKind.bits] at h
  exact ⟨n.toNat,by simp at h; omega,by simp at h; omega⟩
end
end Go.Oct
namespace Go.Oct
open Go Go.Vc Go.ChangeShapes
set_option maxRecDepth 100000
section
variable {H : Type} {enc : TypeId × Value→H} {W : World} {base : Nat} {spare : Nat→Bool} {held : Bool}
theorem trod_u64 (n : Nat) (cs : List Value) (y : DataW H × List MemPlace) (h : DataW.trod enc Proofs.Tryz.prog W base spare held n 27 cs = some y) : ∃ k : Nat,cs = [.int .u64 (k : Int)]∧k < 18446744073709551616:=by
  have u64 : Proofs.Tryz.prog.underlying 27 = some (.int .u64):=by kernel_rfl
  obtain ⟨n1,e1,_,w1⟩:=DataW.trod_int u64 h
  obtain ⟨k1,rfl,b1⟩:=wf_u64 w1
  exact ⟨k1,e1,b1⟩
theorem cells_of_strs {P : Program} {fuel : Nat} {t e : TypeId} {n : Nat} {cs : List Value} {zs : List (List UInt8)} {p : List MemPlace}
    (ht : P.underlying t = some (.array n e)) (he : P.underlying e = some .string) (hce : P.cellsOf e = 1) (hct : P.cellsOf t = n)
    (h : DataW.trod enc P W base spare held fuel t cs = some (.agg (zs.map fun z=>.lit (.string z)),p)) : cs = zs.map fun z=>Value.string ⟨z.toArray⟩:=by
  cases fuel with
  | zero=>simp [DataW.trod] at h
  | succ fuel =>
    simp only [DataW.trod,ht,hce,hct,Zbm] at h
    split at h
    · rename_i hl
      obtain ⟨xs,hm,hx⟩:=Option.map_eq_some_iff.1 h
      have hxs : xs.map (·.1) = zs.map fun z=>(DataW.lit (.string z) : DataW H):=by
        have:=congrArg Prod.fst hx
        simpa using this
      have hxl : xs.length = n:=by simpa using Lib.mapM_length hm
      have hzl : zs.length = n:=by
        have:=congrArg List.length hxs
        simp at this
        omega
      apply List.ext_getElem?
      intro i
      by_cases hi : i < n
      · obtain ⟨b,hb,hf⟩:=Lib.mapM_at hm i i (by simp [hi])
        obtain ⟨z,hc,rfl,_⟩:=DataW.trod_string he hf
        have h1 : cs[i]? = some (.string z):=by
          have:=congrArg (·[0]?) hc
          simpa [List.getElem?_take,List.getElem?_drop] using this
        have h2 : (xs.map (·.1))[i]? = some (DataW.lit (.string z.data.toList) : DataW H):=by simp [hb]
        rw [hxs] at h2
        simp only [List.getElem?_map,Option.map_eq_some_iff,DataW.lit.injEq,Lit.string.injEq] at h2
        obtain ⟨z',hz',rfl⟩:=h2
        simp [h1,hz']
      · rw [List.getElem?_eq_none (by omega),List.getElem?_eq_none (by simp; omega)]
    · cases h
end
end Go.Oct
namespace Go.Tal
open Go
def cls (n : Nat) : Nat:=Lib.bitLen n
theorem aux_mono : ∀ (f a b : Nat),a≤b→Lib.bitLenAux f a≤Lib.bitLenAux f b
  | 0,a,b,_=>by simp [Lib.bitLenAux]
  | f + 1,a,b,h=>by
    simp only [Lib.bitLenAux]
    by_cases ha : a = 0
    · rw [if_pos ha]; omega
    · rw [if_neg ha,if_neg (by omega)]
      have:=aux_mono f (a / 2) (b / 2) (by omega)
      omega
theorem cls_mono {a b : Nat} (h : a≤b) : cls a≤cls b:=aux_mono 64 a b h
theorem cls_le {a : Nat} (h : a < 18446744073709551616) : cls a≤64:=Lib.bitLen_le a 64 (by omega) (by omega)
def cAt (l : List Nat) (i : Nat) : Nat:=l.countP (fun n=>decide (cls n = i))
def pre (l : List Nat) (i : Nat) : Nat:=l.countP (fun n=>decide (cls n≤i))
def below (l : List Nat) (i : Nat) : Nat:=l.countP (fun n=>decide (cls n < i))
theorem pre_eq (l : List Nat) (i : Nat) : pre l i = below l i + cAt l i:=by
  induction l with
  | nil=>rfl
  | cons a r ih =>
    simp only [pre,below,cAt,List.countP_cons,decide_eq_true_eq] at ih ⊢
    rcases Nat.lt_trichotomy (cls a) i with h | h | h
    · rw [if_pos (by omega),if_pos h,if_neg (by omega)]; omega
    · rw [if_pos (by omega),if_neg (by omega),if_pos h]; omega
    · rw [if_neg (by omega),if_neg (by omega),if_neg (by omega)]; omega
theorem below_succ (l : List Nat) (i : Nat) : below l (i + 1) = pre l i:=by
  unfold below pre
  congr 1
  funext n
  simp only [decide_eq_decide]
  omega
theorem below_zero (l : List Nat) : below l 0 = 0:=by
  unfold below
  rw [List.countP_eq_zero]
  intro a _
  simp
theorem pre_le (l : List Nat) (i : Nat) : pre l i≤l.length:=List.countP_le_length
theorem pre_all (l : List Nat) (h : ∀ n ∈ l,n < 18446744073709551616) (i : Nat) (hi : 64≤i) : pre l i = l.length:=by
  unfold pre
  rw [List.countP_eq_length]
  intro a ha
  have:=cls_le (h a ha)
  simp only [decide_eq_true_eq]
  omega
structure Rw where
  c : Nat
  s : Nat
  lo : Nat
  hi : Nat
  cl : List Nat
def zs : List Nat:=List.replicate 65 0
def Rw.zero : Rw:=⟨0,0,0,0,zs⟩
def addL (a b : List Nat) : List Nat:=List.zipWith (fun x y=>(x + y) % 18446744073709551616) a b
def Rw.plus (r s : Rw) : Rw :=
  if s.c = 0 then r else if r.c = 0 then s else
    ⟨(r.c + s.c) % 18446744073709551616,(r.s + s.s) % 18446744073709551616,min r.lo s.lo,max r.hi s.hi,addL r.cl s.cl⟩
def Rw.one (n : Nat) : Rw:=⟨1,n,n,n,zs.set (cls n) 1⟩
def sumN (l : List Nat) : Nat:=l.foldl (fun a n=>(a + n) % 18446744073709551616) 0
def minN : List Nat→Nat
  | []=>0
  | a :: r=>r.foldl min a
def maxN (l : List Nat) : Nat:=l.foldl max 0
def rowOf (l : List Nat) : Rw:=⟨l.length,sumN l,minN l,maxN l,(List.range 65).map (cAt l)⟩
theorem rowOf_nil : rowOf [] = Rw.zero:=by
  unfold rowOf Rw.zero sumN minN maxN zs
  congr 1
theorem sumN_append (l : List Nat) (n : Nat) : sumN (l ++ [n]) = (sumN l + n) % 18446744073709551616:=by
  simp [sumN,List.foldl_append]
theorem minN_append (l : List Nat) (h : l≠[]) (n : Nat) : minN (l ++ [n]) = min (minN l) n:=by
  cases l with
  | nil=>exact (h rfl).elim
  | cons a r=>simp [minN,List.foldl_append]
theorem maxN_append (l : List Nat) (n : Nat) : maxN (l ++ [n]) = max (maxN l) n:=by
  simp [maxN,List.foldl_append]
theorem cAt_append (l : List Nat) (n i : Nat) : cAt (l ++ [n]) i = cAt l i + (if cls n = i then 1 else 0):=by
  unfold cAt
  rw [List.countP_append,List.countP_singleton]
  simp only [decide_eq_true_eq]
theorem one_cl (n : Nat) : (Rw.one n).cl = (List.range 65).map (fun i=>if cls n = i then 1 else 0):=by
  unfold Rw.one zs
  apply List.ext_getElem?
  intro i
  simp only [List.getElem?_map,List.getElem?_set,List.length_replicate,List.getElem?_replicate]
  by_cases hi : i < 65
  · by_cases hc : cls n = i
    · subst hc; simp [hi]
    · simp [hc,hi]
  · have h2 : (List.range 65)[i]? = none:=by simp; omega
    rw [h2]
    by_cases hc : cls n = i
    · subst hc; simp [hi]
    · simp [hc,hi]
theorem cl_append (l : List Nat) (n : Nat) (hlen : l.length < 18446744073709551615) : addL ((List.range 65).map (cAt l)) (Rw.one n).cl = (List.range 65).map (cAt (l ++ [n])):=by
  rw [one_cl]
  unfold addL
  rw [List.zipWith_map,List.zipWith_self]
  refine List.map_congr_left (fun i _ => ?_)
  rw [cAt_append]
  have : cAt l i≤l.length:=List.countP_le_length
  apply Nat.mod_eq_of_lt
  split <;> omega
theorem row_one (n : Nat) (hn : n < 18446744073709551616) : Rw.one n = rowOf [n]:=by
  unfold rowOf sumN minN maxN
  have e : (List.range 65).map (cAt [n]) = (Rw.one n).cl:=by
    rw [one_cl]
    refine List.map_congr_left (fun i _ => ?_)
    simp [cAt,List.countP_cons]
  rw [e]
  simp only [List.length_singleton,Zbc,Zbb,Nat.zero_add,Nat.mod_eq_of_lt hn,Nat.zero_max]
  rfl
theorem row_plus (l : List Nat) (n : Nat) (hn : n < 18446744073709551616) (hlen : l.length < 18446744073709551615) : (rowOf l).plus (Rw.one n) = rowOf (l ++ [n]):=by
  unfold Rw.plus
  rw [if_neg (by simp [Rw.one])]
  by_cases h : l = []
  · subst h
    rw [if_pos (show (rowOf []).c = 0 from rfl)]
    exact row_one n hn
  · have hl : l.length≠0:=by simpa using h
    rw [if_neg (by exact hl)]
    show Rw.mk _ _ _ _ _ = _
    unfold rowOf
    simp only [cl_append l n hlen,sumN_append,minN_append l h,maxN_append,Zca,List.length_singleton]
    rw [show (Rw.one n).c = 1 from rfl,show (Rw.one n).s = n from rfl,show (Rw.one n).lo = n from rfl,show (Rw.one n).hi = n from rfl,Nat.mod_eq_of_lt (by omega)]
def needN (c s o : Nat) : Nat:=if o≤s then c else c * s / o + (if 0 < c * s % o then 1 else 0)
def atF (least : Nat) : List Nat→Nat→Nat→Nat
  | [],_,_=>64
  | c :: r,seen,i=>if least≤(seen + c) % 18446744073709551616 then i else atF least r ((seen + c) % 18446744073709551616) (i + 1)
def Rw.at (r : Rw) (share of : Nat) : Nat:=if r.c = 0∨of = 0∨share = 0 then 0 else atF (needN r.c share of) r.cl 0 0
theorem need_le (c s o : Nat) (ho : 0 < o) : needN c s o≤c:=by
  unfold needN
  split
  · exact Nat.le_refl _
  · rename_i h
    split
    · rename_i hr
      have h1 : c * s / o < c:=by
        rw [Nat.div_lt_iff_lt_mul ho]
        rcases Nat.eq_zero_or_pos c with rfl | hc
        · simp at hr
        · exact (Nat.mul_lt_mul_left hc).2 (by omega)
      omega
    · have : c * s / o≤c:=by
        rw [Nat.div_le_iff_le_mul_add_pred ho]
        have : c * s≤c * o:=Nat.mul_le_mul_left _ (by omega)
        rw [Nat.mul_comm o c]; omega
      omega
theorem need_iff (c s o k : Nat) (ho : 0 < o) (hs : s < o) : needN c s o≤k ↔ c * s≤k * o:=by
  unfold needN
  rw [if_neg (by omega)]
  have hd:=Nat.div_add_mod (c * s) o
  have hm:=Nat.mod_lt (c * s) ho
  generalize c * s / o = q at *
  generalize c * s % o = r at *
  constructor
  · intro h
    by_cases hr : 0 < r
    · rw [if_pos hr] at h
      have : o * (q + 1)≤o * k:=Nat.mul_le_mul_left _ h
      rw [Nat.mul_comm k o]
      rw [Nat.mul_add] at this
      omega
    · rw [if_neg hr] at h
      have : o * q≤o * k:=Nat.mul_le_mul_left _ (by omega)
      rw [Nat.mul_comm k o]
      omega
  · intro h
    rw [Nat.mul_comm k o] at h
    by_cases hr : 0 < r
    · rw [if_pos hr]
      have : o * q < o * k:=by omega
      have:=Nat.lt_of_mul_lt_mul_left this
      omega
    · rw [if_neg hr]
      have : o * q≤o * k:=by omega
      have:=Nat.le_of_mul_le_mul_left this ho
      omega
theorem need_pos (c s o : Nat) (ho : 0 < o) (hc : 0 < c) (hs : 0 < s) : 0 < needN c s o:=by
  by_cases h : o≤s
  · unfold needN; rw [if_pos h]; exact hc
  · refine Nat.pos_of_ne_zero (fun h0 => ?_)
    have:=(need_iff c s o 0 ho (by omega)).1 (by omega)
    have : 0 < c * s:=Nat.mul_pos hc hs
    omega
theorem need_mono (c s t o : Nat) (ho : 0 < o) (h : s≤t) : needN c s o≤needN c t o:=by
  by_cases ht : o≤t
  · have : needN c t o = c:=by unfold needN; rw [if_pos ht]
    rw [this]; exact need_le c s o ho
  · have h2:=(need_iff c t o (needN c t o) ho (by omega)).1 (Nat.le_refl _)
    refine (need_iff c s o _ ho (by omega)).2 (Nat.le_trans (Nat.mul_le_mul_left _ h) h2)
theorem atF_spec (l : List Nat) (hl : l.length < 18446744073709551616) (hb : ∀ n ∈ l,n < 18446744073709551616) (least : Nat) (h1 : least≤l.length) : ∀ (m i : Nat),i + m = 65→below l i < least →
    (let k:=atF least (((List.range 65).map (cAt l)).drop i) (below l i) i; k≤64∧least≤pre l k∧below l k < least):=by
  intro m
  induction m with
  | zero =>
    intro i hi hlt
    have : i = 65:=by omega
    subst this
    rw [below_succ,pre_all l hb 64 (by omega)] at hlt
    omega
  | succ m ih =>
    intro i hi hlt
    have hd : ((List.range 65).map (cAt l)).drop i = cAt l i :: ((List.range 65).map (cAt l)).drop (i + 1):=by
      rw [List.drop_eq_getElem_cons (by simp; omega)]
      simp
    have hp:=pre_eq l i
    have hle:=pre_le l i
    have hmod : (below l i + cAt l i) % 18446744073709551616 = pre l i:=by rw [← hp]; exact Nat.mod_eq_of_lt (by omega)
    rw [hd]
    simp only [atF,hmod]
    by_cases hc : least≤pre l i
    · rw [if_pos hc]; exact ⟨by omega,hc,hlt⟩
    · rw [if_neg hc]
      have:=ih (i + 1) (by omega) (by rw [below_succ]; omega)
      rw [below_succ] at this
      exact this
theorem at_spec (l : List Nat) (hl : l.length < 18446744073709551616) (hb : ∀ n ∈ l,n < 18446744073709551616) (share o : Nat) (h0 : l≠[]) (ho : 0 < o) (hs : 0 < share) :
    (rowOf l).at share o≤64∧needN l.length share o≤pre l ((rowOf l).at share o)∧below l ((rowOf l).at share o) < needN l.length share o:=by
  have hlen : l.length≠0:=by simpa using h0
  have he : (rowOf l).at share o = atF (needN l.length share o) ((List.range 65).map (cAt l)) 0 0:=by
    unfold Rw.at
    rw [if_neg]
    · rfl
    · rintro (x | x | x)
      · exact hlen x
      · omega
      · omega
  rw [he]
  have:=atF_spec l hl hb (needN l.length share o) (need_le _ _ _ ho) 65 0 (by omega) (by rw [below_zero]; exact need_pos _ _ _ ho (by omega) hs)
  rw [below_zero,List.drop_zero] at this
  exact this
theorem at_empty (share o : Nat) : (rowOf []).at share o = 0:=by unfold Rw.at; rw [if_pos (.inl rfl)]
theorem at_zero (r : Rw) (o : Nat) : r.at 0 o = 0:=by unfold Rw.at; rw [if_pos (.inr (.inr rfl))]
theorem at_le (l : List Nat) (hl : l.length < 18446744073709551616) (hb : ∀ n ∈ l,n < 18446744073709551616) (share o : Nat) : (rowOf l).at share o≤64:=by
  by_cases h0 : l = []
  · rw [h0,at_empty]; omega
  by_cases ho : o = 0
  · unfold Rw.at; rw [if_pos (.inr (.inl ho))]; omega
  by_cases hs : share = 0
  · rw [hs,at_zero]; omega
  exact (at_spec l hl hb share o h0 (by omega) (by omega)).1
theorem below_mono (l : List Nat) {i j : Nat} (h : i≤j) : below l i≤below l j:=by
  unfold below
  refine List.countP_mono_left (fun x _ hx => ?_)
  simp only [decide_eq_true_eq] at hx ⊢
  omega
theorem pre_lt_below (l : List Nat) {i j : Nat} (h : i < j) : pre l i≤below l j:=by rw [← below_succ]; exact below_mono l h
theorem at_mono (l : List Nat) (hl : l.length < 18446744073709551616) (hb : ∀ n ∈ l,n < 18446744073709551616) (s t o : Nat) (h : s≤t) (ho : 0 < o) : (rowOf l).at s o≤(rowOf l).at t o:=by
  by_cases h0 : l = []
  · rw [h0,at_empty]; omega
  by_cases hs : s = 0
  · rw [hs,at_zero]; omega
  obtain ⟨_,_,h3⟩:=at_spec l hl hb s o h0 ho (by omega)
  obtain ⟨_,k2,_⟩:=at_spec l hl hb t o h0 ho (by omega)
  have hn:=need_mono l.length s t o ho h
  refine Nat.le_of_not_lt (fun hlt => ?_)
  have:=pre_lt_below l hlt
  omega
theorem half_low (l : List Nat) (hl : l.length < 18446744073709551616) (hb : ∀ n ∈ l,n < 18446744073709551616) : l.length≤2 * pre l ((rowOf l).at 1 2):=by
  by_cases h0 : l = []
  · subst h0; simp
  obtain ⟨_,h2,_⟩:=at_spec l hl hb 1 2 h0 (by omega) (by omega)
  have:=(need_iff l.length 1 2 _ (by omega) (by omega)).1 h2
  omega
theorem half_below (l : List Nat) (hl : l.length < 18446744073709551616) (hb : ∀ n ∈ l,n < 18446744073709551616) (h0 : l≠[]) : 2 * below l ((rowOf l).at 1 2) < l.length:=by
  obtain ⟨_,_,h3⟩:=at_spec l hl hb 1 2 h0 (by omega) (by omega)
  refine Nat.lt_of_not_le (fun h => ?_)
  have:=(need_iff l.length 1 2 (below l ((rowOf l).at 1 2)) (by omega) (by omega)).2 (by omega)
  omega
theorem foldl_max_ge (l : List Nat) : ∀ a,a≤l.foldl max a∧∀ n ∈ l,n≤l.foldl max a:=by
  induction l with
  | nil=>intro a; simp
  | cons b r ih =>
    intro a
    have:=ih (max a b)
    simp only [Zbc]
    refine ⟨by omega,fun n hn => ?_⟩
    rcases List.mem_cons.1 hn with rfl | hn
    · omega
    · exact this.2 n hn
theorem foldl_max_mem (l : List Nat) : ∀ a,l.foldl max a = a∨l.foldl max a ∈ l:=by
  induction l with
  | nil=>intro a; exact .inl rfl
  | cons b r ih =>
    intro a
    simp only [Zbc]
    rcases ih (max a b) with h | h
    · rw [h]
      rcases Nat.le_total a b with x | x
      · right; rw [Nat.max_eq_right x]; simp
      · left; exact Nat.max_eq_left x
    · exact .inr (List.mem_cons_of_mem _ h)
theorem maxN_mem (l : List Nat) (h0 : l≠[]) : maxN l ∈ l:=by
  rcases foldl_max_mem l 0 with h | h
  · cases l with
    | nil=>exact (h0 rfl).elim
    | cons a r =>
      have:=(foldl_max_ge (a :: r) 0).2 a (by simp)
      rw [h] at this
      have : a = 0:=by omega
      subst this
      unfold maxN
      rw [h]; simp
  · exact h
theorem at_full (l : List Nat) (hl : l.length < 18446744073709551616) (hb : ∀ n ∈ l,n < 18446744073709551616) (h0 : l≠[]) : (rowOf l).at 1 1 = cls (rowOf l).hi:=by
  obtain ⟨_,h2,h3⟩:=at_spec l hl hb 1 1 h0 (by omega) (by omega)
  have e : needN l.length 1 1 = l.length:=rfl
  rw [e] at h2 h3
  have hall : ∀ n ∈ l,cls n≤(rowOf l).at 1 1:=by
    have : pre l ((rowOf l).at 1 1) = l.length:=Nat.le_antisymm (pre_le _ _) h2
    unfold pre at this
    rw [List.countP_eq_length] at this
    intro n hn
    simpa using this n hn
  refine Nat.le_antisymm ?_ (hall _ (maxN_mem l h0))
  refine Nat.le_of_not_lt (fun hlt => ?_)
  have : below l ((rowOf l).at 1 1) = l.length:=by
    unfold below
    rw [List.countP_eq_length]
    intro n hn
    have h4:=cls_mono ((foldl_max_ge l 0).2 n hn)
    have h5 : cls (maxN l) < (rowOf l).at 1 1:=hlt
    simp only [decide_eq_true_eq]
    exact Nat.lt_of_le_of_lt h4 h5
  omega
end Go.Tal
