import Derived.Test.YtcbacomljnjacaaGreatDoorProg
import Derived.Test.YtcbacomljnjacaaGreatDoorVcI
import Derived.Test.YtcbacomljnjacaaGreatDoorVdB
import Derived.Test.YtcbacomljnjacaaGreatDoorVkE
import Derived.Test.YtcbacomljnjacaaGreatDoorVzC
import Derived.Test.YtcbacomljnjacaaGreatDoorVzF
set_option linter.unusedSimpArgs false
set_option linter.unusedVariables false
set_option linter.unusedSectionVars false
set_option linter.unnecessarySimpa false
namespace Go.VrJ
open Go Go.Vc
set_option maxRecDepth 100000
noncomputable def c41 : CC:=(.seq (.ops [⟨none,(some 0),(.mv (.const (.bool false)))⟩])
 (.seq (.seq (.ops [⟨none,(some 7),(.call 54 [])⟩,⟨none,(some 8),(.not (.tmp 7))⟩,⟨none,(some 9),(.mv (.tmp 8))⟩,⟨(some (9,false)),(some 10),(.call 55 [])⟩,⟨(some (9,false)),(some 11),(.not (.tmp 10))⟩,⟨none,(some 12),(.pick (.tmp 9) (.const (.bool true)) (.tmp 11))⟩,⟨none,(some 13),(.mv (.tmp 12))⟩,⟨(some (13,false)),(some 14),(.call 56 [])⟩,⟨(some (13,false)),(some 15),(.not (.tmp 14))⟩,⟨none,(some 16),(.pick (.tmp 13) (.const (.bool true)) (.tmp 15))⟩])
 (.cond (.tmp 16)
 (.seq (.ops [⟨none,(some 0),(.mv (.const (.bool false)))⟩])
 .ret)
 .skip))
 (.seq (.ops [⟨none,(some 17),(.call 57 [])⟩,⟨none,(some 1),(.mv (.tmp 17))⟩])
 (.seq (.ops [⟨none,(some 18),(.build [(.string (.mk #[])),(.int .u32 0),(.int .u64 0),(.int .u32 0),(.string (.mk #[]))] [(0,(1,(.const (.string (.mk #[97])))))])⟩,⟨none,(some 2),(.alloc 121 (.agg #[(.string (.mk #[])),(.int .u32 0),(.int .u64 0),(.int .u32 0),(.string (.mk #[]))]))⟩,⟨none,none,(.storeN 5 (.tmp 2) (.tmp 18))⟩])
 (.seq (.ops [⟨none,(some 19),(.mv (.tmp 1))⟩,⟨none,(some 20),(.loadN 5 (.tmp 2))⟩,⟨none,(some 21),(.build [(.int .i64 0),(.string (.mk #[])),(.int .u32 0),(.int .u64 0),(.int .u32 0),(.string (.mk #[])),(.string (.mk #[])),(.int .i64 0),(.string (.mk #[])),(.string (.mk #[])),(.string (.mk #[])),(.string (.mk #[])),(.string (.mk #[])),(.int .u64 0),(.int .u64 0),(.int .u64 0),(.int .u64 0),(.bool false)] [(0,(1,(.const (.int .i64 1)))),(1,(5,(.tmp 20)))])⟩,⟨none,(some 22),(.call 58 [(.tmp 19),(.tmp 21)])⟩,⟨none,(some 3),(.alloc 52 (.agg #[(.int .i64 0),(.int .u64 0),(.slice none 0 0),(.slice none 0 0),(.slice none 0 0),(.slice none 0 0)]))⟩,⟨none,none,(.storeN 6 (.tmp 3) (.tmp 22))⟩])
 (.seq (.ops [⟨none,(some 23),(.mv (.tmp 1))⟩,⟨none,(some 24),(.build [(.int .i64 0),(.string (.mk #[])),(.int .u32 0),(.int .u64 0),(.int .u32 0),(.string (.mk #[])),(.string (.mk #[])),(.int .i64 0),(.string (.mk #[])),(.string (.mk #[])),(.string (.mk #[])),(.string (.mk #[])),(.string (.mk #[])),(.int .u64 0),(.int .u64 0),(.int .u64 0),(.int .u64 0),(.bool false)] [(0,(1,(.const (.int .i64 5)))),(11,(1,(.const (.string (.mk #[97]))))),(12,(1,(.const (.string (.mk #[104,105])))))])⟩,⟨none,(some 25),(.call 58 [(.tmp 23),(.tmp 24)])⟩,⟨none,(some 4),(.alloc 52 (.agg #[(.int .i64 0),(.int .u64 0),(.slice none 0 0),(.slice none 0 0),(.slice none 0 0),(.slice none 0 0)]))⟩,⟨none,none,(.storeN 6 (.tmp 4) (.tmp 25))⟩])
 (.seq (.ops [⟨none,(some 26),(.mv (.tmp 1))⟩,⟨none,(some 27),(.loadN 5 (.tmp 2))⟩,⟨none,(some 28),(.build [(.int .i64 0),(.string (.mk #[])),(.int .u32 0),(.int .u64 0),(.int .u32 0),(.string (.mk #[])),(.string (.mk #[])),(.int .i64 0),(.string (.mk #[])),(.string (.mk #[])),(.string (.mk #[])),(.string (.mk #[])),(.string (.mk #[])),(.int .u64 0),(.int .u64 0),(.int .u64 0),(.int .u64 0),(.bool false)] [(0,(1,(.const (.int .i64 6)))),(1,(5,(.tmp 27))),(15,(1,(.const (.int .u64 1)))),(16,(1,(.const (.int .u64 5))))])⟩,⟨none,(some 29),(.call 58 [(.tmp 26),(.tmp 28)])⟩,⟨none,(some 5),(.alloc 52 (.agg #[(.int .i64 0),(.int .u64 0),(.slice none 0 0),(.slice none 0 0),(.slice none 0 0),(.slice none 0 0)]))⟩,⟨none,none,(.storeN 6 (.tmp 5) (.tmp 29))⟩])
 (.seq (.ops [⟨none,(some 30),(.mv (.tmp 1))⟩,⟨none,(some 31),(.loadN 5 (.tmp 2))⟩,⟨none,(some 32),(.build [(.int .i64 0),(.string (.mk #[])),(.int .u32 0),(.int .u64 0),(.int .u32 0),(.string (.mk #[])),(.string (.mk #[])),(.int .i64 0),(.string (.mk #[])),(.string (.mk #[])),(.string (.mk #[])),(.string (.mk #[])),(.string (.mk #[])),(.int .u64 0),(.int .u64 0),(.int .u64 0),(.int .u64 0),(.bool false)] [(0,(1,(.const (.int .i64 7)))),(1,(5,(.tmp 31))),(13,(1,(.const (.int .u64 1)))),(14,(1,(.const (.int .u64 1))))])⟩,⟨none,(some 33),(.call 58 [(.tmp 30),(.tmp 32)])⟩,⟨none,(some 6),(.alloc 52 (.agg #[(.int .i64 0),(.int .u64 0),(.slice none 0 0),(.slice none 0 0),(.slice none 0 0),(.slice none 0 0)]))⟩,⟨none,none,(.storeN 6 (.tmp 6) (.tmp 33))⟩])
 (.seq (.ops [⟨none,(some 34),(.faddr 0 (.tmp 3))⟩,⟨none,(some 35),(.load1 (.tmp 34))⟩,⟨none,(some 36),(.iop .eql (.tmp 35) (.const (.int .i64 0)))⟩,⟨none,(some 37),(.mv (.tmp 36))⟩,⟨(some (37,true)),(some 38),(.faddr 0 (.tmp 4))⟩,⟨(some (37,true)),(some 39),(.load1 (.tmp 38))⟩,⟨(some (37,true)),(some 40),(.iop .eql (.tmp 39) (.const (.int .i64 0)))⟩,⟨none,(some 41),(.pick (.tmp 37) (.tmp 40) (.const (.bool false)))⟩,⟨none,(some 42),(.mv (.tmp 41))⟩,⟨(some (42,true)),(some 43),(.faddr 2 (.tmp 4))⟩,⟨(some (42,true)),(some 44),(.load1 (.tmp 43))⟩,⟨(some (42,true)),(some 45),(.lenL (.tmp 44))⟩,⟨(some (42,true)),(some 46),(.iop .eql (.tmp 45) (.const (.int .i64 1)))⟩,⟨none,(some 47),(.pick (.tmp 42) (.tmp 46) (.const (.bool false)))⟩,⟨none,(some 48),(.mv (.tmp 47))⟩,⟨(some (48,true)),(some 49),(.faddr 2 (.tmp 4))⟩,⟨(some (48,true)),(some 50),(.load1 (.tmp 49))⟩,⟨(some (48,true)),(some 51),(.iaddr 1 (.tmp 50) (.const (.int .i64 0)))⟩,⟨(some (48,true)),(some 52),(.load1 (.tmp 51))⟩,⟨(some (48,true)),(some 53),(.iop .eql (.tmp 52) (.const (.int .u64 1)))⟩,⟨none,(some 54),(.pick (.tmp 48) (.tmp 53) (.const (.bool false)))⟩,⟨none,(some 55),(.mv (.tmp 54))⟩,⟨(some (55,true)),(some 56),(.faddr 5 (.tmp 5))⟩,⟨(some (55,true)),(some 57),(.load1 (.tmp 56))⟩,⟨(some (55,true)),(some 58),(.lenL (.tmp 57))⟩,⟨(some (55,true)),(some 59),(.iop .eql (.tmp 58) (.const (.int .i64 1)))⟩,⟨none,(some 60),(.pick (.tmp 55) (.tmp 59) (.const (.bool false)))⟩,⟨none,(some 61),(.mv (.tmp 60))⟩,⟨(some (61,true)),(some 62),(.faddr 5 (.tmp 5))⟩,⟨(some (61,true)),(some 63),(.load1 (.tmp 62))⟩,⟨(some (61,true)),(some 64),(.iaddr 5 (.tmp 63) (.const (.int .i64 0)))⟩,⟨(some (61,true)),(some 65),(.faddr 2 (.tmp 64))⟩,⟨(some (61,true)),(some 66),(.load1 (.tmp 65))⟩,⟨(some (61,true)),(some 67),(.iop .eql (.tmp 66) (.const (.int .u32 1)))⟩,⟨none,(some 68),(.pick (.tmp 61) (.tmp 67) (.const (.bool false)))⟩,⟨none,(some 69),(.mv (.tmp 68))⟩,⟨(some (69,true)),(some 70),(.faddr 0 (.tmp 6))⟩,⟨(some (69,true)),(some 71),(.load1 (.tmp 70))⟩,⟨(some (69,true)),(some 72),(.iop .eql (.tmp 71) (.const (.int .i64 0)))⟩,⟨none,(some 73),(.pick (.tmp 69) (.tmp 72) (.const (.bool false)))⟩,⟨none,(some 0),(.mv (.tmp 73))⟩])
 .ret)))))))))
abbrev r41 : List RV:=[(.tmp 0)]
theorem F41 : FnOk Go.Proofs.Tryz.prog 41 74 c41 r41:=⟨_,Go.Proofs.Tryz.func41,by kernel_rfl,by kernel_rfl,by kernel_rfl,by kernel_rfl,by kernel_rfl⟩
noncomputable def c57 : CC:=(.seq (.ops [⟨none,(some 0),(.mv (.const (.pointer none)))⟩])
 (.seq (.ops [⟨none,(some 1),(.call 72 [(.const (.slice none 0 0))])⟩,⟨none,(some 2),(.mkI 134 (.tmp 1))⟩,⟨none,(some 3),(.call 73 [])⟩,⟨none,(some 4),(.build [.nilIface,.nilFunc,(.slice none 0 0),(.int .u64 0)] [(0,(1,(.tmp 2))),(1,(2,(.tmp 3)))])⟩,⟨none,(some 5),(.box 144 (.tmp 4))⟩,⟨none,(some 0),(.mv (.tmp 5))⟩])
 .ret))
abbrev r57 : List RV:=[(.tmp 0)]
theorem F57 : FnOk Go.Proofs.Tryz.prog 57 6 c57 r57:=⟨_,Go.Proofs.Tryz.func57,by kernel_rfl,by kernel_rfl,by kernel_rfl,by kernel_rfl,by kernel_rfl⟩
noncomputable def c58 : CC:=(.seq (.ops [⟨none,(some 3),(.box 126 (.tmp 1))⟩,⟨none,(some 4),(.alloc 52 (.agg #[(.int .i64 0),(.int .u64 0),(.slice none 0 0),(.slice none 0 0),(.slice none 0 0),(.slice none 0 0)]))⟩])
 (.seq (.seq (.ops [⟨none,(some 10),(.loadN 18 (.tmp 3))⟩,⟨none,(some 11),(.call 74 [(.tmp 10)])⟩,⟨none,(some 9),(.mv (.tmp 11))⟩,⟨none,(some 12),(.ext (.tmp 9) 0)⟩,⟨none,(some 13),(.ext (.tmp 9) 1)⟩,⟨none,(some 5),(.mv (.tmp 12))⟩,⟨none,(some 6),(.mv (.tmp 13))⟩])
 (.seq (.ops [⟨none,(some 14),(.mv (.tmp 6))⟩,⟨none,(some 15),(.iop .neq (.tmp 14) (.const (.int .i64 0)))⟩])
 (.cond (.tmp 15)
 (.seq (.ops [⟨none,(some 16),(.mv (.tmp 6))⟩,⟨none,(some 17),(.build [(.int .i64 0),(.int .u64 0),(.slice none 0 0),(.slice none 0 0),(.slice none 0 0),(.slice none 0 0)] [(0,(1,(.tmp 16)))])⟩,⟨none,none,(.storeN 6 (.tmp 4) (.tmp 17))⟩])
 .ret)
 .skip)))
 (.seq (.ops [⟨none,(some 7),(.alloc 52 (.agg #[(.int .i64 0),(.int .u64 0),(.slice none 0 0),(.slice none 0 0),(.slice none 0 0),(.slice none 0 0)]))⟩])
 (.seq (.seq (.ops [⟨none,(some 18),(.mv (.tmp 0))⟩,⟨none,(some 19),(.loadN 18 (.tmp 3))⟩,⟨none,(some 20),(.call 75 [(.tmp 18),(.tmp 19),(.tmp 7)])⟩,⟨none,(some 8),(.mv (.tmp 20))⟩])
 (.seq (.ops [⟨none,(some 21),(.mv (.tmp 8))⟩,⟨none,(some 22),(.iop .neq (.tmp 21) (.const (.int .i64 0)))⟩])
 (.cond (.tmp 22)
 (.seq (.ops [⟨none,(some 23),(.mv (.tmp 8))⟩,⟨none,(some 24),(.build [(.int .i64 0),(.int .u64 0),(.slice none 0 0),(.slice none 0 0),(.slice none 0 0),(.slice none 0 0)] [(0,(1,(.tmp 23)))])⟩,⟨none,none,(.storeN 6 (.tmp 4) (.tmp 24))⟩])
 .ret)
 .skip)))
 (.seq (.ops [⟨none,(some 25),(.loadN 6 (.tmp 7))⟩,⟨none,none,(.storeN 6 (.tmp 4) (.tmp 25))⟩])
 .ret)))))
abbrev r58 : List RV:=[(.cN 4 6)]
theorem F58 : FnOk Go.Proofs.Tryz.prog 58 26 c58 r58:=⟨_,Go.Proofs.Tryz.func58,by kernel_rfl,by kernel_rfl,by kernel_rfl,by kernel_rfl,by kernel_rfl⟩
noncomputable def c75 : CC:=(.seq (.ops [⟨none,(some 4),(.box 126 (.tmp 1))⟩,⟨none,(some 6),(.mv (.const (.int .i64 0)))⟩])
 (.seq (.seq (.ops [⟨none,(some 10),(.faddr 0 (.tmp 4))⟩,⟨none,(some 11),(.load1 (.tmp 10))⟩])
 (.block 0
 (.seq (.ops [⟨none,(some 13),(.iop .eql (.tmp 11) (.const (.int .i64 1)))⟩,⟨none,(some 12),(.mv (.tmp 13))⟩])
 (.cond (.tmp 12)
 (.seq (.draw 3 (opsOf (sub (bodyOf Go.Proofs.Tryz.f75) [1,0,1,0,1,0,0])) [⟨none,(some 14),(.mv (.tmp 0))⟩,⟨none,(some 15),(.nilc (.tmp 14))⟩,⟨none,(some 16),(.faddr 0 (.tmp 15))⟩,⟨none,(some 17),(.load1 (.tmp 16))⟩,⟨none,(some 18),(.faddr 1 (.tmp 4))⟩,⟨none,(some 19),(.loadN 5 (.tmp 18))⟩,⟨none,(some 20),(.call 98 [(.tmp 17),(.tmp 19)])⟩,⟨none,(some 6),(.mv (.tmp 20))⟩])
 .ret)
 (.seq (.ops [⟨none,(some 22),(.iop .eql (.tmp 11) (.const (.int .i64 3)))⟩,⟨none,(some 21),(.mv (.tmp 22))⟩])
 (.cond (.tmp 21)
 (.seq (.draw 5 (opsOf (sub (bodyOf Go.Proofs.Tryz.f75) [1,0,1,0,1,1,1,0,0])) [⟨none,(some 23),(.mv (.tmp 0))⟩,⟨none,(some 24),(.nilc (.tmp 23))⟩,⟨none,(some 25),(.faddr 0 (.tmp 24))⟩,⟨none,(some 26),(.load1 (.tmp 25))⟩,⟨none,(some 27),(.faddr 6 (.tmp 4))⟩,⟨none,(some 28),(.loadN 4 (.tmp 27))⟩,⟨none,(some 29),(.call 99 [(.tmp 26),(.tmp 28)])⟩,⟨none,(some 6),(.mv (.tmp 29))⟩])
 .ret)
 (.seq (.ops [⟨none,(some 31),(.iop .eql (.tmp 11) (.const (.int .i64 4)))⟩,⟨none,(some 30),(.mv (.tmp 31))⟩])
 (.cond (.tmp 30)
 (.seq (.draw 7 (opsOf (sub (bodyOf Go.Proofs.Tryz.f75) [1,0,1,0,1,1,1,1,1,0,0])) [⟨none,(some 32),(.mv (.tmp 0))⟩,⟨none,(some 33),(.nilc (.tmp 32))⟩,⟨none,(some 34),(.faddr 0 (.tmp 33))⟩,⟨none,(some 35),(.load1 (.tmp 34))⟩,⟨none,(some 36),(.faddr 6 (.tmp 4))⟩,⟨none,(some 37),(.loadN 4 (.tmp 36))⟩,⟨none,(some 38),(.call 100 [(.tmp 35),(.tmp 37)])⟩,⟨none,(some 6),(.mv (.tmp 38))⟩])
 .ret)
 (.seq (.ops [⟨none,(some 40),(.iop .eql (.tmp 11) (.const (.int .i64 5)))⟩,⟨none,(some 39),(.mv (.tmp 40))⟩])
 (.cond (.tmp 39)
 (.seq (.ops [⟨none,(some 41),(.mv (.tmp 0))⟩,⟨none,(some 42),(.loadN 18 (.tmp 4))⟩,⟨none,(some 43),(.mv (.tmp 2))⟩,⟨none,(some 44),(.call 101 [(.tmp 41),(.tmp 42),(.tmp 43)])⟩,⟨none,(some 6),(.mv (.tmp 44))⟩])
 .ret)
 (.seq (.seq (.ops [⟨none,(some 46),(.iop .eql (.tmp 11) (.const (.int .i64 7)))⟩,⟨none,(some 45),(.mv (.tmp 46))⟩])
 (.cond (.tmp 45)
 .skip
 (.seq (.ops [⟨none,(some 47),(.iop .eql (.tmp 11) (.const (.int .i64 8)))⟩,⟨none,(some 45),(.mv (.tmp 47))⟩])
 (.cond (.tmp 45)
 .skip
 (.ops [⟨none,(some 48),(.iop .eql (.tmp 11) (.const (.int .i64 9)))⟩,⟨none,(some 45),(.mv (.tmp 48))⟩])))))
 (.cond (.tmp 45)
 (.seq (.ops [⟨none,(some 49),(.mv (.tmp 0))⟩,⟨none,(some 50),(.loadN 18 (.tmp 4))⟩,⟨none,(some 51),(.mv (.tmp 2))⟩,⟨none,(some 52),(.call 102 [(.tmp 49),(.tmp 50),(.tmp 51)])⟩,⟨none,(some 6),(.mv (.tmp 52))⟩])
 .ret)
 (.seq (.ops [⟨none,(some 54),(.iop .eql (.tmp 11) (.const (.int .i64 11)))⟩,⟨none,(some 53),(.mv (.tmp 54))⟩])
 (.cond (.tmp 53)
 (.seq (.ops [⟨none,(some 55),(.mv (.tmp 0))⟩,⟨none,(some 56),(.loadN 18 (.tmp 4))⟩,⟨none,(some 57),(.mv (.tmp 2))⟩,⟨none,(some 58),(.call 103 [(.tmp 55),(.tmp 56),(.tmp 57)])⟩,⟨none,(some 6),(.mv (.tmp 58))⟩])
 .ret)
 .skip))))))))))))))
 (.seq (.draw 16 (opsOf (sub (bodyOf Go.Proofs.Tryz.f75) [1,1,0])) [⟨none,(some 60),(.mv (.tmp 0))⟩,⟨none,(some 61),(.nilc (.tmp 60))⟩,⟨none,(some 62),(.faddr 0 (.tmp 61))⟩,⟨none,(some 63),(.load1 (.tmp 62))⟩,⟨none,(some 64),(.faddr 1 (.tmp 4))⟩,⟨none,(some 65),(.faddr 0 (.tmp 64))⟩,⟨none,(some 66),(.load1 (.tmp 65))⟩,⟨none,(some 67),(.call 104 [(.tmp 63),(.tmp 66)])⟩,⟨none,(some 59),(.mv (.tmp 67))⟩,⟨none,(some 68),(.ext (.tmp 59) 0)⟩,⟨none,(some 69),(.ext (.tmp 59) 1)⟩,⟨none,(some 7),(.alloc 121 (.agg #[(.string (.mk #[])),(.int .u32 0),(.int .u64 0),(.int .u32 0),(.string (.mk #[]))]))⟩,⟨none,none,(.storeN 5 (.tmp 7) (.tmp 68))⟩,⟨none,(some 8),(.mv (.tmp 69))⟩])
 (.seq (.seq (.ops [⟨none,(some 70),(.mv (.tmp 8))⟩,⟨none,(some 71),(.iop .neq (.tmp 70) (.const (.int .i64 0)))⟩])
 (.cond (.tmp 71)
 (.seq (.ops [⟨none,(some 72),(.mv (.tmp 8))⟩,⟨none,(some 6),(.mv (.tmp 72))⟩])
 .ret)
 .skip))
 (.seq (.seq (.ops [⟨none,(some 73),(.faddr 0 (.tmp 4))⟩,⟨none,(some 74),(.load1 (.tmp 73))⟩])
 (.block 1
 (.seq (.ops [⟨none,(some 76),(.iop .eql (.tmp 74) (.const (.int .i64 6)))⟩,⟨none,(some 75),(.mv (.tmp 76))⟩])
 (.cond (.tmp 75)
 (.seq (.ops [⟨none,(some 77),(.mv (.tmp 0))⟩,⟨none,(some 78),(.loadN 5 (.tmp 7))⟩,⟨none,(some 79),(.loadN 18 (.tmp 4))⟩,⟨none,(some 80),(.mv (.tmp 2))⟩,⟨none,(some 81),(.call 105 [(.tmp 77),(.tmp 78),(.tmp 79),(.tmp 80)])⟩,⟨none,(some 6),(.mv (.tmp 81))⟩])
 .ret)
 (.seq (.ops [⟨none,(some 83),(.iop .eql (.tmp 74) (.const (.int .i64 12)))⟩,⟨none,(some 82),(.mv (.tmp 83))⟩])
 (.cond (.tmp 82)
 (.seq (.ops [⟨none,(some 84),(.mv (.tmp 0))⟩,⟨none,(some 85),(.loadN 5 (.tmp 7))⟩,⟨none,(some 86),(.mv (.tmp 2))⟩,⟨none,(some 87),(.call 106 [(.tmp 84),(.tmp 85),(.tmp 86)])⟩,⟨none,(some 6),(.mv (.tmp 87))⟩])
 .ret)
 (.seq (.ops [⟨none,(some 89),(.iop .eql (.tmp 74) (.const (.int .i64 13)))⟩,⟨none,(some 88),(.mv (.tmp 89))⟩])
 (.cond (.tmp 88)
 (.seq (.ops [⟨none,(some 90),(.mv (.tmp 0))⟩,⟨none,(some 91),(.loadN 5 (.tmp 7))⟩,⟨none,(some 92),(.loadN 18 (.tmp 4))⟩,⟨none,(some 93),(.mv (.tmp 2))⟩,⟨none,(some 94),(.call 107 [(.tmp 90),(.tmp 91),(.tmp 92),(.tmp 93)])⟩,⟨none,(some 6),(.mv (.tmp 94))⟩])
 .ret)
 .skip))))))))
 (.seq (.seq (.ops [⟨none,(some 95),(.mv (.tmp 0))⟩,⟨none,(some 96),(.loadN 5 (.tmp 7))⟩,⟨none,(some 97),(.mv (.tmp 2))⟩,⟨none,(some 98),(.call 108 [(.tmp 95),(.tmp 96),(.tmp 97)])⟩,⟨none,(some 9),(.mv (.tmp 98))⟩])
 (.seq (.ops [⟨none,(some 99),(.mv (.tmp 9))⟩,⟨none,(some 100),(.iop .neq (.tmp 99) (.const (.int .i64 0)))⟩,⟨none,(some 101),(.mv (.tmp 100))⟩,⟨(some (101,false)),(some 102),(.faddr 0 (.tmp 4))⟩,⟨(some (101,false)),(some 103),(.load1 (.tmp 102))⟩,⟨(some (101,false)),(some 104),(.iop .eql (.tmp 103) (.const (.int .i64 10)))⟩,⟨none,(some 105),(.pick (.tmp 101) (.const (.bool true)) (.tmp 104))⟩])
 (.cond (.tmp 105)
 (.seq (.ops [⟨none,(some 106),(.mv (.tmp 9))⟩,⟨none,(some 6),(.mv (.tmp 106))⟩])
 .ret)
 .skip)))
 (.seq (.draw 29 (opsOf (sub (bodyOf Go.Proofs.Tryz.f75) [1,1,1,1,1,1,0])) [⟨none,(some 107),(.mv (.tmp 0))⟩,⟨none,(some 108),(.nilc (.tmp 107))⟩,⟨none,(some 109),(.faddr 0 (.tmp 108))⟩,⟨none,(some 110),(.load1 (.tmp 109))⟩,⟨none,(some 111),(.faddr 0 (.tmp 7))⟩,⟨none,(some 112),(.load1 (.tmp 111))⟩,⟨none,(some 113),(.call 109 [(.tmp 110),(.tmp 112)])⟩,⟨none,(some 6),(.mv (.tmp 113))⟩])
 .ret)))))))
abbrev r75 : List RV:=[(.tmp 6)]
theorem F75 : FnOk Go.Proofs.Tryz.prog 75 114 c75 r75:=⟨_,Go.Proofs.Tryz.func75,by kernel_rfl,by kernel_rfl,by kernel_rfl,by kernel_rfl,by kernel_rfl⟩
noncomputable def c28 : CC:=(.seq (.ops [⟨none,(some 0),(.mv (.const (.bool false)))⟩])
 (.seq (.ops [⟨none,(some 1),(.call 41 [])⟩,⟨none,(some 0),(.mv (.tmp 1))⟩])
 .ret))
abbrev r28 : List RV:=[(.tmp 0)]
theorem F28 : FnOk Go.Proofs.Tryz.prog 28 2 c28 r28:=⟨_,Go.Proofs.Tryz.func28,by kernel_rfl,by kernel_rfl,by kernel_rfl,by kernel_rfl,by kernel_rfl⟩
noncomputable def c101 : CC:=(.seq (.ops [⟨none,(some 4),(.box 126 (.tmp 1))⟩,⟨none,(some 6),(.mv (.const (.int .i64 0)))⟩])
 (.seq (.seq (.ops [⟨none,(some 12),(.faddr 16 (.tmp 4))⟩,⟨none,(some 13),(.load1 (.tmp 12))⟩,⟨none,(some 14),(.iop .gtr (.tmp 13) (.const (.int .u64 1099511627776)))⟩])
 (.cond (.tmp 14)
 (.seq (.ops [⟨none,(some 6),(.mv (.const (.int .i64 29)))⟩])
 .ret)
 .skip))
 (.seq (.draw 3 (opsOf (sub (bodyOf Go.Proofs.Tryz.f101) [1,1,0])) [⟨none,(some 16),(.mv (.tmp 0))⟩,⟨none,(some 17),(.nilc (.tmp 16))⟩,⟨none,(some 18),(.faddr 0 (.tmp 17))⟩,⟨none,(some 19),(.load1 (.tmp 18))⟩,⟨none,(some 20),(.faddr 10 (.tmp 4))⟩,⟨none,(some 21),(.load1 (.tmp 20))⟩,⟨none,(some 22),(.faddr 11 (.tmp 4))⟩,⟨none,(some 23),(.load1 (.tmp 22))⟩,⟨none,(some 24),(.call 168 [(.tmp 19),(.tmp 21),(.tmp 23)])⟩,⟨none,(some 15),(.mv (.tmp 24))⟩,⟨none,(some 25),(.ext (.tmp 15) 0)⟩,⟨none,(some 26),(.ext (.tmp 15) 1)⟩,⟨none,(some 7),(.mv (.tmp 25))⟩,⟨none,(some 8),(.mv (.tmp 26))⟩])
 (.seq (.seq (.ops [⟨none,(some 27),(.mv (.tmp 7))⟩,⟨none,(some 28),(.lenL (.tmp 27))⟩,⟨none,(some 29),(.mv (.const (.int .i64 0)))⟩])
 (.block 0
 (.loop
 (.seq (.ops [⟨none,(some 30),(.iop .lss (.tmp 29) (.tmp 28))⟩])
 (.seq (.cond (.tmp 30)
 .skip
 (.exit 0))
 (.seq (.block 1
 (.seq (.ops [⟨none,(some 31),(.iaddr 1 (.tmp 27) (.tmp 29))⟩,⟨none,(some 32),(.load1 (.tmp 31))⟩,⟨none,(some 10),(.mv (.tmp 32))⟩])
 (.seq (.ops [⟨none,(some 33),(.mv (.tmp 0))⟩,⟨none,(some 34),(.mv (.tmp 10))⟩,⟨none,(some 35),(.faddr 12 (.tmp 4))⟩,⟨none,(some 36),(.load1 (.tmp 35))⟩,⟨none,(some 37),(.faddr 16 (.tmp 4))⟩,⟨none,(some 38),(.load1 (.tmp 37))⟩,⟨none,(some 39),(.mv (.tmp 2))⟩,⟨none,(some 40),(.call 169 [(.tmp 33),(.tmp 34),(.tmp 36),(.tmp 38),(.tmp 39)])⟩,⟨none,(some 11),(.mv (.tmp 40))⟩])
 (.seq (.ops [⟨none,(some 41),(.mv (.tmp 11))⟩,⟨none,(some 42),(.iop .neq (.tmp 41) (.const (.int .i64 0)))⟩])
 (.cond (.tmp 42)
 (.seq (.ops [⟨none,(some 43),(.mv (.tmp 11))⟩,⟨none,(some 6),(.mv (.tmp 43))⟩])
 .ret)
 .skip)))))
 (.ops [⟨none,(some 44),(.iop .add (.tmp 29) (.const (.int .i64 1)))⟩,⟨none,(some 29),(.mv (.tmp 44))⟩])))))))
 (.seq (.ops [⟨none,(some 45),(.mv (.tmp 8))⟩,⟨none,(some 6),(.mv (.tmp 45))⟩])
 .ret)))))
abbrev r101 : List RV:=[(.tmp 6)]
theorem F101 : FnOk Go.Proofs.Tryz.prog 101 46 c101 r101:=⟨_,Go.Proofs.Tryz.func101,by kernel_rfl,by kernel_rfl,by kernel_rfl,by kernel_rfl,by kernel_rfl⟩
noncomputable def c102 : CC:=(.seq (.ops [⟨none,(some 4),(.box 126 (.tmp 1))⟩,⟨none,(some 6),(.mv (.const (.int .i64 0)))⟩])
 (.seq (.draw 1 (opsOf (sub (bodyOf Go.Proofs.Tryz.f102) [1,0])) [⟨none,(some 10),(.mv (.tmp 0))⟩,⟨none,(some 11),(.nilc (.tmp 10))⟩,⟨none,(some 12),(.faddr 0 (.tmp 11))⟩,⟨none,(some 13),(.load1 (.tmp 12))⟩,⟨none,(some 14),(.faddr 1 (.tmp 4))⟩,⟨none,(some 15),(.faddr 0 (.tmp 14))⟩,⟨none,(some 16),(.load1 (.tmp 15))⟩,⟨none,(some 17),(.faddr 13 (.tmp 4))⟩,⟨none,(some 18),(.load1 (.tmp 17))⟩,⟨none,(some 19),(.call 145 [(.tmp 13),(.tmp 16),(.tmp 18)])⟩,⟨none,(some 9),(.mv (.tmp 19))⟩,⟨none,(some 20),(.ext (.tmp 9) 0)⟩,⟨none,(some 21),(.ext (.tmp 9) 1)⟩,⟨none,(some 7),(.alloc 128 (.agg #[(.string (.mk #[])),(.int .u64 0),(.int .u32 0),(.int .u64 0),(.string (.mk #[]))]))⟩,⟨none,none,(.storeN 5 (.tmp 7) (.tmp 20))⟩,⟨none,(some 8),(.mv (.tmp 21))⟩])
 (.seq (.block 0
 (.seq (.ops [⟨none,(some 23),(.mv (.tmp 8))⟩,⟨none,(some 24),(.iop .neq (.tmp 23) (.const (.int .i64 0)))⟩,⟨none,(some 22),(.mv (.tmp 24))⟩])
 (.cond (.tmp 22)
 (.seq (.ops [⟨none,(some 25),(.mv (.tmp 8))⟩,⟨none,(some 6),(.mv (.tmp 25))⟩])
 .ret)
 (.seq (.ops [⟨none,(some 27),(.mv (.tmp 0))⟩,⟨none,(some 28),(.loadN 5 (.tmp 7))⟩,⟨none,(some 29),(.call 170 [(.tmp 27),(.tmp 28)])⟩,⟨none,(some 30),(.not (.tmp 29))⟩,⟨none,(some 31),(.mv (.tmp 30))⟩,⟨(some (31,false)),(some 32),(.faddr 2 (.tmp 7))⟩,⟨(some (31,false)),(some 33),(.load1 (.tmp 32))⟩,⟨(some (31,false)),(some 34),(.conv .u64 (.tmp 33))⟩,⟨(some (31,false)),(some 35),(.faddr 14 (.tmp 4))⟩,⟨(some (31,false)),(some 36),(.load1 (.tmp 35))⟩,⟨(some (31,false)),(some 37),(.iop .neq (.tmp 34) (.tmp 36))⟩,⟨none,(some 38),(.pick (.tmp 31) (.const (.bool true)) (.tmp 37))⟩,⟨none,(some 26),(.mv (.tmp 38))⟩])
 (.cond (.tmp 26)
 (.seq (.ops [⟨none,(some 6),(.mv (.const (.int .i64 25)))⟩])
 .ret)
 .skip)))))
 (.seq (.seq (.ops [⟨none,(some 39),(.faddr 0 (.tmp 4))⟩,⟨none,(some 40),(.load1 (.tmp 39))⟩])
 (.block 1
 (.seq (.ops [⟨none,(some 42),(.iop .eql (.tmp 40) (.const (.int .i64 9)))⟩,⟨none,(some 41),(.mv (.tmp 42))⟩])
 (.cond (.tmp 41)
 (.seq (.seq (.ops [⟨none,(some 43),(.faddr 16 (.tmp 4))⟩,⟨none,(some 44),(.load1 (.tmp 43))⟩,⟨none,(some 45),(.call 171 [(.tmp 44),(.const (.int .u64 1099511627776))])⟩,⟨none,(some 46),(.not (.tmp 45))⟩])
 (.cond (.tmp 46)
 (.seq (.ops [⟨none,(some 6),(.mv (.const (.int .i64 2)))⟩])
 .ret)
 .skip))
 (.seq (.draw 10 (opsOf (sub (bodyOf Go.Proofs.Tryz.f102) [1,1,1,0,1,0,1,0,1,0])) [⟨none,(some 47),(.mv (.tmp 0))⟩,⟨none,(some 48),(.mv (.tmp 0))⟩,⟨none,(some 49),(.nilc (.tmp 48))⟩,⟨none,(some 50),(.faddr 1 (.tmp 49))⟩,⟨none,(some 51),(.loadN 2 (.tmp 50))⟩,⟨none,(some 52),(.loadN 5 (.tmp 7))⟩,⟨none,(some 53),(.call 172 [(.tmp 52)])⟩,⟨none,(some 54),(.mv (.tmp 0))⟩,⟨none,(some 55),(.nilc (.tmp 54))⟩,⟨none,(some 56),(.faddr 3 (.tmp 55))⟩,⟨none,(some 57),(.load1 (.tmp 56))⟩,⟨none,(some 58),(.faddr 16 (.tmp 4))⟩,⟨none,(some 59),(.load1 (.tmp 58))⟩,⟨none,(some 60),(.iop .add (.tmp 57) (.tmp 59))⟩,⟨none,(some 61),(.call 87 [(.tmp 51),(.tmp 53),(.tmp 60)])⟩,⟨none,(some 62),(.nilc (.tmp 47))⟩,⟨none,(some 63),(.faddr 1 (.tmp 62))⟩,⟨none,none,(.storeN 2 (.tmp 63) (.tmp 61))⟩])
 (.seq (.ops [⟨none,(some 6),(.mv (.const (.int .i64 0)))⟩])
 .ret)))
 (.seq (.ops [⟨none,(some 65),(.iop .eql (.tmp 40) (.const (.int .i64 8)))⟩,⟨none,(some 64),(.mv (.tmp 65))⟩])
 (.cond (.tmp 64)
 (.seq (.draw 13 (opsOf (sub (bodyOf Go.Proofs.Tryz.f102) [1,1,1,0,1,0,1,1,1,0,0])) [⟨none,(some 66),(.mv (.tmp 0))⟩,⟨none,(some 67),(.mv (.tmp 0))⟩,⟨none,(some 68),(.nilc (.tmp 67))⟩,⟨none,(some 69),(.faddr 1 (.tmp 68))⟩,⟨none,(some 70),(.loadN 2 (.tmp 69))⟩,⟨none,(some 71),(.loadN 5 (.tmp 7))⟩,⟨none,(some 72),(.call 172 [(.tmp 71)])⟩,⟨none,(some 73),(.call 146 [(.tmp 70),(.tmp 72)])⟩,⟨none,(some 74),(.nilc (.tmp 66))⟩,⟨none,(some 75),(.faddr 1 (.tmp 74))⟩,⟨none,none,(.storeN 2 (.tmp 75) (.tmp 73))⟩])
 (.seq (.seq (.ops [⟨none,(some 76),(.faddr 17 (.tmp 4))⟩,⟨none,(some 77),(.load1 (.tmp 76))⟩])
 (.cond (.tmp 77)
 (.seq (.ops [⟨none,(some 78),(.mv (.tmp 0))⟩,⟨none,(some 79),(.loadN 5 (.tmp 7))⟩,⟨none,(some 80),(.mv (.tmp 2))⟩,⟨none,(some 81),(.call 173 [(.tmp 78),(.tmp 79),(.tmp 80)])⟩,⟨none,(some 6),(.mv (.tmp 81))⟩])
 .ret)
 .skip))
 (.seq (.ops [⟨none,(some 6),(.mv (.const (.int .i64 0)))⟩])
 .ret)))
 .skip))))))
 (.seq (.draw 17 (opsOf (sub (bodyOf Go.Proofs.Tryz.f102) [1,1,1,1,0])) [⟨none,(some 82),(.mv (.tmp 0))⟩,⟨none,(some 83),(.mv (.tmp 0))⟩,⟨none,(some 84),(.nilc (.tmp 83))⟩,⟨none,(some 85),(.faddr 1 (.tmp 84))⟩,⟨none,(some 86),(.loadN 2 (.tmp 85))⟩,⟨none,(some 87),(.loadN 5 (.tmp 7))⟩,⟨none,(some 88),(.call 172 [(.tmp 87)])⟩,⟨none,(some 89),(.call 146 [(.tmp 86),(.tmp 88)])⟩,⟨none,(some 90),(.nilc (.tmp 82))⟩,⟨none,(some 91),(.faddr 1 (.tmp 90))⟩,⟨none,none,(.storeN 2 (.tmp 91) (.tmp 89))⟩])
 (.seq (.draw 18 (opsOf (sub (bodyOf Go.Proofs.Tryz.f102) [1,1,1,1,1,0])) [⟨none,(some 93),(.mv (.tmp 0))⟩,⟨none,(some 94),(.nilc (.tmp 93))⟩,⟨none,(some 95),(.faddr 0 (.tmp 94))⟩,⟨none,(some 96),(.load1 (.tmp 95))⟩,⟨none,(some 97),(.faddr 0 (.tmp 7))⟩,⟨none,(some 98),(.load1 (.tmp 97))⟩,⟨none,(some 99),(.faddr 1 (.tmp 7))⟩,⟨none,(some 100),(.load1 (.tmp 99))⟩,⟨none,(some 101),(.call 174 [(.tmp 96),(.tmp 98),(.tmp 100)])⟩,⟨none,(some 92),(.mv (.tmp 101))⟩,⟨none,(some 102),(.ext (.tmp 92) 0)⟩,⟨none,(some 103),(.ext (.tmp 92) 1)⟩,⟨none,(some 8),(.mv (.tmp 103))⟩])
 (.seq (.ops [⟨none,(some 104),(.mv (.tmp 8))⟩,⟨none,(some 6),(.mv (.tmp 104))⟩])
 .ret)))))))
abbrev r102 : List RV:=[(.tmp 6)]
theorem F102 : FnOk Go.Proofs.Tryz.prog 102 105 c102 r102:=⟨_,Go.Proofs.Tryz.func102,by kernel_rfl,by kernel_rfl,by kernel_rfl,by kernel_rfl,by kernel_rfl⟩
noncomputable def c105 : CC:=(.seq (.ops [⟨none,(some 5),(.box 121 (.tmp 1))⟩,⟨none,(some 6),(.box 126 (.tmp 2))⟩,⟨none,(some 8),(.mv (.const (.int .i64 0)))⟩])
 (.seq (.seq (.ops [⟨none,(some 14),(.faddr 15 (.tmp 6))⟩,⟨none,(some 15),(.load1 (.tmp 14))⟩,⟨none,(some 16),(.call 171 [(.tmp 15),(.const (.int .u64 32))])⟩,⟨none,(some 17),(.not (.tmp 16))⟩,⟨none,(some 18),(.mv (.tmp 17))⟩,⟨(some (18,false)),(some 19),(.faddr 16 (.tmp 6))⟩,⟨(some (18,false)),(some 20),(.load1 (.tmp 19))⟩,⟨(some (18,false)),(some 21),(.call 171 [(.tmp 20),(.const (.int .u64 1099511627776))])⟩,⟨(some (18,false)),(some 22),(.not (.tmp 21))⟩,⟨none,(some 23),(.pick (.tmp 18) (.const (.bool true)) (.tmp 22))⟩])
 (.cond (.tmp 23)
 (.seq (.ops [⟨none,(some 8),(.mv (.const (.int .i64 2)))⟩])
 .ret)
 .skip))
 (.seq (.ops [⟨none,(some 25),(.mv (.tmp 0))⟩,⟨none,(some 26),(.faddr 0 (.tmp 5))⟩,⟨none,(some 27),(.load1 (.tmp 26))⟩,⟨none,(some 28),(.call 176 [(.tmp 25),(.tmp 27)])⟩,⟨none,(some 24),(.mv (.tmp 28))⟩,⟨none,(some 29),(.ext (.tmp 24) 0)⟩,⟨none,(some 30),(.ext (.tmp 24) 1)⟩,⟨none,(some 9),(.mv (.tmp 29))⟩,⟨none,(some 10),(.mv (.tmp 30))⟩])
 (.seq (.seq (.ops [⟨none,(some 31),(.mv (.tmp 9))⟩,⟨none,(some 32),(.lenL (.tmp 31))⟩,⟨none,(some 33),(.mv (.const (.int .i64 0)))⟩])
 (.block 0
 (.loop
 (.seq (.ops [⟨none,(some 34),(.iop .lss (.tmp 33) (.tmp 32))⟩])
 (.seq (.cond (.tmp 34)
 .skip
 (.exit 0))
 (.seq (.block 1
 (.seq (.ops [⟨none,(some 35),(.iaddr 5 (.tmp 31) (.tmp 33))⟩,⟨none,(some 36),(.loadN 5 (.tmp 35))⟩,⟨none,(some 12),(.alloc 128 (.agg #[(.string (.mk #[])),(.int .u64 0),(.int .u32 0),(.int .u64 0),(.string (.mk #[]))]))⟩,⟨none,none,(.storeN 5 (.tmp 12) (.tmp 36))⟩])
 (.seq (.seq (.draw 7 (opsOf (sub (bodyOf Go.Proofs.Tryz.f105) [1,1,1,0,1,0,0,1,1,0,0,1,0,0])) [⟨none,(some 37),(.mv (.tmp 3))⟩,⟨none,(some 38),(.nilc (.tmp 37))⟩,⟨none,(some 39),(.faddr 5 (.tmp 38))⟩,⟨none,(some 40),(.load1 (.tmp 39))⟩,⟨none,(some 41),(.lenL (.tmp 40))⟩,⟨none,(some 42),(.conv .u64 (.tmp 41))⟩,⟨none,(some 43),(.faddr 15 (.tmp 6))⟩,⟨none,(some 44),(.load1 (.tmp 43))⟩,⟨none,(some 45),(.iop .eql (.tmp 42) (.tmp 44))⟩])
 (.cond (.tmp 45)
 (.exit 0)
 .skip))
 (.seq (.seq (.ops [⟨none,(some 46),(.mv (.tmp 0))⟩,⟨none,(some 47),(.loadN 5 (.tmp 12))⟩,⟨none,(some 48),(.call 170 [(.tmp 46),(.tmp 47)])⟩])
 (.cond (.tmp 48)
 (.exit 1)
 .skip))
 (.seq (.ops [⟨none,(some 49),(.mv (.tmp 0))⟩,⟨none,(some 50),(.loadN 5 (.tmp 5))⟩,⟨none,(some 51),(.loadN 5 (.tmp 12))⟩,⟨none,(some 52),(.faddr 16 (.tmp 6))⟩,⟨none,(some 53),(.load1 (.tmp 52))⟩,⟨none,(some 54),(.mv (.tmp 3))⟩,⟨none,(some 55),(.call 177 [(.tmp 49),(.tmp 50),(.tmp 51),(.tmp 53),(.tmp 54)])⟩,⟨none,(some 13),(.mv (.tmp 55))⟩])
 (.seq (.ops [⟨none,(some 56),(.mv (.tmp 13))⟩,⟨none,(some 57),(.iop .neq (.tmp 56) (.const (.int .i64 0)))⟩])
 (.cond (.tmp 57)
 (.seq (.ops [⟨none,(some 58),(.mv (.tmp 13))⟩,⟨none,(some 8),(.mv (.tmp 58))⟩])
 .ret)
 .skip)))))))
 (.ops [⟨none,(some 59),(.iop .add (.tmp 33) (.const (.int .i64 1)))⟩,⟨none,(some 33),(.mv (.tmp 59))⟩])))))))
 (.seq (.ops [⟨none,(some 60),(.mv (.tmp 10))⟩,⟨none,(some 8),(.mv (.tmp 60))⟩])
 .ret)))))
abbrev r105 : List RV:=[(.tmp 8)]
theorem F105 : FnOk Go.Proofs.Tryz.prog 105 61 c105 r105:=⟨_,Go.Proofs.Tryz.func105,by kernel_rfl,by kernel_rfl,by kernel_rfl,by kernel_rfl,by kernel_rfl⟩
noncomputable def c169 : CC:=(.seq (.ops [⟨none,(some 10),(.mv (.const (.int .i64 0)))⟩])
 (.seq (.ops [⟨none,(some 16),(.mv (.tmp 0))⟩,⟨none,(some 17),(.nilc (.tmp 16))⟩,⟨none,(some 18),(.faddr 0 (.tmp 17))⟩,⟨none,(some 19),(.load1 (.tmp 18))⟩,⟨none,(some 20),(.mv (.tmp 1))⟩,⟨none,(some 21),(.call 104 [(.tmp 19),(.tmp 20)])⟩,⟨none,(some 15),(.mv (.tmp 21))⟩,⟨none,(some 22),(.ext (.tmp 15) 0)⟩,⟨none,(some 23),(.ext (.tmp 15) 1)⟩,⟨none,(some 11),(.alloc 121 (.agg #[(.string (.mk #[])),(.int .u32 0),(.int .u64 0),(.int .u32 0),(.string (.mk #[]))]))⟩,⟨none,none,(.storeN 5 (.tmp 11) (.tmp 22))⟩,⟨none,(some 12),(.mv (.tmp 23))⟩])
 (.seq (.seq (.ops [⟨none,(some 24),(.mv (.tmp 12))⟩,⟨none,(some 25),(.iop .neq (.tmp 24) (.const (.int .i64 0)))⟩])
 (.cond (.tmp 25)
 (.seq (.ops [⟨none,(some 26),(.mv (.tmp 12))⟩,⟨none,(some 10),(.mv (.tmp 26))⟩])
 .ret)
 .skip))
 (.seq (.ops [⟨none,(some 28),(.mv (.tmp 0))⟩,⟨none,(some 29),(.loadN 5 (.tmp 11))⟩,⟨none,(some 30),(.mv (.tmp 4))⟩,⟨none,(some 31),(.call 234 [(.tmp 28),(.tmp 29),(.tmp 30)])⟩,⟨none,(some 27),(.mv (.tmp 31))⟩,⟨none,(some 32),(.ext (.tmp 27) 0)⟩,⟨none,(some 33),(.ext (.tmp 27) 1)⟩,⟨none,(some 13),(.mv (.tmp 32))⟩,⟨none,(some 12),(.mv (.tmp 33))⟩])
 (.seq (.seq (.ops [⟨none,(some 34),(.mv (.tmp 12))⟩,⟨none,(some 35),(.iop .neq (.tmp 34) (.const (.int .i64 0)))⟩,⟨none,(some 36),(.mv (.tmp 35))⟩,⟨(some (36,false)),(some 37),(.mv (.tmp 13))⟩,⟨(some (36,false)),(some 38),(.not (.tmp 37))⟩,⟨none,(some 39),(.pick (.tmp 36) (.const (.bool true)) (.tmp 38))⟩])
 (.cond (.tmp 39)
 (.seq (.ops [⟨none,(some 40),(.mv (.tmp 12))⟩,⟨none,(some 10),(.mv (.tmp 40))⟩])
 .ret)
 .skip))
 (.seq (.ops [⟨none,(some 42),(.mv (.tmp 0))⟩,⟨none,(some 43),(.nilc (.tmp 42))⟩,⟨none,(some 44),(.faddr 0 (.tmp 43))⟩,⟨none,(some 45),(.load1 (.tmp 44))⟩,⟨none,(some 46),(.call 235 [(.tmp 45),(.const (.string (.mk #[105,100])))])⟩,⟨none,(some 41),(.mv (.tmp 46))⟩,⟨none,(some 47),(.ext (.tmp 41) 0)⟩,⟨none,(some 48),(.ext (.tmp 41) 1)⟩,⟨none,(some 14),(.mv (.tmp 47))⟩,⟨none,(some 12),(.mv (.tmp 48))⟩])
 (.seq (.seq (.ops [⟨none,(some 49),(.mv (.tmp 12))⟩,⟨none,(some 50),(.iop .neq (.tmp 49) (.const (.int .i64 0)))⟩])
 (.cond (.tmp 50)
 (.seq (.ops [⟨none,(some 51),(.mv (.tmp 12))⟩,⟨none,(some 10),(.mv (.tmp 51))⟩])
 .ret)
 .skip))
 (.seq (.ops [⟨none,(some 52),(.mv (.tmp 4))⟩,⟨none,(some 53),(.nilc (.tmp 52))⟩,⟨none,(some 54),(.faddr 1 (.tmp 53))⟩,⟨none,(some 55),(.load1 (.tmp 54))⟩,⟨none,(some 56),(.iop .add (.tmp 55) (.const (.int .u64 1)))⟩,⟨none,(some 57),(.nilc (.tmp 52))⟩,⟨none,(some 58),(.faddr 1 (.tmp 57))⟩,⟨none,none,(.store1 (.tmp 58) (.tmp 56))⟩])
 (.seq (.ops [⟨none,(some 59),(.mv (.tmp 4))⟩,⟨none,(some 60),(.mv (.tmp 4))⟩,⟨none,(some 61),(.nilc (.tmp 60))⟩,⟨none,(some 62),(.faddr 2 (.tmp 61))⟩,⟨none,(some 63),(.load1 (.tmp 62))⟩,⟨none,(some 64),(.mv (.tmp 14))⟩,⟨none,(some 65),(.buildS 27 1 [(.int .u64 0)] [(0,(1,(.tmp 64)))])⟩,⟨none,(some 66),(.raw 82 (.mk (some 66) (.call (.mk (.builtin .append) #[(.tmp 63),(.tmp 65)] #[49,49])) 49 "broker.go:104" #[(.mk 4 .data),(.mk 6 .data)] none))⟩,⟨none,(some 67),(.nilc (.tmp 59))⟩,⟨none,(some 68),(.faddr 2 (.tmp 67))⟩,⟨none,none,(.store1 (.tmp 68) (.tmp 66))⟩])
 (.seq (.draw 12 (opsOf (sub (bodyOf Go.Proofs.Tryz.f169) [1,1,1,1,1,1,1,1,1,0])) [⟨none,(some 69),(.mv (.tmp 0))⟩,⟨none,(some 70),(.nilc (.tmp 69))⟩,⟨none,(some 71),(.faddr 0 (.tmp 70))⟩,⟨none,(some 72),(.load1 (.tmp 71))⟩,⟨none,(some 73),(.mv (.tmp 1))⟩,⟨none,(some 74),(.mv (.tmp 14))⟩,⟨none,(some 75),(.mv (.tmp 0))⟩,⟨none,(some 76),(.mv (.tmp 3))⟩,⟨none,(some 77),(.loadN 5 (.tmp 11))⟩,⟨none,(some 78),(.call 236 [(.tmp 75),(.tmp 76),(.tmp 77)])⟩,⟨none,(some 79),(.mv (.tmp 2))⟩,⟨none,(some 80),(.build [(.string (.mk #[])),(.int .u64 0),(.int .u32 0),(.int .u64 0),(.string (.mk #[]))] [(0,(1,(.tmp 73))),(1,(1,(.tmp 74))),(3,(1,(.tmp 78))),(4,(1,(.tmp 79)))])⟩,⟨none,(some 81),(.call 84 [(.tmp 72),(.tmp 80)])⟩,⟨none,(some 10),(.mv (.tmp 81))⟩])
 .ret))))))))))
abbrev r169 : List RV:=[(.tmp 10)]
theorem F169 : FnOk Go.Proofs.Tryz.prog 169 82 c169 r169:=⟨_,Go.Proofs.Tryz.func169,by kernel_rfl,by kernel_rfl,by kernel_rfl,by kernel_rfl,by kernel_rfl⟩
noncomputable def c170 : CC:=(.seq (.ops [⟨none,(some 3),(.box 128 (.tmp 1))⟩,⟨none,(some 4),(.mv (.const (.bool false)))⟩])
 (.seq (.draw 1 (opsOf (sub (bodyOf Go.Proofs.Tryz.f170) [1,0])) [⟨none,(some 8),(.mv (.tmp 0))⟩,⟨none,(some 9),(.nilc (.tmp 8))⟩,⟨none,(some 10),(.faddr 1 (.tmp 9))⟩,⟨none,(some 11),(.loadN 2 (.tmp 10))⟩,⟨none,(some 12),(.loadN 5 (.tmp 3))⟩,⟨none,(some 13),(.call 172 [(.tmp 12)])⟩,⟨none,(some 14),(.call 237 [(.tmp 11),(.tmp 13)])⟩,⟨none,(some 7),(.mv (.tmp 14))⟩,⟨none,(some 15),(.ext (.tmp 7) 0)⟩,⟨none,(some 16),(.ext (.tmp 7) 1)⟩,⟨none,(some 5),(.mv (.tmp 15))⟩,⟨none,(some 6),(.mv (.tmp 16))⟩])
 (.seq (.ops [⟨none,(some 17),(.mv (.tmp 6))⟩,⟨none,(some 4),(.mv (.tmp 17))⟩])
 .ret)))
abbrev r170 : List RV:=[(.tmp 4)]
theorem F170 : FnOk Go.Proofs.Tryz.prog 170 18 c170 r170:=⟨_,Go.Proofs.Tryz.func170,by kernel_rfl,by kernel_rfl,by kernel_rfl,by kernel_rfl,by kernel_rfl⟩
noncomputable def c171 : CC:=(.seq (.ops [⟨none,(some 4),(.mv (.const (.bool false)))⟩])
 (.seq (.ops [⟨none,(some 5),(.mv (.tmp 0))⟩,⟨none,(some 6),(.iop .geq (.tmp 5) (.const (.int .u64 1)))⟩,⟨none,(some 7),(.mv (.tmp 6))⟩,⟨(some (7,true)),(some 8),(.mv (.tmp 0))⟩,⟨(some (7,true)),(some 9),(.mv (.tmp 1))⟩,⟨(some (7,true)),(some 10),(.iop .leq (.tmp 8) (.tmp 9))⟩,⟨none,(some 11),(.pick (.tmp 7) (.tmp 10) (.const (.bool false)))⟩,⟨none,(some 4),(.mv (.tmp 11))⟩])
 .ret))
abbrev r171 : List RV:=[(.tmp 4)]
theorem F171 : FnOk Go.Proofs.Tryz.prog 171 12 c171 r171:=⟨_,Go.Proofs.Tryz.func171,by kernel_rfl,by kernel_rfl,by kernel_rfl,by kernel_rfl,by kernel_rfl⟩
noncomputable def c172 : CC:=(.seq (.ops [⟨none,(some 1),(.box 128 (.tmp 0))⟩,⟨none,(some 2),(.alloc 164 (.agg #[(.string (.mk #[])),(.int .u64 0)]))⟩])
 (.seq (.ops [⟨none,(some 3),(.faddr 0 (.tmp 1))⟩,⟨none,(some 4),(.load1 (.tmp 3))⟩,⟨none,(some 5),(.faddr 1 (.tmp 1))⟩,⟨none,(some 6),(.load1 (.tmp 5))⟩,⟨none,(some 7),(.build [(.string (.mk #[])),(.int .u64 0)] [(0,(1,(.tmp 4))),(1,(1,(.tmp 6)))])⟩,⟨none,none,(.storeN 2 (.tmp 2) (.tmp 7))⟩])
 .ret))
abbrev r172 : List RV:=[(.cN 2 2)]
theorem F172 : FnOk Go.Proofs.Tryz.prog 172 8 c172 r172:=⟨_,Go.Proofs.Tryz.func172,by kernel_rfl,by kernel_rfl,by kernel_rfl,by kernel_rfl,by kernel_rfl⟩
noncomputable def c176 : CC:=(.seq (.ops [⟨none,(some 4),(.alloc 50 (.slice none 0 0))⟩,⟨none,(some 5),(.alloc 48 (.int .i64 0))⟩])
 (.seq (.ops [⟨none,(some 6),(.alloc 50 (.slice none 0 0))⟩])
 (.seq (.seq (.ops [⟨none,(some 9),(.mv (.tmp 0))⟩,⟨none,(some 10),(.nilc (.tmp 9))⟩,⟨none,(some 11),(.faddr 0 (.tmp 10))⟩,⟨none,(some 12),(.load1 (.tmp 11))⟩,⟨none,(some 13),(.mv (.tmp 1))⟩,⟨none,(some 14),(.call 178 [(.tmp 12),(.tmp 13),(.const (.int .u64 0))])⟩])
 (.block 0
 (.range (.tmp 14) #[15,16] (sub (bodyOf Go.Proofs.Tryz.f176) [1,1,0,1,0,0]) (sub (bodyOf Go.Proofs.Tryz.f176) [1,1,0,1,0,1])
 (.seq (.ops [⟨none,(some 7),(.alloc 128 (.agg #[(.string (.mk #[])),(.int .u64 0),(.int .u32 0),(.int .u64 0),(.string (.mk #[]))]))⟩,⟨none,none,(.storeN 5 (.tmp 7) (.tmp 15))⟩])
 (.ops [⟨none,(some 8),(.mv (.tmp 16))⟩]))
 (.block 1
 (.seq (.seq (.ops [⟨none,(some 17),(.mv (.tmp 8))⟩,⟨none,(some 18),(.iop .neq (.tmp 17) (.const (.int .i64 0)))⟩])
 (.cond (.tmp 18)
 (.seq (.ops [⟨none,(some 19),(.mv (.tmp 8))⟩,⟨none,none,(.store1 (.tmp 4) (.const (.slice none 0 0)))⟩,⟨none,none,(.store1 (.tmp 5) (.tmp 19))⟩])
 .ret)
 .skip))
 (.ops [⟨none,(some 20),(.load1 (.tmp 6))⟩,⟨none,(some 21),(.loadN 5 (.tmp 7))⟩,⟨none,(some 22),(.buildS 128 1 [(.string (.mk #[])),(.int .u64 0),(.int .u32 0),(.int .u64 0),(.string (.mk #[]))] [(0,(5,(.tmp 21)))])⟩,⟨none,(some 23),(.raw 25 (.mk (some 23) (.call (.mk (.builtin .append) #[(.tmp 20),(.tmp 22)] #[50,50])) 50 "broker.go:55" #[(.mk 0 .data),(.mk 2 .data)] none))⟩,⟨none,none,(.store1 (.tmp 6) (.tmp 23))⟩]))))))
 (.seq (.ops [⟨none,(some 24),(.load1 (.tmp 6))⟩,⟨none,none,(.store1 (.tmp 4) (.tmp 24))⟩,⟨none,none,(.store1 (.tmp 5) (.const (.int .i64 0)))⟩])
 .ret))))
abbrev r176 : List RV:=[(.c1 4),(.c1 5)]
theorem F176 : FnOk Go.Proofs.Tryz.prog 176 25 c176 r176:=⟨_,Go.Proofs.Tryz.func176,by kernel_rfl,by kernel_rfl,by kernel_rfl,by kernel_rfl,by kernel_rfl⟩
noncomputable def c177 : CC:=(.seq (.ops [⟨none,(some 6),(.box 121 (.tmp 1))⟩,⟨none,(some 7),(.box 128 (.tmp 2))⟩,⟨none,(some 10),(.mv (.const (.int .i64 0)))⟩])
 (.seq (.seq (.ops [⟨none,(some 11),(.faddr 3 (.tmp 6))⟩,⟨none,(some 12),(.load1 (.tmp 11))⟩,⟨none,(some 13),(.iop .neq (.tmp 12) (.const (.int .u32 0)))⟩,⟨none,(some 14),(.mv (.tmp 13))⟩,⟨(some (14,true)),(some 15),(.faddr 2 (.tmp 7))⟩,⟨(some (14,true)),(some 16),(.load1 (.tmp 15))⟩,⟨(some (14,true)),(some 17),(.faddr 3 (.tmp 6))⟩,⟨(some (14,true)),(some 18),(.load1 (.tmp 17))⟩,⟨(some (14,true)),(some 19),(.iop .geq (.tmp 16) (.tmp 18))⟩,⟨none,(some 20),(.pick (.tmp 14) (.tmp 19) (.const (.bool false)))⟩])
 (.cond (.tmp 20)
 (.seq (.ops [⟨none,(some 21),(.mv (.tmp 0))⟩,⟨none,(some 22),(.loadN 5 (.tmp 7))⟩,⟨none,(some 23),(.mv (.tmp 4))⟩,⟨none,(some 24),(.call 173 [(.tmp 21),(.tmp 22),(.tmp 23)])⟩,⟨none,(some 10),(.mv (.tmp 24))⟩])
 .ret)
 .skip))
 (.seq (.ops [⟨none,(some 25),(.faddr 2 (.tmp 7))⟩,⟨none,(some 26),(.load1 (.tmp 25))⟩,⟨none,(some 27),(.iop .add (.tmp 26) (.const (.int .u32 1)))⟩,⟨none,(some 28),(.faddr 2 (.tmp 7))⟩,⟨none,none,(.store1 (.tmp 28) (.tmp 27))⟩])
 (.seq (.draw 4 (opsOf (sub (bodyOf Go.Proofs.Tryz.f177) [1,1,1,0])) [⟨none,(some 29),(.mv (.tmp 0))⟩,⟨none,(some 30),(.mv (.tmp 0))⟩,⟨none,(some 31),(.nilc (.tmp 30))⟩,⟨none,(some 32),(.faddr 1 (.tmp 31))⟩,⟨none,(some 33),(.loadN 2 (.tmp 32))⟩,⟨none,(some 34),(.loadN 5 (.tmp 7))⟩,⟨none,(some 35),(.call 172 [(.tmp 34)])⟩,⟨none,(some 36),(.mv (.tmp 0))⟩,⟨none,(some 37),(.nilc (.tmp 36))⟩,⟨none,(some 38),(.faddr 3 (.tmp 37))⟩,⟨none,(some 39),(.load1 (.tmp 38))⟩,⟨none,(some 40),(.mv (.tmp 3))⟩,⟨none,(some 41),(.iop .add (.tmp 39) (.tmp 40))⟩,⟨none,(some 42),(.call 87 [(.tmp 33),(.tmp 35),(.tmp 41)])⟩,⟨none,(some 43),(.nilc (.tmp 29))⟩,⟨none,(some 44),(.faddr 1 (.tmp 43))⟩,⟨none,none,(.storeN 2 (.tmp 44) (.tmp 42))⟩])
 (.seq (.draw 5 (opsOf (sub (bodyOf Go.Proofs.Tryz.f177) [1,1,1,1,0])) [⟨none,(some 45),(.mv (.tmp 4))⟩,⟨none,(some 46),(.mv (.tmp 4))⟩,⟨none,(some 47),(.nilc (.tmp 46))⟩,⟨none,(some 48),(.faddr 5 (.tmp 47))⟩,⟨none,(some 49),(.load1 (.tmp 48))⟩,⟨none,(some 50),(.loadN 5 (.tmp 7))⟩,⟨none,(some 51),(.buildS 128 1 [(.string (.mk #[])),(.int .u64 0),(.int .u32 0),(.int .u64 0),(.string (.mk #[]))] [(0,(5,(.tmp 50)))])⟩,⟨none,(some 52),(.raw 61 (.mk (some 52) (.call (.mk (.builtin .append) #[(.tmp 49),(.tmp 51)] #[50,50])) 50 "broker.go:242" #[(.mk 4 .data),(.mk 6 .data)] none))⟩,⟨none,(some 53),(.nilc (.tmp 45))⟩,⟨none,(some 54),(.faddr 5 (.tmp 53))⟩,⟨none,none,(.store1 (.tmp 54) (.tmp 52))⟩])
 (.seq (.draw 6 (opsOf (sub (bodyOf Go.Proofs.Tryz.f177) [1,1,1,1,1,0])) [⟨none,(some 55),(.mv (.tmp 0))⟩,⟨none,(some 56),(.nilc (.tmp 55))⟩,⟨none,(some 57),(.faddr 0 (.tmp 56))⟩,⟨none,(some 58),(.load1 (.tmp 57))⟩,⟨none,(some 59),(.loadN 5 (.tmp 7))⟩,⟨none,(some 60),(.call 241 [(.tmp 58),(.tmp 59)])⟩,⟨none,(some 10),(.mv (.tmp 60))⟩])
 .ret))))))
abbrev r177 : List RV:=[(.tmp 10)]
theorem F177 : FnOk Go.Proofs.Tryz.prog 177 61 c177 r177:=⟨_,Go.Proofs.Tryz.func177,by kernel_rfl,by kernel_rfl,by kernel_rfl,by kernel_rfl,by kernel_rfl⟩
noncomputable def c234 : CC:=(.seq (.ops [⟨none,(some 3),(.box 118 (.tmp 0))⟩,⟨none,(some 4),(.box 121 (.tmp 1))⟩,⟨none,(some 6),(.mv (.const (.bool false)))⟩,⟨none,(some 7),(.mv (.const (.int .i64 0)))⟩])
 (.seq (.seq (.ops [⟨none,(some 11),(.faddr 1 (.tmp 4))⟩,⟨none,(some 12),(.load1 (.tmp 11))⟩,⟨none,(some 13),(.iop .eql (.tmp 12) (.const (.int .u32 0)))⟩])
 (.cond (.tmp 13)
 (.seq (.ops [⟨none,(some 6),(.mv (.const (.bool true)))⟩,⟨none,(some 7),(.mv (.const (.int .i64 0)))⟩])
 .ret)
 .skip))
 (.seq (.ops [⟨none,(some 15),(.load1 (.tmp 3))⟩,⟨none,(some 16),(.faddr 0 (.tmp 4))⟩,⟨none,(some 17),(.load1 (.tmp 16))⟩,⟨none,(some 18),(.call 176 [(.tmp 15),(.tmp 17)])⟩,⟨none,(some 14),(.mv (.tmp 18))⟩,⟨none,(some 19),(.ext (.tmp 14) 0)⟩,⟨none,(some 20),(.ext (.tmp 14) 1)⟩,⟨none,(some 8),(.mv (.tmp 19))⟩,⟨none,(some 9),(.mv (.tmp 20))⟩])
 (.seq (.seq (.ops [⟨none,(some 21),(.mv (.tmp 9))⟩,⟨none,(some 22),(.iop .neq (.tmp 21) (.const (.int .i64 0)))⟩,⟨none,(some 23),(.mv (.tmp 22))⟩,⟨(some (23,false)),(some 24),(.mv (.tmp 8))⟩,⟨(some (23,false)),(some 25),(.lenL (.tmp 24))⟩,⟨(some (23,false)),(some 26),(.faddr 1 (.tmp 4))⟩,⟨(some (23,false)),(some 27),(.load1 (.tmp 26))⟩,⟨(some (23,false)),(some 28),(.conv .i64 (.tmp 27))⟩,⟨(some (23,false)),(some 29),(.iop .lss (.tmp 25) (.tmp 28))⟩,⟨none,(some 30),(.pick (.tmp 23) (.const (.bool true)) (.tmp 29))⟩])
 (.cond (.tmp 30)
 (.seq (.ops [⟨none,(some 31),(.mv (.tmp 9))⟩,⟨none,(some 32),(.iop .eql (.tmp 31) (.const (.int .i64 0)))⟩,⟨none,(some 33),(.mv (.tmp 9))⟩,⟨none,(some 6),(.mv (.tmp 32))⟩,⟨none,(some 7),(.mv (.tmp 33))⟩])
 .ret)
 .skip))
 (.seq (.ops [⟨none,(some 34),(.mv (.tmp 8))⟩,⟨none,(some 35),(.mkF (.func 280) [] [(.tmp 3)])⟩,⟨none,(some 36),(.call 279 [(.tmp 34),(.tmp 35)])⟩,⟨none,(some 10),(.mv (.tmp 36))⟩])
 (.seq (.seq (.ops [⟨none,(some 37),(.mv (.tmp 10))⟩,⟨none,(some 38),(.iop .lss (.tmp 37) (.const (.int .i64 0)))⟩])
 (.cond (.tmp 38)
 (.seq (.ops [⟨none,(some 6),(.mv (.const (.bool false)))⟩,⟨none,(some 7),(.mv (.const (.int .i64 0)))⟩])
 .ret)
 .skip))
 (.seq (.draw 9 (opsOf (sub (bodyOf Go.Proofs.Tryz.f234) [1,1,1,1,1,1,0])) [⟨none,(some 39),(.mv (.tmp 2))⟩,⟨none,(some 40),(.mv (.tmp 2))⟩,⟨none,(some 41),(.nilc (.tmp 40))⟩,⟨none,(some 42),(.faddr 3 (.tmp 41))⟩,⟨none,(some 43),(.load1 (.tmp 42))⟩,⟨none,(some 44),(.mv (.tmp 8))⟩,⟨none,(some 45),(.mv (.tmp 10))⟩,⟨none,(some 46),(.iaddr 5 (.tmp 44) (.tmp 45))⟩,⟨none,(some 47),(.faddr 1 (.tmp 46))⟩,⟨none,(some 48),(.load1 (.tmp 47))⟩,⟨none,(some 49),(.buildS 27 1 [(.int .u64 0)] [(0,(1,(.tmp 48)))])⟩,⟨none,(some 50),(.raw 71 (.mk (some 50) (.call (.mk (.builtin .append) #[(.tmp 43),(.tmp 49)] #[49,49])) 49 "broker.go:73" #[(.mk 4 .data),(.mk 10 .data)] none))⟩,⟨none,(some 51),(.nilc (.tmp 39))⟩,⟨none,(some 52),(.faddr 3 (.tmp 51))⟩,⟨none,none,(.store1 (.tmp 52) (.tmp 50))⟩])
 (.seq (.draw 10 (opsOf (sub (bodyOf Go.Proofs.Tryz.f234) [1,1,1,1,1,1,1,0])) [⟨none,(some 54),(.load1 (.tmp 3))⟩,⟨none,(some 55),(.nilc (.tmp 54))⟩,⟨none,(some 56),(.faddr 0 (.tmp 55))⟩,⟨none,(some 57),(.load1 (.tmp 56))⟩,⟨none,(some 58),(.faddr 0 (.tmp 4))⟩,⟨none,(some 59),(.load1 (.tmp 58))⟩,⟨none,(some 60),(.mv (.tmp 8))⟩,⟨none,(some 61),(.mv (.tmp 10))⟩,⟨none,(some 62),(.iaddr 5 (.tmp 60) (.tmp 61))⟩,⟨none,(some 63),(.faddr 1 (.tmp 62))⟩,⟨none,(some 64),(.load1 (.tmp 63))⟩,⟨none,(some 65),(.call 174 [(.tmp 57),(.tmp 59),(.tmp 64)])⟩,⟨none,(some 53),(.mv (.tmp 65))⟩,⟨none,(some 66),(.ext (.tmp 53) 0)⟩,⟨none,(some 67),(.ext (.tmp 53) 1)⟩,⟨none,(some 9),(.mv (.tmp 67))⟩])
 (.seq (.ops [⟨none,(some 68),(.mv (.tmp 9))⟩,⟨none,(some 69),(.iop .eql (.tmp 68) (.const (.int .i64 0)))⟩,⟨none,(some 70),(.mv (.tmp 9))⟩,⟨none,(some 6),(.mv (.tmp 69))⟩,⟨none,(some 7),(.mv (.tmp 70))⟩])
 .ret)))))))))
abbrev r234 : List RV:=[(.tmp 6),(.tmp 7)]
theorem F234 : FnOk Go.Proofs.Tryz.prog 234 71 c234 r234:=⟨_,Go.Proofs.Tryz.func234,by kernel_rfl,by kernel_rfl,by kernel_rfl,by kernel_rfl,by kernel_rfl⟩
noncomputable def c236 : CC:=(.seq (.ops [⟨none,(some 5),(.box 121 (.tmp 2))⟩,⟨none,(some 6),(.mv (.const (.int .u64 0)))⟩])
 (.seq (.block 0
 (.seq (.ops [⟨none,(some 8),(.mv (.tmp 1))⟩,⟨none,(some 9),(.iop .eql (.tmp 8) (.const (.int .u64 0)))⟩,⟨none,(some 10),(.mv (.tmp 9))⟩,⟨(some (10,true)),(some 11),(.faddr 2 (.tmp 5))⟩,⟨(some (10,true)),(some 12),(.load1 (.tmp 11))⟩,⟨(some (10,true)),(some 13),(.iop .eql (.tmp 12) (.const (.int .u64 0)))⟩,⟨none,(some 14),(.pick (.tmp 10) (.tmp 13) (.const (.bool false)))⟩,⟨none,(some 7),(.mv (.tmp 14))⟩])
 (.cond (.tmp 7)
 (.seq (.ops [⟨none,(some 6),(.mv (.const (.int .u64 0)))⟩])
 .ret)
 (.seq (.ops [⟨none,(some 16),(.mv (.tmp 1))⟩,⟨none,(some 17),(.iop .eql (.tmp 16) (.const (.int .u64 0)))⟩,⟨none,(some 18),(.mv (.tmp 17))⟩,⟨(some (18,false)),(some 19),(.faddr 2 (.tmp 5))⟩,⟨(some (18,false)),(some 20),(.load1 (.tmp 19))⟩,⟨(some (18,false)),(some 21),(.iop .neq (.tmp 20) (.const (.int .u64 0)))⟩,⟨(some (18,false)),(some 22),(.mv (.tmp 21))⟩,⟨(some (22,true)),(some 23),(.faddr 2 (.tmp 5))⟩,⟨(some (22,true)),(some 24),(.load1 (.tmp 23))⟩,⟨(some (22,true)),(some 25),(.mv (.tmp 1))⟩,⟨(some (22,true)),(some 26),(.iop .lss (.tmp 24) (.tmp 25))⟩,⟨(some (18,false)),(some 27),(.pick (.tmp 22) (.tmp 26) (.const (.bool false)))⟩,⟨none,(some 28),(.pick (.tmp 18) (.const (.bool true)) (.tmp 27))⟩,⟨none,(some 15),(.mv (.tmp 28))⟩])
 (.cond (.tmp 15)
 (.ops [⟨none,(some 29),(.faddr 2 (.tmp 5))⟩,⟨none,(some 30),(.load1 (.tmp 29))⟩,⟨none,(some 1),(.mv (.tmp 30))⟩])
 .skip)))))
 (.seq (.ops [⟨none,(some 31),(.mv (.tmp 0))⟩,⟨none,(some 32),(.nilc (.tmp 31))⟩,⟨none,(some 33),(.faddr 3 (.tmp 32))⟩,⟨none,(some 34),(.load1 (.tmp 33))⟩,⟨none,(some 35),(.mv (.tmp 1))⟩,⟨none,(some 36),(.iop .add (.tmp 34) (.tmp 35))⟩,⟨none,(some 6),(.mv (.tmp 36))⟩])
 .ret)))
abbrev r236 : List RV:=[(.tmp 6)]
theorem F236 : FnOk Go.Proofs.Tryz.prog 236 37 c236 r236:=⟨_,Go.Proofs.Tryz.func236,by kernel_rfl,by kernel_rfl,by kernel_rfl,by kernel_rfl,by kernel_rfl⟩
end Go.VrJ
namespace Go.Oct
open Go Go.Vc Go.VrA Go.VrB Go.VrE Go.VrH Go.VrI Go.VrJ
set_option maxRecDepth 100000
def EntFree {σ : Type} (St : StoC σ) : Prop:=∀ s w v l,St.At s w→OwnE w 0 v l→∀ k,v.ownBlock = some k→¬ St.foot k
theorem entFree_shelf (sb mb : Nat) (h0 : 3≠mb) : EntFree (shelfC sb mb h0):=by
  intro s w v l hs hv k hk hf
  obtain ⟨_,h2⟩:=hv
  rcases h2 with ⟨hx,_⟩ | ⟨g,cap,cur,hx,_,hg,_⟩
  · rw [hx] at hk; cases hk
  · rw [hx] at hk
    have hgk : g = k:=Option.some.inj hk
    rw [hgk] at hg
    have hs' : IsShelf w sb mb s.1 s.2:=hs
    rcases hf with rfl | rfl
    · rw [hs'.1] at hg; simp at hg
    · obtain ⟨es,clock,hb,_⟩:=hs'.2.1
      rw [hb] at hg; cases hg
structure BrAt {σ : Type} (St : StoC σ) (tb : Nat) (m : Int) (s : σ) (l : List Le) (v : Value) (clock : Nat) (w : World) : Prop where
  st : w.heap[tb]? = some (.cells #[.iface St.t St.v,.func (.func 92) #[] #[],v,.int .u64 clock] 144 (0,0))
  at_ : St.At s w
  les : OwnE w 0 v l
  gl : Gl m w
  fm : Forms w
  nf : ¬ St.foot tb
  of : ¬ St.own 2
  ll : l.length < 2 ^ 40
variable {σ : Type} {St : StoC σ} {tb clock : Nat} {m : Int} {s s' : σ} {l : List Le} {v : Value} {w w' : World}
theorem BrAt.keep0 (h : BrAt St tb m s l v clock w) (hm : Mod (fun _=>False) w w') : BrAt St tb m s l v clock w' :=
  ⟨hm.keep h.st id,St.toSto.keep0 h.at_ hm,h.les.keep0 hm,h.gl.mod hm id,h.fm.mod0 hm,h.nf,h.of,h.ll⟩
theorem BrAt.own (h : BrAt St tb m s l v clock w) (he : EntFree St) (hm : Mod St.own w w') (ha : St.At s' w') : BrAt St tb m s' l v clock w' :=
  ⟨hm.keep h.st (fun x=>h.nf (St.ownFoot _ x)),ha,h.les.keep hm (fun k hk x=>he s w v l h.at_ h.les k hk (St.ownFoot _ x)),h.gl.mod hm St.own0,h.fm.mod hm h.of,h.nf,h.of,h.ll⟩
theorem BrAt.table {l2 : List Le} {v2 : Value} (h : BrAt St tb m s l v clock w) (hv : OwnE w 0 v2 l2) (hl : l2.length < 2 ^ 40) (h2 : w' = Vc.set w tb (.cells #[.iface St.t St.v,.func (.func 92) #[] #[],v2,.int .u64 clock] 144)) (hmn : tb≠3) (hfn : tb≠2) :
    BrAt St tb m s l2 v2 clock w':=by
  have hm : Mod (fun k=>k = tb) w w':=by rw [h2]; exact (Mod.refl _ _).set (.inr rfl)
  refine ⟨?_,St.keep _ s w w' h.at_ hm (fun k _ hk hf=>by subst hk; exact h.nf hf),hv.keep hm (fun k hk x => ?_),h.gl.mod hm (fun x=>hmn x.symm),h.fm.mod hm (fun x=>hfn x.symm),h.nf,h.of,hl⟩
  · rw [h2]; exact get_set_same _ _ _ (lt_of_get h.st)
  · subst x
    obtain ⟨_,h3⟩:=hv
    rcases h3 with ⟨hx,_⟩ | ⟨g,cap,cur,hx,_,hg,_⟩
    · rw [hx] at hk; cases hk
    · rw [hx] at hk
      have hgk : g = k:=Option.some.inj hk
      rw [hgk,h.st] at hg
      simp at hg
theorem within_c (n most : Nat) (w : World) (K : Value→World→Prop) (h : K (.bool (decide (1≤n∧n≤most))) w) : Ok Proofs.Tryz.prog 171 #[.int .u64 n,.int .u64 most] w K:=by
  refine F171.enter (args:=[.int .u64 n,.int .u64 most]) (by simp) ?_
  unfold c171 r171
  by_cases h1 : 1≤n
  · have d1 : (n : Int) ≥ 1:=by omega
    by_cases h2 : n≤most
    · have d2 : (n : Int)≤(most : Int):=by omega
      simp only [ZB,endK,resK,packed,insVc,pickK,iopK,iopV,ne_eq,Nat.reduceEqDiff,reduceCtorEq,Zaf,Za,Zag,Zaa,Zab,d1,d2]
      simpa [h1,h2] using h
    · have d2 : ¬ (n : Int)≤(most : Int):=by omega
      simp only [ZB,endK,resK,packed,insVc,pickK,iopK,iopV,ne_eq,Nat.reduceEqDiff,reduceCtorEq,Zaf,Za,Zag,Zaa,Zab,d1,d2]
      simpa [h1,h2] using h
  · have d1 : ¬ (n : Int) ≥ 1:=by omega
    simp only [ZB,endK,resK,packed,insVc,pickK,iopK,iopV,ne_eq,Nat.reduceEqDiff,reduceCtorEq,Zaf,Za,Zaa,Zae,d1]
    simpa [h1] using h
theorem bkey_c (q : Ms) (w : World) (K : Value→World→Prop) (h : ∀ w',Mod (fun _=>False) w w'→K (keyV q.queue q.id) w') : Ok Proofs.Tryz.prog 172 #[q.val] w K:=by
  refine F172.enter (args:=[q.val]) (by simp) ?_
  unfold c172 r172
  simp only [ZB,endK,resK,resN,packed,insVc,load1K,storeNK,setMany,faddrK,buildK,fillL,isPlain,Value.cells,ne_eq,Nat.reduceEqDiff,Nat.reduceAdd,Nat.reduceLeDiff,Zaf,Za,Zag,Zah,Zai,Zaj,Zak,Zbd,Zbe,Zbc,Zbb,Zal,Zam,Zan,Zaa,Zbh,Zab,Zae,Zaq,Zap,Zar,Zao,Zas,Zat,Zau,Zaw,Zax,Zbf,Zb,get_alloc,Zaz,Nat.reduceAdd,Zba,Zbi,Nat.reduceEqDiff,Zay,Ms.val,Ms.cells]
  exact h _ ((((Mod.refl _ _).alloc _).alloc _).set (.inl (by simp)))
theorem lent_c (q : Ms) (w : World) (K : Value→World→Prop) (hb : BrAt St tb m s l v clock w) (h : ∀ w',Mod (fun _=>False) w w'→K (.bool (untilE q.queue q.id l).isSome) w') :
    Ok Proofs.Tryz.prog 170 #[ptr tb,q.val] w K:=by
  refine F170.enter (args:=[ptr tb,q.val]) (by simp) ?_
  unfold c170 r170
  have hst:=hb.st
  have hne : tb≠w.heap.size:=by have:=lt_of_get hst; omega
  simp only [ZB,insVc,Value.cells,Zaf,Za,Zag,Ms.val,Ms.cells]
  refine vc_gen ?_
  intro w1 hw1
  have hm1 : Mod (fun _=>False) w w1:=by rw [hw1]; exact (Mod.refl _ _).alloc _
  have q1 : w1.heap[w.heap.size]? = some (.cells #[.string q.queue,.int .u64 q.id,.int .u32 q.tries,.int .u64 q.expiry,.string q.body] 128 (0,0)):=by rw [hw1]; exact get_alloc_new _ _
  have s1:=hm1.keep hst id
  clear hw1
  refine draw_e (by kernel_rfl) (by kernel_rfl) (by kernel_rfl) (by kernel_rfl) ?_
  simp only [ZB,endK,resK,packed,insVc,loadNK,nilK,nilM,faddrK,extK,ne_eq,Nat.reduceEqDiff,Nat.reduceAdd,Nat.reduceLeDiff,reduceCtorEq,Zaf,Zad,Zac,Za,Zai,Zaj,Zak,Zaa,Zab,Zae,Zaq,Zap,Zar,Zby,Zao,Zas,Zat,pureI,Nat.reduceSub,kindI,loadI,vcE_nil,vcE_cons,stepE_pure,stepE_load,stepE_step,q1,s1]
  refine bkey_c q w1.drew _ ?_
  intro w2 hm2
  have m2 : Mod (fun _=>False) w1 w2:=(Mod.refl _ w1).drew.trans hm2
  refine ⟨m2, ?_⟩
  refine luntil_c l v q.queue q.id w2 _ ((hb.les.keep0 hm1).keep0 m2).is (by have:=hb.ll; omega) ?_
  intro w3 hm3
  have m3:=m2.trans hm3
  refine ⟨m3, ?_⟩
  simp only [loadV_some,Za,Zag,Zah]
  exact h _ (hm1.trans m3)
def expR (clock term ttl : Nat) : Nat:=if term = 0∧ttl = 0 then 0 else (clock + (if term = 0∨(ttl≠0∧ttl < term) then ttl else term)) % 18446744073709551616
theorem wrap_u64_mod (n : Nat) : IntKind.u64.wrap ((n : Nat) : Int) = ((n % 18446744073709551616 : Nat) : Int):=by rw [IntKind.wrap_u64]; omega
theorem expiry_c (term : Nat) (q : Qu) (w : World) (K : Value→World→Prop) (hb : BrAt St tb m s l v clock w) (h : ∀ w',Mod (fun _=>False) w w'→K (.int .u64 (expR clock term q.ttl)) w') :
    Ok Proofs.Tryz.prog 236 #[ptr tb,.int .u64 term,q.val] w K:=by
  refine F236.enter (args:=[ptr tb,.int .u64 term,q.val]) (by simp) ?_
  unfold c236 r236
  have hst:=hb.st
  have hne : tb≠w.heap.size:=by have:=lt_of_get hst; omega
  have hm : Mod (fun _=>False) w (w.alloc (.cells #[.string q.name,.int .u32 q.most,.int .u64 q.ttl,.int .u32 q.tries,.string q.dead] 121)):=(Mod.refl _ _).alloc _
  have hh:=h _ hm
  have wa : ∀ a b : Nat,IntKind.u64.wrap ((a : Int) + (b : Int)) = (((a + b) % 18446744073709551616 : Nat) : Int):=fun a b=>by rw [← wrap_u64_mod]; congr 1
  unfold expR at hh
  by_cases c1 : term = 0
  · by_cases c2 : q.ttl = 0
    · rw [if_pos ⟨c1,c2⟩] at hh
      have d1 : (((term : Nat) : Int) == 0) = true:=by rw [c1]; rfl
      have d2 : (((q.ttl : Nat) : Int) == 0) = true:=by rw [c2]; rfl
      simp only [ZB,endK,resK,packed,insVc,pickK,load1K,iopK,iopV,faddrK,Value.cells,ne_eq,Nat.reduceEqDiff,reduceCtorEq,Zaf,Za,Zag,Zah,Zaa,Zab,get_alloc,Nat.reduceEqDiff,Qu.val,Qu.cells,d1,d2]
      exact hh
    · rw [if_neg (fun x=>c2 x.2),if_pos (.inl c1)] at hh
      have d1 : (((term : Nat) : Int) == 0) = true:=by rw [c1]; rfl
      have d2 : (((q.ttl : Nat) : Int) == 0) = false:=by simpa using c2
      simp only [ZB,endK,resK,packed,insVc,pickK,load1K,nilK,iopK,iopV,faddrK,Value.cells,ne_eq,Nat.reduceEqDiff,reduceCtorEq,Zaf,Za,Zag,Zah,Zaa,Zab,Zae,get_alloc,Nat.reduceEqDiff,Qu.val,Qu.cells,d1,d2,hne,hst,wa]
      exact hh
  · have d1 : (((term : Nat) : Int) == 0) = false:=by simpa using c1
    rw [if_neg (fun x=>c1 x.1)] at hh
    by_cases c2 : q.ttl = 0
    · have d2 : (((q.ttl : Nat) : Int) != 0) = false:=by rw [c2]; rfl
      rw [if_neg (by rintro (x | x); exact c1 x; exact x.1 c2)] at hh
      simp only [ZB,endK,resK,packed,insVc,pickK,load1K,nilK,iopK,iopV,faddrK,Value.cells,ne_eq,Nat.reduceEqDiff,reduceCtorEq,Zaf,Za,Zag,Zah,Zaa,Zab,Zae,get_alloc,Nat.reduceEqDiff,Qu.val,Qu.cells,d1,d2,hne,hst,wa]
      exact hh
    · have d2 : (((q.ttl : Nat) : Int) != 0) = true:=by simpa using c2
      by_cases c3 : q.ttl < term
      · have d3 : (q.ttl : Int) < (term : Int):=by omega
        rw [if_pos (.inr ⟨c2,c3⟩)] at hh
        simp only [ZB,endK,resK,packed,insVc,pickK,load1K,nilK,iopK,iopV,faddrK,Value.cells,ne_eq,Nat.reduceEqDiff,reduceCtorEq,Zaf,Za,Zag,Zah,Zaa,Zab,Zae,get_alloc,Nat.reduceEqDiff,Qu.val,Qu.cells,d1,d2,d3,hne,hst,wa]
        exact hh
      · have d3 : ¬ (q.ttl : Int) < (term : Int):=by omega
        rw [if_neg (by rintro (x | x); exact c1 x; exact c3 x.2)] at hh
        simp only [ZB,endK,resK,packed,insVc,pickK,load1K,nilK,iopK,iopV,faddrK,Value.cells,ne_eq,Nat.reduceEqDiff,reduceCtorEq,Zaf,Za,Zag,Zah,Zaa,Zab,Zae,get_alloc,Nat.reduceEqDiff,Qu.val,Qu.cells,d1,d2,d3,hne,hst,wa]
        exact hh
end Go.Oct
