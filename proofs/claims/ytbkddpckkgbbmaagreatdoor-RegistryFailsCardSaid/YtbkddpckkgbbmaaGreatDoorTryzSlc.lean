import Derived.Ground.Names2Prog
import Derived.Shelf.Spec.SearchS
import Derived.Shelf.Spec.SlicesInsert
import Derived.Shelf.Spec.SlicesInsertGrow
import Derived.Shelf.Slices.Clone
import Derived.Test.YtbkddpckkgbbmaaGreatDoorProg
set_option linter.unusedSimpArgs false
set_option linter.unusedVariables false
set_option linter.unusedSectionVars false
set_option linter.unnecessarySimpa false
namespace Go.Proofs
open Go.Shelf
def Tryz.laysNm226_ren : Go.Shelf.Ren:=⟨fun | 26=>198 | 33=>225 | 34=>230 | 38=>242 | n=>n,fun | 24=>80 | 9=>9 | 3=>3 | 4=>4 | 40=>203 | 0=>0 | n=>n,fun | n=>n⟩
theorem Tryz.laysNm226 : Go.Proofs.Lays2.n26 Tryz.prog Tryz.laysNm226_ren:={
  mixed:=by kernel_rfl
  f26:=Tryz.func198.trans (congrArg some (by kernel_rfl))
  f33:=Tryz.func225.trans (congrArg some (by kernel_rfl))
  f34:=Tryz.func230.trans (congrArg some (by kernel_rfl))
  f38:=Tryz.func242.trans (congrArg some (by kernel_rfl))
  t0:=Tryz.underlying0
  a0:=Tryz.isAgg0
  z0:=Tryz.sizeOf0
  v0:=Tryz.zeroValue0
  t3:=Tryz.underlying3
  a3:=Tryz.isAgg3
  z3:=Tryz.sizeOf3
  v3:=Tryz.zeroValue3
  t4:=Tryz.underlying4
  a4:=Tryz.isAgg4
  z4:=Tryz.sizeOf4
  v4:=Tryz.zeroValue4
  t9:=Tryz.underlying9
  a9:=Tryz.isAgg9
  z9:=Tryz.sizeOf9
  v9:=Tryz.zeroValue9
  t24:=Tryz.underlying80
  a24:=Tryz.isAgg80
  z24:=Tryz.sizeOf80
  v24:=Tryz.zeroValue80
  t40:=Tryz.underlying203
  a40:=Tryz.isAgg203
  z40:=Tryz.sizeOf203
  v40:=Tryz.zeroValue203 }
def Tryz.laysNm222_ren : Go.Shelf.Ren:=⟨fun | 22=>155 | 29=>199 | 30=>200 | 36=>231 | 17=>243 | n=>n,fun | 24=>80 | 9=>9 | 3=>3 | 4=>4 | 0=>0 | n=>n,fun | n=>n⟩
theorem Tryz.laysNm222 : Go.Proofs.Lays2.n22 Tryz.prog Tryz.laysNm222_ren:={
  mixed:=by kernel_rfl
  f17:=Tryz.func243.trans (congrArg some (by kernel_rfl))
  f22:=Tryz.func155.trans (congrArg some (by kernel_rfl))
  f29:=Tryz.func199.trans (congrArg some (by kernel_rfl))
  f30:=Tryz.func200.trans (congrArg some (by kernel_rfl))
  f36:=Tryz.func231.trans (congrArg some (by kernel_rfl))
  t0:=Tryz.underlying0
  a0:=Tryz.isAgg0
  z0:=Tryz.sizeOf0
  v0:=Tryz.zeroValue0
  t3:=Tryz.underlying3
  a3:=Tryz.isAgg3
  z3:=Tryz.sizeOf3
  v3:=Tryz.zeroValue3
  t4:=Tryz.underlying4
  a4:=Tryz.isAgg4
  z4:=Tryz.sizeOf4
  v4:=Tryz.zeroValue4
  t9:=Tryz.underlying9
  a9:=Tryz.isAgg9
  z9:=Tryz.sizeOf9
  v9:=Tryz.zeroValue9
  t24:=Tryz.underlying80
  a24:=Tryz.isAgg80
  z24:=Tryz.sizeOf80
  v24:=Tryz.zeroValue80
  i9:=by kernel_rfl }
end Go.Proofs
