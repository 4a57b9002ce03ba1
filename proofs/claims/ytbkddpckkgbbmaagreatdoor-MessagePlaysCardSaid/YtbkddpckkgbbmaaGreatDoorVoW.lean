import Derived.Test.YtbkddpckkgbbmaaGreatDoorVoV
set_option linter.unusedSimpArgs false
set_option linter.unusedVariables false
set_option linter.unusedSectionVars false
set_option linter.unnecessarySimpa false
namespace Go.Oct
open Go

/-! ### what the law says, in plain Lean -/

/-- bytes[0]. -/
def first (s : ByteArray) : Nat := ((s.data[0]?).getD 0).toNat
end Go.Oct

namespace Go.Oct
open Go Go.Vc Go.VrA
set_option maxRecDepth 100000

/-! ### the law -/

def m2 (C B : List UInt8) : M := [(ckL, C), (qkL, B)]
theorem mk_toList (s : ByteArray) : (⟨s.data.toList.toArray⟩ : ByteArray) = s := by cases s; simp
end Go.Oct
