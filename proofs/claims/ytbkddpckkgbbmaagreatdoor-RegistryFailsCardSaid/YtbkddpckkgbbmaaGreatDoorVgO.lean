import Derived.Test.YtbkddpckkgbbmaaGreatDoorVgK
set_option linter.unusedSimpArgs false
set_option linter.unusedVariables false
set_option linter.unusedSectionVars false
set_option linter.unnecessarySimpa false
namespace Go.Oct
open Go Go.Vc Go.VrA Go.VrB Go.VrC Go.VrE
set_option maxRecDepth 100000
theorem Rl.vals {B : List Ms} {m : M} (h : Rl B m) : ∀ p ∈ m,p.2.length < 2 ^ 60:=by
  intro p hp
  rcases (h.mem p).1 hp with ⟨y,hy,rfl⟩ | ⟨y,hy,_,rfl⟩
  · have e : (mbytes y).data.toList.length = (mbytes y).size:=by rw [Array.length_toList]; rfl
    have:=mbytes_size2 y (h.fit y hy)
    show (mbytes y).data.toList.length < 2 ^ 60
    omega
  · exact (by decide : ([] : List UInt8).length < 2 ^ 60)
end Go.Oct
namespace Go.Oct
open Go Go.Vc Go.VrA Go.VrB Go.VrC Go.VrE
set_option maxRecDepth 100000
end Go.Oct
namespace Go.Oct
open Go Go.Vc Go.VrA Go.VrB Go.VrC Go.VrE
set_option maxRecDepth 100000
end Go.Oct
namespace Go.Oct
open Go Go.Vc Go.VrA Go.VrF
set_option maxRecDepth 100000
end Go.Oct
namespace Go.Oct
open Go Go.Vc Go.VrA Go.VrF
set_option maxRecDepth 100000
end Go.Oct
namespace Go.Oct
open Go Go.Vc Go.VrA Go.VrF
set_option maxRecDepth 100000
end Go.Oct
namespace Go.Oct
open Go Go.Vc Go.VrA Go.VrF
set_option maxRecDepth 100000
theorem shelf_gt {sb mb : Nat} {h0 : 0≠mb} {s : Nat × M} {w : World} (h : (shelf sb mb h0).At s w) : sb < w.heap.size∧mb < w.heap.size:=⟨lt_of_get h.1,World.ownsMap.lt h.2.1⟩
end Go.Oct
