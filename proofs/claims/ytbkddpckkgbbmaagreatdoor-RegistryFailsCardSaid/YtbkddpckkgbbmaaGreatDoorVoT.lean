import Derived.Test.YtbkddpckkgbbmaaGreatDoorVoN
import Derived.Test.YtbkddpckkgbbmaaGreatDoorVoR
set_option linter.unusedSimpArgs false
set_option linter.unusedVariables false
set_option linter.unusedSectionVars false
set_option linter.unnecessarySimpa false
namespace Go.Oct
open Go Go.Vc Go.VrA
set_option maxRecDepth 100000
def PureRng {σ : Type} (St : Sto σ) (s : σ) : Prop:=∀ a b w (G : Value→World→Prop),St.At s w →
  (∀ w' gf cap,Mod (fun _=>False) w w'→IterP Proofs.Tryz.prog gf cap (rowsV (St.rng s a b).1) (fun u=>St.At s u∧Kept w.heap.size w' u)→G (.func (.func gf) #[] cap.toArray) w')→InvK Proofs.Tryz.prog G St.t St.v "Range" [.string a,.string b] w
def Sto.under {σ : Type} (St : Sto σ) (s : σ) (sort : ByteArray) (l : List Pt) : List Pr :=
  if ((underK sort l).1.toList == (⟨#[]⟩ : ByteArray).toList) then [] else (St.rng s (underK sort l).1 (underK sort l).2).1
theorem pure_shelf (sb mb : Nat) (h0 : 0≠mb) (s : Nat × M) (hs : s.2.length * 16≤140737488355328) : PureRng (shelf sb mb h0) s :=
  fun a b w G h hG=>⟨37,ptr sb,by kernel_rfl,rng_c sb mb s.1 s.2 a b w G h hs hG⟩
end Go.Oct
