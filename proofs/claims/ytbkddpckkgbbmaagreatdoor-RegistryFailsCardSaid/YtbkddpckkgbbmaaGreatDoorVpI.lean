import Derived.Test.YtbkddpckkgbbmaaGreatDoorVtB
set_option linter.unusedSimpArgs false
set_option linter.unusedVariables false
set_option linter.unusedSectionVars false
set_option linter.unnecessarySimpa false
namespace Go.Oct
open Go Go.Vc Go.VrA Go.VrB
set_option maxRecDepth 100000
end Go.Oct
namespace Go.Oct
open Go Go.Vc Go.VrA Go.VrB
set_option maxRecDepth 100000
def keysR (m : Ms) : ByteArray × ByteArray × Int :=
  if (messageK m.queue m.id).2≠0∨m.expiry = 0 then ((messageK m.queue m.id).1,e0,(messageK m.queue m.id).2) else ((messageK m.queue m.id).1,(termK m.expiry m.queue m.id).1,(termK m.expiry m.queue m.id).2)
def Sto.mput {σ : Type} (St : Sto σ) (s : σ) (q : Ms) : Int × σ :=
  if (keysR q).2.2≠0 then ((keysR q).2.2,s) else
  if (St.put s (keysR q).1 (mbytes q)).1≠0∨emptyB (keysR q).2.1 = true then St.put s (keysR q).1 (mbytes q) else
  St.put (St.put s (keysR q).1 (mbytes q)).2 (keysR q).2.1 ⟨#[]⟩
end Go.Oct
namespace Go.Oct
open Go Go.Vc Go.VrA Go.VrB
set_option maxRecDepth 100000
end Go.Oct
namespace Go.Oct
open Go Go.Vc Go.VrA Go.VrB
set_option maxRecDepth 100000
end Go.Oct
namespace Go.Oct
open Go Go.Vc Go.VrA Go.VrB
set_option maxRecDepth 100000
end Go.Oct
namespace Go.Oct
open Go Go.Vc Go.VrA Go.VrB
set_option maxRecDepth 100000
theorem own_keep' {w w' : World} {S : Nat→Prop} {B n sz : Nat} {t : TypeId} {v : Value} {xs : List Value} (h : w.ownsRow B t sz v n xs) (hm : Mod S w w') (hS : ∀ k,v.ownBlock = some k→¬ S k) : w'.ownsRow B t sz v n xs:=by
  obtain ⟨h1,h2⟩:=h
  refine ⟨h1,h2.imp id ?_⟩
  rintro ⟨g,cap,cur,rfl,hB,hg,r⟩
  exact ⟨g,cap,cur,rfl,hB,hm.keep hg (hS g rfl),r⟩
end Go.Oct
namespace Go.Oct
open Go Go.Vc Go.VrA Go.VrB
set_option maxRecDepth 100000
end Go.Oct
