import Derived.Shelf.SlIter.Nil
import Derived.Shelf.SortM.Plain
import Derived.Shelf.SortM.SortNone
import Derived.Ground.GgzProg
import Derived.Ground.SlgmProg
import Derived.Test.YtbkddpckkgbbmaaGreatDoorProg
set_option linter.unusedSimpArgs false
set_option linter.unusedVariables false
set_option linter.unusedSectionVars false
set_option linter.unnecessarySimpa false
namespace Go.Proofs
open Go.Shelf
def Tryz.keys105_ren : Go.Shelf.Ren:=⟨fun | 7=>105 | 10=>164 | n=>n,fun | 23=>121 | 26=>9 | 3=>9 | 28=>180 | 0=>0 | 27=>179 | 33=>46 | 4=>4 | n=>n,fun | n=>n⟩
theorem Tryz.keys105 : Go.Proofs.SlLaysZ.n7 Tryz.prog Tryz.keys105_ren:={
  mixed:=by kernel_rfl
  f7:=⟨Tryz.f105.name,by decide,Tryz.func105.trans (congrArg some (by kernel_rfl))⟩
  f10:=⟨Tryz.f164.name,by decide,Tryz.func164.trans (congrArg some (by kernel_rfl))⟩
  t0:=Tryz.underlying0
  a0:=Tryz.isAgg0
  z0:=Tryz.sizeOf0
  v0:=Tryz.zeroValue0
  t4:=Tryz.underlying4
  a4:=Tryz.isAgg4
  z4:=Tryz.sizeOf4
  v4:=Tryz.zeroValue4
  t23:=Tryz.underlying121
  a23:=Tryz.isAgg121
  z23:=Tryz.sizeOf121
  v23:=Tryz.zeroValue121
  t26:=Tryz.underlying9
  a26:=Tryz.isAgg9
  z26:=Tryz.sizeOf9
  v26:=Tryz.zeroValue9
  t27:=Tryz.underlying179
  a27:=Tryz.isAgg179
  z27:=Tryz.sizeOf179
  v27:=Tryz.zeroValue179
  t28:=Tryz.underlying180
  a28:=Tryz.isAgg180
  z28:=Tryz.sizeOf180
  v28:=Tryz.zeroValue180
  t33:=Tryz.underlying46
  a33:=Tryz.isAgg46
  z33:=Tryz.sizeOf46
  v33:=Tryz.zeroValue46 }
def Tryz.sorted104_ren : Go.Shelf.Ren:=⟨fun | 6=>104 | 8=>90 | 9=>151 | 11=>156 | 13=>196 | 12=>195 | 23=>228 | 24=>229 | 14=>219 | 15=>220 | 16=>221 | 17=>222 | 18=>223 | 19=>224 | 20=>225 | 21=>226 | 22=>227 | 25=>237 | 26=>238 | 27=>239 | 28=>240 | 29=>241 | 30=>242 | 31=>252 | n=>n,fun | 26=>9 | 28=>180 | 24=>80 | 0=>0 | 3=>3 | 37=>203 | 48=>30 | 50=>31 | 4=>4 | 40=>293 | 39=>292 | 45=>250 | 5=>5 | 9=>9 | 51=>303 | 55=>75 | 57=>314 | 58=>315 | 33=>46 | n=>n,fun | n=>n⟩
theorem Tryz.sorted104 : Go.Proofs.SlLaysZ.n6 Tryz.prog Tryz.sorted104_ren:={
  mixed:=by kernel_rfl
  f6:=⟨Tryz.f104.name,by decide,Tryz.func104.trans (congrArg some (by kernel_rfl))⟩
  f8:=⟨Tryz.f90.name,by decide,Tryz.func90.trans (congrArg some (by kernel_rfl))⟩
  f11:=⟨Tryz.f156.name,by decide,Tryz.func156.trans (congrArg some (by kernel_rfl))⟩
  t0:=Tryz.underlying0
  a0:=Tryz.isAgg0
  z0:=Tryz.sizeOf0
  v0:=Tryz.zeroValue0
  t24:=Tryz.underlying80
  a24:=Tryz.isAgg80
  z24:=Tryz.sizeOf80
  v24:=Tryz.zeroValue80
  t26:=Tryz.underlying9
  a26:=Tryz.isAgg9
  z26:=Tryz.sizeOf9
  v26:=Tryz.zeroValue9
  t28:=Tryz.underlying180
  a28:=Tryz.isAgg180
  z28:=Tryz.sizeOf180
  v28:=Tryz.zeroValue180
  i26:=by kernel_rfl }
def Tryz.sort151_ren : Go.Shelf.Ren:=⟨fun | 6=>151 | 8=>196 | 9=>195 | 19=>228 | 20=>229 | 21=>219 | 22=>220 | 23=>221 | 24=>222 | 25=>223 | 26=>224 | 27=>225 | 28=>226 | 29=>227 | 36=>237 | 31=>238 | 32=>239 | 37=>240 | 38=>241 | 39=>242 | 41=>252 | n=>n,fun | 27=>80 | 29=>9 | 3=>3 | 32=>203 | 26=>80 | 0=>0 | 44=>30 | 46=>31 | 4=>4 | 36=>293 | 35=>292 | 41=>250 | 5=>5 | 9=>9 | 53=>303 | 57=>75 | 63=>314 | 64=>315 | n=>n,fun | n=>n⟩
theorem Tryz.sort151 : Go.Proofs.SlLaysM.n6 Tryz.prog Tryz.sort151_ren:={
  mixed:=by kernel_rfl
  f6:=⟨Tryz.f151.name,by decide,Tryz.func151.trans (congrArg some (by kernel_rfl))⟩
  f8:=Tryz.func196.trans (congrArg some (by kernel_rfl))
  f9:=⟨Tryz.f195.name,by decide,Tryz.func195.trans (congrArg some (by kernel_rfl))⟩
  f19:=Tryz.func228.trans (congrArg some (by kernel_rfl))
  f20:=Tryz.func229.trans (congrArg some (by kernel_rfl))
  f21:=⟨Tryz.f219.name,by decide,Tryz.func219.trans (congrArg some (by kernel_rfl))⟩
  f22:=⟨Tryz.f220.name,by decide,Tryz.func220.trans (congrArg some (by kernel_rfl))⟩
  f23:=⟨Tryz.f221.name,by decide,Tryz.func221.trans (congrArg some (by kernel_rfl))⟩
  f24:=⟨Tryz.f222.name,by decide,Tryz.func222.trans (congrArg some (by kernel_rfl))⟩
  f25:=⟨Tryz.f223.name,by decide,Tryz.func223.trans (congrArg some (by kernel_rfl))⟩
  f26:=⟨Tryz.f224.name,by decide,Tryz.func224.trans (congrArg some (by kernel_rfl))⟩
  f27:=⟨Tryz.f225.name,by decide,Tryz.func225.trans (congrArg some (by kernel_rfl))⟩
  f28:=⟨Tryz.f226.name,by decide,Tryz.func226.trans (congrArg some (by kernel_rfl))⟩
  f29:=⟨Tryz.f227.name,by decide,Tryz.func227.trans (congrArg some (by kernel_rfl))⟩
  f31:=Tryz.func238.trans (congrArg some (by kernel_rfl))
  f32:=Tryz.func239.trans (congrArg some (by kernel_rfl))
  f36:=⟨Tryz.f237.name,by decide,Tryz.func237.trans (congrArg some (by kernel_rfl))⟩
  f37:=⟨Tryz.f240.name,by decide,Tryz.func240.trans (congrArg some (by kernel_rfl))⟩
  f38:=⟨Tryz.f241.name,by decide,Tryz.func241.trans (congrArg some (by kernel_rfl))⟩
  f39:=⟨Tryz.f242.name,by decide,Tryz.func242.trans (congrArg some (by kernel_rfl))⟩
  f41:=⟨Tryz.f252.name,by decide,Tryz.func252.trans (congrArg some (by kernel_rfl))⟩
  t0:=Tryz.underlying0
  a0:=Tryz.isAgg0
  z0:=Tryz.sizeOf0
  v0:=Tryz.zeroValue0
  t3:=Tryz.underlying3
  a3:=Tryz.isAgg3
  z3:=Tryz.sizeOf3
  v3:=Tryz.zeroValue3
  t4:=Tryz.underlying4
  a4:=Tryz.isAgg4
  z4:=Tryz.sizeOf4
  v4:=Tryz.zeroValue4
  t5:=Tryz.underlying5
  a5:=Tryz.isAgg5
  z5:=Tryz.sizeOf5
  v5:=Tryz.zeroValue5
  t9:=Tryz.underlying9
  a9:=Tryz.isAgg9
  z9:=Tryz.sizeOf9
  v9:=Tryz.zeroValue9
  t26:=Tryz.underlying80
  a26:=Tryz.isAgg80
  z26:=Tryz.sizeOf80
  v26:=Tryz.zeroValue80
  t27:=Tryz.underlying80
  a27:=Tryz.isAgg80
  z27:=Tryz.sizeOf80
  v27:=Tryz.zeroValue80
  t29:=Tryz.underlying9
  a29:=Tryz.isAgg9
  z29:=Tryz.sizeOf9
  v29:=Tryz.zeroValue9
  t32:=Tryz.underlying203
  a32:=Tryz.isAgg203
  z32:=Tryz.sizeOf203
  v32:=Tryz.zeroValue203
  t35:=Tryz.underlying292
  a35:=Tryz.isAgg292
  z35:=Tryz.sizeOf292
  v35:=Tryz.zeroValue292
  t36:=Tryz.underlying293
  a36:=Tryz.isAgg293
  z36:=Tryz.sizeOf293
  v36:=Tryz.zeroValue293
  t41:=Tryz.underlying250
  a41:=Tryz.isAgg250
  z41:=Tryz.sizeOf250
  v41:=Tryz.zeroValue250
  t44:=Tryz.underlying30
  a44:=Tryz.isAgg30
  z44:=Tryz.sizeOf30
  v44:=Tryz.zeroValue30
  t46:=Tryz.underlying31
  a46:=Tryz.isAgg31
  z46:=Tryz.sizeOf31
  v46:=Tryz.zeroValue31
  t53:=Tryz.underlying303
  a53:=Tryz.isAgg303
  z53:=Tryz.sizeOf303
  v53:=Tryz.zeroValue303
  t57:=Tryz.underlying75
  a57:=Tryz.isAgg75
  z57:=Tryz.sizeOf75
  v57:=Tryz.zeroValue75
  t63:=Tryz.underlying314
  a63:=Tryz.isAgg314
  z63:=Tryz.sizeOf314
  v63:=Tryz.zeroValue314
  t64:=Tryz.underlying315
  a64:=Tryz.isAgg315
  z64:=Tryz.sizeOf315
  v64:=Tryz.zeroValue315 }
end Go.Proofs
namespace Go.Proofs
open Go.RowKit Go.Maps Go.Sort Go.Shelf
theorem Tryz.sorts104 (m : Nat) : AnyZ.SortsIn Tryz.prog Tryz.sorted104_ren Fence.wide m :=
  ⟨fun blk off cap ss W hH hblk hsz=>callsIn_wide.2 (AnyM.slices_Sort_string Tryz.sort151 blk off cap ss W hH hblk hsz),
   fun p cap W=>callsIn_wide.2 (AnyM.slices_Sort_string_none Tryz.sort151 p cap W)⟩
theorem Tryz.maps_Keys_105 (mb : Option Nat) (W : World) : CallsIn Fence.wide 5 Tryz.prog 105 #[.map mb] W fun e w'=>e = .returned (.func (.func 164) #[] #[.pointer (some ⟨W.heap.size,0,none⟩)])∧w' = W.alloc (.cells #[.map mb] 121) :=
  AnyZ.keys_in Tryz.keys105 Fence.wide 5 trivial rfl mb W
set_option maxHeartbeats 1000000 in
theorem Tryz.slices_Sorted_keys_104_105 {H : Type} (b nn : Nat) (D0 : DataW H) (R : Value→Option (DataW H × List MemPlace)) (w : World) (hown : w.ownsMap Tryz.prog 9 R b nn D0) (hmax : Maps.size D0≤maxLen) (hbytes : Maps.size D0 * 16≤140737488355328) :
    CallsIn Fence.wide 5 Tryz.prog 104 #[.func (.func 164) #[] #[.pointer (some ⟨w.heap.size,0,none⟩)]] (w.alloc (.cells #[.map (some b)] 121)) fun e w' => ∃ (v : Value) (ss : List (List UInt8)),e = .returned v∧ss.Perm (strKeys D0) ∧
      w'.ownsRow (w.alloc (.cells #[.map (some b)] 121)).heap.size 9 1 v ss.length ((ss.mergeSort (fun x y=>decide (x≤y))).map encStr)∧(v = .slice none 0 0 ↔ ss = [])∧Below (w.alloc (.cells #[.map (some b)] 121)).heap.size (w.alloc (.cells #[.map (some b)] 121)) w':=by
  have hbl:=hown.lt
  have hseq : SeqGives Fence.wide 2 Tryz.prog 164 #[.pointer (some ⟨w.heap.size,0,none⟩)] encStr (fun ss=>ss.Perm (strKeys D0)) (Maps.size D0) (w.alloc (.cells #[.map (some b)] 121)) :=
    AnyZ.keys_gives (ρ:=Tryz.keys105_ren) { Tryz.keys105 with } Fence.wide _ trivial rfl (by omega) w.heap.size b nn D0 _ (by simp) (by simp) (by
      obtain ⟨es,clock,hb,Ft,hs,hD⟩:=hown
      exact ⟨es,clock,(Below.heap_alloc _ _ b hbl).trans hb,Ft,hs,hD⟩)
  exact AnyZ.sorted_in Tryz.sorted104 Fence.wide 5 trivial trivial trivial trivial rfl (by omega) (Tryz.sorts104 _) (enters_of Tryz.func151 (by kernel_rfl) rfl) 164 #[.pointer (some ⟨w.heap.size,0,none⟩)] trivial (enters_of Tryz.func164 (by kernel_rfl) rfl) _ _ hmax hbytes _ hseq
end Go.Proofs
