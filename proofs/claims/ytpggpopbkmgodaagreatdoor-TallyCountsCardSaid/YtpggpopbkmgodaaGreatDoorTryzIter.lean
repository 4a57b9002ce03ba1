import Derived.Shelf.SlIter.Nil
import Derived.Shelf.SortM.Plain
import Derived.Shelf.SortM.SortNone
import Derived.Ground.GgzProg
import Derived.Ground.SlgmProg
import Derived.Test.YtpggpopbkmgodaaGreatDoorProg
import Derived.Test.YtpggpopbkmgodaaGreatDoorTryzKeys
set_option linter.unusedSimpArgs false
set_option linter.unusedVariables false
set_option linter.unusedSectionVars false
set_option linter.unnecessarySimpa false
namespace Go.Proofs
open Go.RowKit Go.Maps Go.Sort Go.Shelf
theorem Tryz.sorts47 (m:Nat):AnyZ.SortsIn Tryz.prog Tryz.sorted47_ren Fence.wide m :=
 ⟨fun blk off cap ss W hH hblk hsz=>callsIn_wide.2 (AnyM.slices_Sort_string Tryz.sort63 blk off cap ss W hH hblk hsz),
  fun p cap W=>callsIn_wide.2 (AnyM.slices_Sort_string_none Tryz.sort63 p cap W)⟩
theorem Tryz.maps_Keys_48 (mb:Option Nat) (W:World):CallsIn Fence.wide 5 Tryz.prog 48 #[.map mb] W fun e w'=>e = .returned (.func (.func 64) #[] #[.pointer (some ⟨W.heap.size,0,none⟩)])∧w'=W.alloc (.cells #[.map mb] 70) :=
 AnyZ.keys_in Tryz.keys48 Fence.wide 5 trivial rfl mb W
set_option maxHeartbeats 1000000 in
theorem Tryz.slices_Sorted_keys_47_48 {H:Type} (b nn:Nat) (D0:DataW H) (R:Value→Option (DataW H × List MemPlace)) (w:World) (hown:w.ownsMap Tryz.prog 9 R b nn D0) (hmax:Maps.size D0≤maxLen) (hbytes:Maps.size D0*16≤140737488355328) :
  CallsIn Fence.wide 5 Tryz.prog 47 #[.func (.func 64) #[] #[.pointer (some ⟨w.heap.size,0,none⟩)]] (w.alloc (.cells #[.map (some b)] 70)) fun e w' => ∃(v:Value) (ss:List (List UInt8)),e = .returned v∧ss.Perm (strKeys D0) ∧
   w'.ownsRow (w.alloc (.cells #[.map (some b)] 70)).heap.size 9 1 v ss.length ((ss.mergeSort (fun x y=>decide (x≤y))).map encStr)∧(v = .slice none 0 0 ↔ ss=[])∧Below (w.alloc (.cells #[.map (some b)] 70)).heap.size (w.alloc (.cells #[.map (some b)] 70)) w':=by
 have hbl:=hown.lt
 have hseq:SeqGives Fence.wide 2 Tryz.prog 64 #[.pointer (some ⟨w.heap.size,0,none⟩)] encStr (fun ss=>ss.Perm (strKeys D0)) (Maps.size D0) (w.alloc (.cells #[.map (some b)] 70)) :=
  AnyZ.keys_gives (ρ:=Tryz.keys48_ren) { Tryz.keys48 with } Fence.wide _ trivial rfl (by omega) w.heap.size b nn D0 _ (by simp) (by simp) (by
   obtain ⟨es,clock,hb,Ft,hs,hD⟩:=hown
   exact ⟨es,clock,(Below.heap_alloc _ _ b hbl).trans hb,Ft,hs,hD⟩)
 exact AnyZ.sorted_in Tryz.sorted47 Fence.wide 5 trivial trivial trivial trivial rfl (by omega) (Tryz.sorts47 _) (enters_of Tryz.func63 (by kernel_rfl) rfl) 64 #[.pointer (some ⟨w.heap.size,0,none⟩)] trivial (enters_of Tryz.func64 (by kernel_rfl) rfl) _ _ hmax hbytes _ hseq
theorem Tryz.maps_Keys_354 (mb:Option Nat) (W:World):CallsIn Fence.wide 5 Tryz.prog 354 #[.map mb] W fun e w'=>e = .returned (.func (.func 355) #[] #[.pointer (some ⟨W.heap.size,0,none⟩)])∧w'=W.alloc (.cells #[.map mb] 172) :=
 AnyZ.keys_in Tryz.keys354 Fence.wide 5 trivial rfl mb W
set_option maxHeartbeats 1000000 in
theorem Tryz.slices_Sorted_keys_47_354 {H:Type} (b nn:Nat) (D0:DataW H) (R:Value→Option (DataW H × List MemPlace)) (w:World) (hown:w.ownsMap Tryz.prog 9 R b nn D0) (hmax:Maps.size D0≤maxLen) (hbytes:Maps.size D0*16≤140737488355328) :
  CallsIn Fence.wide 5 Tryz.prog 47 #[.func (.func 355) #[] #[.pointer (some ⟨w.heap.size,0,none⟩)]] (w.alloc (.cells #[.map (some b)] 172)) fun e w' => ∃(v:Value) (ss:List (List UInt8)),e = .returned v∧ss.Perm (strKeys D0) ∧
   w'.ownsRow (w.alloc (.cells #[.map (some b)] 172)).heap.size 9 1 v ss.length ((ss.mergeSort (fun x y=>decide (x≤y))).map encStr)∧(v = .slice none 0 0 ↔ ss=[])∧Below (w.alloc (.cells #[.map (some b)] 172)).heap.size (w.alloc (.cells #[.map (some b)] 172)) w':=by
 have hbl:=hown.lt
 have hseq:SeqGives Fence.wide 2 Tryz.prog 355 #[.pointer (some ⟨w.heap.size,0,none⟩)] encStr (fun ss=>ss.Perm (strKeys D0)) (Maps.size D0) (w.alloc (.cells #[.map (some b)] 172)) :=
  AnyZ.keys_gives (ρ:=Tryz.keys354_ren) { Tryz.keys354 with } Fence.wide _ trivial rfl (by omega) w.heap.size b nn D0 _ (by simp) (by simp) (by
   obtain ⟨es,clock,hb,Ft,hs,hD⟩:=hown
   exact ⟨es,clock,(Below.heap_alloc _ _ b hbl).trans hb,Ft,hs,hD⟩)
 exact AnyZ.sorted_in Tryz.sorted47 Fence.wide 5 trivial trivial trivial trivial rfl (by omega) (Tryz.sorts47 _) (enters_of Tryz.func63 (by kernel_rfl) rfl) 355 #[.pointer (some ⟨w.heap.size,0,none⟩)] trivial (enters_of Tryz.func355 (by kernel_rfl) rfl) _ _ hmax hbytes _ hseq
end Go.Proofs
