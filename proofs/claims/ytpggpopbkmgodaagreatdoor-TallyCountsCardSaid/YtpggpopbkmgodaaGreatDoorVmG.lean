import Derived.Test.YtpggpopbkmgodaaGreatDoorVnO
import Derived.Test.YtpggpopbkmgodaaGreatDoorVmF
import Derived.Test.YtpggpopbkmgodaaGreatDoorProg
import Derived.Test.YtpggpopbkmgodaaGreatDoorVcI
import Derived.Test.YtpggpopbkmgodaaGreatDoorVrI
import Derived.Maps.Range
set_option linter.unusedSimpArgs false
set_option linter.unusedVariables false
set_option linter.unusedSectionVars false
set_option linter.unnecessarySimpa false
namespace Go.Oct
open Go Go.Vc Go.VrA Go.VrK Go.VrL Go.Tal
set_option maxRecDepth 100000
end Go.Oct
namespace Go.Oct
open Go Go.Vc Go.VrA Go.VrK Go.VrL Go.Tal Go.Proofs.Tryz
set_option maxRecDepth 100000
theorem keysN1I_c (c1:Nat):IterP prog 51 [ptr c1] [] (fun u=>u.heap[c1]? = some (.cells #[.pointer none] 56 (0,0))):=by
 intro y _ J Jx w hJ hF hS hSx hy
 refine F51.enter (args:=[y,ptr c1]) (by simp) ?_
 unfold c51 r51
 have e1:=hF 0 _ _ hJ
 simp only [ZB,endK,resK,insVc,load1K,nilOf,pnilK,Zac,Za,Zag,Zah,Zaj,Zaf,Option.isNone_none,e1]
 exact ⟨Nat.le_refl _,fun _=>False,fun k h=>h.elim,.inl hJ⟩
theorem keysNI_c (w:World) (K:Value→World→Prop)
  (h:∀w' gf cap,Mod (fun _=>False) w w'→IterP prog gf cap [] (fun u=>Kept w.heap.size w' u)→K (.func (.func gf) #[] cap.toArray) w') :
  Ok prog 40 #[.pointer none] w K:=by
 refine F40.enter (args:=[.pointer none]) (by simp) ?_
 unfold c40 r40
 simp only [ZB,endK,resK,packed,insVc,Value.cells,ne_eq,Nat.reduceEqDiff,Zac,Zae,Zab,Za,Zad]
 refine h _ _ [ptr w.heap.size] ((Mod.refl _ _).alloc _) (iterP_mono (keysN1I_c _) ?_)
 intro u h2
 refine h2.at ?_ (Nat.le_refl _)
 simp only [Zaa,get_alloc]
theorem allN1I_c (c1:Nat):IterP prog 39 [ptr c1] [] (fun u=>u.heap[c1]? = some (.cells #[.pointer none] 56 (0,0))):=by
 rintro y ⟨fy,ya,yb,hyf⟩ J Jx w hJ hF hS hSx hy
 refine F39.enter (args:=[y,ptr c1]) (by simp) ?_
 unfold c39 r39
 have e1:=hF 0 _ _ hJ
 have q1:=lt_of_get e1
 simp only [ZB,insVc,load1K,Value.cells,ne_eq,Nat.reduceEqDiff,Zac,Zae,Zab,Za,Zag,Zah,Zaj,Zaf,get_alloc,Nat.reduceEqDiff,e1,Nat.ne_of_lt q1]
 refine callK_gen ?_
 intro w1 hw1
 have hm1:Mod (fun _=>False) w w1:=by rw [hw1];exact (Mod.refl _ _).alloc _
 clear hw1
 refine keysNI_c w1 _ ?_
 intro w4 gf cap hm4 it
 have hm14:=hm1.trans hm4
 have hz1:=hm1.size
 have hz4:=hm4.size
 simp only [ZB]
 let XO:(Nat→Prop)→Nat→Prop:=fun X k=>(w.heap.size≤k∧k<w4.heap.size+2)∨X k
 have hXO:∀(X X':Nat→Prop) (a b:World),(∀k,X' k→X k∨a.heap.size≤k∧k<b.heap.size)→∀k,XO X' k→XO X k∨a.heap.size≤k∧k<b.heap.size:=by
  rintro X X' a b h k (hk|hk)
  ·exact .inl (.inl hk)
  ·exact (h k hk).elim (fun x=>.inl (.inr x)) .inr
 refine range_iter (by kernel_rfl) (by kernel_rfl) (by kernel_rfl) (gf:=gf) (cap:=cap) (by simp only [upd_same,ev_tmp]) it
  (fun i X u=>J 0 (XO X) u∧Kept w.heap.size w4 u) (fun c X u=>False) ?_ ?_ ?_ ?_ ?_ ?_ ?_ ?_
 ·intro X w' hm hsz hX
  refine ⟨hS 0 _ _ w w' hJ ((hm14.trans hm).mono fun _ _ x=>x.elim) ?_,(Kept.refl _ _).keep hm (fun _ _ _=>id)⟩
  rintro k (hk|hk)
  ·exact .inr ⟨hk.1,by omega⟩
  ·have:=hX k hk
   exact .inr (by omega)
 ·rintro i X u ⟨h1,h2⟩
  exact ⟨h2.1,fun k hk hk'=>h2.2 k (by omega) hk'⟩
 ·rintro i X X' a b ⟨h1,h2⟩ hX ha hm hx
  exact ⟨hS 0 _ _ a b h1 (hm.mono fun _ _ x=>.inr x) (hXO X X' a b hx),h2.keep hm (fun k _ hk x=>by have:=hX k x;omega)⟩
 ·rintro c X X' a b h
  exact h.elim
 ·intro i hi
  simp at hi
 ·intro i hi
  simp at hi
 ·rintro X u ⟨h3,h4⟩ ⟨a1,a2,a3⟩
  simp only [blockQ_normal,endQ_normal,endK,resK,size_set,markO,a1]
  have hm:Mod (XO X) u (Vc.set u w4.heap.size (.deferred none)):=(Mod.refl _ _).set (.inr (.inl ⟨by omega,by omega⟩))
  refine ⟨by omega,XO X, ?_,.inl (hS 0 _ _ u _ h3 hm (fun k hk=>.inl hk))⟩
  rintro k (hk|hk)
  ·omega
  ·have:=a3 k hk;omega
 ·rintro c X u h
  exact h.elim
theorem allNI_c (w:World) (K:Value→World→Prop)
  (h:∀w' gf cap,Mod (fun _=>False) w w'→IterP prog gf cap [] (fun u=>Kept w.heap.size w' u)→K (.func (.func gf) #[] cap.toArray) w') :
  Ok prog 27 #[.pointer none] w K:=by
 refine F27.enter (args:=[.pointer none]) (by simp) ?_
 unfold c27 r27
 simp only [ZB,endK,resK,packed,insVc,Value.cells,ne_eq,Nat.reduceEqDiff,Zac,Zae,Zab,Za,Zad]
 refine h _ _ [ptr w.heap.size] ((Mod.refl _ _).alloc _) (iterP_mono (allN1I_c _) ?_)
 intro u h2
 refine h2.at ?_ (Nat.le_refl _)
 simp only [Zaa,get_alloc]
end Go.Oct
namespace Go.VrN
open Go Go.Vc Go.Proofs.Tryz
set_option maxRecDepth 100000
noncomputable def c52:CC:=(.seq (.ops [⟨none,(some 2),(.mv (.const (.slice none 0 0)))⟩])
 (.seq (.ops [⟨none,(some 4),(.mv (.tmp 0))⟩,⟨none,(some 5),(.call 66 [(.tmp 4)])⟩,⟨none,(some 3),(.mv (.tmp 5))⟩])
 (.seq (.ops [⟨none,(some 6),(.mv (.tmp 3))⟩,⟨none,(some 7),(.call 67 [(.tmp 6)])⟩])
 (.seq (.ops [⟨none,(some 8),(.mv (.tmp 3))⟩,⟨none,(some 2),(.mv (.tmp 8))⟩])
 .ret))))
abbrev r52:List RV:=[(.tmp 2)]
theorem F52:FnOk prog 52 9 c52 r52:=FnOk.o func52
noncomputable def c66:CC:=(.seq (.ops [⟨none,(some 2),(.mv (.const (.slice none 0 0)))⟩])
 (.seq (.ops [⟨none,(some 3),(.mv (.tmp 0))⟩,⟨none,(some 4),(.call 81 [(.const (.slice none 0 0)),(.tmp 3)])⟩,⟨none,(some 2),(.mv (.tmp 4))⟩])
 .ret))
abbrev r66:List RV:=[(.tmp 2)]
theorem F66:FnOk prog 66 5 c66 r66:=FnOk.o func66
noncomputable def c81:CC:=(.seq (.ops [⟨none,(some 2),(.box 115 (.tmp 0))⟩,⟨none,(some 4),(.mv (.const (.slice none 0 0)))⟩])
 (.seq (.seq (.ops [⟨none,(some 6),(.mv (.tmp 1))⟩])
 (.block 0
 (.range (.tmp 6) #[7] (sub (bodyOf f81) [1,0,1,0,0]) (sub (bodyOf f81) [1,0,1,0,1])
 (.ops [⟨none,(some 5),(.mv (.tmp 7))⟩])
 (.block 1
 (.ops [⟨none,(some 8),(.load1 (.tmp 2))⟩,⟨none,(some 9),(.mv (.tmp 5))⟩,⟨none,(some 10),(.buildS 3 1 [(.int .i64 0)] [(0,(1,(.tmp 9)))])⟩,⟨none,(some 11),(.raw 13 (.mk (some 11) (.call (.mk (.builtin .append) #[(.tmp 8),(.tmp 10)] #[115,115])) 115 "iter.go:52" #[(.mk 0 .data),(.mk 2 .data)] none))⟩,⟨none,none,(.store1 (.tmp 2) (.tmp 11))⟩])))))
 (.seq (.ops [⟨none,(some 12),(.load1 (.tmp 2))⟩,⟨none,(some 4),(.mv (.tmp 12))⟩])
 .ret)))
abbrev r81:List RV:=[(.tmp 4)]
theorem F81:FnOk prog 81 13 c81 r81:=FnOk.o func81
noncomputable def c67:CC:=(.seq (.ops [⟨none,(some 3),(.mv (.tmp 0))⟩,⟨none,(some 4),(.lenL (.tmp 3))⟩,⟨none,(some 2),(.mv (.tmp 4))⟩])
 (.ops [⟨none,(some 5),(.mv (.tmp 0))⟩,⟨none,(some 6),(.mv (.tmp 2))⟩,⟨none,(some 7),(.mv (.tmp 2))⟩,⟨none,(some 8),(.conv .u64 (.tmp 7))⟩,⟨none,(some 9),(.call 78 [(.tmp 8)])⟩,⟨none,(some 10),(.call 82 [(.tmp 5),(.const (.int .i64 0)),(.tmp 6),(.tmp 9)])⟩]))
abbrev r67:List RV:=[]
theorem F67:FnOk prog 67 11 c67 r67:=FnOk.o func67
noncomputable def c82:CC:=(.seq (.ops [⟨none,(some 8),(.mv (.const (.bool true)))⟩])
 (.seq (.ops [⟨none,(some 9),(.mv (.const (.bool true)))⟩])
 (.block 0
 (.loop
 (.block 1
 (.seq (.ops [⟨none,(some 19),(.mv (.tmp 2))⟩,⟨none,(some 20),(.mv (.tmp 1))⟩,⟨none,(some 21),(.iop .sub (.tmp 19) (.tmp 20))⟩,⟨none,(some 10),(.mv (.tmp 21))⟩])
 (.seq (.seq (.ops [⟨none,(some 22),(.mv (.tmp 10))⟩,⟨none,(some 23),(.iop .leq (.tmp 22) (.const (.int .i64 12)))⟩])
 (.cond (.tmp 23)
 (.seq (.ops [⟨none,(some 24),(.mv (.tmp 0))⟩,⟨none,(some 25),(.mv (.tmp 1))⟩,⟨none,(some 26),(.mv (.tmp 2))⟩,⟨none,(some 27),(.call 129 [(.tmp 24),(.tmp 25),(.tmp 26)])⟩])
 .ret)
 .skip))
 (.seq (.seq (.ops [⟨none,(some 28),(.mv (.tmp 3))⟩,⟨none,(some 29),(.iop .eql (.tmp 28) (.const (.int .i64 0)))⟩])
 (.cond (.tmp 29)
 (.seq (.ops [⟨none,(some 30),(.mv (.tmp 0))⟩,⟨none,(some 31),(.mv (.tmp 1))⟩,⟨none,(some 32),(.mv (.tmp 2))⟩,⟨none,(some 33),(.call 130 [(.tmp 30),(.tmp 31),(.tmp 32)])⟩])
 .ret)
 .skip))
 (.seq (.seq (.ops [⟨none,(some 34),(.mv (.tmp 8))⟩,⟨none,(some 35),(.not (.tmp 34))⟩])
 (.cond (.tmp 35)
 (.seq (.ops [⟨none,(some 36),(.mv (.tmp 0))⟩,⟨none,(some 37),(.mv (.tmp 1))⟩,⟨none,(some 38),(.mv (.tmp 2))⟩,⟨none,(some 39),(.call 131 [(.tmp 36),(.tmp 37),(.tmp 38)])⟩])
 (.ops [⟨none,(some 40),(.mv (.tmp 3))⟩,⟨none,(some 41),(.iop .sub (.tmp 40) (.const (.int .i64 1)))⟩,⟨none,(some 3),(.mv (.tmp 41))⟩]))
 .skip))
 (.seq (.ops [⟨none,(some 43),(.mv (.tmp 0))⟩,⟨none,(some 44),(.mv (.tmp 1))⟩,⟨none,(some 45),(.mv (.tmp 2))⟩,⟨none,(some 46),(.call 132 [(.tmp 43),(.tmp 44),(.tmp 45)])⟩,⟨none,(some 42),(.mv (.tmp 46))⟩,⟨none,(some 47),(.ext (.tmp 42) 0)⟩,⟨none,(some 48),(.ext (.tmp 42) 1)⟩,⟨none,(some 11),(.mv (.tmp 47))⟩,⟨none,(some 12),(.mv (.tmp 48))⟩])
 (.seq (.seq (.ops [⟨none,(some 49),(.mv (.tmp 12))⟩,⟨none,(some 50),(.iop .eql (.tmp 49) (.const (.int .i64 2)))⟩])
 (.cond (.tmp 50)
 (.seq (.ops [⟨none,(some 51),(.mv (.tmp 0))⟩,⟨none,(some 52),(.mv (.tmp 1))⟩,⟨none,(some 53),(.mv (.tmp 2))⟩,⟨none,(some 54),(.call 133 [(.tmp 51),(.tmp 52),(.tmp 53)])⟩])
 (.seq (.ops [⟨none,(some 55),(.mv (.tmp 2))⟩,⟨none,(some 56),(.iop .sub (.tmp 55) (.const (.int .i64 1)))⟩,⟨none,(some 57),(.mv (.tmp 11))⟩,⟨none,(some 58),(.mv (.tmp 1))⟩,⟨none,(some 59),(.iop .sub (.tmp 57) (.tmp 58))⟩,⟨none,(some 60),(.iop .sub (.tmp 56) (.tmp 59))⟩,⟨none,(some 11),(.mv (.tmp 60))⟩])
 (.ops [⟨none,(some 12),(.mv (.const (.int .i64 1)))⟩])))
 .skip))
 (.seq (.seq (.ops [⟨none,(some 61),(.mv (.tmp 8))⟩,⟨none,(some 62),(.mv (.tmp 61))⟩,⟨(some (62,true)),(some 63),(.mv (.tmp 9))⟩,⟨none,(some 64),(.pick (.tmp 62) (.tmp 63) (.const (.bool false)))⟩,⟨none,(some 65),(.mv (.tmp 64))⟩,⟨(some (65,true)),(some 66),(.mv (.tmp 12))⟩,⟨(some (65,true)),(some 67),(.iop .eql (.tmp 66) (.const (.int .i64 1)))⟩,⟨none,(some 68),(.pick (.tmp 65) (.tmp 67) (.const (.bool false)))⟩])
 (.cond (.tmp 68)
 (.seq (.ops [⟨none,(some 69),(.mv (.tmp 0))⟩,⟨none,(some 70),(.mv (.tmp 1))⟩,⟨none,(some 71),(.mv (.tmp 2))⟩,⟨none,(some 72),(.call 134 [(.tmp 69),(.tmp 70),(.tmp 71)])⟩])
 (.cond (.tmp 72)
 .ret
 .skip))
 .skip))
 (.seq (.seq (.draw 17 (opsOf (sub (bodyOf f82) [1,1,0,0,0,1,1,1,1,1,1,1,0,0])) [⟨none,(some 73),(.mv (.tmp 1))⟩,⟨none,(some 74),(.iop .gtr (.tmp 73) (.const (.int .i64 0)))⟩,⟨none,(some 75),(.mv (.tmp 74))⟩,⟨(some (75,true)),(some 76),(.mv (.tmp 0))⟩,⟨(some (75,true)),(some 77),(.mv (.tmp 1))⟩,⟨(some (75,true)),(some 78),(.iop .sub (.tmp 77) (.const (.int .i64 1)))⟩,⟨(some (75,true)),(some 79),(.iaddr 1 (.tmp 76) (.tmp 78))⟩,⟨(some (75,true)),(some 80),(.load1 (.tmp 79))⟩,⟨(some (75,true)),(some 81),(.mv (.tmp 0))⟩,⟨(some (75,true)),(some 82),(.mv (.tmp 11))⟩,⟨(some (75,true)),(some 83),(.iaddr 1 (.tmp 81) (.tmp 82))⟩,⟨(some (75,true)),(some 84),(.load1 (.tmp 83))⟩,⟨(some (75,true)),(some 85),(.call 135 [(.tmp 80),(.tmp 84)])⟩,⟨(some (75,true)),(some 86),(.not (.tmp 85))⟩,⟨none,(some 87),(.pick (.tmp 75) (.tmp 86) (.const (.bool false)))⟩])
 (.cond (.tmp 87)
 (.seq (.ops [⟨none,(some 88),(.mv (.tmp 0))⟩,⟨none,(some 89),(.mv (.tmp 1))⟩,⟨none,(some 90),(.mv (.tmp 2))⟩,⟨none,(some 91),(.mv (.tmp 11))⟩,⟨none,(some 92),(.call 136 [(.tmp 88),(.tmp 89),(.tmp 90),(.tmp 91)])⟩,⟨none,(some 13),(.mv (.tmp 92))⟩])
 (.seq (.ops [⟨none,(some 93),(.mv (.tmp 13))⟩,⟨none,(some 1),(.mv (.tmp 93))⟩])
 (.exit 1)))
 .skip))
 (.seq (.ops [⟨none,(some 95),(.mv (.tmp 0))⟩,⟨none,(some 96),(.mv (.tmp 1))⟩,⟨none,(some 97),(.mv (.tmp 2))⟩,⟨none,(some 98),(.mv (.tmp 11))⟩,⟨none,(some 99),(.call 137 [(.tmp 95),(.tmp 96),(.tmp 97),(.tmp 98)])⟩,⟨none,(some 94),(.mv (.tmp 99))⟩,⟨none,(some 100),(.ext (.tmp 94) 0)⟩,⟨none,(some 101),(.ext (.tmp 94) 1)⟩,⟨none,(some 14),(.mv (.tmp 100))⟩,⟨none,(some 15),(.mv (.tmp 101))⟩])
 (.seq (.ops [⟨none,(some 102),(.mv (.tmp 15))⟩,⟨none,(some 9),(.mv (.tmp 102))⟩])
 (.seq (.ops [⟨none,(some 103),(.mv (.tmp 14))⟩,⟨none,(some 104),(.mv (.tmp 1))⟩,⟨none,(some 105),(.iop .sub (.tmp 103) (.tmp 104))⟩,⟨none,(some 106),(.mv (.tmp 2))⟩,⟨none,(some 107),(.mv (.tmp 14))⟩,⟨none,(some 108),(.iop .sub (.tmp 106) (.tmp 107))⟩,⟨none,(some 16),(.mv (.tmp 105))⟩,⟨none,(some 17),(.mv (.tmp 108))⟩])
 (.seq (.ops [⟨none,(some 109),(.mv (.tmp 10))⟩,⟨none,(some 110),(.iop .quo (.tmp 109) (.const (.int .i64 8)))⟩,⟨none,(some 18),(.mv (.tmp 110))⟩])
 (.seq (.ops [⟨none,(some 111),(.mv (.tmp 16))⟩,⟨none,(some 112),(.mv (.tmp 17))⟩,⟨none,(some 113),(.iop .lss (.tmp 111) (.tmp 112))⟩])
 (.cond (.tmp 113)
 (.seq (.ops [⟨none,(some 114),(.mv (.tmp 16))⟩,⟨none,(some 115),(.mv (.tmp 18))⟩,⟨none,(some 116),(.iop .geq (.tmp 114) (.tmp 115))⟩,⟨none,(some 8),(.mv (.tmp 116))⟩])
 (.seq (.ops [⟨none,(some 117),(.mv (.tmp 0))⟩,⟨none,(some 118),(.mv (.tmp 1))⟩,⟨none,(some 119),(.mv (.tmp 14))⟩,⟨none,(some 120),(.mv (.tmp 3))⟩,⟨none,(some 121),(.call 82 [(.tmp 117),(.tmp 118),(.tmp 119),(.tmp 120)])⟩])
 (.ops [⟨none,(some 122),(.mv (.tmp 14))⟩,⟨none,(some 123),(.iop .add (.tmp 122) (.const (.int .i64 1)))⟩,⟨none,(some 1),(.mv (.tmp 123))⟩])))
 (.seq (.ops [⟨none,(some 124),(.mv (.tmp 17))⟩,⟨none,(some 125),(.mv (.tmp 18))⟩,⟨none,(some 126),(.iop .geq (.tmp 124) (.tmp 125))⟩,⟨none,(some 8),(.mv (.tmp 126))⟩])
 (.seq (.ops [⟨none,(some 127),(.mv (.tmp 0))⟩,⟨none,(some 128),(.mv (.tmp 14))⟩,⟨none,(some 129),(.iop .add (.tmp 128) (.const (.int .i64 1)))⟩,⟨none,(some 130),(.mv (.tmp 2))⟩,⟨none,(some 131),(.mv (.tmp 3))⟩,⟨none,(some 132),(.call 82 [(.tmp 127),(.tmp 129),(.tmp 130),(.tmp 131)])⟩])
 (.ops [⟨none,(some 133),(.mv (.tmp 14))⟩,⟨none,(some 2),(.mv (.tmp 133))⟩]))))))))))))))))))))))
abbrev r82:List RV:=[]
theorem F82:FnOk prog 82 134 c82 r82:=FnOk.o func82
noncomputable def c129:CC:=(.seq (.ops [⟨none,(some 8),(.mv (.tmp 1))⟩,⟨none,(some 9),(.iop .add (.tmp 8) (.const (.int .i64 1)))⟩,⟨none,(some 6),(.mv (.tmp 9))⟩])
 (.block 0
 (.loop
 (.seq (.seq (.ops [⟨none,(some 10),(.mv (.tmp 6))⟩,⟨none,(some 11),(.mv (.tmp 2))⟩,⟨none,(some 12),(.iop .lss (.tmp 10) (.tmp 11))⟩])
 (.cond (.tmp 12)
 .skip
 (.exit 0)))
 (.seq (.block 1
 (.seq (.ops [⟨none,(some 15),(.mv (.tmp 6))⟩,⟨none,(some 7),(.mv (.tmp 15))⟩])
 (.block 2
 (.loop
 (.seq (.seq (.draw 4 (opsOf (sub (bodyOf f129) [1,0,0,1,0,0,1,0,0,0,0])) [⟨none,(some 16),(.mv (.tmp 7))⟩,⟨none,(some 17),(.mv (.tmp 1))⟩,⟨none,(some 18),(.iop .gtr (.tmp 16) (.tmp 17))⟩,⟨none,(some 19),(.mv (.tmp 18))⟩,⟨(some (19,true)),(some 20),(.mv (.tmp 0))⟩,⟨(some (19,true)),(some 21),(.mv (.tmp 7))⟩,⟨(some (19,true)),(some 22),(.iaddr 1 (.tmp 20) (.tmp 21))⟩,⟨(some (19,true)),(some 23),(.load1 (.tmp 22))⟩,⟨(some (19,true)),(some 24),(.mv (.tmp 0))⟩,⟨(some (19,true)),(some 25),(.mv (.tmp 7))⟩,⟨(some (19,true)),(some 26),(.iop .sub (.tmp 25) (.const (.int .i64 1)))⟩,⟨(some (19,true)),(some 27),(.iaddr 1 (.tmp 24) (.tmp 26))⟩,⟨(some (19,true)),(some 28),(.load1 (.tmp 27))⟩,⟨(some (19,true)),(some 29),(.call 135 [(.tmp 23),(.tmp 28)])⟩,⟨none,(some 30),(.pick (.tmp 19) (.tmp 29) (.const (.bool false)))⟩])
 (.cond (.tmp 30)
 .skip
 (.exit 2)))
 (.seq (.block 3
 (.draw 6 (opsOf (sub (bodyOf f129) [1,0,0,1,0,0,1,0,0,1,0,0])) [⟨none,(some 33),(.mv (.tmp 0))⟩,⟨none,(some 34),(.mv (.tmp 7))⟩,⟨none,(some 35),(.mv (.tmp 0))⟩,⟨none,(some 36),(.mv (.tmp 7))⟩,⟨none,(some 37),(.iop .sub (.tmp 36) (.const (.int .i64 1)))⟩,⟨none,(some 38),(.mv (.tmp 0))⟩,⟨none,(some 39),(.mv (.tmp 7))⟩,⟨none,(some 40),(.iop .sub (.tmp 39) (.const (.int .i64 1)))⟩,⟨none,(some 41),(.iaddr 1 (.tmp 38) (.tmp 40))⟩,⟨none,(some 42),(.load1 (.tmp 41))⟩,⟨none,(some 43),(.mv (.tmp 0))⟩,⟨none,(some 44),(.mv (.tmp 7))⟩,⟨none,(some 45),(.iaddr 1 (.tmp 43) (.tmp 44))⟩,⟨none,(some 46),(.load1 (.tmp 45))⟩,⟨none,(some 47),(.iaddr 1 (.tmp 33) (.tmp 34))⟩,⟨none,none,(.store1 (.tmp 47) (.tmp 42))⟩,⟨none,(some 48),(.iaddr 1 (.tmp 35) (.tmp 37))⟩,⟨none,none,(.store1 (.tmp 48) (.tmp 46))⟩]))
 (.ops [⟨none,(some 31),(.mv (.tmp 7))⟩,⟨none,(some 32),(.iop .sub (.tmp 31) (.const (.int .i64 1)))⟩,⟨none,(some 7),(.mv (.tmp 32))⟩])))))))
 (.ops [⟨none,(some 13),(.mv (.tmp 6))⟩,⟨none,(some 14),(.iop .add (.tmp 13) (.const (.int .i64 1)))⟩,⟨none,(some 6),(.mv (.tmp 14))⟩]))))))
abbrev r129:List RV:=[]
theorem F129:FnOk prog 129 49 c129 r129:=FnOk.o func129
end Go.VrN
namespace Go.Vc
open Go
section
variable {P:Program} {n:Nat} {go:Value→World→Prop} {ρ:Env} {ds:List Deferred} {w w':World} {o:Oper} {x:Operand} {v:Value}
theorem rawK_rng {t:TypeId} (ho:o.op = .range t x) (hx:inB n x=true) (hr:(Instr.range t (ev ρ x)).run P w = .ok v w') (h:go v w'):RawK P go ρ ds n o w:=by
 unfold RawK
 simp only [execOp,ho,Sem.run_bind,mkA_eval n ρ ds x hx,hr,Result.andThen,pure,Sem.run]
 exact h
theorem rawK_nxt (ho:o.op = .next x false) (hx:inB n x=true) (hr:(Instr.next (ev ρ x) false o.type).run P w = .ok v w') (h:go v w'):RawK P go ρ ds n o w:=by
 unfold RawK
 simp only [execOp,ho,Sem.run_bind,mkA_eval n ρ ds x hx,hr,Result.andThen,pure,Sem.run]
 exact h
theorem rawK_ent (ho:o.op = .entry x) (hx:inB n x=true) (hr:(Instr.entry (ev ρ x)).run P w = .ok v w') (h:go v w'):RawK P go ρ ds n o w:=by
 unfold RawK
 simp only [execOp,ho,Sem.run_bind,mkA_eval n ρ ds x hx,hr,Result.andThen,pure,Sem.run]
 exact h
end
section
variable {w w':World} {S:Nat→Prop}
theorem mod_grown {row:Option Nat} (h:w.grownBy w' row):Mod (fun k=>some k=row) w w':=⟨h.os,h.tape,h.output,h.size,fun i hi hs=>h.block i hi hs⟩
theorem mod_grown0 (h:w.grownBy w' none):Mod (fun _=>False) w w':=(mod_grown h).mono fun _ _ x=>by cases x
theorem ranges_mod {P:Program} {H:Type} {k:TypeId} {R:Value→Option (DataW H × List MemPlace)} {b r n:Nat} {D:DataW H} {left:Lit→Bool} {cnt:Nat} (h:w.ranges P k R b r n D left cnt) (hm:Mod S w w') (hb:¬S b) (hr:¬S r):w'.ranges P k R b r n D left cnt:=by
 obtain ⟨es,clock,since,seen,c0,h1,F,hs,hD,h2,rest⟩:=h
 exact ⟨es,clock,since,seen,c0,hm.keep h1 hb,F,hs,hD,hm.keep h2 hr,rest⟩
theorem owns_mod {P:Program} {H:Type} {k:TypeId} {R:Value→Option (DataW H × List MemPlace)} {b n:Nat} {D:DataW H} (h:w.ownsMap P k R b n D) (hm:Mod S w w') (hb:¬S b):w'.ownsMap P k R b n D:=by
 obtain ⟨es,clock,h1,F,hs,hD⟩:=h
 exact ⟨es,clock,hm.keep h1 hb,F,hs,hD⟩
end
end Go.Vc
namespace Go.Oct
open Go Go.Vc Go.VrA Go.VrK Go.VrL Go.VrN Go.Tal Go.Proofs.Tryz
set_option maxRecDepth 100000
theorem tKeyId:(prog).underlying 3=some (.int .i64):=by kernel_rfl
theorem tMapId:(prog).underlying 93=some (.map 3 42):=by kernel_rfl
def EmpM (u:World) (mb n:Nat):Prop:=u.ownsMap prog 3 rdW mb n (.map [])
def TalE (u:World) (tb mb n:Nat):Prop:=TalD 3 95 u tb mb n (.map [])
theorem newE_c (w:World) (K:Value→World→Prop) (h:∀w' tb mb,Mod (fun _=>False) w w'→w.heap.size≤tb→w.heap.size≤mb→TalE w' tb mb 0→K (ptr tb) w'):Ok prog 18 #[] w K:=by
 refine F18.enter (args:=[]) (by simp) ?_
 unfold c18 r18
 simp only [ZB,insVc]
 refine rawK_makeMap rfl ?_
 simp only [ZB,endK,resK,packed,insVc,buildK,fillL,Value.cells,Nat.reduceLeDiff,Zai,Zak,Zaj,Zbe,Zbf,Zbd,Zbc,Zal,Zam,Zad,Zbh,Zaa]
 refine h _ (w.heap.size+1) w.heap.size (((Mod.refl _ _).alloc _).alloc _) (by omega) (Nat.le_refl _) ⟨by simp only [Zaa,Zaf,size_alloc,get_alloc,size_alloc,Zba,Zaz],(World.ownsMap_made w prog 3 rdW).alloc _,by omega⟩
theorem mkeysE1_c (c1 mb n:Nat):IterP prog 68 [ptr c1] [] (fun u=>EmpM u mb n∧u.heap[c1]? = some (.cells #[.map (some mb)] 93 (0,0))):=by
 intro y _ J Jx w hJ hF hS hSx hy
 refine F68.enter (args:=[y,ptr c1]) (by simp) ?_
 unfold c68 r68
 obtain ⟨hs,e1⟩:=hF 0 _ _ hJ
 obtain ⟨w1,hr,hrg,hg,hsz⟩:=World.ownsMap.range hs (Maps.int_keyed tKeyId) tMapId
 have hm1:=mod_grown0 hg
 simp only [ZB,insVc,load1K,Zac,Za,Zag,Zah,Zaj,e1]
 refine rawK_rng rfl rfl (by simpa only [vc_skip,vc_seq,vc_cond,vc_block,vc_exit,vc_ret,vc_ops,vcOps_nil,vcOps_cons,vcOps_gate,gateK_true,gateK_false,gate_true,gate_false,gate_undef,goL_apply,thenQ_normal,thenQ_ret,thenQ_exit,blockQ_normal,blockQ_ret,blockQ_same,blockQ_exit,condP_true,condP_false,upd_same,upd_other,updO_some,updO_none,ev_tmp,ev_const,ev_global,ev_func,endQ_ret,endQ_normal,endK,resK,resN,res1,resO_cells,resNO_cells,packed,initE_at,insVc,pickK,load1K,loadO_cells,loadV_some,loadV_none,loadNK,loadNO_cells,storeK,storeO_cells,storeNK,storeNO_cells,setMany,nilK,nilM,iopK,iopV,sopK,sopV,bopK,nilOf,pnilK,notK,convK,sameK,faddrK,fld1K,fldNK,iaddrK,iaddrAK,sidxK,extK,lenSK,lenLK,callvK,invK,buildK,fillL,buildSK,boundOf,slSK,slLK,slAK,isPlain,Value.cells,ne_eq,not_false_eq_true,not_true_eq_false,Nat.reduceEqDiff,Nat.reduceAdd,Nat.reduceLT,Nat.reduceLeDiff,reduceCtorEq,Bool.not_true,Bool.not_false,Option.map_some,Option.map_none,Option.getD_some,Option.getD_none,List.map_cons,List.map_nil,List.getElem?_cons_zero,List.getElem?_cons_succ,List.getElem?_nil,List.getElem?_toArray,List.size_toArray,List.length_cons,List.length_nil,List.zipIdx_cons,List.zipIdx_nil,List.foldl_cons,List.foldl_nil,List.setIfInBounds_toArray,List.set_cons_zero,List.set_cons_succ,List.append_eq,List.nil_append,List.cons_append,List.append_nil,List.toList_toArray,true_and,and_true,true_or,or_true,or_false,false_or,and_self,if_true,if_false,ite_true,ite_false,Bool.false_eq_true,Nat.zero_add,Nat.add_zero,decide_true,decide_false,Bool.and_true,Bool.and_false,Bool.true_and,Bool.false_and,Option.isNone_some,Option.isNone_none,Int.reduceLT,Int.reduceLE,Int.reduceToNat,Int.toNat_natCast,Int.reduceAdd,Int.reduceSub,Int.reduceMul,Int.reduceNeg,Int.reduceEq,Int.reduceNe,Int.reduceBEq,Int.reduceBNe,Nat.mul_one,List.extract_toArray,List.extract_eq_take_drop,List.drop_zero,List.drop_succ_cons,List.take_zero,List.take_succ_cons,Nat.sub_zero,Nat.add_sub_cancel,Nat.add_sub_cancel_left,vcS_nil,vcS_cons,vcS_gate,gateS_true,gateS_false,stepB_true,stepB_false,pureI,Nat.zero_mul,Nat.one_mul,Nat.reduceMul,Nat.reduceSub,List.all_toArray',List.all_cons,List.all_nil,size_set,size_alloc,size_drew,get_alloc_new,get_set_same,get_drew,Nat.lt_add_one,vcD_nil,vcD_cons,vcD_gate,gateD_true,gateD_false,stepD_pure,stepD_load,stepD_step,kindI,loadI] using hr) ?_
 simp only [ZB]
 have hJ1:J 0 (fun k=>w.heap.size≤k∧k<w1.heap.size) w1:=hS 0 _ _ w w1 hJ (hm1.mono fun _ _ x=>x.elim) (fun k hk=>.inr hk)
 refine vc_loop (fun _ ρ ds u=>ρ 5=ptr w.heap.size∧ds=[]∧u=w1) 0 ⟨by simp only [upd_same],rfl,rfl⟩ ?_
 rintro _ ρ ds u ⟨h5,rfl,rfl⟩
 simp only [vc_seq,vc_ops,vcOps_cons,insVc]
 rcases World.ranges.next hrg (Maps.int_keyed tKeyId) 0 with ⟨h0,hl,hrun⟩|⟨key,v,kl,z,w2,cnt',_,_,_,_,_,_,hlt,_⟩
 ·refine rawK_nxt rfl rfl (by simpa only [vc_skip,vc_seq,vc_cond,vc_block,vc_exit,vc_ret,vc_ops,vcOps_nil,vcOps_cons,vcOps_gate,gateK_true,gateK_false,gate_true,gate_false,gate_undef,goL_apply,thenQ_normal,thenQ_ret,thenQ_exit,blockQ_normal,blockQ_ret,blockQ_same,blockQ_exit,condP_true,condP_false,upd_same,upd_other,updO_some,updO_none,ev_tmp,ev_const,ev_global,ev_func,endQ_ret,endQ_normal,endK,resK,resN,res1,resO_cells,resNO_cells,packed,initE_at,insVc,pickK,load1K,loadO_cells,loadV_some,loadV_none,loadNK,loadNO_cells,storeK,storeO_cells,storeNK,storeNO_cells,setMany,nilK,nilM,iopK,iopV,sopK,sopV,bopK,nilOf,pnilK,notK,convK,sameK,faddrK,fld1K,fldNK,iaddrK,iaddrAK,sidxK,extK,lenSK,lenLK,callvK,invK,buildK,fillL,buildSK,boundOf,slSK,slLK,slAK,isPlain,Value.cells,ne_eq,not_false_eq_true,not_true_eq_false,Nat.reduceEqDiff,Nat.reduceAdd,Nat.reduceLT,Nat.reduceLeDiff,reduceCtorEq,Bool.not_true,Bool.not_false,Option.map_some,Option.map_none,Option.getD_some,Option.getD_none,List.map_cons,List.map_nil,List.getElem?_cons_zero,List.getElem?_cons_succ,List.getElem?_nil,List.getElem?_toArray,List.size_toArray,List.length_cons,List.length_nil,List.zipIdx_cons,List.zipIdx_nil,List.foldl_cons,List.foldl_nil,List.setIfInBounds_toArray,List.set_cons_zero,List.set_cons_succ,List.append_eq,List.nil_append,List.cons_append,List.append_nil,List.toList_toArray,true_and,and_true,true_or,or_true,or_false,false_or,and_self,if_true,if_false,ite_true,ite_false,Bool.false_eq_true,Nat.zero_add,Nat.add_zero,decide_true,decide_false,Bool.and_true,Bool.and_false,Bool.true_and,Bool.false_and,Option.isNone_some,Option.isNone_none,Int.reduceLT,Int.reduceLE,Int.reduceToNat,Int.toNat_natCast,Int.reduceAdd,Int.reduceSub,Int.reduceMul,Int.reduceNeg,Int.reduceEq,Int.reduceNe,Int.reduceBEq,Int.reduceBNe,Nat.mul_one,List.extract_toArray,List.extract_eq_take_drop,List.drop_zero,List.drop_succ_cons,List.take_zero,List.take_succ_cons,Nat.sub_zero,Nat.add_sub_cancel,Nat.add_sub_cancel_left,vcS_nil,vcS_cons,vcS_gate,gateS_true,gateS_false,stepB_true,stepB_false,pureI,Nat.zero_mul,Nat.one_mul,Nat.reduceMul,Nat.reduceSub,List.all_toArray',List.all_cons,List.all_nil,size_set,size_alloc,size_drew,get_alloc_new,get_set_same,get_drew,Nat.lt_add_one,vcD_nil,vcD_cons,vcD_gate,gateD_true,gateD_false,stepD_pure,stepD_load,stepD_step,kindI,loadI,h5] using hrun) ?_
  simp only [ZB,endK,resK,insVc,extK,Za,Zah]
  exact ⟨by omega,fun k=>w.heap.size≤k∧k<u.heap.size,fun k hk=>hk,.inl hJ1⟩
 ·exact absurd hlt (by simp [Maps.size])
theorem appendE_c (gf:FuncId) (cap:List Value) (w:World) (K:Value→World→Prop) (F:World→Prop) (it:IterP prog gf cap [] F) (hF:∀w',Mod (fun _=>False) w w'→F w')
  (h:∀w',Mod (fun _=>False) w w'→K (.slice none 0 0) w'):Ok prog 81 #[.slice none 0 0,.func (.func gf) #[] cap.toArray] w K:=by
 refine F81.enter (args:=[.slice none 0 0,.func (.func gf) #[] cap.toArray]) (by simp) ?_
 unfold c81 r81
 simp only [ZB,insVc,Value.cells,ne_eq,Nat.reduceEqDiff,Zac,Za,Zag,Nat.reduceEqDiff]
 refine vc_genT ?_
 intro w1 hw1
 have hm1:Mod (fun _=>False) w w1:=by rw [hw1];exact (Mod.refl _ _).alloc _
 have a2:w1.heap[w.heap.size]? = some (.cells #[.slice none 0 0] 115 (0,0)):=by rw [hw1];simp only [Zaa,get_alloc]
 clear hw1
 have hz1:=lt_of_get a2
 refine range_iter (by kernel_rfl) (by kernel_rfl) (by kernel_rfl) (gf:=gf) (cap:=cap) (by simp only [upd_same,ev_tmp]) it
  (fun i X u=>Mod (fun _=>False) w1 u) (fun c X u=>False) ?_ ?_ ?_ ?_ ?_ ?_ ?_ ?_
 ·intro X w' hm hsz hX
  exact hm
 ·intro i X u h1
  exact hF u (hm1.trans h1)
 ·intro i X X' a b h1 hX ha hm hx
  exact h1.then hm (fun k hk hx=>by have:=hX k hx;omega)
 ·rintro c X X' a b h
  exact h.elim
 ·intro i hi
  simp at hi
 ·intro i hi
  simp at hi
 ·rintro X u h1 ⟨a1,a2',a3⟩
  have b2:=h1.keep a2 id
  have hne:w.heap.size≠w1.heap.size:=by omega
  simp only [ZB,endK,resK,packed,insVc,load1K,ne_eq,Nat.reduceEqDiff,Za,Zah,Zad,Nat.reduceEqDiff,b2,markO,a1]
  exact h _ ((hm1.trans h1).set (.inl (by omega)))
 ·rintro c X u h
  exact h.elim
theorem isortE_c (w:World) (K:Value→World→Prop) (h:∀v,K v w):Ok prog 129 #[.slice none 0 0,.int .i64 0,.int .i64 0] w K:=by
 refine F129.enter (args:=[.slice none 0 0,.int .i64 0,.int .i64 0]) (by simp) ?_
 unfold c129 r129
 have w1:IntKind.i64.wrap 1=1:=by decide
 simp only [ZB,insVc,iopK,iopV,reduceCtorEq,Zac,Za,Zag,Int.reduceAdd,w1]
 refine vc_loop (fun _ ρ ds u=>ρ 6 = .int .i64 1∧ρ 2 = .int .i64 0∧ds=[]∧u=w) 0 ⟨by simp only [upd_same],by simp only [upd_other,initE_at,ne_eq,not_false_eq_true,Nat.reduceEqDiff,Zac,Za,Zag],rfl,rfl⟩ ?_
 rintro _ ρ ds u ⟨h6,h2,rfl,rfl⟩
 simp only [ZB,endK,resK,packed,insVc,iopK,iopV,ne_eq,Nat.reduceEqDiff,reduceCtorEq,Int.reduceLT,h6,h2]
 exact h _
theorem pdqE_c (w:World) (K:Value→World→Prop) (h:∀v,K v w):Ok prog 82 #[.slice none 0 0,.int .i64 0,.int .i64 0,.int .i64 0] w K:=by
 refine F82.enter (args:=[.slice none 0 0,.int .i64 0,.int .i64 0,.int .i64 0]) (by simp) ?_
 unfold c82 r82
 have w0:IntKind.i64.wrap 0=0:=by decide
 simp only [ZB,insVc]
 refine vc_loop (fun _ ρ ds u=>ρ 0 = .slice none 0 0∧ρ 1 = .int .i64 0∧ρ 2 = .int .i64 0∧ds=[]∧u=w) 0 ⟨by simp only [upd_other,initE_at,ne_eq,not_false_eq_true,reduceCtorEq,Zac,Za],by simp only [upd_other,initE_at,ne_eq,not_false_eq_true,Nat.reduceEqDiff,Zac,Za,Zag],by simp only [upd_other,initE_at,ne_eq,not_false_eq_true,Nat.reduceEqDiff,Zac,Za,Zag],rfl,rfl⟩ ?_
 rintro _ ρ ds u ⟨h0,h1,h2,rfl,rfl⟩
 simp only [ZB,insVc,iopK,iopV,ne_eq,Nat.reduceEqDiff,reduceCtorEq,Zae,Zab,Int.reduceLE,Int.reduceSub,h0,h1,h2,w0]
 refine isortE_c u _ ?_
 intro v
 simp only [ZB,endK,resK,packed]
 exact h _
theorem sortE_c (w:World) (K:Value→World→Prop) (h:∀v,K v w):Ok prog 67 #[.slice none 0 0] w K:=by
 refine F67.enter (args:=[.slice none 0 0]) (by simp) ?_
 unfold c67 r67
 have w0:IntKind.u64.wrap ((0:Nat):Int)=0:=by decide
 simp only [ZB,insVc,convK,lenLK,ne_eq,Nat.reduceEqDiff,reduceCtorEq,Zac,Zae,Zab,Za,w0]
 refine ok_of_calls (by kernel_rfl) (Go.Proofs.Tryz.bits_Len (0:Int) w (by decide) (by decide)) ?_
 rintro e w' ⟨rfl,rfl⟩
 refine ⟨_,rfl, ?_⟩
 have e0:((Lib.bitLen (0:Int).toNat:Nat):Int)=0:=by decide
 rw [e0]
 simp only [ZB,insVc,ne_eq,Nat.reduceEqDiff,Zae,Zab]
 refine pdqE_c w' _ ?_
 intro v
 simp only [ZB,endK,resK,packed]
 exact h _
theorem sortedE_c (gf:FuncId) (cap:List Value) (w:World) (K:Value→World→Prop) (F:World→Prop) (it:IterP prog gf cap [] F) (hF:∀w',Mod (fun _=>False) w w'→F w')
  (h:∀w',Mod (fun _=>False) w w'→K (.slice none 0 0) w'):Ok prog 52 #[.func (.func gf) #[] cap.toArray] w K:=by
 refine F52.enter (args:=[.func (.func gf) #[] cap.toArray]) (by simp) ?_
 unfold c52 r52
 simp only [ZB,insVc,ne_eq,reduceCtorEq,Zac,Zae,Zab,Za]
 refine F66.enter (args:=[.func (.func gf) #[] cap.toArray]) (by simp) ?_
 unfold c66 r66
 simp only [ZB,insVc,ne_eq,reduceCtorEq,Zac,Zae,Zab,Za]
 refine appendE_c gf cap w _ F it hF ?_
 intro w1 hm1
 simp only [ZB,endK,resK,packed,insVc,Zae,Zab,Zad]
 refine sortE_c w1 _ ?_
 intro v
 simp only [ZB,endK,resK,packed,insVc,ne_eq,Nat.reduceEqDiff,Zad]
 exact h w1 hm1
theorem keysE1_c (c1 tb mb n:Nat):IterP prog 51 [ptr c1] [] (fun u=>TalE u tb mb n∧u.heap[c1]? = some (.cells #[ptr tb] 56 (0,0))):=by
 intro y _ J Jx w hJ hF hS hSx hy
 refine F51.enter (args:=[y,ptr c1]) (by simp) ?_
 unfold c51 r51
 obtain ⟨hs,e1⟩:=hF 0 _ _ hJ
 simp only [ZB,insVc,load1K,nilK,nilOf,pnilK,faddrK,ne_eq,Nat.reduceEqDiff,Zac,Zae,Zab,Za,Zag,Zah,Zaj,Zaf,Zbq,e1,hs.1]
 refine F53.enter (args:=[.map (some mb)]) (by simp) ?_
 unfold c53 r53
 simp only [ZB,endK,resK,packed,insVc,Value.cells,ne_eq,Nat.reduceEqDiff,Zac,Zae,Zab,Za,Zad]
 refine callK_gen ?_
 intro w1 hw1
 have hm1:Mod (fun _=>False) w w1:=by rw [hw1];exact (Mod.refl _ _).alloc _
 have a2:w1.heap[w.heap.size]? = some (.cells #[.map (some mb)] 93 (0,0)):=by rw [hw1];simp only [Zaa,get_alloc]
 clear hw1
 refine sortedE_c _ [ptr w.heap.size] w1 _ _ (mkeysE1_c w.heap.size mb n) ?_ ?_
 ·intro w' hm'
  exact ⟨owns_mod (owns_mod hs.2.1 hm1 id) hm' id,hm'.keep a2 id⟩
 ·intro w2 hm2
  have hm12:=hm1.trans hm2
  have hJ2:J 0 (fun k=>w.heap.size≤k∧k<w2.heap.size) w2:=hS 0 _ _ w w2 hJ (hm12.mono fun _ _ x=>x.elim) (fun k hk=>.inr hk)
  have hz:=hm12.size
  simp only [ZB,insVc,lenLK]
  refine vc_loop (fun _ ρ ds u=>ρ 13 = .int .i64 0∧ρ 14 = .int .i64 0∧ds=[]∧u=w2) 0 ⟨rfl,rfl,rfl,rfl⟩ ?_
  rintro _ ρ ds u ⟨h13,h14,rfl,rfl⟩
  simp only [ZB,endK,resK,insVc,iopK,iopV,reduceCtorEq,Int.reduceLT,h13,h14]
  exact ⟨hz,fun k=>w.heap.size≤k∧k<u.heap.size,fun k hk=>hk,.inl hJ2⟩
end Go.Oct
namespace Go.Tal
open Go
section
variable {q r u d Y n1 n0:Nat}
theorem digit_lt (hu:u<Y) (hd:d<4294967296):(u * 4294967296+d)/Y<4294967296:=by
 rw [Nat.div_lt_iff_lt_mul (by omega)]
 have:(u+1)*4294967296≤Y * 4294967296:=Nat.mul_le_mul_right _ hu
 rw [Nat.mul_comm 4294967296 Y]
 omega
theorem qY (hY:Y=n1*4294967296+n0) (hu:u=q * n1+r):q * Y+r * 4294967296=u * 4294967296+q * n0:=by
 subst hY hu
 rw [Nat.mul_add,Nat.add_mul,← Nat.mul_assoc]
 omega
theorem digit_down (hY:Y=n1*4294967296+n0) (hu:u=q * n1+r) (huY:u<Y) (hd:d<4294967296) (h:4294967296≤q∨4294967296*r+d<q * n0):(u * 4294967296+d)/Y<q:=by
 rcases h with h|h
 ·have:=digit_lt huY hd;omega
 ·rw [Nat.div_lt_iff_lt_mul (by omega)]
  have:=qY hY hu
  omega
theorem digit_at (hY:Y=n1*4294967296+n0) (hu:u=q * n1+r) (huY:u<Y) (hQ:(u * 4294967296+d)/Y≤q) (h:q * n0≤4294967296*r+d):(u * 4294967296+d)/Y=q:=by
 refine Nat.le_antisymm hQ ?_
 rw [Nat.le_div_iff_mul_le (by omega)]
 have:=qY hY hu
 omega
theorem digit_out (hY:Y=n1*4294967296+n0) (hn0:n0<4294967296) (hu:u=q * n1+r) (huY:u<Y) (hQ:(u * 4294967296+d)/Y≤q) (hq:q≤4294967296) (hr:4294967296≤r):(u * 4294967296+d)/Y=q:=by
 refine digit_at hY hu huY hQ ?_
 have h1:q * n0≤4294967296*4294967296:=Nat.mul_le_mul hq (by omega)
 have h2:4294967296*4294967296≤4294967296*r:=Nat.mul_le_mul_left _ hr
 omega
theorem digit_first (hY:Y=n1*4294967296+n0) (hn0:n0<4294967296) (hn1:2147483648≤n1) (huY:u<Y):u/n1≤4294967297:=by
 have:u/n1<4294967298:=by
  rw [Nat.div_lt_iff_lt_mul (by omega)]
  omega
 omega
theorem digit_start (hY:Y=n1*4294967296+n0) (hn1:0<n1) (hd:d<4294967296) (huY:u<Y):(u * 4294967296+d)/Y≤u/n1:=by
 have h1:=Nat.lt_div_mul_add hn1 (a:=u)
 generalize u/n1=p at *
 have h2:u+1≤(p+1)*n1:=by rw [Nat.add_mul];omega
 have h3:(u+1)*4294967296≤(p+1)*n1*4294967296:=Nat.mul_le_mul_right _ h2
 have h4:(p+1)*n1*4294967296≤(p+1)*Y:=by
  have h40:n1*4294967296≤Y:=by rw [hY];exact Nat.le_add_right _ _
  rw [Nat.mul_assoc];exact Nat.mul_le_mul (Nat.le_refl _) h40
 have h5:(u * 4294967296+d)/Y<p+1:=by
  rw [Nat.div_lt_iff_lt_mul (by omega)]
  omega
 omega
end
theorem two_digits' (A e Y B:Nat) (hY:0<Y):(A * B+e)/Y=A/Y * B+(A%Y * B+e)/Y∧(A * B+e)%Y=(A%Y * B+e)%Y:=by
 have h:=Nat.div_add_mod A Y
 have e1:A * B+e=(A%Y * B+e)+Y * (A/Y * B):=by
  have e2:A * B=(Y * (A/Y)+A%Y)*B:=by rw [h]
  rw [e2,Nat.add_mul,Nat.mul_assoc]
  omega
 constructor
 ·rw [e1,Nat.add_mul_div_left _ _ hY,Nat.add_comm]
 ·rw [e1,Nat.add_mul_mod_self_left]
theorem two_digits (u d e Y:Nat) (hY:0<Y):((u * 4294967296+d)*4294967296+e)/Y=(u * 4294967296+d)/Y * 4294967296+((u * 4294967296+d)%Y * 4294967296+e)/Y ∧
  ((u * 4294967296+d)*4294967296+e)%Y=((u * 4294967296+d)%Y * 4294967296+e)%Y:=two_digits' _ _ _ _ hY
def enoughN (n of m share:Nat):Bool:=decide (m * share≤n * of)
theorem enough_split (n of m share:Nat) (hn:n<4294967296) (hm:m<4294967296) :
  (let a:=n * (of/4294967296)+n * (of%4294967296)/4294967296;let b:=m * (share/4294967296)+m * (share%4294967296)/4294967296;
   decide (a > b) || (decide (a=b) && decide (n * (of%4294967296)%4294967296 ≥ m * (share%4294967296)%4294967296)))=enoughN n of m share:=by
 have split:∀x y:Nat,x * y=(x * (y/4294967296)+x * (y%4294967296)/4294967296)*4294967296+x * (y%4294967296)%4294967296:=by
  intro x y
  have h:=Nat.div_add_mod y 4294967296
  have h2:=Nat.div_add_mod (x * (y%4294967296)) 4294967296
  have h3:x * y=x * (y/4294967296)*4294967296+x * (y%4294967296):=by
   have:x * y=x * (4294967296*(y/4294967296)+y%4294967296):=by rw [h]
   rw [this,Nat.mul_add,Nat.mul_left_comm,Nat.mul_comm 4294967296]
  rw [h3,Nat.add_mul]
  omega
 have h1:=split n of
 have h2:=split m share
 have l1:n * (of%4294967296)%4294967296<4294967296:=Nat.mod_lt _ (by decide)
 have l2:m * (share%4294967296)%4294967296<4294967296:=Nat.mod_lt _ (by decide)
 show (decide (_ > _) || _)=_
 unfold enoughN
 rw [h1,h2]
 generalize n * (of/4294967296)+n * (of%4294967296)/4294967296=a at *
 generalize m * (share/4294967296)+m * (share%4294967296)/4294967296=b at *
 generalize n * (of%4294967296)%4294967296=c at *
 generalize m * (share%4294967296)%4294967296=d at *
 rw [Bool.eq_iff_iff]
 simp only [Zbx,Zbk,decide_eq_true_eq]
 omega
theorem need_iff' (c s o k:Nat) (ho:0<o):needN c s o≤k ↔ c * min s o≤k * o:=by
 by_cases h:s<o
 ·rw [Nat.min_eq_left (by omega)];exact need_iff c s o k ho h
 ·rw [Nat.min_eq_right (by omega)]
  unfold needN
  rw [if_pos (by omega)]
  constructor
  ·intro hk;exact Nat.mul_le_mul_right _ hk
  ·intro hk;exact Nat.le_of_mul_le_mul_right hk ho
theorem at_first (l:List Nat) (hl:l.length<18446744073709551616) (hb:∀n∈l,n<18446744073709551616) (share o:Nat) (h0:l≠[]) (ho:0<o) (hs:0<share) (k:Nat) :
  (enoughN (pre l k) o l.length (min share o)=true ↔ (rowOf l).at share o≤k):=by
 obtain ⟨h1,h2,h3⟩:=at_spec l hl hb share o h0 ho hs
 unfold enoughN
 rw [decide_eq_true_eq,← need_iff' _ _ _ _ ho]
 constructor
 ·intro h
  refine Nat.le_of_not_lt (fun hlt => ?_)
  have:=pre_lt_below l hlt
  omega
 ·intro h
  exact Nat.le_trans h2 (pre_mono l h)
end Go.Tal
