import Derived.Test.YtpggpopbkmgodaaGreatDoorVpD
import Derived.Test.YtpggpopbkmgodaaGreatDoorProg
import Derived.Test.YtpggpopbkmgodaaGreatDoorVcI
set_option linter.unusedSimpArgs false
set_option linter.unusedVariables false
set_option linter.unusedSectionVars false
set_option linter.unnecessarySimpa false
namespace Go.Oct
open Go Go.Vc Go.VrA Go.VrB Go.Proofs.Tryz
set_option maxRecDepth 100000
def PureGet {σ:Type} (St:Sto σ) (s:σ):Prop:=∀k w (G:Value→World→Prop),St.At s w→k.size≤255 →
 (∀w',Mod (fun _=>False) w w'→G (.tuple #[.string (St.get s k).1.1,.bool (St.get s k).1.2.1,.int .i64 (St.get s k).1.2.2]) w')→InvK prog G St.t St.v "Get" [.string k] w
theorem pureGet_shelf (sb mb:Nat) (h0:3≠mb) (s:Nat × M):PureGet (shelf sb mb h0) s :=
 fun k w G h hk hG=>⟨350,ptr sb,by kernel_rfl,sget_c sb mb s.1 s.2 k w G h (by simp [maxLen];omega) (hG w (Mod.refl _ _))⟩
def mfound (queue:ByteArray) (n:Nat) (g:ByteArray × Bool × Int):Ms × Int :=
 if g.2.2≠0 then (ms0,g.2.2) else if g.2.1=false then (ms0,21) else mread queue n g.1
def Sto.mgetR {σ:Type} (St:Sto σ) (s:σ) (queue:ByteArray) (n:Nat):Ms × Int :=
 if (messageK queue n).2≠0 then (ms0,21) else mfound queue n (St.get s (messageK queue n).1).1
theorem msget_c {σ:Type} (St:Sto σ) (s:σ) (hp:PureGet St s) (queue:ByteArray) (n:Nat) (m:Int) (w:World) (K:Value→World→Prop) (hAt:St.At s w) (hg:Gl m w) (hs:queue.size<4294967281) (hn:n<2^64)
  (hv:(St.get s (messageK queue n).1).1.1.size<2^60)
  (h:∀w',Mod (fun _=>False) w w'→K (.tuple #[(St.mgetR s queue n).1.val,.int .i64 (St.mgetR s queue n).2]) w') :
  Ok prog 145 #[.iface St.t St.v,.string queue,.int .u64 n] w K:=by
 refine F145.enter (args:=[.iface St.t St.v,.string queue,.int .u64 n]) (by simp) ?_
 unfold c145 r145
 simp only [ZB,insVc,Value.cells,ne_eq,Nat.reduceEqDiff,Zac,Zae,Zab,Za,Zag]
 refine callK_gen ?_
 intro w1 hw1
 have hm1:Mod (fun _=>False) w w1:=by rw [hw1];exact (Mod.refl _ _).alloc _
 have e1:w1.heap[w.heap.size]? = some (.cells zms 128 (0,0)):=by rw [hw1];exact get_alloc_new _ _
 clear hw1
 refine message_c queue n m w1 _ (hg.mod hm1 id) hs hn ?_
 intro w2 hm2
 have e2:=hm2.keep e1 id
 have hm12:=hm1.trans hm2
 have hA2:=St.keep0 hAt hm12
 unfold Sto.mgetR at h
 simp only [ZB,insVc,iopK,iopV,extK,ne_eq,Nat.reduceEqDiff,reduceCtorEq,Za,Zag,Zah]
 refine condP_split ?_ ?_
 ·intro hc
  have hc':(messageK queue n).2≠0:=by simpa using hc
  rw [if_pos hc'] at h
  simp only [ZB,endK,resK,resN,packed,insVc,storeNK,setMany,buildK,fillL,isPlain,ne_eq,Nat.reduceEqDiff,Nat.reduceAdd,Nat.reduceLeDiff,Zai,Zak,Zaj,Zal,Zam,Zan,Zad,Zaw,Zar,Zap,Zaq,Zao,Zas,Zat,Zau,Zav,Zax,e2,get_set_same _ _ _ (lt_of_get e2)]
  exact h _ (hm12.set (.inl (Nat.le_refl _)))
 intro hc
 have hc':(messageK queue n).2=0:=by simpa using hc
 rw [if_neg (by simpa using hc')] at h
 simp only [ZB,insVc,invK,ne_eq,Nat.reduceEqDiff,reduceCtorEq,Zac,Zae,Zab,Za]
 refine hp (messageK queue n).1 w2 _ hA2 (keyL_size _ _ (by simp)) ?_
 intro w3 hm3
 have e3:=hm3.keep e2 id
 have hm13:=hm12.trans hm3
 revert hv h
 generalize (St.get s (messageK queue n).1).1=g
 intro hv h
 unfold mfound at h
 simp only [ZB,insVc,iopK,iopV,extK,ne_eq,Nat.reduceEqDiff,reduceCtorEq,Za,Zag,Zah]
 refine condP_split ?_ ?_
 ·intro hk
  have hk':g.2.2≠0:=by simpa using hk
  rw [if_pos hk'] at h
  simp only [ZB,endK,resK,resN,packed,insVc,storeNK,setMany,buildK,fillL,isPlain,ne_eq,Nat.reduceEqDiff,Nat.reduceAdd,Nat.reduceLeDiff,Zai,Zak,Zaj,Zal,Zam,Zan,Zad,Zaw,Zar,Zap,Zaq,Zao,Zas,Zat,Zau,Zav,Zax,e3,get_set_same _ _ _ (lt_of_get e3)]
  exact h _ (hm13.set (.inl (Nat.le_refl _)))
 intro hk
 have hk':g.2.2=0:=by simpa using hk
 rw [if_neg (by simpa using hk')] at h
 simp only [ZB,insVc,notK,ne_eq,Nat.reduceEqDiff]
 refine condP_split ?_ ?_
 ·intro hb
  have hb':g.2.1=false:=by simpa using hb
  rw [if_pos hb'] at h
  simp only [ZB,endK,resK,resN,packed,insVc,storeNK,setMany,buildK,fillL,isPlain,ne_eq,Nat.reduceEqDiff,Nat.reduceAdd,Nat.reduceLeDiff,Zai,Zak,Zaj,Zal,Zam,Zan,Zad,Zaw,Zar,Zap,Zaq,Zao,Zas,Zat,Zau,Zav,Zax,e3,get_set_same _ _ _ (lt_of_get e3)]
  exact h _ (hm13.set (.inl (Nat.le_refl _)))
 intro hb
 have hb':g.2.1=true:=by simpa using hb
 rw [if_neg (by simp [hb'])] at h
 simp only [ZB,insVc,ne_eq,Nat.reduceEqDiff,Zac,Zae,Zab,Za,Zag]
 refine messages_c queue n w3 _ ?_
 intro w4 mv hm4 hM4
 simp only [ZB,insVc,ne_eq,Nat.reduceEqDiff,Zae,Zab]
 refine mread_c mv _ queue n g.1 w4 _ hM4 hv ?_
 intro w5 hm5
 have e5:=(hm4.trans hm5).keep e3 id
 simp only [ZB,endK,resK,resN,packed,insVc,storeNK,setMany,extK,isPlain,ne_eq,Nat.reduceEqDiff,Nat.reduceAdd,Nat.reduceLeDiff,Za,Zag,Zah,Zai,Zak,Zaj,Zal,Zam,Zan,Zad,Zaw,Zar,Zap,Zaq,Zao,Zas,Zat,Zau,Zav,Zax,Ms.val,Ms.cells,e5,get_set_same _ _ _ (lt_of_get e5)]
 exact h _ (((hm13.trans hm4).trans hm5).set (.inl (Nat.le_refl _)))
def dueG {σ:Type} (St:Sto σ) (s:σ) (t:Th):Ms × Int :=
 if (St.mgetR s t.queue t.id).2=21∨((St.mgetR s t.queue t.id).2=0∧(St.mgetR s t.queue t.id).1.expiry≠t.at_) then (ms0,31) else St.mgetR s t.queue t.id
theorem due1_c {σ:Type} (St:Sto σ) (s:σ) (hp:PureGet St s) (t:Th) (v:ByteArray) (cb:Nat) (m:Int) (w:World) (K:Value→World→Prop) (hAt:St.At s w) (hg:Gl m w) (hs:t.queue.size<4294967281) (hn:t.id<2^64)
  (hv:(St.get s (messageK t.queue t.id).1).1.1.size<2^60) (hcb:w.heap[cb]? = some (.cells #[.iface St.t St.v] 216 (0,0)))
  (h:∀w',Mod (fun _=>False) w w'→K (.tuple #[(dueG St s t).1.val,.int .i64 (dueG St s t).2]) w') :
  Ok prog 144 #[t.val,.string v,ptr cb] w K:=by
 refine F144.enter (args:=[t.val,.string v,ptr cb]) (by simp) ?_
 unfold c144 r144
 have hcl:=lt_of_get hcb
 have f1:¬cb=w.heap.size+1:=by omega
 simp only [ZB,insVc,load1K,faddrK,Value.cells,ne_eq,Nat.reduceEqDiff,Zac,Zae,Zab,Za,Zag,Zah,Zaa,Zaf,get_alloc,Zbi,Nat.reduceEqDiff,Zaz,Th.val,Th.cells,hcb,Nat.ne_of_lt hcl,f1]
 refine callK_gen ?_
 intro w1 hw1
 have hm1:Mod (fun _=>False) w w1:=by rw [hw1];exact ((Mod.refl _ _).alloc _).alloc _
 have t1:w1.heap[w.heap.size]? = some (.cells #[.string t.sort,.string t.queue,.int .u64 t.id,.int .u64 t.at_,.string t.bx,.int .i64 t.bkind,.string t.bkey,.string t.bq,.string t.name] 227 (0,0)):=by rw [hw1];simp only [Zaa,Zaf,size_alloc,get_alloc,size_alloc,Zbi,Zaz]
 have r1:w1.heap[w.heap.size+1]? = some (.cells zms 128 (0,0)):=by rw [hw1];simp only [Zaa,Zaf,size_alloc,get_alloc,size_alloc,Zba,Zaz]
 clear hw1
 refine msget_c St s hp t.queue t.id m w1 _ (St.keep0 hAt hm1) (hg.mod hm1 id) hs hn hv ?_
 intro w2 hm2
 have t2:=hm2.keep t1 id
 have r2:=hm2.keep r1 id
 have hm12:=hm1.trans hm2
 unfold dueG at h
 revert h
 generalize St.mgetR s t.queue t.id=G
 intro h
 have lt:=lt_of_get t2
 have lr:=lt_of_get r2
 have f2:=Nat.ne_of_lt lt
 have f3:=Nat.ne_of_lt lr
 have hbad:(G.2=21∨(G.2=0∧G.1.expiry≠t.at_))→∀w',Mod (fun _=>False) w w'→K (.tuple #[.agg zms,.int .i64 31]) w':=by
  intro hx w' hm'
  rw [if_pos hx] at h
  exact h w' hm'
 have hgood:¬(G.2=21∨(G.2=0∧G.1.expiry≠t.at_))→∀w',Mod (fun _=>False) w w'→K (.tuple #[G.1.val,.int .i64 G.2]) w':=by
  intro hx w' hm'
  rw [if_neg hx] at h
  exact h w' hm'
 have hmA:∀cs,Mod (fun _=>False) w (Vc.set (w2.alloc cs) w2.heap.size cs):=fun cs=>(hm12.alloc _).set (.inl (by have:=hm12.size;omega))
 have g3:w.heap.size+1<w2.heap.size+1:=by omega
 have g4:¬w.heap.size+1=w2.heap.size:=by omega
 have g5:¬w2.heap.size=w.heap.size+1:=by omega
 by_cases h21:G.2=21
 ·have b1:(G.2 == 21)=true:=by simpa using h21
  simp only [ZB,endK,resK,resN,packed,insVc,pickK,storeNK,setMany,iopK,iopV,extK,buildK,fillL,isPlain,Value.cells,ne_eq,Nat.reduceEqDiff,Nat.reduceAdd,Nat.reduceLeDiff,reduceCtorEq,Za,Zag,Zah,Zai,Zak,Zaj,Zal,Zam,Zan,Zad,Zaw,Zaa,Zaf,Zar,Zap,Zaq,Zao,Zas,Zat,Zau,Zav,Zax,Zbb,Zay,get_alloc,get_set,Nat.reduceAdd,Nat.reduceEqDiff,Ms.val,Ms.cells,b1,r2,g3,g4]
  exact hbad (.inl h21) _ (((hm12.alloc _).set (.inl (by have:=hm12.size;omega))).set (.inl (by omega)))
 ·have b1:(G.2 == 21)=false:=by simpa using h21
  by_cases h00:G.2=0
  ·have b2:(((0:Int)) == 0)=true:=rfl
   have b3:(((0:Int)) == 21)=false:=rfl
   by_cases hx:G.1.expiry=t.at_
   ·have b4:((G.1.expiry:Int) != (t.at_:Int))=false:=by rw [hx];simp
    have hh:=hgood (by rw [h00];simp [hx])
    rw [h00] at hh
    simp only [ZB,endK,resK,resN,packed,insVc,pickK,load1K,loadNK,storeNK,setMany,iopK,iopV,faddrK,extK,isPlain,Value.cells,ne_eq,Nat.reduceEqDiff,Nat.reduceAdd,Nat.reduceLeDiff,reduceCtorEq,Za,Zag,Zah,Zai,Zak,Zaj,Zal,Zam,Zan,Zad,Zaw,Zaa,Zaf,Zar,Zap,Zaq,Zao,Zas,Zat,Zau,Zav,Zax,Zbb,Zay,get_alloc,get_set,Nat.reduceAdd,Nat.reduceEqDiff,Ms.val,Ms.cells,h00,b2,b3,b4,t2,f2,r2,g3,g4]
    exact hh _ (((hm12.alloc _).set (.inl (by have:=hm12.size;omega))).set (.inl (by omega)))
   ·have b4:((G.1.expiry:Int) != (t.at_:Int))=true:=by rw [bne_iff_ne];omega
    simp only [ZB,endK,resK,resN,packed,insVc,pickK,load1K,storeNK,setMany,iopK,iopV,faddrK,extK,buildK,fillL,isPlain,Value.cells,ne_eq,Nat.reduceEqDiff,Nat.reduceAdd,Nat.reduceLeDiff,reduceCtorEq,Za,Zag,Zah,Zai,Zak,Zaj,Zal,Zam,Zan,Zad,Zaw,Zaa,Zaf,Zar,Zap,Zaq,Zao,Zas,Zat,Zau,Zav,Zax,Zbb,Zay,get_alloc,get_set,Nat.reduceAdd,Nat.reduceEqDiff,Ms.val,Ms.cells,h00,b2,b3,b4,t2,f2,r2,g3,g4]
    exact hbad (.inr ⟨h00,hx⟩) _ (((hm12.alloc _).set (.inl (by have:=hm12.size;omega))).set (.inl (by omega)))
  ·have b2:(G.2 == 0)=false:=by simpa using h00
   simp only [ZB,endK,resK,resN,packed,insVc,pickK,loadNK,storeNK,setMany,iopK,iopV,extK,isPlain,Value.cells,ne_eq,Nat.reduceEqDiff,Nat.reduceAdd,Nat.reduceLeDiff,reduceCtorEq,Za,Zag,Zah,Zai,Zak,Zaj,Zal,Zam,Zan,Zad,Zaw,Zaa,Zaf,Zar,Zap,Zaq,Zao,Zas,Zat,Zau,Zav,Zax,Zbb,Zay,get_alloc,get_set,Nat.reduceAdd,Nat.reduceEqDiff,Ms.val,Ms.cells,b1,b2,r2,g3,g4]
   exact hgood (by simp [h21,h00]) _ (((hm12.alloc _).set (.inl (by have:=hm12.size;omega))).set (.inl (by omega)))
end Go.Oct
namespace Go.VrE
open Go Go.Vc Go.Proofs.Tryz
set_option maxRecDepth 100000
noncomputable def c178:CC:=(.seq (.ops [⟨none,(some 6),(.mv (.const .nilFunc))⟩])
 (.seq (.ops [⟨none,(some 10),(.mv (.tmp 1))⟩,⟨none,(some 11),(.mv (.tmp 2))⟩,⟨none,(some 12),(.call 242 [(.tmp 10),(.tmp 11)])⟩,⟨none,(some 9),(.mv (.tmp 12))⟩,⟨none,(some 13),(.ext (.tmp 9) 0)⟩,⟨none,(some 14),(.ext (.tmp 9) 1)⟩,⟨none,(some 7),(.mv (.tmp 13))⟩,⟨none,(some 8),(.mv (.tmp 14))⟩])
 (.seq (.seq (.ops [⟨none,(some 15),(.mv (.tmp 7))⟩,⟨none,(some 16),(.sop .eql (.tmp 15) (.const (.string (.mk #[]))))⟩])
 (.cond (.tmp 16)
 (.seq (.ops [⟨none,(some 6),(.mv (.func 243))⟩])
 .ret)
 .skip))
 (.seq (.ops [⟨none,(some 17),(.mv (.tmp 0))⟩,⟨none,(some 18),(.mv (.tmp 7))⟩,⟨none,(some 19),(.mv (.tmp 8))⟩,⟨none,(some 20),(.inv (.tmp 17) "Range" [(.tmp 18),(.tmp 19)])⟩,⟨none,(some 21),(.call 143 [(.tmp 20),(.func 244)])⟩,⟨none,(some 6),(.mv (.tmp 21))⟩])
 .ret))))
abbrev r178:List RV:=[(.tmp 6)]
theorem F178:FnOk prog 178 22 c178 r178:=FnOk.o func178
noncomputable def c243:CC:=.skip
abbrev r243:List RV:=[]
theorem F243:FnOk prog 243 2 c243 r243:=FnOk.o func243
noncomputable def c244:CC:=(.seq (.ops [⟨none,(some 2),(.box 227 (.tmp 0))⟩,⟨none,(some 4),(.alloc 128 (.agg #[(.string (.mk #[])),(.int .u64 0),(.int .u32 0),(.int .u64 0),(.string (.mk #[]))]))⟩,⟨none,(some 5),(.mv (.const (.int .i64 0)))⟩])
 (.seq (.ops [⟨none,(some 6),(.faddr 1 (.tmp 2))⟩,⟨none,(some 7),(.load1 (.tmp 6))⟩,⟨none,(some 8),(.faddr 2 (.tmp 2))⟩,⟨none,(some 9),(.load1 (.tmp 8))⟩,⟨none,(some 10),(.call 200 [(.tmp 7),(.tmp 9)])⟩,⟨none,(some 11),(.mv (.tmp 1))⟩,⟨none,(some 12),(.call 206 [(.tmp 10),(.tmp 11)])⟩,⟨none,(some 13),(.ext (.tmp 12) 0)⟩,⟨none,(some 14),(.ext (.tmp 12) 1)⟩,⟨none,none,(.storeN 5 (.tmp 4) (.tmp 13))⟩,⟨none,(some 5),(.mv (.tmp 14))⟩])
 .ret))
abbrev r244:List RV:=[(.cN 4 5),(.tmp 5)]
theorem F244:FnOk prog 244 15 c244 r244:=FnOk.o func244
noncomputable def c242:CC:=(.seq (.ops [⟨none,(some 4),(.mv (.const (.string (.mk #[]))))⟩,⟨none,(some 5),(.mv (.const (.string (.mk #[]))))⟩])
 (.seq (.ops [⟨none,(some 11),(.mv (.tmp 0))⟩,⟨none,(some 12),(.call 220 [(.tmp 11)])⟩,⟨none,(some 13),(.buildS 220 1 [(.bool false),(.int .u64 0),(.string (.mk #[]))] [(0,(3,(.tmp 12)))])⟩,⟨none,(some 14),(.call 141 [(.const (.string (.mk #[109]))),(.tmp 13)])⟩,⟨none,(some 10),(.mv (.tmp 14))⟩,⟨none,(some 15),(.ext (.tmp 10) 0)⟩,⟨none,(some 16),(.ext (.tmp 10) 1)⟩,⟨none,(some 6),(.mv (.tmp 15))⟩,⟨none,(some 7),(.mv (.tmp 16))⟩])
 (.seq (.ops [⟨none,(some 18),(.mv (.tmp 0))⟩,⟨none,(some 19),(.mv (.tmp 1))⟩,⟨none,(some 20),(.call 198 [(.tmp 18),(.tmp 19)])⟩,⟨none,(some 17),(.mv (.tmp 20))⟩,⟨none,(some 21),(.ext (.tmp 17) 0)⟩,⟨none,(some 22),(.ext (.tmp 17) 1)⟩,⟨none,(some 8),(.mv (.tmp 21))⟩,⟨none,(some 9),(.mv (.tmp 22))⟩])
 (.seq (.ops [⟨none,(some 23),(.mv (.tmp 8))⟩,⟨none,(some 24),(.mv (.tmp 7))⟩,⟨none,(some 4),(.mv (.tmp 23))⟩,⟨none,(some 5),(.mv (.tmp 24))⟩])
 .ret))))
abbrev r242:List RV:=[(.tmp 4),(.tmp 5)]
theorem F242:FnOk prog 242 25 c242 r242:=FnOk.o func242
noncomputable def c241:CC:=(.seq (.ops [⟨none,(some 3),(.box 128 (.tmp 1))⟩,⟨none,(some 4),(.mv (.const (.int .i64 0)))⟩])
 (.seq (.ops [⟨none,(some 12),(.mv (.tmp 0))⟩,⟨none,(some 13),(.faddr 0 (.tmp 3))⟩,⟨none,(some 14),(.load1 (.tmp 13))⟩,⟨none,(some 15),(.faddr 1 (.tmp 3))⟩,⟨none,(some 16),(.load1 (.tmp 15))⟩,⟨none,(some 17),(.call 145 [(.tmp 12),(.tmp 14),(.tmp 16)])⟩,⟨none,(some 11),(.mv (.tmp 17))⟩,⟨none,(some 18),(.ext (.tmp 11) 0)⟩,⟨none,(some 19),(.ext (.tmp 11) 1)⟩,⟨none,(some 5),(.alloc 128 (.agg #[(.string (.mk #[])),(.int .u64 0),(.int .u32 0),(.int .u64 0),(.string (.mk #[]))]))⟩,⟨none,none,(.storeN 5 (.tmp 5) (.tmp 18))⟩,⟨none,(some 6),(.mv (.tmp 19))⟩])
 (.seq (.seq (.ops [⟨none,(some 20),(.mv (.tmp 6))⟩,⟨none,(some 21),(.iop .neq (.tmp 20) (.const (.int .i64 0)))⟩])
 (.cond (.tmp 21)
 (.seq (.ops [⟨none,(some 22),(.mv (.tmp 6))⟩,⟨none,(some 4),(.mv (.tmp 22))⟩])
 .ret)
 .skip))
 (.seq (.seq (.ops [⟨none,(some 24),(.loadN 5 (.tmp 3))⟩,⟨none,(some 25),(.call 139 [(.tmp 24)])⟩,⟨none,(some 23),(.mv (.tmp 25))⟩,⟨none,(some 26),(.ext (.tmp 23) 0)⟩,⟨none,(some 27),(.ext (.tmp 23) 1)⟩,⟨none,(some 28),(.ext (.tmp 23) 2)⟩,⟨none,(some 7),(.mv (.tmp 26))⟩,⟨none,(some 8),(.mv (.tmp 27))⟩,⟨none,(some 9),(.mv (.tmp 28))⟩])
 (.seq (.ops [⟨none,(some 29),(.mv (.tmp 9))⟩,⟨none,(some 30),(.iop .neq (.tmp 29) (.const (.int .i64 0)))⟩])
 (.cond (.tmp 30)
 (.seq (.ops [⟨none,(some 31),(.mv (.tmp 9))⟩,⟨none,(some 4),(.mv (.tmp 31))⟩])
 .ret)
 .skip)))
 (.seq (.seq (.ops [⟨none,(some 32),(.faddr 3 (.tmp 5))⟩,⟨none,(some 33),(.load1 (.tmp 32))⟩,⟨none,(some 34),(.faddr 3 (.tmp 3))⟩,⟨none,(some 35),(.load1 (.tmp 34))⟩,⟨none,(some 36),(.iop .neq (.tmp 33) (.tmp 35))⟩])
 (.cond (.tmp 36)
 (.seq (.ops [⟨none,(some 37),(.mv (.tmp 0))⟩,⟨none,(some 38),(.loadN 5 (.tmp 5))⟩,⟨none,(some 39),(.call 240 [(.tmp 37),(.tmp 38)])⟩,⟨none,(some 10),(.mv (.tmp 39))⟩])
 (.seq (.ops [⟨none,(some 40),(.mv (.tmp 10))⟩,⟨none,(some 41),(.iop .neq (.tmp 40) (.const (.int .i64 0)))⟩])
 (.cond (.tmp 41)
 (.seq (.ops [⟨none,(some 42),(.mv (.tmp 10))⟩,⟨none,(some 4),(.mv (.tmp 42))⟩])
 .ret)
 .skip)))
 .skip))
 (.seq (.ops [⟨none,(some 43),(.mv (.tmp 0))⟩,⟨none,(some 44),(.loadN 5 (.tmp 3))⟩,⟨none,(some 45),(.call 140 [(.tmp 43),(.tmp 44)])⟩,⟨none,(some 4),(.mv (.tmp 45))⟩])
 .ret))))))
abbrev r241:List RV:=[(.tmp 4)]
theorem F241:FnOk prog 241 46 c241 r241:=FnOk.o func241
noncomputable def c174:CC:=(.seq (.ops [⟨none,(some 6),(.alloc 128 (.agg #[(.string (.mk #[])),(.int .u64 0),(.int .u32 0),(.int .u64 0),(.string (.mk #[]))]))⟩,⟨none,(some 7),(.mv (.const (.int .i64 0)))⟩])
 (.seq (.ops [⟨none,(some 11),(.mv (.tmp 0))⟩,⟨none,(some 12),(.mv (.tmp 1))⟩,⟨none,(some 13),(.mv (.tmp 2))⟩,⟨none,(some 14),(.call 145 [(.tmp 11),(.tmp 12),(.tmp 13)])⟩,⟨none,(some 10),(.mv (.tmp 14))⟩,⟨none,(some 15),(.ext (.tmp 10) 0)⟩,⟨none,(some 16),(.ext (.tmp 10) 1)⟩,⟨none,(some 8),(.alloc 128 (.agg #[(.string (.mk #[])),(.int .u64 0),(.int .u32 0),(.int .u64 0),(.string (.mk #[]))]))⟩,⟨none,none,(.storeN 5 (.tmp 8) (.tmp 15))⟩,⟨none,(some 9),(.mv (.tmp 16))⟩])
 (.seq (.seq (.ops [⟨none,(some 17),(.mv (.tmp 9))⟩,⟨none,(some 18),(.iop .eql (.tmp 17) (.const (.int .i64 0)))⟩])
 (.cond (.tmp 18)
 (.ops [⟨none,(some 19),(.mv (.tmp 0))⟩,⟨none,(some 20),(.loadN 5 (.tmp 8))⟩,⟨none,(some 21),(.call 240 [(.tmp 19),(.tmp 20)])⟩,⟨none,(some 9),(.mv (.tmp 21))⟩])
 .skip))
 (.seq (.seq (.ops [⟨none,(some 22),(.mv (.tmp 9))⟩,⟨none,(some 23),(.iop .neq (.tmp 22) (.const (.int .i64 0)))⟩])
 (.cond (.tmp 23)
 (.seq (.ops [⟨none,(some 24),(.build [(.string (.mk #[])),(.int .u64 0),(.int .u32 0),(.int .u64 0),(.string (.mk #[]))] [])⟩,⟨none,(some 25),(.mv (.tmp 9))⟩,⟨none,none,(.storeN 5 (.tmp 6) (.tmp 24))⟩,⟨none,(some 7),(.mv (.tmp 25))⟩])
 .ret)
 .skip))
 (.seq (.ops [⟨none,(some 26),(.loadN 5 (.tmp 8))⟩,⟨none,none,(.storeN 5 (.tmp 6) (.tmp 26))⟩,⟨none,(some 7),(.mv (.const (.int .i64 0)))⟩])
 .ret)))))
abbrev r174:List RV:=[(.cN 6 5),(.tmp 7)]
theorem F174:FnOk prog 174 27 c174 r174:=FnOk.o func174
noncomputable def c240:CC:=(.seq (.ops [⟨none,(some 3),(.box 128 (.tmp 1))⟩,⟨none,(some 4),(.mv (.const (.int .i64 0)))⟩])
 (.seq (.ops [⟨none,(some 11),(.loadN 5 (.tmp 3))⟩,⟨none,(some 12),(.call 139 [(.tmp 11)])⟩,⟨none,(some 10),(.mv (.tmp 12))⟩,⟨none,(some 13),(.ext (.tmp 10) 0)⟩,⟨none,(some 14),(.ext (.tmp 10) 1)⟩,⟨none,(some 15),(.ext (.tmp 10) 2)⟩,⟨none,(some 5),(.mv (.tmp 13))⟩,⟨none,(some 6),(.mv (.tmp 14))⟩,⟨none,(some 7),(.mv (.tmp 15))⟩])
 (.seq (.seq (.ops [⟨none,(some 16),(.mv (.tmp 7))⟩,⟨none,(some 17),(.iop .neq (.tmp 16) (.const (.int .i64 0)))⟩])
 (.cond (.tmp 17)
 (.seq (.ops [⟨none,(some 18),(.mv (.tmp 7))⟩,⟨none,(some 4),(.mv (.tmp 18))⟩])
 .ret)
 .skip))
 (.seq (.seq (.ops [⟨none,(some 20),(.mv (.tmp 0))⟩,⟨none,(some 21),(.mv (.tmp 5))⟩,⟨none,(some 22),(.inv (.tmp 20) "Cut" [(.tmp 21)])⟩,⟨none,(some 19),(.mv (.tmp 22))⟩,⟨none,(some 23),(.ext (.tmp 19) 0)⟩,⟨none,(some 24),(.ext (.tmp 19) 1)⟩,⟨none,(some 8),(.mv (.tmp 23))⟩,⟨none,(some 9),(.mv (.tmp 24))⟩])
 (.seq (.ops [⟨none,(some 25),(.mv (.tmp 9))⟩,⟨none,(some 26),(.iop .neq (.tmp 25) (.const (.int .i64 0)))⟩,⟨none,(some 27),(.mv (.tmp 26))⟩,⟨(some (27,false)),(some 28),(.mv (.tmp 6))⟩,⟨(some (27,false)),(some 29),(.sop .eql (.tmp 28) (.const (.string (.mk #[]))))⟩,⟨none,(some 30),(.pick (.tmp 27) (.const (.bool true)) (.tmp 29))⟩])
 (.cond (.tmp 30)
 (.seq (.ops [⟨none,(some 31),(.mv (.tmp 9))⟩,⟨none,(some 4),(.mv (.tmp 31))⟩])
 .ret)
 .skip)))
 (.seq (.ops [⟨none,(some 33),(.mv (.tmp 0))⟩,⟨none,(some 34),(.mv (.tmp 6))⟩,⟨none,(some 35),(.inv (.tmp 33) "Cut" [(.tmp 34)])⟩,⟨none,(some 32),(.mv (.tmp 35))⟩,⟨none,(some 36),(.ext (.tmp 32) 0)⟩,⟨none,(some 37),(.ext (.tmp 32) 1)⟩,⟨none,(some 7),(.mv (.tmp 37))⟩])
 (.seq (.ops [⟨none,(some 38),(.mv (.tmp 7))⟩,⟨none,(some 4),(.mv (.tmp 38))⟩])
 .ret))))))
abbrev r240:List RV:=[(.tmp 4)]
theorem F240:FnOk prog 240 39 c240 r240:=FnOk.o func240
noncomputable def c349:CC:=(.seq (.ops [⟨none,(some 4),(.mv (.const (.bool false)))⟩,⟨none,(some 5),(.mv (.const (.int .i64 0)))⟩])
 (.seq (.ops [⟨none,(some 9),(.mv (.tmp 0))⟩,⟨none,(some 10),(.nilc (.tmp 9))⟩,⟨none,(some 11),(.faddr 0 (.tmp 10))⟩,⟨none,(some 12),(.load1 (.tmp 11))⟩,⟨none,(some 13),(.mv (.tmp 1))⟩,⟨none,(some 14),(.raw 23 (.mk (some 14) (.lookup 172 (.tmp 12) (.tmp 13) true) 303 "registry.go:74" #[(.mk 3 .data),(.mk 4 .data)] none))⟩,⟨none,(some 8),(.mv (.tmp 14))⟩,⟨none,(some 15),(.ext (.tmp 8) 0)⟩,⟨none,(some 16),(.ext (.tmp 8) 1)⟩,⟨none,(some 6),(.mv (.tmp 15))⟩,⟨none,(some 7),(.mv (.tmp 16))⟩])
 (.seq (.ops [⟨none,(some 17),(.mv (.tmp 0))⟩,⟨none,(some 18),(.nilc (.tmp 17))⟩,⟨none,(some 19),(.faddr 0 (.tmp 18))⟩,⟨none,(some 20),(.load1 (.tmp 19))⟩,⟨none,(some 21),(.mv (.tmp 1))⟩,⟨none,none,(.raw 23 (.mk none (.call (.mk (.builtin .delete) #[(.tmp 20),(.tmp 21)] #[172,9])) 0 "registry.go:75" #[(.mk 3 .data),(.mk 4 .data)] none))⟩])
 (.seq (.ops [⟨none,(some 22),(.mv (.tmp 7))⟩,⟨none,(some 4),(.mv (.tmp 22))⟩,⟨none,(some 5),(.mv (.const (.int .i64 0)))⟩])
 .ret))))
abbrev r349:List RV:=[(.tmp 4),(.tmp 5)]
theorem F349:FnOk prog 349 23 c349 r349:=FnOk.o func349
end Go.VrE
namespace Go.Oct
open Go Go.Vc Go.VrA Go.VrE Go.ChangeMaps Go.Proofs.Tryz
set_option maxRecDepth 100000
section
variable {P:Program} {n:Nat} {go:Value→World→Prop} {ρ:Env} {ds:List Deferred} {w:World} {o:Oper}
theorem rawK_delete {s x:Operand} {t tx:TypeId} {v:Value} {w':World} (ho:o.op = .call { callee:=.builtin .delete,args:=#[s,x],argTypes:=#[t,tx] })
  (hs:inB n s=true) (hx:inB n x=true) (hr:(Builtin.delete_ #[t,tx] o.type #[ev ρ s,ev ρ x]).run P w = .ok v w') (h:go v w'):RawK P go ρ ds n o w:=by
 unfold RawK
 simp only [execOp,ho,resolve,Sem.run_bind,pure,Sem.run,Result.andThen,invoke,builtin]
 have e:(#[s,x]:Array Operand).map (mkA n ρ ds).eval = #[ev ρ s,ev ρ x]:=by simp [mkA_eval n ρ ds s hs,mkA_eval n ρ ds x hx]
 rw [e,hr]
 exact h
end
theorem IsM.drop {w:World} {mb n:Nat} {m:M} (h:IsM w mb n m) (k:ByteArray) (hk:k.size≤maxLen) (ty:TypeId) :
  ∃w',(Builtin.delete_ #[172,9] ty #[.map (some mb),.string k]).run prog w = .ok (.tuple #[]) w'∧IsM w' mb n (delM k.data.toList m)∧Mod (fun i=>i=mb) w w':=by
 obtain ⟨w',hr,ho,es,clock,es',clock',hb,rfl⟩:=World.ownsMap.drop h (Maps.string_keyed tStr) tMap (WideMaps.keyOf_string_mk tStr hk) ty
 refine ⟨_,hr, ?_, ?_⟩
 ·unfold IsM
  rw [← DM_del]
  exact ho
 ·exact ⟨rfl,rfl,rfl,by simp [setBlock],fun i _ hi=>heap_setBlock_other hb _ (fun e=>hi e)⟩
theorem sdel_c (sb mb n:Nat) (m:M) (k:ByteArray) (w:World) (K:Value→World→Prop) (hs:IsShelf w sb mb n m) (hk:k.size≤maxLen)
  (h:∀w',Mod (fun i=>i=mb) w w'→IsShelf w' sb mb n (delM k.data.toList m)→K (.tuple #[.bool (lookM k.data.toList m).isSome,.int .i64 0]) w') :
  Ok prog 349 #[ptr sb,.string k] w K:=by
 refine F349.enter (args:=[ptr sb,.string k]) (by simp) ?_
 unfold c349 r349
 simp only [ZB,insVc,load1K,nilK,faddrK,ne_eq,Nat.reduceEqDiff,reduceCtorEq,Zac,Za,Zag,Zah,hs.1]
 refine rawK_lookup rfl rfl rfl (by simpa only [vc_skip,vc_seq,vc_cond,vc_block,vc_exit,vc_ret,vc_ops,vcOps_nil,vcOps_cons,vcOps_gate,gateK_true,gateK_false,gate_true,gate_false,gate_undef,goL_apply,thenQ_normal,thenQ_ret,thenQ_exit,blockQ_normal,blockQ_ret,blockQ_same,blockQ_exit,condP_true,condP_false,upd_same,upd_other,updO_some,updO_none,ev_tmp,ev_const,ev_global,ev_func,endQ_ret,endQ_normal,endK,resK,resN,res1,resO_cells,resNO_cells,packed,initE_at,insVc,pickK,load1K,loadO_cells,loadV_some,loadV_none,loadNK,loadNO_cells,storeK,storeO_cells,storeNK,storeNO_cells,setMany,nilK,nilM,iopK,iopV,sopK,sopV,bopK,nilOf,pnilK,notK,convK,sameK,faddrK,fld1K,fldNK,iaddrK,iaddrAK,sidxK,extK,lenSK,lenLK,callvK,invK,buildK,fillL,buildSK,boundOf,slSK,slLK,slAK,isPlain,Value.cells,ne_eq,not_false_eq_true,not_true_eq_false,Nat.reduceEqDiff,Nat.reduceAdd,Nat.reduceLT,Nat.reduceLeDiff,reduceCtorEq,Bool.not_true,Bool.not_false,Option.map_some,Option.map_none,Option.getD_some,Option.getD_none,List.map_cons,List.map_nil,List.getElem?_cons_zero,List.getElem?_cons_succ,List.getElem?_nil,List.getElem?_toArray,List.size_toArray,List.length_cons,List.length_nil,List.zipIdx_cons,List.zipIdx_nil,List.foldl_cons,List.foldl_nil,List.setIfInBounds_toArray,List.set_cons_zero,List.set_cons_succ,List.append_eq,List.nil_append,List.cons_append,List.append_nil,List.toList_toArray,true_and,and_true,true_or,or_true,or_false,false_or,and_self,if_true,if_false,ite_true,ite_false,Bool.false_eq_true,Nat.zero_add,Nat.add_zero,decide_true,decide_false,Bool.and_true,Bool.and_false,Bool.true_and,Bool.false_and,Option.isNone_some,Option.isNone_none,Int.reduceLT,Int.reduceLE,Int.reduceToNat,Int.toNat_natCast,Int.reduceAdd,Int.reduceSub,Int.reduceMul,Int.reduceNeg,Int.reduceEq,Int.reduceNe,Int.reduceBEq,Int.reduceBNe,Nat.mul_one,List.extract_toArray,List.extract_eq_take_drop,List.drop_zero,List.drop_succ_cons,List.take_zero,List.take_succ_cons,Nat.sub_zero,Nat.add_sub_cancel,Nat.add_sub_cancel_left,vcS_nil,vcS_cons,vcS_gate,gateS_true,gateS_false,stepB_true,stepB_false,pureI,Nat.zero_mul,Nat.one_mul,Nat.reduceMul,Nat.reduceSub,List.all_toArray',List.all_cons,List.all_nil,size_set,size_alloc,size_drew,get_alloc_new,get_set_same,get_drew,Nat.lt_add_one,vcD_nil,vcD_cons,vcD_gate,gateD_true,gateD_false,stepD_pure,stepD_load,stepD_step,kindI,loadI] using hs.2.1.look k hk true) ?_
 simp only [ZB,insVc,load1K,nilK,faddrK,extK,ne_eq,Nat.reduceEqDiff,reduceCtorEq,Zac,Za,Zag,Zah,hs.1]
 obtain ⟨w',hr,hm,hmod⟩:=hs.2.1.drop k hk 0
 refine rawK_delete rfl rfl rfl (by simpa only [vc_skip,vc_seq,vc_cond,vc_block,vc_exit,vc_ret,vc_ops,vcOps_nil,vcOps_cons,vcOps_gate,gateK_true,gateK_false,gate_true,gate_false,gate_undef,goL_apply,thenQ_normal,thenQ_ret,thenQ_exit,blockQ_normal,blockQ_ret,blockQ_same,blockQ_exit,condP_true,condP_false,upd_same,upd_other,updO_some,updO_none,ev_tmp,ev_const,ev_global,ev_func,endQ_ret,endQ_normal,endK,resK,resN,res1,resO_cells,resNO_cells,packed,initE_at,insVc,pickK,load1K,loadO_cells,loadV_some,loadV_none,loadNK,loadNO_cells,storeK,storeO_cells,storeNK,storeNO_cells,setMany,nilK,nilM,iopK,iopV,sopK,sopV,bopK,nilOf,pnilK,notK,convK,sameK,faddrK,fld1K,fldNK,iaddrK,iaddrAK,sidxK,extK,lenSK,lenLK,callvK,invK,buildK,fillL,buildSK,boundOf,slSK,slLK,slAK,isPlain,Value.cells,ne_eq,not_false_eq_true,not_true_eq_false,Nat.reduceEqDiff,Nat.reduceAdd,Nat.reduceLT,Nat.reduceLeDiff,reduceCtorEq,Bool.not_true,Bool.not_false,Option.map_some,Option.map_none,Option.getD_some,Option.getD_none,List.map_cons,List.map_nil,List.getElem?_cons_zero,List.getElem?_cons_succ,List.getElem?_nil,List.getElem?_toArray,List.size_toArray,List.length_cons,List.length_nil,List.zipIdx_cons,List.zipIdx_nil,List.foldl_cons,List.foldl_nil,List.setIfInBounds_toArray,List.set_cons_zero,List.set_cons_succ,List.append_eq,List.nil_append,List.cons_append,List.append_nil,List.toList_toArray,true_and,and_true,true_or,or_true,or_false,false_or,and_self,if_true,if_false,ite_true,ite_false,Bool.false_eq_true,Nat.zero_add,Nat.add_zero,decide_true,decide_false,Bool.and_true,Bool.and_false,Bool.true_and,Bool.false_and,Option.isNone_some,Option.isNone_none,Int.reduceLT,Int.reduceLE,Int.reduceToNat,Int.toNat_natCast,Int.reduceAdd,Int.reduceSub,Int.reduceMul,Int.reduceNeg,Int.reduceEq,Int.reduceNe,Int.reduceBEq,Int.reduceBNe,Nat.mul_one,List.extract_toArray,List.extract_eq_take_drop,List.drop_zero,List.drop_succ_cons,List.take_zero,List.take_succ_cons,Nat.sub_zero,Nat.add_sub_cancel,Nat.add_sub_cancel_left,vcS_nil,vcS_cons,vcS_gate,gateS_true,gateS_false,stepB_true,stepB_false,pureI,Nat.zero_mul,Nat.one_mul,Nat.reduceMul,Nat.reduceSub,List.all_toArray',List.all_cons,List.all_nil,size_set,size_alloc,size_drew,get_alloc_new,get_set_same,get_drew,Nat.lt_add_one,vcD_nil,vcD_cons,vcD_gate,gateD_true,gateD_false,stepD_pure,stepD_load,stepD_step,kindI,loadI] using hr) ?_
 simp only [ZB,endK,resK,packed,insVc,ne_eq,Nat.reduceEqDiff,Zad,Zaw]
 exact h w' hmod ⟨hmod.keep hs.1 hs.2.2,hm,hs.2.2⟩
structure StoC (σ:Type) extends Sto σ where
 cut:σ→ByteArray→(Bool × Int) × σ
 cutOk:∀s k w (G:Value→World→Prop),At s w→k.size≤255 →
  (∀w',Mod own w w'→At (cut s k).2 w'→G (.tuple #[.bool (cut s k).1.1,.int .i64 (cut s k).1.2]) w')→InvK prog G t v "Cut" [.string k] w
def shelfC (sb mb:Nat) (h0:3≠mb):StoC (Nat × M) where
 toSto:=shelf sb mb h0
 cut s k:=(((lookM k.data.toList s.2).isSome,0),(s.1,delM k.data.toList s.2))
 cutOk s k w G h hk hG:=⟨349,ptr sb,by kernel_rfl,sdel_c sb mb s.1 s.2 k w G h (by simp [maxLen];omega) (fun w' hm hs=>hG w' hm hs)⟩
theorem keysR_size2 (q:Ms):(keysR q).2.1.size≤255:=by
 unfold keysR
 split
 ·exact (by decide:e0.size≤255)
 ·exact keyL_size _ _ (by simp)
def StoC.mcut {σ:Type} (St:StoC σ) (s:σ) (q:Ms):Int × σ :=
 if (keysR q).2.2≠0 then ((keysR q).2.2,s) else
 if (St.cut s (keysR q).1).1.2≠0∨emptyB (keysR q).2.1=true then ((St.cut s (keysR q).1).1.2,(St.cut s (keysR q).1).2) else
 ((St.cut (St.cut s (keysR q).1).2 (keysR q).2.1).1.2,(St.cut (St.cut s (keysR q).1).2 (keysR q).2.1).2)
theorem mcut_c {σ:Type} (St:StoC σ) (s:σ) (q:Ms) (m:Int) (w:World) (K:Value→World→Prop) (hAt:St.At s w) (hg:Gl m w) (hs:q.queue.size<4294967281) (hi:q.id<2^64) (he:q.expiry<2^64)
  (h:∀w',Mod St.own w w'→St.At (St.mcut s q).2 w'→K (.int .i64 (St.mcut s q).1) w') :
  Ok prog 240 #[.iface St.t St.v,q.val] w K:=by
 refine F240.enter (args:=[.iface St.t St.v,q.val]) (by simp) ?_
 unfold c240 r240
 have hk2:=keysR_size2 q
 have hk1:=keysR_size q
 simp only [ZB,insVc,loadNK,Value.cells,ne_eq,Nat.reduceEqDiff,Nat.reduceAdd,Nat.reduceLeDiff,Zac,Zae,Zab,Za,Zag,Zai,Zak,Zaj,Zar,Zap,Zaq,Zao,Zas,Zat,Zbl,Ms.val,Ms.cells]
 refine callK_gen ?_
 intro w1 hw1
 have hm1:Mod (fun _=>False) w w1:=by rw [hw1];exact (Mod.refl _ _).alloc _
 clear hw1
 refine keys_c q m w1 _ (hg.mod hm1 id) hs hi he ?_
 intro w2 hm2
 have hm12:=hm1.trans hm2
 have hA2:=St.keep0 hAt hm12
 unfold StoC.mcut at h
 simp only [ZB,insVc,iopK,iopV,extK,ne_eq,Nat.reduceEqDiff,reduceCtorEq,Za,Zag,Zah]
 refine condP_split ?_ ?_
 ·intro hc
  have hc':(keysR q).2.2≠0:=by simpa using hc
  rw [if_pos hc'] at h
  simp only [ZB,endK,resK,packed,insVc,ne_eq,Nat.reduceEqDiff,Zad]
  exact h w2 (hm12.mono fun _ _ x=>x.elim) hA2
 intro hc
 have hc':(keysR q).2.2=0:=by simpa using hc
 rw [if_neg (by simpa using hc')] at h
 simp only [ZB,insVc,invK,ne_eq,Nat.reduceEqDiff,reduceCtorEq,Zac,Zae,Zab,Za]
 refine St.cutOk s (keysR q).1 w2 _ hA2 hk1 ?_
 intro w3 hm3 hA3
 have hm13:Mod St.own w w3:=(hm12.mono fun _ _ x=>x.elim).trans hm3
 revert h hA3
 generalize St.cut s (keysR q).1=P
 intro h hA3
 simp only [ZB,insVc,iopK,iopV,extK,ne_eq,Nat.reduceEqDiff,reduceCtorEq,Za,Zag,Zah]
 have hfin:(P.1.2≠0∨emptyB (keysR q).2.1=true)→K (.int .i64 P.1.2) w3:=by
  intro hx
  rw [if_pos hx] at h
  exact h w3 hm13 hA3
 by_cases h1:P.1.2=0
 ·have b1:(P.1.2 != 0)=false:=by simpa using h1
  cases h2:emptyB (keysR q).2.1 with
  | true =>
   have h2':((keysR q).2.1.toList == (⟨#[]⟩:ByteArray).toList)=true:=h2
   simp only [ZB,endK,resK,packed,insVc,pickK,sopK,sopV,ne_eq,Nat.reduceEqDiff,Zad,Zaf,b1,h2']
   exact hfin (.inr h2)
  | false =>
   have h2':((keysR q).2.1.toList == (⟨#[]⟩:ByteArray).toList)=false:=h2
   rw [if_neg (by simp [h1,h2])] at h
   simp only [ZB,insVc,pickK,sopK,sopV,invK,ne_eq,Nat.reduceEqDiff,reduceCtorEq,Zac,Zae,Zab,Za,Zaf,b1,h2']
   refine St.cutOk P.2 (keysR q).2.1 w3 _ hA3 hk2 ?_
   intro w4 hm4 hA4
   simp only [ZB,endK,resK,packed,insVc,extK,ne_eq,Nat.reduceEqDiff,Za,Zag,Zah,Zad]
   exact h w4 (hm13.trans hm4) hA4
 ·have b1:(P.1.2 != 0)=true:=by simpa using h1
  simp only [ZB,endK,resK,packed,insVc,pickK,ne_eq,Nat.reduceEqDiff,Zad,Zaa,b1]
  exact hfin (.inl h1)
end Go.Oct
namespace Go.Oct
open Go Go.Vc Go.VrA Go.VrB Go.VrE Go.Proofs.Tryz
set_option maxRecDepth 100000
def StoC.mtake {σ:Type} (St:StoC σ) (s:σ) (queue:ByteArray) (n:Nat):(Ms × Int) × σ :=
 if (St.mgetR s queue n).2≠0 then ((ms0,(St.mgetR s queue n).2),s) else
 if (St.mcut s (St.mgetR s queue n).1).1≠0 then ((ms0,(St.mcut s (St.mgetR s queue n).1).1),(St.mcut s (St.mgetR s queue n).1).2) else
 (((St.mgetR s queue n).1,0),(St.mcut s (St.mgetR s queue n).1).2)
theorem mtake_c {σ:Type} (St:StoC σ) (s:σ) (hp:PureGet St.toSto s) (queue:ByteArray) (n:Nat) (m:Int) (w:World) (K:Value→World→Prop) (hAt:St.At s w) (hg:Gl m w) (h0:3<w.heap.size) (hs:queue.size<4294967281) (hn:n<2^64)
  (hv:(St.get s (messageK queue n).1).1.1.size<2^60)
  (hx:(St.mgetR s queue n).1.queue.size<4294967281∧(St.mgetR s queue n).1.id<2^64∧(St.mgetR s queue n).1.expiry<2^64)
  (h:∀w',Mod St.own w w'→St.At (St.mtake s queue n).2 w'→K (.tuple #[(St.mtake s queue n).1.1.val,.int .i64 (St.mtake s queue n).1.2]) w') :
  Ok prog 174 #[.iface St.t St.v,.string queue,.int .u64 n] w K:=by
 refine F174.enter (args:=[.iface St.t St.v,.string queue,.int .u64 n]) (by simp) ?_
 unfold c174 r174
 simp only [ZB,insVc,Value.cells,ne_eq,Nat.reduceEqDiff,reduceCtorEq,Zac,Zae,Zab,Za,Zag]
 refine callK_gen ?_
 intro w1 hw1
 have hm1:Mod (fun _=>False) w w1:=by rw [hw1];exact (Mod.refl _ _).alloc _
 have e1:w1.heap[w.heap.size]? = some (.cells zms 128 (0,0)):=by rw [hw1];exact get_alloc_new _ _
 clear hw1
 refine msget_c St.toSto s hp queue n m w1 _ (St.keep0 hAt hm1) (hg.mod hm1 id) hs hn hv ?_
 intro w2 hm2
 have e2:=hm2.keep e1 id
 have hm12:=hm1.trans hm2
 have hA2:=St.keep0 hAt hm12
 have hfoot:∀k,w.heap.size≤k→¬St.foot k:=fun k hk x=>by have:=St.footLt s w _ hAt x;omega
 have hno:∀k,w.heap.size≤k→¬St.own k:=fun k hk x=>hfoot k hk (St.ownFoot _ x)
 unfold StoC.mtake at h
 revert h hx
 obtain ⟨q,hq⟩:∃q,q=(St.mgetR s queue n).1:=⟨_,rfl⟩
 obtain ⟨e,he⟩:∃e,e=(St.mgetR s queue n).2:=⟨_,rfl⟩
 rw [← hq,← he]
 intro hx h
 obtain ⟨w3,hw3⟩:∃w3,w3=Vc.set (w2.alloc (.cells #[.string ⟨#[]⟩,.int .u64 0,.int .u32 0,.int .u64 0,.string ⟨#[]⟩] 128)) w2.heap.size (.cells #[.string q.queue,.int .u64 q.id,.int .u32 q.tries,.int .u64 q.expiry,.string q.body] 128):=⟨_,rfl⟩
 have hm3:Mod (fun _=>False) w2 w3:=by rw [hw3];exact ((Mod.refl _ _).alloc _).set (.inl (Nat.le_refl _))
 have x3:w3.heap[w2.heap.size]? = some (.cells #[.string q.queue,.int .u64 q.id,.int .u32 q.tries,.int .u64 q.expiry,.string q.body] 128 (0,0)):=by rw [hw3];exact get_set_same _ _ _ (by rw [size_alloc];omega)
 have e3:=hm3.keep e2 id
 have hA3:=St.keep0 hA2 hm3
 have hm13:=hm12.trans hm3
 have hle:w.heap.size≤w2.heap.size:=hm12.size
 simp only [ZB,insVc,storeNK,setMany,iopK,iopV,extK,isPlain,Value.cells,ne_eq,Nat.reduceEqDiff,Nat.reduceAdd,Nat.reduceLeDiff,reduceCtorEq,Za,Zag,Zah,Zai,Zak,Zaj,Zal,Zam,Zan,Zaa,Zau,Zav,Zax,get_alloc,Nat.reduceAdd,Nat.reduceEqDiff,Ms.val,Ms.cells]
 rw [← hw3]
 clear hw3
 by_cases h1:e=0
 ·have b1:(e == 0)=true:=by simpa using h1
  rw [if_neg (by simpa using h1)] at h
  simp only [ZB,insVc,loadNK,ne_eq,Nat.reduceEqDiff,Nat.reduceAdd,Nat.reduceLeDiff,reduceCtorEq,Zac,Zae,Zab,Za,Zai,Zak,Zaj,Zar,Zap,Zaq,Zao,Zas,Zat,b1,x3]
  refine mcut_c St s q m w3 _ hA3 (hg.mod hm13 id) hx.1 hx.2.1 hx.2.2 ?_
  intro w4 hm4 hA4
  have e4:=hm4.keep e3 (hno _ (Nat.le_refl _))
  have x4:=hm4.keep x3 (hno _ hle)
  have hm14:Mod St.own w w4:=(hm13.mono fun _ _ x=>x.elim).trans hm4
  by_cases h2:(St.mcut s q).1=0
  ·have b2:((St.mcut s q).1 != 0)=false:=by simpa using h2
   rw [if_neg (by simpa using h2)] at h
   simp only [ZB,endK,resK,resN,packed,insVc,loadNK,storeNK,setMany,iopK,iopV,isPlain,ne_eq,Nat.reduceEqDiff,Nat.reduceAdd,Nat.reduceLeDiff,reduceCtorEq,Zai,Zak,Zaj,Zal,Zam,Zan,Zad,Zaw,Zar,Zap,Zaq,Zao,Zas,Zat,Zau,Zav,Zax,b2,x4,e4,get_set_same _ _ _ (lt_of_get e4)]
   exact h _ (hm14.set (.inl (Nat.le_refl _))) (St.keep (fun k=>w.heap.size≤k) _ _ _ hA4 ((Mod.refl _ _).set (.inr (Nat.le_refl _))) (fun k _ hk=>hfoot k hk))
  ·have b2:((St.mcut s q).1 != 0)=true:=by simpa using h2
   rw [if_pos (by simpa using h2)] at h
   simp only [ZB,endK,resK,resN,packed,insVc,storeNK,setMany,iopK,iopV,buildK,fillL,isPlain,ne_eq,Nat.reduceEqDiff,Nat.reduceAdd,Nat.reduceLeDiff,reduceCtorEq,Zai,Zak,Zaj,Zal,Zam,Zan,Zad,Zaw,Zar,Zap,Zaq,Zao,Zas,Zat,Zau,Zav,Zax,b2,e4,get_set_same _ _ _ (lt_of_get e4)]
   exact h _ (hm14.set (.inl (Nat.le_refl _))) (St.keep (fun k=>w.heap.size≤k) _ _ _ hA4 ((Mod.refl _ _).set (.inr (Nat.le_refl _))) (fun k _ hk=>hfoot k hk))
 ·have b1:(e == 0)=false:=by simpa using h1
  have b2:(e != 0)=true:=by simpa using h1
  rw [if_pos (by simpa using h1)] at h
  simp only [ZB,endK,resK,resN,packed,insVc,storeNK,setMany,iopK,iopV,buildK,fillL,isPlain,ne_eq,Nat.reduceEqDiff,Nat.reduceAdd,Nat.reduceLeDiff,reduceCtorEq,Zai,Zak,Zaj,Zal,Zam,Zan,Zad,Zaw,Zar,Zap,Zaq,Zao,Zas,Zat,Zau,Zav,Zax,b1,b2,e3,get_set_same _ _ _ (lt_of_get e3)]
  exact h _ ((hm13.mono fun _ _ x=>x.elim).set (.inl (Nat.le_refl _))) (St.keep (fun k=>w.heap.size≤k) _ _ _ hA3 ((Mod.refl _ _).set (.inr (Nat.le_refl _))) (fun k _ hk=>hfoot k hk))
def StoC.msave {σ:Type} (St:StoC σ) (s:σ) (q:Ms):Int × σ :=
 if (St.mgetR s q.queue q.id).2≠0 then ((St.mgetR s q.queue q.id).2,s) else
 if (keysR q).2.2≠0 then ((keysR q).2.2,s) else
 if (St.mgetR s q.queue q.id).1.expiry=q.expiry then St.mput s q else
 if (St.mcut s (St.mgetR s q.queue q.id).1).1≠0 then St.mcut s (St.mgetR s q.queue q.id).1 else St.mput (St.mcut s (St.mgetR s q.queue q.id).1).2 q
theorem msave_c {σ:Type} (St:StoC σ) (s:σ) (hp:PureGet St.toSto s) (q:Ms) (m:Int) (w:World) (K:Value→World→Prop) (hAt:St.At s w) (hg:Gl m w) (h0:3<w.heap.size) (hs:q.queue.size<4294967281) (hi:q.id<2^64) (hq:q.good)
  (hv:(St.get s (messageK q.queue q.id).1).1.1.size<2^60)
  (hx:(St.mgetR s q.queue q.id).1.queue.size<4294967281∧(St.mgetR s q.queue q.id).1.id<2^64∧(St.mgetR s q.queue q.id).1.expiry<2^64)
  (hf:∀s',s'=s∨s'=(St.mcut s (St.mgetR s q.queue q.id).1).2→St.fit s'∧St.fit (St.put s' (keysR q).1 (mbytes q)).2)
  (h:∀w',Mod St.own w w'→St.At (St.msave s q).2 w'→K (.int .i64 (St.msave s q).1) w') :
  Ok prog 241 #[.iface St.t St.v,q.val] w K:=by
 refine F241.enter (args:=[.iface St.t St.v,q.val]) (by simp) ?_
 unfold c241 r241
 simp only [ZB,insVc,load1K,faddrK,Value.cells,ne_eq,Nat.reduceEqDiff,reduceCtorEq,Zac,Zae,Zab,Za,Zag,Zah,Zaa,Ms.val,Ms.cells,get_alloc,Nat.reduceEqDiff]
 refine callK_gen ?_
 intro w1 hw1
 have hm1:Mod (fun _=>False) w w1:=by rw [hw1];exact (Mod.refl _ _).alloc _
 have e1:w1.heap[w.heap.size]? = some (.cells #[.string q.queue,.int .u64 q.id,.int .u32 q.tries,.int .u64 q.expiry,.string q.body] 128 (0,0)):=by rw [hw1];exact get_alloc_new _ _
 clear hw1
 refine msget_c St.toSto s hp q.queue q.id m w1 _ (St.keep0 hAt hm1) (hg.mod hm1 id) hs hi hv ?_
 intro w2 hm2
 have e2:=hm2.keep e1 id
 have hm12:=hm1.trans hm2
 have hA2:=St.keep0 hAt hm12
 have hfoot:∀k,w.heap.size≤k→¬St.foot k:=fun k hk x=>by have:=St.footLt s w _ hAt x;omega
 have hno:∀k,w.heap.size≤k→¬St.own k:=fun k hk x=>hfoot k hk (St.ownFoot _ x)
 unfold StoC.msave at h
 revert h hx hf
 obtain ⟨y,hy⟩:∃y,y=(St.mgetR s q.queue q.id).1:=⟨_,rfl⟩
 obtain ⟨e,he⟩:∃e,e=(St.mgetR s q.queue q.id).2:=⟨_,rfl⟩
 rw [← hy,← he]
 intro hx hf h
 obtain ⟨w3,hw3⟩:∃w3,w3=Vc.set (w2.alloc (.cells #[.string ⟨#[]⟩,.int .u64 0,.int .u32 0,.int .u64 0,.string ⟨#[]⟩] 128)) w2.heap.size (.cells #[.string y.queue,.int .u64 y.id,.int .u32 y.tries,.int .u64 y.expiry,.string y.body] 128):=⟨_,rfl⟩
 have hm3:Mod (fun _=>False) w2 w3:=by rw [hw3];exact ((Mod.refl _ _).alloc _).set (.inl (Nat.le_refl _))
 have x3:w3.heap[w2.heap.size]? = some (.cells #[.string y.queue,.int .u64 y.id,.int .u32 y.tries,.int .u64 y.expiry,.string y.body] 128 (0,0)):=by rw [hw3];exact get_set_same _ _ _ (by rw [size_alloc];omega)
 have e3:=hm3.keep e2 id
 have hA3:=St.keep0 hA2 hm3
 have hm13:=hm12.trans hm3
 have hle:w.heap.size≤w2.heap.size:=hm12.size
 simp only [ZB,insVc,storeNK,setMany,iopK,iopV,extK,isPlain,Value.cells,ne_eq,Nat.reduceEqDiff,Nat.reduceAdd,Nat.reduceLeDiff,reduceCtorEq,Za,Zag,Zah,Zai,Zak,Zaj,Zal,Zam,Zan,Zaa,Zau,Zav,Zax,get_alloc,Nat.reduceAdd,Nat.reduceEqDiff,Ms.val,Ms.cells]
 rw [← hw3]
 clear hw3
 by_cases h1:e=0
 ·have b1:(e != 0)=false:=by simpa using h1
  rw [if_neg (by simpa using h1)] at h
  simp only [ZB,insVc,loadNK,ne_eq,Nat.reduceEqDiff,Nat.reduceAdd,Nat.reduceLeDiff,Zae,Zab,Zai,Zak,Zaj,Zar,Zap,Zaq,Zao,Zas,Zat,b1,e3]
  refine keys_c q m w3 _ (hg.mod hm13 id) hs hi hq.2.1 ?_
  intro w4 hm4
  have e4:=hm4.keep e3 id
  have x4:=hm4.keep x3 id
  have hA4:=St.keep0 hA3 hm4
  have hm14:=hm13.trans hm4
  by_cases h2:(keysR q).2.2=0
  ·have b2:((keysR q).2.2 != 0)=false:=by simpa using h2
   rw [if_neg (by simpa using h2)] at h
   by_cases h3:y.expiry=q.expiry
   ·have b3:(((y.expiry:Nat):Int) != ((q.expiry:Nat):Int))=false:=by rw [h3];simp
    rw [if_pos h3] at h
    simp only [ZB,insVc,load1K,loadNK,iopK,iopV,faddrK,extK,ne_eq,Nat.reduceEqDiff,Nat.reduceAdd,Nat.reduceLeDiff,reduceCtorEq,Zac,Zae,Zab,Za,Zag,Zah,Zai,Zak,Zaj,Zar,Zap,Zaq,Zao,Zas,Zat,b2,b3,e4,x4]
    refine mput66_c St.toSto s q m w4 _ hA4 (hg.mod hm14 id) hs hi hq (hf s (.inl rfl)).1 (hf s (.inl rfl)).2 ?_
    intro w5 hm5 hA5
    simp only [ZB,endK,resK,packed,insVc,Zad]
    exact h w5 ((hm14.mono fun _ _ x=>x.elim).trans hm5) hA5
   ·have b3:(((y.expiry:Nat):Int) != ((q.expiry:Nat):Int))=true:=by simp only [bne_iff_ne,ne_eq];omega
    rw [if_neg h3] at h
    simp only [ZB,insVc,load1K,loadNK,iopK,iopV,faddrK,extK,ne_eq,Nat.reduceEqDiff,Nat.reduceAdd,Nat.reduceLeDiff,reduceCtorEq,Zac,Zae,Zab,Za,Zag,Zah,Zai,Zak,Zaj,Zar,Zap,Zaq,Zao,Zas,Zat,b2,b3,e4,x4]
    refine mcut_c St s y m w4 _ hA4 (hg.mod hm14 id) hx.1 hx.2.1 hx.2.2 ?_
    intro w5 hm5 hA5
    have e5:=hm5.keep e4 (hno _ (Nat.le_refl _))
    have hm15:Mod St.own w w5:=(hm14.mono fun _ _ x=>x.elim).trans hm5
    by_cases h4:(St.mcut s y).1=0
    ·have b4:((St.mcut s y).1 != 0)=false:=by simpa using h4
     rw [if_neg (by simpa using h4)] at h
     simp only [ZB,insVc,loadNK,iopK,iopV,ne_eq,Nat.reduceEqDiff,Nat.reduceAdd,Nat.reduceLeDiff,reduceCtorEq,Zac,Zae,Zab,Za,Zai,Zak,Zaj,Zar,Zap,Zaq,Zao,Zas,Zat,b4,e5]
     refine mput66_c St.toSto (St.mcut s y).2 q m w5 _ hA5 (hg.mod hm15 St.own0) hs hi hq (hf _ (.inr rfl)).1 (hf _ (.inr rfl)).2 ?_
     intro w6 hm6 hA6
     simp only [ZB,endK,resK,packed,insVc,Zad]
     exact h w6 (hm15.trans hm6) hA6
    ·have b4:((St.mcut s y).1 != 0)=true:=by simpa using h4
     rw [if_pos (by simpa using h4)] at h
     simp only [ZB,endK,resK,packed,insVc,iopK,iopV,ne_eq,Nat.reduceEqDiff,reduceCtorEq,Zad,b4]
     exact h w5 hm15 hA5
  ·have b2:((keysR q).2.2 != 0)=true:=by simpa using h2
   rw [if_pos (by simpa using h2)] at h
   simp only [ZB,endK,resK,packed,insVc,iopK,iopV,extK,ne_eq,Nat.reduceEqDiff,reduceCtorEq,Za,Zag,Zah,Zad,b2]
   exact h w4 (hm14.mono fun _ _ x=>x.elim) hA4
 ·have b1:(e != 0)=true:=by simpa using h1
  rw [if_pos (by simpa using h1)] at h
  simp only [ZB,endK,resK,packed,insVc,ne_eq,Nat.reduceEqDiff,Zad,b1]
  exact h w3 (hm13.mono fun _ _ x=>x.elim) hA3
end Go.Oct
namespace Go.Oct
open Go Go.Vc Go.VrA Go.VrB Go.Proofs.Tryz
set_option maxRecDepth 100000
def dgot {σ:Type} (St:Sto σ) (s:σ) (r:Pr):Ms × Int :=
 if r.2≠0 then (ms0,r.2) else
 if (parseR ⟨r.1.1.toArray⟩).2≠0 then (ms0,(parseR ⟨r.1.1.toArray⟩).2) else dueG St s (parseR ⟨r.1.1.toArray⟩).1
def dueL {σ:Type} (St:Sto σ) (s:σ):List Pr→List (Ms × Int)
 | []=>[]
 | r :: l=>if (dgot St s r).2≠0 then [dgot St s r] else dgot St s r :: dueL St s l
theorem dueL_cons {σ:Type} (St:Sto σ) (s:σ) (r:Pr) (l:List Pr):dueL St s (r :: l)=if (dgot St s r).2≠0 then [dgot St s r] else dgot St s r :: dueL St s l:=rfl
def msV (l:List (Ms × Int)):List (List Value):=l.map fun r=>[r.1.val,.int .i64 r.2]
def RowCells (u:World) (c1 c2 cb:Nat) (gf:FuncId) (cap:List Value) (t:TypeId) (v:Value):Prop :=
 u.heap[c1]? = some (.cells #[.func (.func gf) #[] cap.toArray] 224 (0,0)) ∧
 u.heap[c2]? = some (.cells #[.func (.func 144) #[] #[ptr cb]] 230 (0,0)) ∧
 u.heap[cb]? = some (.cells #[.iface t v] 216 (0,0))
theorem row1_c {σ:Type} (St:Sto σ) (s:σ) (hp:PureGet St s) (R:List Pr) (gf:FuncId) (cap:List Value) (lo:Nat) (wR:World) (it:IterP prog gf cap (rowsV R) (fun u=>St.At s u∧Kept lo wR u)) (c1 c2 cb:Nat) (m:Int)
  (hR:∀r∈R,(parseR ⟨r.1.1.toArray⟩).1.queue.size<4294967281∧(parseR ⟨r.1.1.toArray⟩).1.id<2^64∧(St.get s (messageK (parseR ⟨r.1.1.toArray⟩).1.queue (parseR ⟨r.1.1.toArray⟩).1.id).1).1.1.size<2^60) :
  IterP prog 204 [ptr c1,ptr c2] (msV (dueL St s R)) (fun u=>St.At s u∧Gl m u∧Kept lo wR u∧RowCells u c1 c2 cb gf cap St.t St.v):=by
 rintro y ⟨fy,ya,yb,hyf⟩ J Jx w hJ hF hS hSx hy
 refine F204.enter (args:=[y,ptr c1,ptr c2]) (by simp) ?_
 unfold c204 r204
 obtain ⟨hA,hg,hkR,e1,e2,e3⟩:=hF 0 _ _ hJ
 have q1:=lt_of_get e1
 simp only [ZB,insVc,load1K,Value.cells,ne_eq,Nat.reduceEqDiff,Zac,Za,Zag,Zah,Zaf,get_alloc,Nat.reduceEqDiff,e1,Nat.ne_of_lt q1]
 refine vc_gen ?_
 intro w4 hw4
 have hm14:Mod (fun _=>False) w w4:=by rw [hw4];exact (Mod.refl _ _).alloc _
 have b4:w4.heap[w.heap.size]? = some (.cells #[y] 305 (0,0)):=by rw [hw4];simp only [Zaa,get_alloc,hyf]
 have hz4:w4.heap.size=w.heap.size+1:=by rw [hw4,size_alloc]
 clear hw4
 let XO:(Nat→Prop)→Nat→Prop:=fun X k=>(w.heap.size≤k∧k<w4.heap.size+2)∨X k
 have hXO:∀(X X':Nat→Prop) (a b:World),(∀k,X' k→X k∨a.heap.size≤k∧k<b.heap.size)→∀k,XO X' k→XO X k∨a.heap.size≤k∧k<b.heap.size:=by
  rintro X X' a b h k (hk|hk)
  ·exact .inl (.inl hk)
  ·exact (h k hk).elim (fun x=>.inl (.inr x)) .inr
 have hfin:∀(u:World) (X:Nat→Prop) (u':World),w4.heap.size+2≤u.heap.size→(∀k,X k→w4.heap.size≤k∧k<u.heap.size)→J (msV (dueL St s R)).length (XO X) u∨Jx (XO X) u→Mod (fun k=>k=w4.heap.size) u u' →
   w.heap.size≤u'.heap.size∧∃X,(∀k,X k→w.heap.size≤k∧k<u'.heap.size)∧(J (msV (dueL St s R)).length X u'∨Jx X u'):=by
  intro u X u' h1 h2 h3 h4
  have h5:=h4.size
  have hb:∀k,XO X k→w.heap.size≤k∧k<u'.heap.size:=by
   rintro k (hk|hk)
   ·omega
   ·have:=h2 k hk;omega
  have hm:Mod (XO X) u u':=h4.mono fun k _ hk=>.inl (by omega)
  exact ⟨by omega,XO X,hb,h3.imp (fun h=>hS _ _ _ u u' h hm (fun k hk=>.inl hk)) (fun h=>hSx _ _ u u' h hm (fun k hk=>.inl hk))⟩
 refine range_iter (by kernel_rfl) (by kernel_rfl) (by kernel_rfl) (gf:=gf) (cap:=cap) (by simp only [upd_same,ev_tmp]) it
  (fun i X u=>(∃pre:List (Ms × Int),pre.length=i∧dueL St s R=pre ++ dueL St s (R.drop i))∧J i (XO X) u∧Kept w.heap.size w4 u)
  (fun c X u=>c = .ret∧(J (msV (dueL St s R)).length (XO X) u∨Jx (XO X) u)) ?_ ?_ ?_ ?_ ?_ ?_ ?_ ?_
 ·intro X w' hm hsz hX
  refine ⟨⟨[],rfl,by simp⟩,hS 0 _ _ w w' hJ ((hm14.trans hm).mono fun _ _ x=>x.elim) ?_,(Kept.refl _ _).keep hm (fun _ _ _=>id)⟩
  rintro k (hk|hk)
  ·exact .inr ⟨hk.1,by omega⟩
  ·have:=hX k hk
   exact .inr (by omega)
 ·rintro i X u ⟨_,h1,h2⟩
  exact ⟨(hF _ _ _ h1).1,(hF _ _ _ h1).2.2.1⟩
 ·rintro i X X' a b ⟨h0,h1,h2⟩ hX ha hm hx
  exact ⟨h0,hS i _ _ a b h1 (hm.mono fun _ _ x=>.inr x) (hXO X X' a b hx),h2.keep hm (fun k _ hk x=>by have:=hX k x;omega)⟩
 ·rintro c X X' a b ⟨rfl,h⟩ hX ha hm hx
  exact ⟨rfl,h.imp (fun h=>hS _ _ _ a b h (hm.mono fun _ _ x=>.inr x) (hXO X X' a b hx)) (fun h=>hSx _ _ a b h (hm.mono fun _ _ x=>.inr x) (hXO X X' a b hx))⟩
 ·intro i hi
  rw [List.getElem?_eq_getElem hi]
  simp [rowsV]
 ·intro i hi X a ⟨⟨pre,p1,p2⟩,hJa,hKa⟩ hX ha
  obtain ⟨r,hr⟩:∃r,R[i]? = some r:=⟨R[i]'(by simpa [rowsV] using hi),List.getElem?_eq_getElem _⟩
  have hrow:((rowsV R)[i]?.getD [])=[.agg #[.string ⟨r.1.1.toArray⟩,.string ⟨r.1.2.toArray⟩],.int .i64 r.2]:=by simp [rowsV,hr]
  have hvr:=hR r (List.mem_of_getElem? hr)
  have hdrop:R.drop i=r :: R.drop (i+1):=List.drop_eq_getElem?_toList_append.trans (by rw [hr];rfl)
  rw [hrow]
  simp only [ZB,insVc,storeNK,setMany,iopK,iopV,isPlain,Value.cells,ne_eq,Nat.reduceEqDiff,Nat.reduceAdd,Nat.reduceLeDiff,reduceCtorEq,Zai,Zak,Zaj,Zal,Zam,Zan,Zau,Zav,Zax,Zbl,updMany]
  refine ⟨((Mod.refl _ _).alloc _).set (.inl (Nat.le_refl _)), ?_⟩
  rintro c hmc ⟨_,hJc,hKc⟩
  have hxa:¬X a.heap.size:=fun x=>by have:=(hX _ x).2;omega
  have pC:=hmc.keep (get_set_same _ _ (.cells #[.string ⟨r.1.1.toArray⟩,.string ⟨r.1.2.toArray⟩] 176 (0,0)) (by rw [size_alloc];omega)) hxa
  have bC:=hKc.at b4 (Nat.le_refl _)
  obtain ⟨hAc,hgc,_,_,e2c,e3c⟩:=hF _ _ _ hJc
  have hpre:∃pre:List (Ms × Int),pre.length=i∧dueL St s R=pre ++ dueL St s (r :: R.drop (i+1)):=⟨pre,p1,by rw [p2,hdrop]⟩
  have hhead:∃tl,dueL St s (r :: R.drop (i+1))=dgot St s r :: tl∧((dgot St s r).2≠0→tl=[])∧((dgot St s r).2=0→tl=dueL St s (R.drop (i+1))):=by
   rw [dueL_cons]
   by_cases hx:(dgot St s r).2≠0
   ·rw [if_pos hx];exact ⟨[],rfl,fun _=>rfl,fun h=>(hx h).elim⟩
   ·rw [if_neg hx];exact ⟨_,rfl,fun h=>(hx h).elim,fun _=>rfl⟩
  obtain ⟨tl,htl,htl1,htl2⟩:=hhead
  have hszc:w4.heap.size+2≤c.heap.size:=by have:=hmc.size;simp only [size_set,size_alloc] at this;omega
  have hyield:∀(u:World) (o:Ms × Int) (G:Value→World→Prop),dgot St s r=o→Mod (fun _=>False) c u →
    (∀d,c.heap.size≤d.heap.size→(∀k,XO X k→d.heap[k]? = u.heap[k]?)→J (i+1) (XO X) d→G (.bool true) d)→(∀d,c.heap.size≤d.heap.size→(∀k,XO X k→d.heap[k]? = u.heap[k]?)→Jx (XO X) d→G (.bool false) d) →
    callvK prog G u [o.1.val,.int .i64 o.2] y:=by
   intro u o G ho hmu hG1 hG2
   obtain ⟨pre,h1,h2⟩:=hpre
   have hi':(msV (dueL St s R))[i]? = some [o.1.val,.int .i64 o.2]:=by rw [h2,htl,ho];simp [msV,h1]
   have hlt:i<(msV (dueL St s R)).length:=by
    rcases Nat.lt_or_ge i (msV (dueL St s R)).length with h|h
    ·exact h
    ·rw [List.getElem?_eq_none h] at hi';cases hi'
   have hmus:=hmu.size
   have hbd:∀k,XO X k→w.heap.size≤k∧k<u.heap.size:=by
    have:=hmc.size
    rintro k (hk|hk)
    ·omega
    ·have:=hX k hk;simp only [size_set,size_alloc] at *; omega
   have hJu:=hS i _ (XO X) c u hJc (hmu.mono fun _ _ x=>x.elim) (fun k hk=>.inl hk)
   have hyy:=hy i hlt (XO X) u hJu hbd (by omega)
   rw [hi'] at hyy
   refine callvK_mono hyy ?_
   rintro v d ⟨⟨k1,k2⟩,⟨rfl,k3⟩|⟨rfl,k3⟩⟩
   ·exact hG1 d (by omega) k2 k3
   ·exact hG2 d (by omega) k2 k3
  have hkeepX:∀(u d:World),Mod (fun _=>False) c u→(∀k,XO X k→d.heap[k]? = u.heap[k]?)→∀k,X k→d.heap[k]? = c.heap[k]?:=by
   intro u d hmu hd k hk
   have:=(hX k hk).2
   have:=hmc.size
   simp only [size_set,size_alloc] at this
   rw [hd k (.inr hk),hmu.get k (by omega) id]
  have hkeepK:∀(u d:World),Mod (fun _=>False) c u→c.heap.size≤d.heap.size→(∀k,XO X k→d.heap[k]? = u.heap[k]?)→Kept w.heap.size w4 d:=by
   intro u d hmu hs hd
   refine ⟨by omega,fun k h1 h2 => ?_⟩
   rw [hd k (.inl ⟨h1,by omega⟩),hmu.get k (by omega) id,hKc.2 k h1 h2]
  have hout:∀(u d:World),Mod (fun _=>False) c u→c.heap.size≤d.heap.size→(∀k,XO X k→d.heap[k]? = u.heap[k]?)→Jx (XO X) d∨((dgot St s r).2≠0∧J (i+1) (XO X) d) →
    (c.heap.size≤d.heap.size∧∀k,X k→d.heap[k]? = c.heap[k]?)∧(False∧(∃pre:List (Ms × Int),pre.length=i+1∧dueL St s R=pre ++ dueL St s (R.drop (i+1)))∧J (i+1) (XO X) d∧Kept w.heap.size w4 d ∨
     ∃cc,(cc=Code.ret∨∃id,cc=Code.exit id∧False)∧cc=Code.ret∧(J (msV (dueL St s R)).length (XO X) d∨Jx (XO X) d)):=by
   intro u d hmu k1 k2 k3
   refine ⟨⟨k1,hkeepX u d hmu k2⟩,.inr ⟨.ret,.inl rfl,rfl, ?_⟩⟩
   rcases k3 with k3|⟨k4,k3⟩
   ·exact .inr k3
   ·obtain ⟨pre,h1,h2⟩:=hpre
    have hlen:(msV (dueL St s R)).length=i+1:=by rw [h2,htl,htl1 k4];simp [msV,h1]
    rw [hlen]
    exact .inl k3
  have hin:∀(u d:World),Mod (fun _=>False) c u→c.heap.size≤d.heap.size→(∀k,XO X k→d.heap[k]? = u.heap[k]?)→(dgot St s r).2=0→J (i+1) (XO X) d →
    (∃pre:List (Ms × Int),pre.length=i+1∧dueL St s R=pre ++ dueL St s (R.drop (i+1)))∧J (i+1) (XO X) d∧Kept w.heap.size w4 d:=by
   intro u d hmu k1 k2 h00 k3
   refine ⟨?_,k3,hkeepK u d hmu k1 k2⟩
   obtain ⟨pre,h1,h2⟩:=hpre
   exact ⟨pre ++ [dgot St s r],by simp [h1],by rw [h2,htl,htl2 h00];simp⟩
  refine condP_gen ?_
  intro w5 hw5
  have hm5:Mod (fun _=>False) c w5:=by rw [hw5];exact ((Mod.refl _ _).alloc _).alloc _
  have t5:w5.heap[c.heap.size]? = some (.cells #[.string ⟨#[]⟩,.string ⟨#[]⟩,.int .u64 0,.int .u64 0,.string ⟨#[]⟩,.int .i64 0,.string ⟨#[]⟩,.string ⟨#[]⟩,.string ⟨#[]⟩] 227 (0,0)):=by rw [hw5];simp only [Zaa,Zaf,size_alloc,get_alloc,size_alloc,Zbi,Zaz]
  have x5:w5.heap[c.heap.size+1]? = some (.cells zms 128 (0,0)):=by rw [hw5];simp only [Zaa,Zaf,size_alloc,get_alloc,size_alloc,Zba,Zaz]
  clear hw5
  have p5:=hm5.keep pC id
  have b5:=hm5.keep bC id
  have e5:=hm5.keep e2c id
  have l1:=lt_of_get pC
  have l2:=lt_of_get bC
  have l4:=lt_of_get e2c
  by_cases he:r.2=0
  ·have hgot:dgot St s r=if (parseR ⟨r.1.1.toArray⟩).2≠0 then (ms0,(parseR ⟨r.1.1.toArray⟩).2) else dueG St s (parseR ⟨r.1.1.toArray⟩).1:=by unfold dgot;rw [if_neg (by simpa using he)]
   rw [he]
   have b00:((0:Int) == 0)=true:=rfl
   simp only [ZB,insVc,load1K,faddrK,ne_eq,Nat.reduceEqDiff,Zae,Zab,Za,Zah,p5,b00]
   refine parse_c _ w5 _ ?_
   intro w6 hm6
   have t6:=hm6.keep t5 id
   have p6:=hm6.keep p5 id
   have b6:=hm6.keep b5 id
   have e6:=hm6.keep e5 id
   have x6:=hm6.keep x5 id
   have hm56:=hm5.trans hm6
   revert hgot hvr
   generalize parseR ⟨r.1.1.toArray⟩=T
   intro hvr hgot
   simp only [ZB,insVc,storeNK,setMany,iopK,iopV,extK,isPlain,ne_eq,Nat.reduceEqDiff,Nat.reduceAdd,Nat.reduceLeDiff,reduceCtorEq,Za,Zag,Zah,Zai,Zak,Zaj,Zal,Zam,Zan,Zau,Zav,Zax,Th.val,Th.cells,t6]
   refine condP_gen ?_
   intro w7 hw7
   have hm7':Mod (fun k=>k=c.heap.size) w6 w7:=by rw [hw7];exact (Mod.refl _ _).set (.inr rfl)
   have hm7:Mod (fun _=>False) c w7:=by rw [hw7];exact hm56.set (.inl (Nat.le_refl _))
   have t7:w7.heap[c.heap.size]? = some (.cells T.1.cells.toArray 227 (0,0)):=by rw [hw7];exact get_set_same _ _ _ (lt_of_get t6)
   have p7:=hm7'.keep p6 (by omega)
   have b7:=hm7'.keep b6 (by omega)
   have e7:=hm7'.keep e6 (by omega)
   have x7:=hm7'.keep x6 (by omega)
   clear hw7
   by_cases hT:T.2=0
   ·rw [if_neg (by simpa using hT)] at hgot
    rw [hT]
    simp only [Th.cells] at t7
    simp only [ZB,insVc,load1K,loadNK,faddrK,callvK,ne_eq,Nat.reduceEqDiff,Nat.reduceAdd,Nat.reduceLeDiff,Zac,Zae,Zab,Za,Zag,Zah,Zai,Zak,Zaj,Zad,Zaw,Zar,Zap,Zaq,Zao,Zas,Zat,b00,e7,t7,p7]
    refine due1_c St s hp T.1 _ cb m w7 _ (St.keep0 hAc hm7) (hgc.mod hm7 id) hvr.1 hvr.2.1 hvr.2.2 (hm7.keep e3c id) ?_
    intro w8 hm8
    have hm78:=hm7.trans hm8
    have x8:=hm8.keep x7 id
    have b8:=hm8.keep b7 id
    revert hgot
    generalize dueG St s T.1=Z
    intro hgot
    have y1:¬w.heap.size=c.heap.size+1:=by omega
    have lx:=lt_of_get x8
    have hm9:Mod (fun _=>False) c (Vc.set w8 (c.heap.size+1) (.cells #[.string Z.1.queue,.int .u64 Z.1.id,.int .u32 Z.1.tries,.int .u64 Z.1.expiry,.string Z.1.body] 128 (0,0))):=hm78.set (.inl (by omega))
    simp only [ZB,insVc,load1K,loadNK,storeNK,setMany,extK,callvK,isPlain,ne_eq,Nat.reduceEqDiff,Nat.reduceAdd,Nat.reduceLeDiff,Zae,Zab,Za,Zag,Zah,Zai,Zak,Zaj,Zal,Zam,Zan,Zaf,Zar,Zap,Zaq,Zao,Zas,Zat,Zau,Zav,Zax,Zbb,get_set,Nat.reduceAdd,Nat.reduceEqDiff,Ms.val,Ms.cells,x8,b8,y1,lx]
    refine hyield _ Z _ hgot hm9 ?_ ?_
    ·intro d k1 k2 k3
     by_cases hZ:Z.2=0
     ·have hne':(Z.2 != 0)=false:=by simpa using hZ
      simp only [ZB,insVc,pickK,iopK,iopV,notK,ne_eq,Nat.reduceEqDiff,reduceCtorEq,Zaf,hne']
      exact ⟨⟨k1,hkeepX _ d hm9 k2⟩,.inl (hin _ d hm9 k1 k2 (by rw [hgot];exact hZ) k3)⟩
     ·have hne':(Z.2 != 0)=true:=by simpa using hZ
      simp only [ZB,insVc,pickK,iopK,iopV,notK,ne_eq,Nat.reduceEqDiff,reduceCtorEq,Zaf,hne']
      exact hout _ d hm9 k1 k2 (.inr ⟨by rw [hgot];exact hZ,k3⟩)
    ·intro d k1 k2 k3
     simp only [ZB,insVc,pickK,notK,ne_eq,Nat.reduceEqDiff,reduceCtorEq,Zaa]
     exact hout _ d hm9 k1 k2 (.inl k3)
   ·rw [if_pos hT] at hgot
    have hne:(T.2 == 0)=false:=by simpa using hT
    have hne':(T.2 != 0)=true:=by simpa using hT
    simp only [ZB,insVc,load1K,loadNK,callvK,ne_eq,Nat.reduceEqDiff,Nat.reduceAdd,Nat.reduceLeDiff,Zae,Zab,Za,Zah,Zai,Zak,Zaj,Zar,Zap,Zaq,Zao,Zas,Zat,hne,b7,x7]
    refine hyield w7 (ms0,T.2) _ hgot hm7 ?_ ?_
    ·intro d k1 k2 k3
     simp only [ZB,insVc,pickK,iopK,iopV,notK,ne_eq,Nat.reduceEqDiff,reduceCtorEq,Zaf,hne']
     exact hout w7 d hm7 k1 k2 (.inr ⟨by rw [hgot];exact hT,k3⟩)
    ·intro d k1 k2 k3
     simp only [ZB,insVc,pickK,notK,ne_eq,Nat.reduceEqDiff,reduceCtorEq,Zaa]
     exact hout w7 d hm7 k1 k2 (.inl k3)
  ·have hgot:dgot St s r=(ms0,r.2):=by unfold dgot;rw [if_pos he]
   have hne:(r.2 == 0)=false:=by simpa using he
   have hne':(r.2 != 0)=true:=by simpa using he
   simp only [ZB,insVc,load1K,loadNK,iopK,iopV,callvK,ne_eq,Nat.reduceEqDiff,Nat.reduceAdd,Nat.reduceLeDiff,reduceCtorEq,Zae,Zab,Za,Zah,Zai,Zak,Zaj,Zar,Zap,Zaq,Zao,Zas,Zat,hne,b5,x5]
   refine hyield w5 (ms0,r.2) _ hgot hm5 ?_ ?_
   ·intro d k1 k2 k3
    simp only [ZB,insVc,pickK,iopK,iopV,notK,ne_eq,Nat.reduceEqDiff,reduceCtorEq,Zaf,hne']
    exact hout w5 d hm5 k1 k2 (.inr ⟨by rw [hgot];exact he,k3⟩)
   ·intro d k1 k2 k3
    simp only [ZB,insVc,pickK,notK,ne_eq,Nat.reduceEqDiff,reduceCtorEq,Zaa]
    exact hout w5 d hm5 k1 k2 (.inl k3)
 ·rintro X u ⟨⟨pre,h1,h2⟩,h3,h4⟩ ⟨a1,a2,a3⟩
  have hfin':=fun h=>hfin u X (Vc.set u w4.heap.size (.deferred none)) a2 a3 h ((Mod.refl _ _).set (.inr rfl))
  simp only [size_set] at hfin'
  have hlen:(rowsV R).length=R.length:=by simp [rowsV]
  rw [hlen,List.drop_length] at h2
  have hl:(rowsV R).length=(msV (dueL St s R)).length:=by rw [h2,hlen];simp [msV,dueL,h1,hlen]
  simp only [blockQ_normal,endQ_normal,endK,resK,size_set,markO,a1]
  refine hfin' (.inl ?_)
  rw [← hl];exact h3
 ·rintro c X u ⟨rfl,h⟩ ⟨a1,a2,a3⟩
  have hfin':=hfin u X (Vc.set u w4.heap.size (.deferred none)) a2 a3 h ((Mod.refl _ _).set (.inr rfl))
  simp only [size_set] at hfin'
  simp only [exitOf,blockQ_ret,endQ_ret,endK,resK,size_set,markO,a1]
  exact hfin'
end Go.Oct
