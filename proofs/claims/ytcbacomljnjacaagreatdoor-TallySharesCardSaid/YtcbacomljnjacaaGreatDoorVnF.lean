import Derived.Test.YtcbacomljnjacaaGreatDoorVjK
import Derived.Test.YtcbacomljnjacaaGreatDoorVdB
import Derived.Test.YtcbacomljnjacaaGreatDoorVkE
import Derived.Test.YtcbacomljnjacaaGreatDoorVrH
set_option linter.unusedSimpArgs false
set_option linter.unusedVariables false
set_option linter.unusedSectionVars false
set_option linter.unnecessarySimpa false
namespace Go.Oct
open Go Go.Vc Go.VrA Go.VrB Go.VrE Go.VrH Go.VrI Go.VrJ
set_option maxRecDepth 100000
theorem awake41_c (m : Int) (w : World) (K : Value→World→Prop) (hg : Gl m w) (hf : Forms w) (h : ∀ w',Mod (fun _=>False) w w'→K (.bool true) w') : Ok Proofs.Tryz.prog 41 #[] w K:=by
  refine F41.enter (args:=[]) (by simp) ?_
  unfold c41 r41
  simp only [ZB,insVc,Zac]
  refine awake118_c m w _ hg ?_
  intro w1 hm1
  simp only [ZB,insVc,notK,Zac]
  refine awake55_c w1 _ ?_
  intro w2 hm2
  simp only [ZB,insVc,pickK,notK,ne_eq,Nat.reduceEqDiff,Zac,Zae]
  refine awake56_c w2 _ ((hf.mod0 hm1).mod0 hm2) ?_
  intro w3 hm3
  simp only [ZB,insVc,pickK,notK,ne_eq,Nat.reduceEqDiff,Zac,Zae]
  refine begun_c m w3 _ (((hg.mod hm1 id).mod hm2 id).mod hm3 id) (((hf.mod0 hm1).mod0 hm2).mod0 hm3) ?_
  intro w4 tb sb mb h0 hm4 htb hsb hmb hb4
  simp only [ZB,insVc,loadNK,storeNK,setMany,buildK,fillL,isPlain,Value.cells,ne_eq,Nat.reduceEqDiff,Nat.reduceAdd,Nat.reduceLeDiff,Zad,Zac,Zai,Zaj,Zak,Zbd,Zbe,Zbc,Zbb,Zal,Zam,Zan,Zbh,Zab,Zaq,Zap,Zar,Zao,Zas,Zat,Zau,Zaw,Zax,Zbf,Zb,get_alloc,Nat.reduceAdd,Nat.reduceEqDiff]
  refine callK_gen ?_
  intro w5 hw5
  have hm5 : Mod (fun _=>False) w4 w5:=by rw [hw5]; exact ((Mod.refl _ _).alloc _).set (.inl (Nat.le_refl _))
  have q5 : w5.heap[w4.heap.size]? = some (.cells qa.cells.toArray 121 (0,0)):=by rw [hw5]; simp only [size_alloc,Zbf,Zb,size_alloc]; rfl
  clear hw5
  have n5 : ¬ ((w4.heap.size) = mb∨w4.heap.size = tb):=by have:=(shelfC sb mb h0).footLt _ _ mb hb4.at_ (.inr rfl); have:=lt_of_get hb4.st; omega
  refine doA_c (tb:=tb) (sb:=sb) (mb:=mb) (h0:=h0) (m:=m) _ (hb4.keep0 hm5) ?_
  intro w6 hm6 hb6
  have q6:=hm6.keep q5 n5
  simp only [ZB,insVc,storeNK,setMany,buildK,fillL,isPlain,Value.cells,ne_eq,Nat.reduceEqDiff,Nat.reduceAdd,Nat.reduceLeDiff,Zad,Zac,Zai,Zaj,Zak,Zbd,Zbe,Zbc,Zbb,Zal,Zam,Zan,Zbh,Zab,Zau,Zaw,Zax,get_alloc,Nat.reduceAdd,Nat.reduceEqDiff,rpV]
  refine callK_gen ?_
  intro w7 hw7
  have hm7 : Mod (fun _=>False) w6 w7:=by rw [hw7]; exact ((Mod.refl _ _).alloc _).set (.inl (Nat.le_refl _))
  have r7 : w7.heap[w6.heap.size]? = some (.cells (rpV 0 (.slice none 0 0) (.slice none 0 0) (.slice none 0 0) (.slice none 0 0)) 52 (0,0)):=by rw [hw7]; simp only [size_alloc,Zbf,Zb,size_alloc]; rfl
  clear hw7
  have q7:=hm7.keep q6 id
  refine doB_c (tb:=tb) (sb:=sb) (mb:=mb) (h0:=h0) (m:=m) _ (hb6.keep0 hm7) ?_
  intro w8 vi hm8 hb8 hvi hil
  have q8:=hm8.keep q7 n5
  have t6:=lt_of_get hb6.st
  have m6:=(shelfC sb mb h0).footLt _ _ mb hb6.at_ (.inr rfl)
  have r8:=hm8.keep r7 (by omega)
  obtain ⟨ai,ci,rfl⟩:=hvi.form
  have q8':=q8
  simp only [Qu.cells] at q8'
  have ne8 : w4.heap.size≠w8.heap.size:=by have:=lt_of_get q8; omega
  simp only [ZB,insVc,loadNK,storeNK,setMany,buildK,fillL,isPlain,Value.cells,ne_eq,Nat.reduceEqDiff,Nat.reduceAdd,Nat.reduceLeDiff,Zad,Zac,Zai,Zaj,Zak,Zbd,Zbe,Zbc,Zbb,Zal,Zam,Zan,Zbh,Zab,Zae,Zaq,Zap,Zar,Zao,Zas,Zat,Zau,Zaw,Zax,Zb,get_alloc,get_set,Nat.reduceAdd,Nat.reduceEqDiff,rpV,q8',ne8]
  refine callK_gen ?_
  intro w9 hw9
  have hm9 : Mod (fun _=>False) w8 w9:=by rw [hw9]; exact ((Mod.refl _ _).alloc _).set (.inl (Nat.le_refl _))
  have s9 : w9.heap[w8.heap.size]? = some (.cells (rpV 1 (.slice ai 1 ci) (.slice none 0 0) (.slice none 0 0) (.slice none 0 0)) 52 (0,0)):=by rw [hw9]; simp only [size_alloc,Zbf,Zb,size_alloc]; rfl
  clear hw9
  have q9:=hm9.keep q8 id
  have r9:=hm9.keep r8 id
  have i9:=own_keep' hvi hm9 (fun _ _ x=>x)
  refine doC_c (tb:=tb) (sb:=sb) (mb:=mb) (h0:=h0) (m:=m) _ (hb8.keep0 hm9) ?_
  intro w10 v10 vm hm10 hb10 hvm hml
  have q10:=hm10.keep q9 n5
  have t8:=lt_of_get hb8.st
  have m8:=(shelfC sb mb h0).footLt _ _ mb hb8.at_ (.inr rfl)
  have r10:=hm10.keep r9 (by omega)
  have s10:=hm10.keep s9 (by omega)
  obtain ⟨am,cm,rfl⟩:=hvm.form
  have q10':=q10
  simp only [Qu.cells] at q10'
  have ne10 : w4.heap.size≠w10.heap.size:=by have:=lt_of_get q10; omega
  simp only [ZB,insVc,loadNK,storeNK,setMany,buildK,fillL,isPlain,Value.cells,ne_eq,Nat.reduceEqDiff,Nat.reduceAdd,Nat.reduceLeDiff,Zad,Zac,Zai,Zaj,Zak,Zbd,Zbe,Zbc,Zbb,Zal,Zam,Zan,Zbh,Zab,Zae,Zaq,Zap,Zar,Zao,Zas,Zat,Zau,Zaw,Zax,Zb,get_alloc,get_set,Nat.reduceAdd,Nat.reduceEqDiff,rpV,q10',ne10]
  refine callK_gen ?_
  intro w11 hw11
  have hm11 : Mod (fun _=>False) w10 w11:=by rw [hw11]; exact ((Mod.refl _ _).alloc _).set (.inl (Nat.le_refl _))
  have u11 : w11.heap[w10.heap.size]? = some (.cells (rpV 0 (.slice none 0 0) (.slice none 0 0) (.slice none 0 0) (.slice am 1 cm)) 52 (0,0)):=by rw [hw11]; simp only [size_alloc,Zbf,Zb,size_alloc]; rfl
  clear hw11
  have r11:=hm11.keep r10 id
  have s11:=hm11.keep s10 id
  have m11:=own_keep' hvm hm11 (fun _ _ x=>x)
  refine doD_c (tb:=tb) (sb:=sb) (mb:=mb) (h0:=h0) (m:=m) _ (hb10.keep0 hm11) ?_
  intro w12 v12 hm12 hb12
  have t10:=lt_of_get hb10.st
  have m10:=(shelfC sb mb h0).footLt _ _ mb hb10.at_ (.inr rfl)
  have r12:=hm12.keep r11 (by omega)
  have s12:=hm12.keep s11 (by omega)
  have u12:=hm12.keep u11 (by omega)
  have l1:=lt_of_get r12
  have l2:=lt_of_get s12
  have l3:=lt_of_get u12
  have ner : w6.heap.size≠w12.heap.size:=by omega
  have nes : w8.heap.size≠w12.heap.size:=by omega
  have neu : w10.heap.size≠w12.heap.size:=by omega
  have r12':=r12
  have s12':=s12
  have u12':=u12
  simp only [rpV] at r12' s12' u12'
  have z7:=hm7.size
  have z8:=hm8.size
  have z9:=hm9.size
  have z10:=hm10.size
  have z11:=hm11.size
  have z12:=hm12.size
  have i10:=own_keep' i9 hm10 (fun k hk x=>by have:=hil k hk; omega)
  have i12:=own_keep' (own_keep' i10 hm11 (fun _ _ x=>x)) hm12 (fun k hk x=>by have:=hil k hk; omega)
  have m12:=own_keep' m11 hm12 (fun k hk x=>by have:=hml k hk; omega)
  rcases i12.2 with ⟨hx,_⟩ | ⟨gi,cpi,curi,hx,_,hgi,_,_,hzi,hci⟩
  · cases hx
  rcases m12.2 with ⟨hx2,_⟩ | ⟨gm,cpm,curm,hx2,_,hgm,_,_,hzm,hcm⟩
  · cases hx2
  cases hx
  cases hx2
  have k11 : (((1 : Nat) : Int) == 1) = true:=rfl
  have li:=lt_of_get hgi
  have lm:=lt_of_get hgm
  have nei : gi≠w12.heap.size:=by omega
  have k01 : (0 : Int) < ((1 : Nat) : Int):=by decide
  have ci0 : curi[0]? = some (.int .u64 1):=by
    have e : (curi.toList.take 1)[0]? = (numsV [1])[0]?:=by rw [← hci]; rfl
    rw [List.getElem?_take_of_lt (by decide),Array.getElem?_toList] at e
    rw [e]; rfl
  have cm2 : curm[2]? = some (.int .u32 1):=by
    have e : (curm.toList.take 5)[2]? = ([ms1'].flatMap Ms.cells)[2]?:=by rw [← hcm]; rfl
    rw [List.getElem?_take_of_lt (by decide),Array.getElem?_toList] at e
    rw [e]; rfl
  have nem : gm≠w12.heap.size:=by omega
  simp only [ZB,endK,resK,packed,insVc,pickK,load1K,storeNK,setMany,iopK,iopV,faddrK,iaddrK,lenLK,isPlain,Value.cells,ne_eq,Nat.reduceEqDiff,Nat.reduceAdd,Nat.reduceLeDiff,reduceCtorEq,Za,Zag,Zah,Zai,Zaj,Zak,Zal,Zam,Zan,Zaa,Zab,Zae,Int.reduceLE,Int.reduceToNat,Int.reduceBEq,Zbm,Zbq,Zau,Zaw,Zax,Zbf,Zb,get_alloc,get_set,Nat.reduceAdd,Nat.reduceEqDiff,rpV,r12',s12',u12',ner,nes,neu,k11,nei,nem,hgi,hgm,k01,ci0,cm2]
  have A:=((hm1.trans hm2).trans hm3)
  have zA:=A.size
  have B:=(A.trans hm4).trans hm5
  have C:=B.then hm6 (fun k hk x=>by omega)
  have D:=(C.trans hm7).then hm8 (fun k hk x=>by omega)
  have E:=(D.trans hm9).then hm10 (fun k hk x=>by omega)
  have F:=(E.trans hm11).then hm12 (fun k hk x=>by omega)
  exact h _ ((F.alloc _).set (.inl (by have:=F.size; omega)))
theorem awake28_c (m : Int) (w : World) (K : Value→World→Prop) (hg : Gl m w) (hf : Forms w) (h : ∀ w',Mod (fun _=>False) w w'→K (.bool true) w') : Ok Proofs.Tryz.prog 28 #[] w K:=by
  refine F28.enter (args:=[]) (by simp) ?_
  unfold c28 r28
  simp only [ZB,insVc,Zac]
  refine awake41_c m w _ hg hf ?_
  intro w1 hm1
  simp only [ZB,endK,resK,packed,insVc,Zaa]
  exact h w1 hm1
end Go.Oct
namespace Go.Oct
open Go Go.Vc Go.VrA Go.VrB Go.VrE Go.VrH Go.VrI Go.VrJ Go.VrK Go.VrL Go.Tal
set_option maxRecDepth 100000
theorem zero_good : Rw.zero.good:=by
  refine ⟨by decide,by decide,by decide,by decide,by decide, ?_⟩
  intro n hn
  have:=List.eq_of_mem_replicate (show n ∈ zs from hn)
  omega
theorem awake36_c (m : Int) (w : World) (K : Value→World→Prop) (hg : Gl m w) (hf : Forms w) (h : ∀ w',Mod (fun _=>False) w w'→K (.bool true) w') : Ok Proofs.Tryz.prog 7 #[] w K:=by
  refine F7.enter (args:=[]) (by simp) ?_
  unfold c7 r7
  simp only [ZB,insVc,Zac]
  refine newS_c w _ ?_
  intro w1 tb mb hm1 htb hmb ht1
  simp only [ZB,insVc,nilOf,pnilK,Zac,Zae,Zbr]
  refine awake28_c m w1 _ (hg.mod hm1 id) (hf.mod0 hm1) ?_
  intro w2 hm2
  simp only [ZB,insVc,pickK,notK,ne_eq,Nat.reduceEqDiff,Zad,Zac,Zae]
  have hk : keyOf Proofs.Tryz.prog 9 (.string ⟨#[97]⟩) = some (.string [97]):=WideMaps.keyOf_string_mk tKeyS (by decide)
  refine addS_c tb mb 0 5 _ (.string [97]) Rw.zero w2 _ zero_good (by decide) ((ht1 _).keep hm2 id id) hk trivial (by decide) ?_
  intro w3 v hm3 ht3
  have e1 : Rw.zero.plus (Rw.one 5) = Rw.one 5:=by rfl
  rw [e1] at ht3
  simp only [ZB,insVc,Zad,Zac]
  refine class_c 5 w3 _ (by decide) ?_
  have hc5 : cls 5 = 3:=by decide
  rw [hc5]
  have z3 : (((3 : Nat) : Int) == 3) = true:=rfl
  simp only [ZB,insVc,iopK,iopV,ne_eq,Nat.reduceEqDiff,reduceCtorEq,Zad,Zac,z3]
  have g5:=one_good 5 (by decide)
  refine ofS_c tb mb 1 _ (.string [97]) (Rw.one 5) w3 _ g5 ht3 hk ?_
  intro w4 hm4
  have z1 : ((1 : Int) == 1) = true:=rfl
  have f0 : (Rw.one 5).cells.toArray[0]? = some (.int .u64 1):=rfl
  simp only [ZB,insVc,pickK,iopK,iopV,fld1K,ne_eq,Nat.reduceEqDiff,reduceCtorEq,Zad,Zac,Zab,Rw.val,f0,z1]
  refine ofS_c tb mb 1 _ (.string [97]) (Rw.one 5) w4 _ g5 (ht3.keep hm4 id id) hk ?_
  intro w5 hm5
  have hsz : (Rw.one 5).cells.toArray.size = 69:=by decide
  have fe:=cells_ext (Rw.one 5) g5
  simp only [ZB,insVc,fldNK,ne_eq,Nat.reduceEqDiff,Nat.reduceAdd,Rw.val,fe]
  refine rawK_index (v:=.int .u64 1) (w':=w5) rfl rfl rfl (by simp only [ZB]; exact run_index_cls (numV (Rw.one 5).cl).toArray 3 (by decide) (.int .u64 1) rfl w5) ?_
  simp only [ZB,endK,resK,packed,insVc,pickK,iopK,iopV,ne_eq,Nat.reduceEqDiff,reduceCtorEq,Zaa,Zab,z1]
  exact h w5 ((((hm1.trans hm2).then hm3 (fun k hk x=>by omega)).trans hm4).trans hm5)
end Go.Oct
