import Derived.Test.YtcbacomljnjacaaGreatDoorVkD
import Derived.Test.YtcbacomljnjacaaGreatDoorVoI
set_option linter.unusedSimpArgs false
set_option linter.unusedVariables false
set_option linter.unusedSectionVars false
set_option linter.unnecessarySimpa false
namespace Go.Oct
open Go Go.Vc Go.VrA Go.VrI
set_option maxRecDepth 100000
theorem eqQ2_self (q : Qu) : eqQ2 q q = true:=by simp [eqQ2]
theorem eqB2_self (b : Bi) : eqB2 b b = true:=by simp [eqB2]
theorem eqCm_self (c : Cm) : eqCm c c = true:=by simp [eqCm,eqQ2_self,eqB2_self]
theorem Cm.err_ok (c : Cm) (hk : 1≤c.kind∧c.kind≤13) (ho : c.only = c) (hb : 0≤c.b.kind∧c.b.kind≤255) (hl : c.long = false) : c.err = 0:=by
  unfold Cm.err
  rw [if_neg (fun h=>h hk),ho,eqCm_self,if_neg,hl]
  · rfl
  · rintro (x | x | x)
    · cases x
    · omega
    · omega
def tk : Cm:={ cm0 11 with time:=1 }
def tkB : ByteArray:=⟨#[11,0,0,0,0,0,0,0,1]⟩
def tkR : ByteArray:=⟨#[0,0,0,0,0,0,0,1]⟩
theorem tk_err : tk.err = 0:=Cm.err_ok tk (by decide) rfl (by decide) (by decide)
theorem tk_bytes : tk.bytes = tkB:=by decide
theorem tk_fine : tk.fine:=by constructor <;> decide
theorem tk_one : number (tkB,0) 1 = (11,(tkR,0)):=by decide
theorem tk_eight : number (tkR,0) 8 = (1,(e0,0)):=by decide
theorem read109_c (cb rb : Nat) (r : Rd) (c : Cm) (w : World) (K : Value→World→Prop) (hr : IsRd w rb r) (hs : (r.1.size : Int) < 2 ^ 63) (hc : w.heap[cb]? = some (.cells c.cells.toArray 126 (0,0))) (hne : cb≠rb)
    (h : ∀ w' v,Mod (fun k=>k = rb∨k = cb) w w'→IsRd w' rb (number r 8).2→w'.heap[cb]? = some (.cells { c with time:=(number r 8).1 }.cells.toArray 126 (0,0))→K v w') :
    Ok Proofs.Tryz.prog 264 #[ptr cb,ptr rb,.int .i32 109] w K:=by
  refine F264.enter (args:=[ptr cb,ptr rb,.int .i32 109]) (by simp) ?_
  unfold c264 r264
  simp only [ZB,insVc,iopK,iopV,ne_eq,Nat.reduceEqDiff,reduceCtorEq,Zaf,Zad,Zac,Za,Zag,Int.reduceBEq]
  refine eight_c rb r w _ hr hs ?_
  intro w1 hm1 hr1
  have hc1:=hm1.keep hc hne
  have hc1':=hc1
  simp only [Cm.cells] at hc1'
  simp only [ZB,endK,resK,packed,insVc,storeK,nilK,faddrK,isPlain,ne_eq,Nat.reduceEqDiff,Nat.reduceAdd,Nat.reduceLT,Nat.reduceLeDiff,Zai,Zaj,Zak,Zal,Zam,Zan,hc1']
  have hm2 : Mod (fun k=>k = cb) w1 (Vc.set w1 cb (.cells { c with time:=(number r 8).1 }.cells.toArray 126 (0,0))):=(Mod.refl _ _).set (.inr rfl)
  refine h _ _ ((hm1.mono fun _ _ x=>.inl x).then hm2 (fun i _ hk=>.inr hk)) ?_ (get_set_same _ _ _ (lt_of_get hc1))
  exact hm2.keep hr1 (fun e=>hne e.symm)
theorem readTick_c (rb : Nat) (w : World) (K : Value→World→Prop) (hr : IsRd w rb (tkB,0)) (hf : Forms w) (hfr : 2≠rb)
    (h : ∀ w',Mod (fun k=>k = rb) w w'→IsRd w' rb (e0,0)→K tk.val w') : Ok Proofs.Tryz.prog 213 #[ptr rb] w K:=by
  refine F213.enter (args:=[ptr rb]) (by simp) ?_
  unfold c213 r213
  have hrl:=lt_of_get hr
  obtain ⟨w0,hw0⟩ : ∃ w0,w0 = w.alloc (.cells (cm0 0).cells.toArray 126):=⟨_,rfl⟩
  have hm0 : Mod (fun _=>False) w w0:=by rw [hw0]; exact (Mod.refl _ _).alloc _
  have t0 : w0.heap[w.heap.size]? = some (.cells (cm0 0).cells.toArray 126 (0,0)):=by rw [hw0]; exact get_alloc_new _ _
  have hz0 : w0.heap.size = w.heap.size + 1:=by rw [hw0,size_alloc]
  simp only [ZB,insVc,Value.cells,ne_eq,reduceCtorEq,Zaf,Zad,Zac,Za]
  rw [show w.alloc (.cells #[.int .i64 0,.string ⟨#[]⟩,.int .u32 0,.int .u64 0,.int .u32 0,.string ⟨#[]⟩,.string ⟨#[]⟩,.int .i64 0,.string ⟨#[]⟩,.string ⟨#[]⟩,.string ⟨#[]⟩,.string ⟨#[]⟩,.string ⟨#[]⟩,.int .u64 0,.int .u64 0,.int .u64 0,.int .u64 0,.bool false] 126) = w0 from hw0.symm]
  clear hw0
  refine one_c rb (tkB,0) w0 _ (hm0.keep hr id) (by decide) ?_
  intro w1 hm1 hr1
  rw [tk_one] at hr1 ⊢
  have k11 : IntKind.i64.wrap ((11 % 256 : Nat) : Int) = 11:=by decide
  have t1:=hm1.keep t0 (by omega)
  have hz1:=hm1.size
  have hm01 : Mod (fun k=>k = rb) w w1:=(hm0.mono fun _ _ x=>x.elim).trans hm1
  obtain ⟨w2,hw2⟩ : ∃ w2,w2 = Vc.set (w1.alloc (.cells (cm0 0).cells.toArray 126)) w1.heap.size (.cells (cm0 11).cells.toArray 126):=⟨_,rfl⟩
  have hm2 : Mod (fun _=>False) w1 w2:=by rw [hw2]; exact ((Mod.refl _ _).alloc _).set (.inl (Nat.le_refl _))
  have c2 : w2.heap[w1.heap.size]? = some (.cells (cm0 11).cells.toArray 126 (0,0)):=by rw [hw2]; exact get_set_same _ _ _ (by rw [size_alloc]; omega)
  have hz2 : w2.heap.size = w1.heap.size + 1:=by rw [hw2,size_set,size_alloc]
  have hw2' : Vc.set (w1.alloc (.cells #[.int .i64 0,.string ⟨#[]⟩,.int .u32 0,.int .u64 0,.int .u32 0,.string ⟨#[]⟩,.string ⟨#[]⟩,.int .i64 0,.string ⟨#[]⟩,.string ⟨#[]⟩,.string ⟨#[]⟩,.string ⟨#[]⟩,.string ⟨#[]⟩,.int .u64 0,.int .u64 0,.int .u64 0,.int .u64 0,.bool false] 126)) w1.heap.size (.cells #[.int .i64 11,.string ⟨#[]⟩,.int .u32 0,.int .u64 0,.int .u32 0,.string ⟨#[]⟩,.string ⟨#[]⟩,.int .i64 0,.string ⟨#[]⟩,.string ⟨#[]⟩,.string ⟨#[]⟩,.string ⟨#[]⟩,.string ⟨#[]⟩,.int .u64 0,.int .u64 0,.int .u64 0,.int .u64 0,.bool false] 126) = w2:=hw2.symm
  clear hw2
  have t2:=hm2.keep t1 id
  have r2 : IsRd w2 rb (tkR,0):=hm2.keep hr1 id
  have hm02 : Mod (fun k=>k = rb) w w2:=hm01.trans (hm2.mono fun _ _ x=>x.elim)
  simp only [ZB,insVc,storeNK,setMany,convK,buildK,fillL,isPlain,Value.cells,ne_eq,Nat.reduceEqDiff,Nat.reduceAdd,Nat.reduceLeDiff,reduceCtorEq,Zaf,Zad,Zac,Za,Zai,Zaj,Zak,Zbd,Zbe,Zbc,Zbb,Zal,Zam,Zan,Zbh,Zab,Zau,Zaw,Zax,get_alloc,Nat.reduceAdd,Nat.reduceEqDiff,k11]
  rw [hw2']
  refine err_c rb _ w2 _ r2 ?_
  have c2':=c2
  simp only [Cm.cells,cm0,q0,b0,e0] at c2'
  have z0 : ((0 : Int) == 0) = true:=rfl
  have z0' : ((0 : Int) != 0) = false:=rfl
  simp only [ZB,insVc,load1K,iopK,iopV,faddrK,ne_eq,Nat.reduceEqDiff,reduceCtorEq,Zad,Zac,Za,Zah,z0,c2']
  refine known_c 11 w2 _ ?_
  have d11 : decide (1≤(11 : Int)∧(11 : Int)≤13) = true:=by decide
  rw [d11]
  simp only [ZB,insVc,pickK,notK,ne_eq,Nat.reduceEqDiff,reduceCtorEq,Zaf,Zad,Zac,Za,Zab]
  refine err_c rb _ w2 _ r2 ?_
  obtain ⟨ft,ff,hfw⟩:=hf.mod hm02 hfr
  have hfa : frmV[11]? = some (.string ⟨#[109]⟩):=rfl
  have hr14 : (0 : Int)≤11∧(11 : Int) < ((14 : Nat) : Int):=by decide
  simp only [ZB,insVc,load1K,iopK,iopV,faddrK,iaddrAK,ne_eq,Nat.reduceEqDiff,reduceCtorEq,Za,Zah,Int.reduceToNat,Zbm,z0',c2',hfw,hr14,hfa]
  refine Go.Vc.rawK_range (s:=⟨#[109]⟩) rfl rfl (by kernel_rfl) (by simp only [ZB]) ?_
  obtain ⟨w3,hw3⟩ : ∃ w3,w3 = w2.alloc (.stringIter ⟨#[109]⟩ 0):=⟨_,rfl⟩
  have hm3 : Mod (fun _=>False) w2 w3:=by rw [hw3]; exact (Mod.refl _ _).alloc _
  have i3 : w3.heap[w2.heap.size]? = some (.stringIter ⟨#[109]⟩ 0):=by rw [hw3]; exact get_alloc_new _ _
  have hz3 : w3.heap.size = w2.heap.size + 1:=by rw [hw3,size_alloc]
  rw [← hw3]
  clear hw3
  have c3:=hm3.keep c2 id
  have t3:=hm3.keep t2 id
  have r3 : IsRd w3 rb (tkR,0):=hm3.keep r2 id
  simp only [ZB]
  refine vc_rounds 3 ?_
  simp only [ZB,insVc]
  refine Go.Vc.rawK_next (s:=⟨#[109]⟩) (pos:=0) (b:=109) rfl rfl (by simp only [ZB]) i3 rfl (by decide) ?_
  have hm4 : Mod (fun k=>k = w2.heap.size) w3 (Vc.set w3 w2.heap.size (.stringIter ⟨#[109]⟩ (0 + 1))):=(Mod.refl _ _).set (.inr rfl)
  have i4 : (Vc.set w3 w2.heap.size (.stringIter ⟨#[109]⟩ (0 + 1))).heap[w2.heap.size]? = some (.stringIter ⟨#[109]⟩ 1):=get_set_same _ _ _ (lt_of_get i3)
  have c4:=hm4.keep c3 (by omega)
  have t4:=hm4.keep t3 (by omega)
  have r4 : IsRd (Vc.set w3 w2.heap.size (.stringIter ⟨#[109]⟩ (0 + 1))) rb (tkR,0):=hm4.keep r3 (by omega)
  have hm04 : Mod (fun k=>k = rb) w (Vc.set w3 w2.heap.size (.stringIter ⟨#[109]⟩ (0 + 1))):=(hm02.trans (hm3.mono fun _ _ x=>x.elim)).then hm4 (fun i hi hk=>by omega)
  revert i4 c4 t4 r4 hm04
  generalize Vc.set w3 w2.heap.size (.stringIter ⟨#[109]⟩ (0 + 1)) = w4
  intro i4 c4 t4 r4 hm04
  have e109 : (((109 : UInt8).toNat : Nat) : Int) = 109:=by decide
  simp only [ZB,insVc,extK,ne_eq,Nat.reduceEqDiff,reduceCtorEq,Zaf,Zad,Zac,Za,Zag,Zah,e109]
  refine read109_c w1.heap.size rb (tkR,0) (cm0 11) w4 _ r4 (by decide) c4 (by omega) ?_
  intro w5 v5 hm5 r5 c5
  rw [tk_eight] at r5 c5
  have c5' : w5.heap[w1.heap.size]? = some (.cells tk.cells.toArray 126 (0,0)):=c5
  have i5:=hm5.keep i4 (by omega)
  have t5:=hm5.keep t4 (by omega)
  have hm05 : Mod (fun k=>k = rb) w w5:=hm04.then hm5 (fun i hi hk=>by omega)
  simp only [ZB]
  refine round_next ?_
  simp only [ZB,insVc]
  refine rawK_nextEnd (s:=⟨#[109]⟩) (pos:=1) rfl rfl (by simp only [ZB,ne_eq,Nat.reduceEqDiff]) i5 (by decide) ?_
  have c5'':=c5'
  simp only [Cm.cells,tk,cm0,q0,b0,e0] at c5''
  have t5':=t5
  simp only [Cm.cells,cm0,q0,b0,e0] at t5'
  simp only [ZB,endK,resK,resN,packed,insVc,loadNK,storeNK,setMany,extK,isPlain,ne_eq,Nat.reduceEqDiff,Nat.reduceAdd,Nat.reduceLeDiff,Za,Zah,Zai,Zaj,Zak,Zal,Zam,Zan,Zaa,Zaq,Zap,Zar,Zao,Zas,Zat,Zau,Zaw,Zax,c5'',t5',get_set_same _ _ _ (lt_of_get t5)]
  have hm6 : Mod (fun k=>k = w.heap.size) w5 (Vc.set w5 w.heap.size (.cells tk.cells.toArray 126)):=(Mod.refl _ _).set (.inr rfl)
  exact h (Vc.set w5 w.heap.size (.cells tk.cells.toArray 126)) (hm05.then hm6 (fun i hi hk=>by omega)) (hm6.keep r5 (by omega))
theorem parseTick_c (w : World) (K : Value→World→Prop) (hf : Forms w) (h : ∀ w',Mod (fun _=>False) w w'→K (.tuple #[tk.val,.int .i64 0]) w') : Ok Proofs.Tryz.prog 90 #[.string tkB] w K:=by
  refine F90.enter (args:=[.string tkB]) (by simp) ?_
  unfold c90 r90
  simp only [ZB,insVc,Value.cells,Zac]
  refine F152.enter (args:=[]) (by simp) ?_
  unfold c152 r152
  simp only [ZB,endK,resK,resN,packed,insVc,storeNK,setMany,buildK,fillL,isPlain,Value.cells,ne_eq,Nat.reduceEqDiff,Nat.reduceAdd,Nat.reduceLeDiff,reduceCtorEq,Zaf,Zad,Zac,Za,Zai,Zaj,Zak,Zbd,Zbe,Zbc,Zbb,Zal,Zam,Zan,Zaa,Zbh,Zab,Zae,Zaq,Zap,Zar,Zao,Zas,Zat,Zau,Zaw,Zax,Zbf,Zb,get_alloc,Zaz,Nat.reduceAdd,Zba,Nat.reduceEqDiff,Zay]
  refine F153.enter (args:=[.agg #[.func (.func 212) #[] #[],.func (.func 213) #[] #[]],.string tkB]) (by simp) ?_
  unfold c153 r153
  simp only [ZB,insVc,load1K,nilOf,pnilK,faddrK,Value.cells,ne_eq,Nat.reduceEqDiff,Nat.reduceAdd,reduceCtorEq,Zaf,Zad,Zac,Za,Zag,Zah,Zab,Zae,Zb,get_alloc,get_set,Zaz,Nat.reduceAdd,Zbg,Zba,Nat.reduceEqDiff]
  refine callK_gen ?_
  intro w1 hw1
  have hm1 : Mod (fun _=>False) w w1:=by rw [hw1]; exact ((((((Mod.refl _ _).alloc _).alloc _).set (.inl (by omega))).alloc _).alloc _).alloc _
  have hz1 : w1.heap.size = w.heap.size + 5:=by rw [hw1]; simp only [Nat.reduceAdd,size_set,size_alloc,size_alloc,size_set,Zaz,Nat.reduceAdd]
  have p1 : w1.heap[w.heap.size]? = some (.cells (cm0 0).cells.toArray 126 (0,0)):=by rw [hw1]; simp only [Nat.reduceAdd,reduceCtorEq,and_true,Zab,Zae,size_set,size_alloc,Zb,get_alloc,get_set,size_alloc,size_set,Zaz,Nat.reduceAdd,Zbi,Zay]; rfl
  have b1 : w1.heap[w.heap.size + 2]? = some (.cells #[.func (.func 212) #[] #[],.func (.func 213) #[] #[]] 244 (0,0)):=by rw [hw1]; simp only [Nat.reduceEqDiff,Nat.reduceAdd,reduceCtorEq,and_true,Zab,Zae,size_set,size_alloc,Zb,get_alloc,get_set,size_alloc,size_set,Zaz,Nat.reduceAdd,Zbg,Zba,Nat.reduceEqDiff]
  have o1 : w1.heap[w.heap.size + 3]? = some (.cells (cm0 0).cells.toArray 126 (0,0)):=by rw [hw1]; simp only [Nat.reduceEqDiff,Nat.reduceAdd,reduceCtorEq,and_true,Zab,Zae,size_set,size_alloc,Zb,get_alloc,get_set,size_alloc,size_set,Zaz,Nat.reduceAdd,Zbg,Zba,Nat.reduceEqDiff]; rfl
  clear hw1
  have hfl : 2 < w.heap.size:=by obtain ⟨_,_,hh⟩:=hf; exact lt_of_get hh
  refine over_c tkB w1 _ ?_
  have r2 : IsRd (w1.alloc (.cells #[.string tkB,.int .i64 0] 359)) w1.heap.size (tkB,0):=get_alloc_new _ _
  have hm2 : Mod (fun _=>False) w1 (w1.alloc (.cells #[.string tkB,.int .i64 0] 359)):=(Mod.refl _ _).alloc _
  revert r2 hm2
  generalize w1.alloc (.cells #[.string tkB,.int .i64 0] 359) = w2
  intro r2 hm2
  have b2:=hm2.keep b1 id
  simp only [ZB,insVc,load1K,faddrK,callvK,ne_eq,Nat.reduceEqDiff,Zad,Zac,Za,Zag,Zah,Zaa,Zbt,b2]
  refine readTick_c w1.heap.size w2 _ r2 (hf.mod0 (hm1.trans hm2)) (by omega) ?_
  intro w3 hm3 r3
  have hm03 : Mod (fun _=>False) w w3:=(hm1.trans hm2).then hm3 (fun i hi hk=>by omega)
  have p3:=hm3.keep (hm2.keep p1 id) (by omega)
  have o3:=hm3.keep (hm2.keep o1 id) (by omega)
  have hz3 : w1.heap.size < w3.heap.size:=lt_of_get r3
  simp only [ZB,insVc,storeNK,setMany,isPlain,Value.cells,ne_eq,Nat.reduceEqDiff,Nat.reduceAdd,Nat.reduceLeDiff,Zad,Zac,Zai,Zaj,Zak,Zal,Zam,Zan,Zab,Zau,Zaw,Zax,get_alloc,Nat.reduceAdd,Nat.reduceEqDiff,Cm.val,Cm.cells,tk,cm0,q0,b0,e0]
  refine callK_gen ?_
  intro w4 hw4
  have hm4 : Mod (fun _=>False) w3 w4:=by rw [hw4]; exact ((Mod.refl _ _).alloc _).set (.inl (Nat.le_refl _))
  have q4 : w4.heap[w3.heap.size]? = some (.cells tk.cells.toArray 126 (0,0)):=by rw [hw4]; exact get_set_same _ _ _ (by rw [size_alloc]; omega)
  clear hw4
  have r4 : IsRd w4 w1.heap.size (e0,0):=hm4.keep r3 id
  have o4:=hm4.keep o3 id
  have p4:=hm4.keep p3 id
  refine ende_c w1.heap.size _ w4 _ r4 ?_
  have he : ende ((e0,0) : Rd) = 0:=by decide
  have z0 : ((0 : Int) != 0) = false:=rfl
  rw [he]
  have q4':=q4
  simp only [Cm.cells,tk,cm0,q0,b0,e0] at q4'
  have o4':=o4
  simp only [Cm.cells,cm0,q0,b0,e0] at o4'
  have p4':=p4
  simp only [Cm.cells,cm0,q0,b0,e0] at p4'
  have hne : w.heap.size≠w.heap.size + 3:=by omega
  simp only [ZB,endK,resK,resN,packed,insVc,loadNK,storeNK,setMany,iopK,iopV,extK,isPlain,ne_eq,Nat.reduceEqDiff,Nat.reduceAdd,Nat.reduceLeDiff,reduceCtorEq,Za,Zag,Zah,Zai,Zaj,Zak,Zal,Zam,Zan,Zaa,Zav,Zaq,Zap,Zar,Zao,Zas,Zat,Zau,Zaw,Zax,z0,q4',o4',p4',get_set_same _ _ _ (lt_of_get o4'),get_set_other _ _ _ _ hne]
  have lp:=lt_of_get p4'
  rw [get_set_same _ _ _ (by rw [size_set]; exact lp)]
  simp only [resNO_cells,Nat.reduceAdd,Nat.reduceLeDiff,Zai,Zaj,Zak,true_and,Nat.zero_add,Zaq,Zap,Zar,Zao,Zas,Zat]
  exact h _ (((hm03.trans hm4).set (.inl (by omega))).set (.inl (by omega)))
theorem awake71_c (w : World) (K : Value→World→Prop) (hf : Forms w) (h : ∀ w',Mod (fun _=>False) w w'→K (.bool true) w') : Ok Proofs.Tryz.prog 71 #[] w K:=by
  refine F71.enter (args:=[]) (by simp) ?_
  unfold c71 r71
  simp only [ZB,insVc,buildK,fillL,Value.cells,Nat.reduceAdd,Nat.reduceLeDiff,Zad,Zac,Zai,Zaj,Zak,Zbd,Zbe,Zbc,Zbb,Zal,Zam,Zan,Zbh,Zab]
  refine bytes24_c tk w _ tk_fine hf ?_
  intro w1 hm1
  rw [tk_err,if_pos rfl,tk_bytes]
  simp only [ZB,insVc,extK,ne_eq,Nat.reduceEqDiff,Zad,Zac,Za,Zag,Zah]
  refine parseTick_c w1 _ (hf.mod0 hm1) ?_
  intro w2 hm2
  have z0 : ((0 : Int) == 0) = true:=rfl
  have z1 : (tkB.toList == (⟨#[11,0,0,0,0,0,0,0,1]⟩ : ByteArray).toList) = true:=by simp [tkB]
  have z2 : ((11 : Int) == 11) = true:=rfl
  have z3 : (((1 : Nat) : Int) == 1) = true:=rfl
  simp only [ZB,endK,resK,packed,insVc,pickK,load1K,storeNK,setMany,iopK,iopV,sopK,sopV,faddrK,extK,isPlain,Value.cells,ne_eq,Nat.reduceEqDiff,Nat.reduceAdd,Nat.reduceLeDiff,reduceCtorEq,Za,Zag,Zah,Zai,Zaj,Zak,Zal,Zam,Zan,Zaa,Zab,Zau,Zaw,Zax,Zbf,Zb,get_alloc,Nat.reduceAdd,Nat.reduceEqDiff,Cm.val,Cm.cells,tk,cm0,q0,b0,e0,z0,z1,z2,z3]
  exact h _ ((hm1.trans hm2).trans (((Mod.refl _ _).alloc _).set (.inl (Nat.le_refl _))))
theorem awake56_c (w : World) (K : Value→World→Prop) (hf : Forms w) (h : ∀ w',Mod (fun _=>False) w w'→K (.bool true) w') : Ok Proofs.Tryz.prog 56 #[] w K:=by
  refine F56.enter (args:=[]) (by simp) ?_
  unfold c56 r56
  simp only [ZB,insVc,Zac]
  refine awake71_c w _ hf ?_
  intro w1 hm1
  simp only [ZB,endK,resK,packed,insVc,Zaa]
  exact h w1 hm1
end Go.Oct
