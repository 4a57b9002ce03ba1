import Derived.Test.YtpggpopbkmgodaaGreatDoorVkD
import Derived.Test.YtpggpopbkmgodaaGreatDoorVcP
import Derived.Test.YtpggpopbkmgodaaGreatDoorVrK
set_option linter.unusedSimpArgs false
set_option linter.unusedVariables false
set_option linter.unusedSectionVars false
set_option linter.unnecessarySimpa false
namespace Go.Oct
open Go Go.Vc Go.VrA Go.VrI Go.Proofs.Tryz
set_option maxRecDepth 100000
theorem eqQ2_self (q:Qu):eqQ2 q q=true:=by simp [eqQ2]
theorem eqB2_self (b:Bi):eqB2 b b=true:=by simp [eqB2]
theorem eqCm_self (c:Cm):eqCm c c=true:=by simp [eqCm,eqQ2_self,eqB2_self]
theorem Cm.err_ok (c:Cm) (hk:1≤c.kind∧c.kind≤13) (ho:c.only=c) (hb:0≤c.b.kind∧c.b.kind≤255) (hl:c.long=false):c.err=0:=by
 unfold Cm.err
 rw [if_neg (fun h=>h hk),ho,eqCm_self,if_neg,hl]
 ·rfl
 ·rintro (x|x|x)
  ·cases x
  ·omega
  ·omega
def tk:Cm:={ cm0 11 with time:=1 }
def tkB:ByteArray:=⟨#[11,0,0,0,0,0,0,0,1]⟩
def tkR:ByteArray:=⟨#[0,0,0,0,0,0,0,1]⟩
theorem tk_err:tk.err=0:=Cm.err_ok tk (by decide) rfl (by decide) (by decide)
theorem tk_bytes:tk.bytes=tkB:=by decide
theorem tk_fine:tk.fine:=by constructor <;> decide
theorem tk_one:number (tkB,0) 1=(11,(tkR,0)):=by decide
theorem tk_eight:number (tkR,0) 8=(1,(e0,0)):=by decide
theorem read109_c (cb rb:Nat) (r:Rd) (c:Cm) (w:World) (K:Value→World→Prop) (hr:IsRd w rb r) (hs:(r.1.size:Int)<2^63) (hc:w.heap[cb]? = some (.cells c.cells.toArray 126 (0,0))) (hne:cb≠rb)
  (h:∀w' v,Mod (fun k=>k=rb∨k=cb) w w'→IsRd w' rb (number r 8).2→w'.heap[cb]? = some (.cells { c with time:=(number r 8).1 }.cells.toArray 126 (0,0))→K v w') :
  Ok prog 264 #[ptr cb,ptr rb,.int .i32 109] w K:=by
 refine F264.enter (args:=[ptr cb,ptr rb,.int .i32 109]) (by simp) ?_
 unfold c264 r264
 simp only [ZB,insVc,iopK,iopV,ne_eq,Nat.reduceEqDiff,reduceCtorEq,Zac,Zae,Zab,Za,Zag,Int.reduceBEq]
 refine eight_c rb r w _ hr hs ?_
 intro w1 hm1 hr1
 have hc1:=hm1.keep hc hne
 have hc1':=hc1
 simp only [Cm.cells] at hc1'
 simp only [ZB,endK,resK,packed,insVc,storeK,nilK,faddrK,isPlain,ne_eq,Nat.reduceEqDiff,Nat.reduceAdd,Nat.reduceLT,Nat.reduceLeDiff,Zai,Zak,Zaj,Zal,Zam,Zan,hc1']
 have hm2:Mod (fun k=>k=cb) w1 (Vc.set w1 cb (.cells { c with time:=(number r 8).1 }.cells.toArray 126 (0,0))):=(Mod.refl _ _).set (.inr rfl)
 refine h _ _ ((hm1.mono fun _ _ x=>.inl x).then hm2 (fun i _ hk=>.inr hk)) ?_ (get_set_same _ _ _ (lt_of_get hc1))
 exact hm2.keep hr1 (fun e=>hne e.symm)
theorem readTick_c (rb:Nat) (w:World) (K:Value→World→Prop) (hr:IsRd w rb (tkB,0)) (hf:Forms w) (hfr:2≠rb)
  (h:∀w',Mod (fun k=>k=rb) w w'→IsRd w' rb (e0,0)→K tk.val w'):Ok prog 213 #[ptr rb] w K:=by
 refine F213.enter (args:=[ptr rb]) (by simp) ?_
 unfold c213 r213
 have hrl:=lt_of_get hr
 obtain ⟨w0,hw0⟩:∃w0,w0=w.alloc (.cells (cm0 0).cells.toArray 126):=⟨_,rfl⟩
 have hm0:Mod (fun _=>False) w w0:=by rw [hw0];exact (Mod.refl _ _).alloc _
 have t0:w0.heap[w.heap.size]? = some (.cells (cm0 0).cells.toArray 126 (0,0)):=by rw [hw0];exact get_alloc_new _ _
 have hz0:w0.heap.size=w.heap.size+1:=by rw [hw0,size_alloc]
 simp only [ZB,insVc,Value.cells,ne_eq,reduceCtorEq,Zac,Zae,Zab,Za]
 rw [show w.alloc (.cells #[.int .i64 0,.string ⟨#[]⟩,.int .u32 0,.int .u64 0,.int .u32 0,.string ⟨#[]⟩,.string ⟨#[]⟩,.int .i64 0,.string ⟨#[]⟩,.string ⟨#[]⟩,.string ⟨#[]⟩,.string ⟨#[]⟩,.string ⟨#[]⟩,.int .u64 0,.int .u64 0,.int .u64 0,.int .u64 0,.bool false] 126)=w0 from hw0.symm]
 clear hw0
 refine one_c rb (tkB,0) w0 _ (hm0.keep hr id) (by decide) ?_
 intro w1 hm1 hr1
 rw [tk_one] at hr1 ⊢
 have k11:IntKind.i64.wrap ((11%256:Nat):Int)=11:=by decide
 have t1:=hm1.keep t0 (by omega)
 have hz1:=hm1.size
 have hm01:Mod (fun k=>k=rb) w w1:=(hm0.mono fun _ _ x=>x.elim).trans hm1
 obtain ⟨w2,hw2⟩:∃w2,w2=Vc.set (w1.alloc (.cells (cm0 0).cells.toArray 126)) w1.heap.size (.cells (cm0 11).cells.toArray 126):=⟨_,rfl⟩
 have hm2:Mod (fun _=>False) w1 w2:=by rw [hw2];exact ((Mod.refl _ _).alloc _).set (.inl (Nat.le_refl _))
 have c2:w2.heap[w1.heap.size]? = some (.cells (cm0 11).cells.toArray 126 (0,0)):=by rw [hw2];exact get_set_same _ _ _ (by rw [size_alloc];omega)
 have hz2:w2.heap.size=w1.heap.size+1:=by rw [hw2,size_set,size_alloc]
 have hw2':Vc.set (w1.alloc (.cells #[.int .i64 0,.string ⟨#[]⟩,.int .u32 0,.int .u64 0,.int .u32 0,.string ⟨#[]⟩,.string ⟨#[]⟩,.int .i64 0,.string ⟨#[]⟩,.string ⟨#[]⟩,.string ⟨#[]⟩,.string ⟨#[]⟩,.string ⟨#[]⟩,.int .u64 0,.int .u64 0,.int .u64 0,.int .u64 0,.bool false] 126)) w1.heap.size (.cells #[.int .i64 11,.string ⟨#[]⟩,.int .u32 0,.int .u64 0,.int .u32 0,.string ⟨#[]⟩,.string ⟨#[]⟩,.int .i64 0,.string ⟨#[]⟩,.string ⟨#[]⟩,.string ⟨#[]⟩,.string ⟨#[]⟩,.string ⟨#[]⟩,.int .u64 0,.int .u64 0,.int .u64 0,.int .u64 0,.bool false] 126)=w2:=hw2.symm
 clear hw2
 have t2:=hm2.keep t1 id
 have r2:IsRd w2 rb (tkR,0):=hm2.keep hr1 id
 have hm02:Mod (fun k=>k=rb) w w2:=hm01.trans (hm2.mono fun _ _ x=>x.elim)
 simp only [ZB,insVc,storeNK,setMany,convK,buildK,fillL,isPlain,Value.cells,ne_eq,Nat.reduceEqDiff,Nat.reduceAdd,Nat.reduceLeDiff,reduceCtorEq,Zac,Zae,Zab,Za,Zai,Zak,Zaj,Zbe,Zbf,Zbd,Zbc,Zal,Zam,Zan,Zbh,Zaa,Zau,Zav,Zax,get_alloc,Nat.reduceAdd,Nat.reduceEqDiff,k11]
 rw [hw2']
 refine err_c rb _ w2 _ r2 ?_
 have c2':=c2
 simp only [Cm.cells,cm0,q0,b0,e0] at c2'
 have z0:((0:Int) == 0)=true:=rfl
 have z0':((0:Int) != 0)=false:=rfl
 simp only [ZB,insVc,load1K,iopK,iopV,faddrK,ne_eq,Nat.reduceEqDiff,reduceCtorEq,Zae,Zab,Za,Zah,z0,c2']
 refine known_c 11 w2 _ ?_
 have d11:decide (1≤(11:Int)∧(11:Int)≤13)=true:=by decide
 rw [d11]
 simp only [ZB,insVc,pickK,notK,ne_eq,Nat.reduceEqDiff,reduceCtorEq,Zac,Zae,Zab,Za,Zaa]
 refine err_c rb _ w2 _ r2 ?_
 obtain ⟨ft,ff,hfw⟩:=hf.mod hm02 hfr
 have hfa:frmV[11]? = some (.string ⟨#[109]⟩):=rfl
 have hr14:(0:Int)≤11∧(11:Int)<((14:Nat):Int):=by decide
 simp only [ZB,insVc,load1K,iopK,iopV,faddrK,iaddrAK,ne_eq,Nat.reduceEqDiff,reduceCtorEq,Za,Zah,Int.reduceToNat,Zbm,z0',c2',hfw,hr14,hfa]
 refine Go.Vc.rawK_range (s:=⟨#[109]⟩) rfl rfl (by kernel_rfl) (by simp only [upd_same,ev_tmp]) ?_
 obtain ⟨w3,hw3⟩:∃w3,w3=w2.alloc (.stringIter ⟨#[109]⟩ 0):=⟨_,rfl⟩
 have hm3:Mod (fun _=>False) w2 w3:=by rw [hw3];exact (Mod.refl _ _).alloc _
 have i3:w3.heap[w2.heap.size]? = some (.stringIter ⟨#[109]⟩ 0):=by rw [hw3];exact get_alloc_new _ _
 have hz3:w3.heap.size=w2.heap.size+1:=by rw [hw3,size_alloc]
 rw [← hw3]
 clear hw3
 have c3:=hm3.keep c2 id
 have t3:=hm3.keep t2 id
 have r3:IsRd w3 rb (tkR,0):=hm3.keep r2 id
 simp only [ZB]
 refine vc_rounds 3 ?_
 simp only [vc_seq,vc_ops,vcOps_cons,insVc]
 refine Go.Vc.rawK_next (s:=⟨#[109]⟩) (pos:=0) (b:=109) rfl rfl (by simp only [upd_same,ev_tmp]) i3 rfl (by decide) ?_
 have hm4:Mod (fun k=>k=w2.heap.size) w3 (Vc.set w3 w2.heap.size (.stringIter ⟨#[109]⟩ (0+1))):=(Mod.refl _ _).set (.inr rfl)
 have i4:(Vc.set w3 w2.heap.size (.stringIter ⟨#[109]⟩ (0+1))).heap[w2.heap.size]? = some (.stringIter ⟨#[109]⟩ 1):=get_set_same _ _ _ (lt_of_get i3)
 have c4:=hm4.keep c3 (by omega)
 have t4:=hm4.keep t3 (by omega)
 have r4:IsRd (Vc.set w3 w2.heap.size (.stringIter ⟨#[109]⟩ (0+1))) rb (tkR,0):=hm4.keep r3 (by omega)
 have hm04:Mod (fun k=>k=rb) w (Vc.set w3 w2.heap.size (.stringIter ⟨#[109]⟩ (0+1))):=(hm02.trans (hm3.mono fun _ _ x=>x.elim)).then hm4 (fun i hi hk=>by omega)
 revert i4 c4 t4 r4 hm04
 generalize Vc.set w3 w2.heap.size (.stringIter ⟨#[109]⟩ (0+1))=w4
 intro i4 c4 t4 r4 hm04
 have e109:(((109:UInt8).toNat:Nat):Int)=109:=by decide
 simp only [ZB,insVc,extK,ne_eq,Nat.reduceEqDiff,reduceCtorEq,Zac,Zae,Zab,Za,Zag,Zah,e109]
 refine read109_c w1.heap.size rb (tkR,0) (cm0 11) w4 _ r4 (by decide) c4 (by omega) ?_
 intro w5 v5 hm5 r5 c5
 rw [tk_eight] at r5 c5
 have c5':w5.heap[w1.heap.size]? = some (.cells tk.cells.toArray 126 (0,0)):=c5
 have i5:=hm5.keep i4 (by omega)
 have t5:=hm5.keep t4 (by omega)
 have hm05:Mod (fun k=>k=rb) w w5:=hm04.then hm5 (fun i hi hk=>by omega)
 simp only [ZB]
 refine round_next ?_
 simp only [vc_seq,vc_ops,vcOps_cons,insVc]
 refine rawK_nextEnd (s:=⟨#[109]⟩) (pos:=1) rfl rfl (by simp only [ZB,ne_eq,Nat.reduceEqDiff]) i5 (by decide) ?_
 have c5'':=c5'
 simp only [Cm.cells,tk,cm0,q0,b0,e0] at c5''
 have t5':=t5
 simp only [Cm.cells,cm0,q0,b0,e0] at t5'
 simp only [ZB,endK,resK,resN,packed,insVc,loadNK,storeNK,setMany,extK,isPlain,ne_eq,Nat.reduceEqDiff,Nat.reduceAdd,Nat.reduceLeDiff,Za,Zah,Zai,Zak,Zaj,Zal,Zam,Zan,Zad,Zar,Zap,Zaq,Zao,Zas,Zat,Zau,Zav,Zax,c5'',t5',get_set_same _ _ _ (lt_of_get t5)]
 have hm6:Mod (fun k=>k=w.heap.size) w5 (Vc.set w5 w.heap.size (.cells tk.cells.toArray 126)):=(Mod.refl _ _).set (.inr rfl)
 exact h (Vc.set w5 w.heap.size (.cells tk.cells.toArray 126)) (hm05.then hm6 (fun i hi hk=>by omega)) (hm6.keep r5 (by omega))
theorem parseTick_c (w:World) (K:Value→World→Prop) (hf:Forms w) (h:∀w',Mod (fun _=>False) w w'→K (.tuple #[tk.val,.int .i64 0]) w'):Ok prog 90 #[.string tkB] w K:=by
 refine F90.enter (args:=[.string tkB]) (by simp) ?_
 unfold c90 r90
 simp only [ZB,insVc,Value.cells,Zab]
 refine F152.enter (args:=[]) (by simp) ?_
 unfold c152 r152
 simp only [ZB,endK,resK,resN,packed,insVc,storeNK,setMany,buildK,fillL,isPlain,Value.cells,ne_eq,Nat.reduceEqDiff,Nat.reduceAdd,Nat.reduceLeDiff,reduceCtorEq,Zac,Zae,Zab,Za,Zai,Zak,Zaj,Zbe,Zbf,Zbd,Zbc,Zal,Zam,Zan,Zad,Zbh,Zaa,Zaf,Zar,Zap,Zaq,Zao,Zas,Zat,Zau,Zav,Zax,Zbb,Zay,get_alloc,Zb,Nat.reduceAdd,Zba,Nat.reduceEqDiff,Zaz]
 refine F153.enter (args:=[.agg #[.func (.func 212) #[] #[],.func (.func 213) #[] #[]],.string tkB]) (by simp) ?_
 unfold c153 r153
 simp only [ZB,insVc,load1K,nilOf,pnilK,faddrK,Value.cells,ne_eq,Nat.reduceEqDiff,Nat.reduceAdd,reduceCtorEq,Zac,Zae,Zab,Za,Zag,Zah,Zaa,Zaf,Zay,get_alloc,get_set,Zb,Nat.reduceAdd,Zbg,Zba,Nat.reduceEqDiff]
 refine callK_gen ?_
 intro w1 hw1
 have hm1:Mod (fun _=>False) w w1:=by rw [hw1];exact ((((((Mod.refl _ _).alloc _).alloc _).set (.inl (by omega))).alloc _).alloc _).alloc _
 have hz1:w1.heap.size=w.heap.size+5:=by rw [hw1];simp only [Nat.reduceAdd,size_set,size_alloc,size_alloc,size_set,Zb,Nat.reduceAdd]
 have p1:w1.heap[w.heap.size]? = some (.cells (cm0 0).cells.toArray 126 (0,0)):=by rw [hw1];simp only [Nat.reduceAdd,reduceCtorEq,and_true,Zaa,Zaf,size_set,size_alloc,Zay,get_alloc,get_set,size_alloc,size_set,Zb,Nat.reduceAdd,Zbi,Zaz];rfl
 have b1:w1.heap[w.heap.size+2]? = some (.cells #[.func (.func 212) #[] #[],.func (.func 213) #[] #[]] 244 (0,0)):=by rw [hw1];simp only [Nat.reduceEqDiff,Nat.reduceAdd,reduceCtorEq,and_true,Zaa,Zaf,size_set,size_alloc,Zay,get_alloc,get_set,size_alloc,size_set,Zb,Nat.reduceAdd,Zbg,Zba,Nat.reduceEqDiff]
 have o1:w1.heap[w.heap.size+3]? = some (.cells (cm0 0).cells.toArray 126 (0,0)):=by rw [hw1];simp only [Nat.reduceEqDiff,Nat.reduceAdd,reduceCtorEq,and_true,Zaa,Zaf,size_set,size_alloc,Zay,get_alloc,get_set,size_alloc,size_set,Zb,Nat.reduceAdd,Zbg,Zba,Nat.reduceEqDiff];rfl
 clear hw1
 have hfl:2<w.heap.size:=by obtain ⟨_,_,hh⟩:=hf;exact lt_of_get hh
 refine over_c tkB w1 _ ?_
 have r2:IsRd (w1.alloc (.cells #[.string tkB,.int .i64 0] 359)) w1.heap.size (tkB,0):=get_alloc_new _ _
 have hm2:Mod (fun _=>False) w1 (w1.alloc (.cells #[.string tkB,.int .i64 0] 359)):=(Mod.refl _ _).alloc _
 revert r2 hm2
 generalize w1.alloc (.cells #[.string tkB,.int .i64 0] 359)=w2
 intro r2 hm2
 have b2:=hm2.keep b1 id
 simp only [ZB,insVc,load1K,faddrK,callvK,ne_eq,Nat.reduceEqDiff,Zae,Zab,Za,Zag,Zah,Zad,Zbu,b2]
 refine readTick_c w1.heap.size w2 _ r2 (hf.mod0 (hm1.trans hm2)) (by omega) ?_
 intro w3 hm3 r3
 have hm03:Mod (fun _=>False) w w3:=(hm1.trans hm2).then hm3 (fun i hi hk=>by omega)
 have p3:=hm3.keep (hm2.keep p1 id) (by omega)
 have o3:=hm3.keep (hm2.keep o1 id) (by omega)
 have hz3:w1.heap.size<w3.heap.size:=lt_of_get r3
 simp only [ZB,insVc,storeNK,setMany,isPlain,Value.cells,ne_eq,Nat.reduceEqDiff,Nat.reduceAdd,Nat.reduceLeDiff,Zae,Zab,Zai,Zak,Zaj,Zal,Zam,Zan,Zaa,Zau,Zav,Zax,get_alloc,Nat.reduceAdd,Nat.reduceEqDiff,Cm.val,Cm.cells,tk,cm0,q0,b0,e0]
 refine callK_gen ?_
 intro w4 hw4
 have hm4:Mod (fun _=>False) w3 w4:=by rw [hw4];exact ((Mod.refl _ _).alloc _).set (.inl (Nat.le_refl _))
 have q4:w4.heap[w3.heap.size]? = some (.cells tk.cells.toArray 126 (0,0)):=by rw [hw4];exact get_set_same _ _ _ (by rw [size_alloc];omega)
 clear hw4
 have r4:IsRd w4 w1.heap.size (e0,0):=hm4.keep r3 id
 have o4:=hm4.keep o3 id
 have p4:=hm4.keep p3 id
 refine ende_c w1.heap.size _ w4 _ r4 ?_
 have he:ende ((e0,0):Rd)=0:=by decide
 have z0:((0:Int) != 0)=false:=rfl
 rw [he]
 have q4':=q4
 simp only [Cm.cells,tk,cm0,q0,b0,e0] at q4'
 have o4':=o4
 simp only [Cm.cells,cm0,q0,b0,e0] at o4'
 have p4':=p4
 simp only [Cm.cells,cm0,q0,b0,e0] at p4'
 have hne:w.heap.size≠w.heap.size+3:=by omega
 simp only [ZB,endK,resK,resN,packed,insVc,loadNK,storeNK,setMany,iopK,iopV,extK,isPlain,ne_eq,Nat.reduceEqDiff,Nat.reduceAdd,Nat.reduceLeDiff,reduceCtorEq,Za,Zag,Zah,Zai,Zak,Zaj,Zal,Zam,Zan,Zad,Zaw,Zar,Zap,Zaq,Zao,Zas,Zat,Zau,Zav,Zax,z0,q4',o4',p4',get_set_same _ _ _ (lt_of_get o4'),get_set_other _ _ _ _ hne]
 have lp:=lt_of_get p4'
 rw [get_set_same _ _ _ (by rw [size_set];exact lp)]
 simp only [resNO_cells,Nat.reduceAdd,Nat.reduceLeDiff,Zai,Zak,Zaj,true_and,Nat.zero_add,Zar,Zap,Zaq,Zao,Zas,Zat]
 exact h _ (((hm03.trans hm4).set (.inl (by omega))).set (.inl (by omega)))
theorem awake71_c (w:World) (K:Value→World→Prop) (hf:Forms w) (h:∀w',Mod (fun _=>False) w w'→K (.bool true) w'):Ok prog 71 #[] w K:=by
 refine F71.enter (args:=[]) (by simp) ?_
 unfold c71 r71
 simp only [ZB,insVc,buildK,fillL,Value.cells,Nat.reduceAdd,Nat.reduceLeDiff,Zae,Zab,Zai,Zak,Zaj,Zbe,Zbf,Zbd,Zbc,Zal,Zam,Zan,Zbh,Zaa]
 refine bytes24_c tk w _ tk_fine hf ?_
 intro w1 hm1
 rw [tk_err,if_pos rfl,tk_bytes]
 simp only [ZB,insVc,extK,ne_eq,Nat.reduceEqDiff,Zae,Zab,Za,Zag,Zah]
 refine parseTick_c w1 _ (hf.mod0 hm1) ?_
 intro w2 hm2
 have z0:((0:Int) == 0)=true:=rfl
 have z1:(tkB.toList == (⟨#[11,0,0,0,0,0,0,0,1]⟩:ByteArray).toList)=true:=by simp [tkB]
 have z2:((11:Int) == 11)=true:=rfl
 have z3:(((1:Nat):Int) == 1)=true:=rfl
 simp only [ZB,endK,resK,packed,insVc,pickK,load1K,storeNK,setMany,iopK,iopV,sopK,sopV,faddrK,extK,isPlain,Value.cells,ne_eq,Nat.reduceEqDiff,Nat.reduceAdd,Nat.reduceLeDiff,reduceCtorEq,Za,Zag,Zah,Zai,Zak,Zaj,Zal,Zam,Zan,Zad,Zaa,Zau,Zav,Zax,Zbb,Zay,get_alloc,Nat.reduceAdd,Nat.reduceEqDiff,Cm.val,Cm.cells,tk,cm0,q0,b0,e0,z0,z1,z2,z3]
 exact h _ ((hm1.trans hm2).trans (((Mod.refl _ _).alloc _).set (.inl (Nat.le_refl _))))
theorem awake56_c (w:World) (K:Value→World→Prop) (hf:Forms w) (h:∀w',Mod (fun _=>False) w w'→K (.bool true) w'):Ok prog 56 #[] w K:=by
 refine F56.enter (args:=[]) (by simp) ?_
 unfold c56 r56
 simp only [ZB,insVc,Zab]
 refine awake71_c w _ hf ?_
 intro w1 hm1
 simp only [ZB,endK,resK,packed,insVc,Zad]
 exact h w1 hm1
end Go.Oct
namespace Go.Oct
open Go Go.Vc Go.VrA Go.VrB Go.Proofs.Tryz
set_option maxRecDepth 100000
def IsMs (w:World) (lo:Nat) (v:Value) (queue:ByteArray) (n:Nat):Prop :=
 ∃b1 b2 b3 b4,v = .agg #[.func (.func 285) #[] #[ptr b1],.func (.func 286) #[] #[ptr b2]]∧lo≤b1∧lo≤b2∧lo≤b3∧lo≤b4 ∧
  w.heap[b1]? = some (.cells #[.func (.func 252) #[] #[]] 296 (0,0)) ∧
  w.heap[b2]? = some (.cells #[.func (.func 253) #[] #[ptr b3,ptr b4]] 297 (0,0)) ∧
  w.heap[b3]? = some (.cells #[.string queue] 9 (0,0))∧w.heap[b4]? = some (.cells #[.int .u64 n] 27 (0,0))
theorem messages_c (queue:ByteArray) (n:Nat) (w:World) (K:Value→World→Prop) (h:∀w' v,Mod (fun _=>False) w w'→IsMs w' w.heap.size v queue n→K v w') :
  Ok prog 200 #[.string queue,.int .u64 n] w K:=by
 refine F200.enter (args:=[.string queue,.int .u64 n]) (by simp) ?_
 unfold c200 r200
 simp only [ZB,insVc,Value.cells,ne_eq,Nat.reduceEqDiff,Zac,Zae,Zab,Za,Zag]
 refine F251.enter (args:=[_,_]) (by simp) ?_
 unfold c251 r251
 simp only [ZB,endK,resK,resN,packed,insVc,storeNK,setMany,buildK,fillL,isPlain,Value.cells,ne_eq,Nat.reduceEqDiff,Nat.reduceAdd,Nat.reduceLT,Nat.reduceLeDiff,reduceCtorEq,Zac,Zae,Zab,Za,Zag,Zai,Zak,Zaj,Zbe,Zbf,Zbd,Zbc,Zal,Zam,Zan,Zad,Zbh,Zaa,Zaf,Zar,Zap,Zaq,Zao,Zas,Zat,Zau,Zav,Zax,Zbb,Zay,get_alloc,get_set,Zb,Nat.reduceAdd,Zbg,Zba,Nat.reduceEqDiff,Zbr,Nat.reduceLT]
 refine h _ _ ?_ ⟨w.heap.size+3,w.heap.size+4,w.heap.size,w.heap.size+1,rfl,by omega,by omega,by omega,by omega, ?_, ?_, ?_, ?_⟩
 ·exact (((((((Mod.refl _ _).alloc _).alloc _).alloc _).alloc _).alloc _).alloc _).set (.inl (by omega)) |>.set (.inl (by omega))
 ·simp only [Nat.reduceEqDiff,Nat.reduceAdd,Nat.reduceLT,reduceCtorEq,and_true,Zaa,Zaf,size_set,size_alloc,Zay,get_alloc,get_set,size_alloc,size_set,Zb,Nat.reduceAdd,Zbg,Zba,Nat.reduceEqDiff,Zbr,Nat.reduceLT]
 ·simp only [Nat.reduceEqDiff,Nat.reduceAdd,Nat.reduceLT,reduceCtorEq,and_true,Zaa,Zaf,size_set,size_alloc,Zay,get_alloc,get_set,size_alloc,size_set,Zb,Nat.reduceAdd,Zbg,Zba,Nat.reduceEqDiff,Zbr,Nat.reduceLT]
 ·simp only [Nat.reduceAdd,Nat.reduceLT,reduceCtorEq,and_true,Zaa,Zaf,size_set,size_alloc,Zay,get_alloc,get_set,size_alloc,size_set,Zb,Nat.reduceAdd,Zbi,Zbr,Nat.reduceLT,Zaz]
 ·simp only [Nat.reduceEqDiff,Nat.reduceAdd,Nat.reduceLT,and_true,Zaa,Zaf,size_set,size_alloc,Zay,get_alloc,get_set,size_alloc,size_set,Zb,Nat.reduceAdd,Zbg,Zba,Nat.reduceEqDiff,Zbr,Nat.reduceLT,Zaz]
theorem mbytesf_c (q:Ms) (bb:Nat) (w:World) (K:Value→World→Prop) (hq:q.good) (hb:w.heap[bb]? = some (.cells #[.func (.func 252) #[] #[]] 296 (0,0)))
  (h:∀w',Mod (fun _=>False) w w'→K (.string (mbytes q)) w') :
  Ok prog 285 #[q.val,ptr bb] w K:=by
 refine F285.enter (args:=[q.val,ptr bb]) (by simp) ?_
 unfold c285 r285
 simp only [ZB,insVc,Value.cells,Zac,Za,Ms.val,Ms.cells]
 have hb0:(w.alloc (.cells #[.string q.queue,.int .u64 q.id,.int .u32 q.tries,.int .u64 q.expiry,.string q.body] 128)).drew.heap[w.heap.size]? = some (.cells #[.string q.queue,.int .u64 q.id,.int .u32 q.tries,.int .u64 q.expiry,.string q.body] 128 (0,0)):=get_alloc_new _ _
 have hm0:Mod (fun _=>False) w (w.alloc (.cells #[.string q.queue,.int .u64 q.id,.int .u32 q.tries,.int .u64 q.expiry,.string q.body] 128)).drew:=((Mod.refl _ _).alloc _).drew
 have hbb:=hm0.keep hb id
 refine draw_d (fun w'=>w'.heap[w.heap.size]? = some (.cells #[.string q.queue,.int .u64 q.id,.int .u32 q.tries,.int .u64 q.expiry,.string q.body] 128 (0,0))∧w'.heap[bb]? = some (.cells #[.func (.func 252) #[] #[]] 296 (0,0))) (by kernel_rfl) (by kernel_rfl) (by kernel_rfl) (by kernel_rfl) ⟨hb0,hbb⟩ ?_
 generalize (w.alloc (.cells #[.string q.queue,.int .u64 q.id,.int .u32 q.tries,.int .u64 q.expiry,.string q.body] 128)).drew=w1 at *
 simp only [ZB,endK,resK,packed,insVc,sopK,sopV,callvK,ne_eq,Nat.reduceEqDiff,Zae,Zab,Zad,Zaa,Zaf,pureI,vcD_nil,vcD_cons,stepD_pure,stepD_load,stepD_step,kindI,loadI]
 refine wone_c 1 w1 _ (by decide) ?_
 intro w2 hm2
 refine ⟨⟨hm2.keep hb0 id,hm2.keep hbb id⟩, ?_⟩
 refine loadD1 (b:=bb) (o:=0) (v:=.func (.func 252) #[] #[]) rfl (fun w' hw'=>⟨_,_,_,hw'.2,rfl⟩) ?_
 refine loadDN (b:=w.heap.size) (o:=0) (v:=q.val) rfl (fun w' hw'=>⟨_,_,_,hw'.1,by simp,rfl⟩) ?_
 simp only [Zad,Zbu]
 refine mput_c q w2 _ hq ?_
 intro w3 hm3
 refine ⟨⟨hm3.keep (hm2.keep hb0 id) id,hm3.keep (hm2.keep hbb id) id⟩, ?_⟩
 have x1:¬(((big 1 1).size+(mput q).size:Nat):Int) > IntKind.i64.max:=by
  have:=hq.2.2
  simp only [mput,Zbt,big_size,textB_size,imax];omega
 simp only [loadV_some,Zaf,x1]
 exact h w3 ((hm0.trans hm2).trans hm3)
theorem mgetf_c (b gb nb ib:Nat) (queue:ByteArray) (n:Nat) (r:Rd) (w:World) (K:Value→World→Prop) (hb:IsRd w b r) (hg:w.heap[gb]? = some (.cells #[.func (.func 253) #[] #[ptr nb,ptr ib]] 297 (0,0)))
  (hn:w.heap[nb]? = some (.cells #[.string queue] 9 (0,0))) (hi:w.heap[ib]? = some (.cells #[.int .u64 n] 27 (0,0))) (hne:nb≠b) (hie:ib≠b) (hge:gb≠b) (hs:(r.1.size:Int)<2^63)
  (h:∀w',Mod (fun k=>k=b) w w'→IsRd w' b (mget queue n (ver r)).2→K (mget queue n (ver r)).1.val w') :
  Ok prog 286 #[ptr b,ptr gb] w K:=by
 refine F286.enter (args:=[ptr b,ptr gb]) (by simp) ?_
 unfold c286 r286
 simp only [ZB,insVc,Value.cells,ne_eq,reduceCtorEq,Zac,Zae,Zab,Za]
 have hm0:Mod (fun k=>k=b) w (w.alloc (.cells zms 128)):=(Mod.refl _ _).alloc _
 have hn0:=hm0.keep hn hne
 have hi0:=hm0.keep hi hie
 have hg0:=hm0.keep hg hge
 have hbl:=lt_of_get hb
 have hb0:IsRd (w.alloc (.cells zms 128)) b r:=by
  unfold IsRd;rw [get_alloc_old _ _ _ hbl];exact hb
 have hr0:(w.alloc (.cells zms 128)).heap[w.heap.size]? = some (.cells zms 128 (0,0)):=get_alloc_new _ _
 generalize (w.alloc (.cells zms 128))=w1 at *
 have hne':w.heap.size≠b:=by omega
 refine one_c b r w1 _ hb0 hs ?_
 intro w2 hm2 hb2
 simp only [ZB,insVc,iopK,iopV,reduceCtorEq]
 have fin:∀w3,Mod (fun k=>k=b) w2 w3→IsRd w3 b (ver r)→∀G:Value→World→Prop,(∀w4,Mod (fun k=>k=b) w3 w4→IsRd w4 b (mget queue n (ver r)).2→G (mget queue n (ver r)).1.val w4)→Ok prog 253 #[ptr b,ptr nb,ptr ib] w3 G:=by
  intro w3 hm3 hb3 G hG
  exact mget_c b nb ib queue n (ver r) w3 G hb3 (hm3.keep (hm2.keep hn0 hne) hne) (hm3.keep (hm2.keep hi0 hie) hie) hne hie (by have:=ver_size r;omega) hG
 refine condP_split ?_ ?_
 ·intro hc
  simp only [ZB,insVc,ne_eq,reduceCtorEq,Zac,Zae,Zab,Za]
  refine fail_c b _ 4 w2 _ hb2 ?_
  intro w3 v hm3 hb3
  have hv:ver r=fail (number r 1).2 4:=by
   unfold ver;rw [if_pos];simp at hc;omega
  simp only [ZB,insVc,load1K,callvK,ne_eq,Nat.reduceEqDiff,reduceCtorEq,Zac,Zae,Zab,Za,Zag,Zah,Zad,Zaw,hm3.keep (hm2.keep hg0 hge) hge]
  refine fin w3 hm3 (hv ▸ hb3) _ ?_
  intro w4 hm4 hb4
  have hr4:=hm4.keep (hm3.keep (hm2.keep hr0 hne') hne') hne'
  simp only [ZB,endK,resK,resN,packed,insVc,storeNK,setMany,isPlain,ne_eq,Nat.reduceEqDiff,Nat.reduceAdd,Nat.reduceLeDiff,Zai,Zak,Zaj,Zal,Zam,Zan,Zad,Zar,Zap,Zaq,Zao,Zas,Zat,Zau,Zav,Zax,Zbb,hr4,lt_of_get hr4,Ms.val,Ms.cells]
  refine h _ ((((hm0.trans hm2).trans hm3).trans hm4).set (.inl (Nat.le_refl _))) ?_
  unfold IsRd
  rw [get_set_other _ _ _ _ (Ne.symm hne')]
  exact hb4
 ·intro hc
  simp only [ZB,insVc,load1K,ne_eq,Nat.reduceEqDiff,Zac,Za,Zag]
  have hv:ver r=(number r 1).2:=by
   unfold ver;rw [if_neg];simp at hc;omega
  simp only [ZB,insVc,callvK,ne_eq,Nat.reduceEqDiff,reduceCtorEq,Zac,Zae,Zab,Za,Zah,Zad,Zaw,hm2.keep hg0 hge]
  refine fin w2 (Mod.refl _ _) (hv ▸ hb2) _ ?_
  intro w4 hm4 hb4
  have hr4:=hm4.keep (hm2.keep hr0 hne') hne'
  simp only [ZB,endK,resK,resN,packed,insVc,storeNK,setMany,isPlain,ne_eq,Nat.reduceEqDiff,Nat.reduceAdd,Nat.reduceLeDiff,Zai,Zak,Zaj,Zal,Zam,Zan,Zad,Zar,Zap,Zaq,Zao,Zas,Zat,Zau,Zav,Zax,Zbb,hr4,lt_of_get hr4,Ms.val,Ms.cells]
  refine h _ (((hm0.trans hm2).trans hm4).set (.inl (Nat.le_refl _))) ?_
  unfold IsRd
  rw [get_set_other _ _ _ _ (Ne.symm hne')]
  exact hb4
theorem mbytes_c (v:Value) (lo:Nat) (queue:ByteArray) (n:Nat) (q:Ms) (w:World) (K:Value→World→Prop) (hv:IsMs w lo v queue n) (hq:q.good)
  (h:∀w',Mod (fun _=>False) w w'→K (.string (mbytes q)) w') :
  Ok prog 201 #[v,q.val] w K:=by
 obtain ⟨b1,b2,b3,b4,rfl,_,_,_,_,h1,h2,h3,h4⟩:=hv
 refine F201.enter (args:=[_,q.val]) (by simp) ?_
 unfold c201 r201
 simp only [ZB,insVc,load1K,loadNK,nilOf,pnilK,faddrK,callvK,Value.cells,ne_eq,Nat.reduceEqDiff,Nat.reduceAdd,Nat.reduceLeDiff,Zac,Zae,Zab,Za,Zag,Zah,Zai,Zak,Zaj,Zad,Zaw,Zaa,Zaf,Zar,Zap,Zaq,Zao,Zas,Zat,get_alloc,Nat.reduceAdd,Zba,Zbi,Nat.reduceEqDiff,Zaz,Ms.val,Ms.cells]
 have hm0:Mod (fun _=>False) w ((w.alloc (.cells #[.func (.func 285) #[] #[ptr b1],.func (.func 286) #[] #[ptr b2]] 299)).alloc (.cells #[.string q.queue,.int .u64 q.id,.int .u32 q.tries,.int .u64 q.expiry,.string q.body] 128)):=((Mod.refl _ _).alloc _).alloc _
 refine mbytesf_c q b1 _ _ hq (hm0.keep h1 id) ?_
 intro w2 hm2
 simp only [ZB,endK,resK,packed,insVc,Zad]
 exact h w2 (hm0.trans hm2)
theorem mread_c (v:Value) (lo:Nat) (queue:ByteArray) (n:Nat) (s:ByteArray) (w:World) (K:Value→World→Prop) (hv:IsMs w lo v queue n) (hs:s.size<2^60)
  (h:∀w',Mod (fun _=>False) w w'→K (.tuple #[(mread queue n s).1.val,.int .i64 (mread queue n s).2]) w') :
  Ok prog 206 #[v,.string s] w K:=by
 obtain ⟨b1,b2,b3,b4,rfl,_,_,_,_,h1,h2,h3,h4⟩:=hv
 refine F206.enter (args:=[_,.string s]) (by simp) ?_
 unfold c206 r206
 simp only [ZB,insVc,load1K,nilOf,pnilK,faddrK,Value.cells,ne_eq,Nat.reduceEqDiff,Nat.reduceAdd,reduceCtorEq,Zac,Zae,Zab,Za,Zag,Zah,Zaa,Zaf,get_alloc,Zb,Nat.reduceAdd,Zbi,Nat.reduceEqDiff,Zaz]
 refine over_c s _ _ ?_
 simp only [ZB,insVc,load1K,faddrK,callvK,ne_eq,Nat.reduceEqDiff,Nat.reduceAdd,reduceCtorEq,Zae,Zab,Za,Zag,Zah,Zad,Zaw,Zaa,Zaf,get_alloc,Zb,Nat.reduceAdd,Zbi,Nat.reduceEqDiff,Zaz]
 have l1:=lt_of_get h1
 have l2:=lt_of_get h2
 have l3:=lt_of_get h3
 have l4:=lt_of_get h4
 refine callK_gen ?_
 intro w1 hw1
 have hm0:Mod (fun _=>False) w w1:=by rw [hw1];exact ((((Mod.refl _ _).alloc _).alloc _).alloc _).alloc _
 have e1:w1.heap[w.heap.size+1]? = some (.cells zms 128 (0,0)):=by rw [hw1];simp only [Nat.reduceEqDiff,Nat.reduceAdd,Zaa,Zaf,size_alloc,get_alloc,size_alloc,Zb,Nat.reduceAdd,Zbg,Zba,Nat.reduceEqDiff,Zaz]
 have e2:w1.heap[w.heap.size+2]? = some (.cells zms 128 (0,0)):=by rw [hw1];simp only [Nat.reduceEqDiff,Nat.reduceAdd,reduceCtorEq,Zaa,Zaf,size_alloc,get_alloc,size_alloc,Zb,Nat.reduceAdd,Zbg,Zba,Nat.reduceEqDiff]
 have e3:IsRd w1 (w.heap.size+3) (s,0):=by unfold IsRd;rw [hw1];simp only [Nat.reduceEqDiff,Nat.reduceAdd,reduceCtorEq,Zaa,Zaf,size_alloc,get_alloc,size_alloc,Zb,Nat.reduceAdd,Zbg,Zba,Nat.reduceEqDiff]
 have hszx:w1.heap.size=w.heap.size+4:=by rw [hw1];simp only [Nat.reduceAdd,size_alloc,size_alloc,Zb,Nat.reduceAdd]
 clear hw1
 refine mgetf_c (w.heap.size+3) b2 b3 b4 queue n (s,0) w1 _ e3 (hm0.keep h2 id) (hm0.keep h3 id) (hm0.keep h4 id) (by omega) (by omega) (by omega) (by simpa using (by omega:(s.size:Int)<2^63)) ?_
 intro w2 hm2 hb2
 have f1:=hm2.keep e1 (by omega)
 have f2:=hm2.keep e2 (by omega)
 have hm2':Mod (fun _=>False) w w2:=hm0.then hm2 (fun i hi hk=>by omega)
 have s2:=hm2.size
 have hr2:=lt_of_get hb2
 simp only [ZB,insVc,storeNK,setMany,isPlain,Value.cells,ne_eq,Nat.reduceEqDiff,Nat.reduceAdd,Nat.reduceLeDiff,Zae,Zab,Zai,Zak,Zaj,Zal,Zam,Zan,Zau,Zav,Zax,Zbl,Ms.val,Ms.cells]
 refine callK_gen ?_
 intro w3 hw3
 have hm3:Mod (fun _=>False) w2 w3:=by rw [hw3];exact ((Mod.refl _ _).alloc _).set (.inl (Nat.le_refl _))
 have g0:w3.heap[w2.heap.size]? = some (.cells (mget queue n (ver (s,0))).1.cells.toArray 128 (0,0)):=by rw [hw3];simp only [size_alloc,Zbb,Zay,size_alloc,Ms.cells]
 clear hw3
 have g1:=hm3.keep f1 id
 have g2:=hm3.keep f2 id
 have gb:IsRd w3 (w.heap.size+3) _:=hm3.keep hb2 id
 have hm3':=hm2'.trans hm3
 refine ende_c (w.heap.size+3) _ w3 _ gb ?_
 simp only [ZB,insVc,iopK,iopV,reduceCtorEq]
 refine condP_split ?_ ?_
 ·intro he
  have he':ende (mget queue n (ver (s,0))).2≠0:=by simpa using he
  have hq:mread queue n s=(ms0,ende (mget queue n (ver (s,0))).2):=by unfold mread;simp only [];rw [if_pos he']
  rw [hq] at h
  simp only [ZB,endK,resK,resN,packed,insVc,loadNK,storeNK,setMany,isPlain,ne_eq,Nat.reduceEqDiff,Nat.reduceAdd,Nat.reduceLeDiff,Zai,Zak,Zaj,Zal,Zam,Zan,Zad,Zaw,Zar,Zap,Zaq,Zao,Zas,Zat,Zau,Zav,Zax,g2,g1,get_set_same _ _ _ (lt_of_get g1)]
  exact h _ (hm3'.set (.inl (by omega)))
 ·intro he
  have he':ende (mget queue n (ver (s,0))).2=0:=by simpa using he
  have hq:mread queue n s=((mget queue n (ver (s,0))).1,0):=by unfold mread;simp only [];rw [if_neg (by simpa using he')]
  rw [hq] at h
  simp only [ZB,endK,resK,resN,packed,insVc,loadNK,storeNK,setMany,isPlain,ne_eq,Nat.reduceEqDiff,Nat.reduceAdd,Nat.reduceLeDiff,Zai,Zak,Zaj,Zal,Zam,Zan,Zad,Zaw,Zar,Zap,Zaq,Zao,Zas,Zat,Zau,Zav,Zax,g0,g1,Ms.cells,get_set_same _ _ _ (lt_of_get g1)]
  exact h _ (hm3'.set (.inl (by omega)))
def keysR (m:Ms):ByteArray × ByteArray × Int :=
 if (messageK m.queue m.id).2≠0∨m.expiry=0 then ((messageK m.queue m.id).1,e0,(messageK m.queue m.id).2) else ((messageK m.queue m.id).1,(termK m.expiry m.queue m.id).1,(termK m.expiry m.queue m.id).2)
theorem keys_c (q:Ms) (m:Int) (w:World) (K:Value→World→Prop) (hg:Gl m w) (hs:q.queue.size<4294967281) (hi:q.id<2^64) (he:q.expiry<2^64)
  (h:∀w',Mod (fun _=>False) w w'→K (.tuple #[.string (keysR q).1,.string (keysR q).2.1,.int .i64 (keysR q).2.2]) w') :
  Ok prog 139 #[q.val] w K:=by
 refine F139.enter (args:=[q.val]) (by simp) ?_
 unfold c139 r139
 simp only [ZB,insVc,load1K,faddrK,Value.cells,ne_eq,Nat.reduceEqDiff,Zac,Zae,Zab,Za,Zag,Zah,Zbl,Ms.val,Ms.cells]
 refine callK_gen ?_
 intro w1 hw1
 have hm1:Mod (fun _=>False) w w1:=by rw [hw1];exact (Mod.refl _ _).alloc _
 have e1:w1.heap[w.heap.size]? = some (.cells #[.string q.queue,.int .u64 q.id,.int .u32 q.tries,.int .u64 q.expiry,.string q.body] 128 (0,0)):=by rw [hw1];exact get_alloc_new _ _
 clear hw1
 refine message_c q.queue q.id m w1 _ (hg.mod hm1 id) hs hi ?_
 intro w2 hm2
 have e2:=hm2.keep e1 id
 have hm12:=hm1.trans hm2
 have tail:∀(G:Value→World→Prop),(messageK q.queue q.id).2=0→q.expiry≠0→(∀w',Mod (fun _=>False) w w'→G (.tuple #[.string (termK q.expiry q.queue q.id).1,.int .i64 (termK q.expiry q.queue q.id).2]) w')→Ok prog 199 #[.int .u64 q.expiry,.string q.queue,.int .u64 q.id] w2 G:=by
  intro G _ _ hG
  exact term_c q.expiry q.queue q.id m w2 G (hg.mod hm12 id) he hs hi (fun w' hm'=>hG w' (hm12.trans hm'))
 unfold keysR at h
 by_cases h1:(messageK q.queue q.id).2=0
 ·have b1:((messageK q.queue q.id).2 != 0)=false:=by simpa using h1
  by_cases h2:q.expiry=0
  ·have b2:(((0:Nat):Int) == 0)=true:=rfl
   rw [if_pos (.inr h2)] at h
   simp only [ZB,endK,resK,packed,insVc,pickK,load1K,iopK,iopV,faddrK,extK,ne_eq,Nat.reduceEqDiff,reduceCtorEq,Za,Zag,Zah,Zad,Zaw,Zaf,b1,e2,h2,b2]
   exact h w2 hm12
  ·have b2:((q.expiry:Int) == 0)=false:=by rw [beq_eq_false_iff_ne];omega
   rw [if_neg (by simp [h1,h2])] at h
   simp only [ZB,insVc,pickK,load1K,iopK,iopV,faddrK,extK,ne_eq,Nat.reduceEqDiff,reduceCtorEq,Zae,Zab,Za,Zag,Zah,Zaf,b1,e2,b2]
   refine tail _ h1 h2 ?_
   intro w' hm'
   simp only [ZB,endK,resK,packed,insVc,extK,ne_eq,Nat.reduceEqDiff,Za,Zag,Zah,Zad,Zaw]
   exact h w' hm'
 ·have b1:((messageK q.queue q.id).2 != 0)=true:=by simpa using h1
  rw [if_pos (.inl h1)] at h
  simp only [ZB,endK,resK,packed,insVc,pickK,iopK,iopV,extK,ne_eq,Nat.reduceEqDiff,reduceCtorEq,Za,Zag,Zah,Zad,Zaw,Zaa,b1]
  exact h w2 hm12
def Sto.mput {σ:Type} (St:Sto σ) (s:σ) (q:Ms):Int × σ :=
 if (keysR q).2.2≠0 then ((keysR q).2.2,s) else
 if (St.put s (keysR q).1 (mbytes q)).1≠0∨emptyB (keysR q).2.1=true then St.put s (keysR q).1 (mbytes q) else
 St.put (St.put s (keysR q).1 (mbytes q)).2 (keysR q).2.1 ⟨#[]⟩
theorem mput66_c {σ:Type} (St:Sto σ) (s:σ) (q:Ms) (m:Int) (w:World) (K:Value→World→Prop) (hAt:St.At s w) (hg:Gl m w) (hs:q.queue.size<4294967281) (hi:q.id<2^64) (hq:q.good)
  (hf:St.fit s) (hf2:St.fit (St.put s (keysR q).1 (mbytes q)).2)
  (h:∀w',Mod St.own w w'→St.At (St.mput s q).2 w'→K (.int .i64 (St.mput s q).1) w') :
  Ok prog 140 #[.iface St.t St.v,q.val] w K:=by
 refine F140.enter (args:=[.iface St.t St.v,q.val]) (by simp) ?_
 unfold c140 r140
 simp only [ZB,insVc,loadNK,Value.cells,ne_eq,Nat.reduceEqDiff,Nat.reduceAdd,Nat.reduceLeDiff,Zac,Zae,Zab,Za,Zag,Zai,Zak,Zaj,Zar,Zap,Zaq,Zao,Zas,Zat,Zbl,Ms.val,Ms.cells]
 refine callK_gen ?_
 intro w1 hw1
 have hm1:Mod (fun _=>False) w w1:=by rw [hw1];exact (Mod.refl _ _).alloc _
 have e1:w1.heap[w.heap.size]? = some (.cells #[.string q.queue,.int .u64 q.id,.int .u32 q.tries,.int .u64 q.expiry,.string q.body] 128 (0,0)):=by rw [hw1];exact get_alloc_new _ _
 clear hw1
 refine keys_c q m w1 _ (hg.mod hm1 id) hs hi hq.2.1 ?_
 intro w2 hm2
 have e2:=hm2.keep e1 id
 have hm12:=hm1.trans hm2
 have hA2:=St.keep0 hAt hm12
 unfold Sto.mput at h
 have hfoot:¬St.foot w.heap.size:=fun x=>by have:=St.footLt s w _ hAt x;omega
 have hno:¬St.own w.heap.size:=fun x=>hfoot (St.ownFoot _ x)
 simp only [ZB,insVc,iopK,iopV,extK,ne_eq,Nat.reduceEqDiff,reduceCtorEq,Za,Zag,Zah]
 refine condP_split ?_ ?_
 ·intro hc
  have hc':(keysR q).2.2≠0:=by simpa using hc
  rw [if_pos hc'] at h
  simp only [ZB,endK,resK,packed,insVc,ne_eq,Nat.reduceEqDiff,Zad]
  exact h w2 (hm12.mono fun _ _ x=>x.elim) hA2
 intro hc
 have hc':(keysR q).2.2=0:=by simpa using hc
 rw [if_neg (by simpa using hc')] at h
 simp only [vc_skip,vc_seq,thenQ_normal]
 refine draw_d (fun W=>W.heap[w.heap.size]? = some (.cells #[.string q.queue,.int .u64 q.id,.int .u32 q.tries,.int .u64 q.expiry,.string q.body] 128 (0,0))) (by kernel_rfl) (by kernel_rfl) (by kernel_rfl) (by kernel_rfl) e2 ?_
 simp only [ZB,insVc,nilK,nilM,iopK,iopV,faddrK,invK,ne_eq,Nat.reduceEqDiff,reduceCtorEq,Zac,Zae,Zab,Za,Zah,Zaa,Zaf,pureI,vcD_nil,vcD_cons,stepD_pure,stepD_load,stepD_step,kindI,loadI,St.putNil,implies_true]
 refine loadD1 (b:=w.heap.size) (o:=0) (v:=.string q.queue) rfl (fun W hW=>⟨_,_,_,hW,rfl⟩) ?_
 refine loadD1 (b:=w.heap.size) (o:=1) (v:=.int .u64 q.id) rfl (fun W hW=>⟨_,_,_,hW,rfl⟩) ?_
 refine messages_c q.queue q.id _ _ ?_
 intro w3 mv hm3 hM3
 have e3:=hm3.keep (show w2.drew.heap[w.heap.size]? = _ from e2) id
 refine ⟨e3, ?_⟩
 refine loadDN (b:=w.heap.size) (o:=0) (v:=q.val) (by simp only [ZB,ne_eq,Nat.reduceEqDiff]) (fun W hW=>⟨_,_,_,hW,by simp,rfl⟩) ?_
 refine mbytes_c mv _ q.queue q.id q w3 _ hM3 hq ?_
 intro w4 hm4
 have e4:=hm4.keep e3 id
 refine ⟨e4, ?_⟩
 have hm14:Mod (fun _=>False) w w4:=(hm12.drew.trans hm3).trans hm4
 refine St.putOk s (keysR q).1 (mbytes q) w4 _ (St.keep0 hAt hm14) hf ?_
 intro w5 hm5 hA5
 refine ⟨hm5.keep e4 hno, ?_⟩
 have hm15:Mod St.own w w5:=(hm14.mono fun _ _ x=>x.elim).trans hm5
 revert h hf2 hA5
 generalize St.put s (keysR q).1 (mbytes q)=P
 intro hf2 h hA5
 simp only [true_and]
 have hfin:(P.1≠0∨emptyB (keysR q).2.1=true)→K (.int .i64 P.1) w5:=by
  intro hx
  rw [if_pos hx] at h
  exact h w5 hm15 hA5
 by_cases h1:P.1=0
 ·have b1:(P.1 != 0)=false:=by simpa using h1
  cases h2:emptyB (keysR q).2.1 with
  | true =>
   have h2':((keysR q).2.1.toList == (⟨#[]⟩:ByteArray).toList)=true:=h2
   simp only [ZB,endK,resK,packed,insVc,pickK,sopK,sopV,ne_eq,Nat.reduceEqDiff,Zad,Zaf,b1,h2']
   exact hfin (.inr h2)
  | false =>
   have h2':((keysR q).2.1.toList == (⟨#[]⟩:ByteArray).toList)=false:=h2
   rw [if_neg (by simp [h1,h2])] at h
   simp only [ZB,insVc,pickK,sopK,sopV,invK,ne_eq,Nat.reduceEqDiff,reduceCtorEq,Zac,Zae,Zab,Za,Zaf,b1,h2']
   refine St.putOk P.2 (keysR q).2.1 ⟨#[]⟩ w5 _ hA5 hf2 ?_
   intro w6 hm6 hA6
   simp only [ZB,endK,resK,packed,insVc,Zad]
   exact h w6 (hm15.trans hm6) hA6
 ·have b1:(P.1 != 0)=true:=by simpa using h1
  simp only [ZB,endK,resK,packed,insVc,pickK,ne_eq,Nat.reduceEqDiff,Zad,Zaa,b1]
  exact hfin (.inl h1)
def Sto.madd {σ:Type} (St:Sto σ) (s:σ) (q:Ms):Int × σ :=
 if (keysR q).2.2≠0 then ((keysR q).2.2,s) else
 if (St.get s (keysR q).1).1.2.2≠0 then ((St.get s (keysR q).1).1.2.2,(St.get s (keysR q).1).2) else
 if (St.get s (keysR q).1).1.2.1=true then (22,(St.get s (keysR q).1).2) else St.mput (St.get s (keysR q).1).2 q
theorem keysR_size (q:Ms):(keysR q).1.size≤255:=by
 unfold keysR
 split
 ·exact keyL_size _ _ (by simp)
 ·exact keyL_size _ _ (by simp)
theorem madd_c {σ:Type} (St:Sto σ) (s:σ) (q:Ms) (m:Int) (w:World) (K:Value→World→Prop) (hAt:St.At s w) (hg:Gl m w) (hs:q.queue.size<4294967281) (hi:q.id<2^64) (hq:q.good)
  (hf:St.fit (St.get s (keysR q).1).2) (hf2:St.fit (St.put (St.get s (keysR q).1).2 (keysR q).1 (mbytes q)).2) (h0:3<w.heap.size)
  (h:∀w',Mod St.own w w'→St.At (St.madd s q).2 w'→K (.int .i64 (St.madd s q).1) w') :
  Ok prog 84 #[.iface St.t St.v,q.val] w K:=by
 refine F84.enter (args:=[.iface St.t St.v,q.val]) (by simp) ?_
 unfold c84 r84
 simp only [ZB,insVc,loadNK,Value.cells,ne_eq,Nat.reduceEqDiff,Nat.reduceAdd,Nat.reduceLeDiff,Zac,Zae,Zab,Za,Zag,Zai,Zak,Zaj,Zar,Zap,Zaq,Zao,Zas,Zat,Zbl,Ms.val,Ms.cells]
 refine callK_gen ?_
 intro w1 hw1
 have hm1:Mod (fun _=>False) w w1:=by rw [hw1];exact (Mod.refl _ _).alloc _
 have e1:w1.heap[w.heap.size]? = some (.cells #[.string q.queue,.int .u64 q.id,.int .u32 q.tries,.int .u64 q.expiry,.string q.body] 128 (0,0)):=by rw [hw1];exact get_alloc_new _ _
 clear hw1
 refine keys_c q m w1 _ (hg.mod hm1 id) hs hi hq.2.1 ?_
 intro w2 hm2
 have e2:=hm2.keep e1 id
 have hm12:=hm1.trans hm2
 have hA2:=St.keep0 hAt hm12
 unfold Sto.madd at h
 have hfoot:¬St.foot w.heap.size:=fun x=>by have:=St.footLt s w _ hAt x;omega
 have hno:¬St.own w.heap.size:=fun x=>hfoot (St.ownFoot _ x)
 simp only [ZB,insVc,iopK,iopV,extK,ne_eq,Nat.reduceEqDiff,reduceCtorEq,Za,Zag,Zah]
 refine condP_split ?_ ?_
 ·intro hc
  have hc':(keysR q).2.2≠0:=by simpa using hc
  rw [if_pos hc'] at h
  simp only [ZB,endK,resK,packed,insVc,ne_eq,Nat.reduceEqDiff,Zad]
  exact h w2 (hm12.mono fun _ _ x=>x.elim) hA2
 intro hc
 have hc':(keysR q).2.2=0:=by simpa using hc
 rw [if_neg (by simpa using hc')] at h
 simp only [ZB,insVc,invK,ne_eq,Nat.reduceEqDiff,reduceCtorEq,Zac,Zae,Zab,Za]
 refine St.getOk s (keysR q).1 w2 _ hA2 (keysR_size q) ?_
 intro w3 hm3 hA3
 have e3:=hm3.keep e2 hno
 have hm13:Mod St.own w w3:=(hm12.mono fun _ _ x=>x.elim).trans hm3
 revert h hf hf2 hA3
 generalize St.get s (keysR q).1=G
 intro hf hf2 h hA3
 simp only [ZB,insVc,iopK,iopV,extK,ne_eq,Nat.reduceEqDiff,reduceCtorEq,Za,Zag,Zah]
 refine condP_split ?_ ?_
 ·intro hc
  have hc1:G.1.2.2≠0:=by simpa using hc
  rw [if_pos hc1] at h
  simp only [ZB,endK,resK,packed,insVc,ne_eq,Nat.reduceEqDiff,Zad]
  exact h w3 hm13 hA3
 intro hc
 have hc1:G.1.2.2=0:=by simpa using hc
 rw [if_neg (by simpa using hc1)] at h
 simp only [ZB,insVc,ne_eq,Nat.reduceEqDiff]
 refine condP_split ?_ ?_
 ·intro hk
  rw [if_pos hk] at h
  simp only [ZB,endK,resK,packed,insVc,Zad]
  exact h w3 hm13 hA3
 intro hk
 rw [if_neg (by simp [hk])] at h
 simp only [ZB,insVc,loadNK,ne_eq,Nat.reduceEqDiff,Nat.reduceAdd,Nat.reduceLeDiff,reduceCtorEq,Zac,Zae,Zab,Za,Zai,Zak,Zaj,Zar,Zap,Zaq,Zao,Zas,Zat,e3]
 refine mput66_c St G.2 q m w3 _ hA3 (hg.mod hm13 (fun x=>St.own0 x)) hs hi hq hf hf2 ?_
 intro w4 hm4 hA4
 simp only [ZB,endK,resK,packed,insVc,Zad]
 exact h w4 (hm13.trans hm4) hA4
end Go.Oct
