import Derived.Test.YtpggpopbkmgodaaGreatDoorVnC
import Derived.Test.YtpggpopbkmgodaaGreatDoorVcL
import Derived.Test.YtpggpopbkmgodaaGreatDoorProg
import Derived.Test.YtpggpopbkmgodaaGreatDoorVcI
import Derived.Test.YtpggpopbkmgodaaGreatDoorVoB
set_option linter.unusedSimpArgs false
set_option linter.unusedVariables false
set_option linter.unusedSectionVars false
set_option linter.unnecessarySimpa false
namespace Go.Oct
open Go Go.Vc Go.VrA Go.VrK Go.VrL Go.Tal Go.Proofs.Tryz
set_option maxRecDepth 100000
def rdV (v:Value):Option (DataW Value × List MemPlace):=some (.held v,[])
def TalAt (kt tt:TypeId) (w:World) (tb mb n:Nat) (kl:Lit) (r:Rw):Prop :=
 w.heap[tb]? = some (.cells #[.map (some mb)] tt (0,0))∧(∃D:DataW Value,w.ownsMap prog kt rdV mb n D∧D.atKey kl (.held Rw.zero.val) = .held r.val)∧tb≠mb
theorem TalAt.keep {kt tt:TypeId} {w w':World} {S:Nat→Prop} {tb mb n:Nat} {kl:Lit} {r:Rw} (h:TalAt kt tt w tb mb n kl r) (hm:Mod S w w') (hs:¬S tb) (hs':¬S mb):TalAt kt tt w' tb mb n kl r:=by
 obtain ⟨h1,⟨D,ho,hD⟩,h2⟩:=h
 refine ⟨hm.keep h1 hs,⟨D, ?_,hD⟩,h2⟩
 obtain ⟨es,clock,hb,F,hsz,hD⟩:=ho
 exact ⟨es,clock,hm.keep hb hs',F,hsz,hD⟩
theorem zRow (w:World):(zeroValue 42).run prog w = .ok Rw.zero.val w:=by kernel_rfl
theorem TalAt.look {kt tt mt:TypeId} {w:World} {tb mb n:Nat} {kl:Lit} {kv:Value} {r:Rw} (h:TalAt kt tt w tb mb n kl r) (K:Maps.Keyed prog kt) (ht:(prog).underlying mt=some (.map kt 42)) (hk:keyOf prog kt kv=some kl) :
  (Instr.lookup mt (.map (some mb)) kv false).run prog w = .ok r.val w:=by
 obtain ⟨_,⟨D,ho,hD⟩,_⟩:=h
 obtain ⟨v,ps,hr,hv⟩:=World.ownsMap.lookup ho K ht (zRow w) (rfl:rdV Rw.zero.val=some (.held Rw.zero.val,[])) hk
 rw [hD] at hv
 have:v=r.val:=by unfold rdV at hv;cases hv;rfl
 rw [← this];exact hr
theorem TalAt.store {kt tt mt:TypeId} {w:World} {tb mb n:Nat} {kl:Lit} {kv:Value} {r:Rw} (h:TalAt kt tt w tb mb n kl r) (K:Maps.Keyed prog kt) (ht:(prog).underlying mt=some (.map kt 42)) (hk:keyOf prog kt kv=some kl) (hkl:WideAt.IsKeyLit kl) (hn:n<maxLen) (r':Rw) :
  ∃w',(Instr.mapUpdate mt (.map (some mb)) kv r'.val).run prog w = .ok () w'∧TalAt kt tt w' tb mb (n+1) kl r'∧Mod (fun i=>i=mb) w w':=by
 obtain ⟨h1,⟨D,ho,hD⟩,h2⟩:=h
 obtain ⟨w',hr,ho',hg⟩:=World.ownsMap.update ho K ht hn hk (rfl:rdV r'.val=some (.held r'.val,[]))
 have hm:Mod (fun i=>i=mb) w w':=⟨hg.os,hg.tape,hg.output,hg.size,fun i hi hs=>hg.block i hi (fun e=>hs (Option.some.inj e))⟩
 refine ⟨w',hr,⟨hm.keep h1 h2,⟨_,ho', ?_⟩,h2⟩,hm⟩
 obtain ⟨es,clock,hb,F,hsz,rfl⟩:=ho
 exact Maps.atKey_put_same ⟨_,rfl⟩ hkl _ _
theorem one_good (x:Nat) (hx:x<18446744073709551616):(Rw.one x).good:=by
 refine ⟨(by decide:(1:Nat)<18446744073709551616),hx,hx,hx,by simp [Rw.one,zs], ?_⟩
 intro n hn
 have hn':n∈zs.set (cls x) 1:=hn
 rcases List.mem_or_eq_of_mem_set hn' with h|h
 ·have:=List.eq_of_mem_replicate h
  omega
 ·omega
section
end
theorem tKeyS:(prog).underlying 9=some .string:=by kernel_rfl
theorem tMapS:(prog).underlying 70=some (.map 9 42):=by kernel_rfl
theorem newS_c (w:World) (K:Value→World→Prop) (h:∀w' tb mb,Mod (fun _=>False) w w'→w.heap.size≤tb→w.heap.size≤mb→(∀kl,TalAt 9 72 w' tb mb 0 kl Rw.zero)→K (ptr tb) w'):Ok prog 8 #[] w K:=by
 refine F8.enter (args:=[]) (by simp) ?_
 unfold c8 r8
 simp only [ZB,insVc]
 refine rawK_makeMap rfl ?_
 simp only [ZB,endK,resK,packed,insVc,buildK,fillL,Value.cells,Nat.reduceLeDiff,Zai,Zak,Zaj,Zbe,Zbf,Zbd,Zbc,Zal,Zam,Zad,Zbh,Zaa]
 refine h _ (w.heap.size+1) w.heap.size (((Mod.refl _ _).alloc _).alloc _) (by omega) (Nat.le_refl _) (fun kl=>⟨by simp only [Zaa,Zaf,size_alloc,get_alloc,size_alloc,Zba,Zaz],⟨.map [],(World.ownsMap_made w prog 9 rdV).alloc _,rfl⟩,by omega⟩)
theorem ofS_c (tb mb n:Nat) (kv:Value) (kl:Lit) (r:Rw) (w:World) (K:Value→World→Prop) (hr:r.good) (ht:TalAt 9 72 w tb mb n kl r) (hk:keyOf prog 9 kv=some kl)
  (h:∀w',Mod (fun _=>False) w w'→K r.val w'):Ok prog 24 #[ptr tb,kv] w K:=by
 refine F24.enter (args:=[ptr tb,kv]) (by simp) ?_
 unfold c24 r24
 have ht0:=ht.1
 have htl:=lt_of_get ht0
 have nt:tb≠w.heap.size:=by omega
 simp only [ZB,insVc,load1K,nilK,nilOf,pnilK,faddrK,Value.cells,ne_eq,Nat.reduceEqDiff,reduceCtorEq,Zac,Za,Zag,Zah,Zaf,Zbq,get_alloc,Nat.reduceEqDiff,ht0,nt]
 refine rawK_gen ?_
 intro w1 hw1
 have hm1:Mod (fun _=>False) w w1:=by rw [hw1];exact (Mod.refl _ _).alloc _
 have c1:w1.heap[w.heap.size]? = some (.cells Rw.zero.cells.toArray 42 (0,0)):=by rw [hw1];exact get_alloc_new _ _
 clear hw1
 have zz:Rw.zero.cells.toArray.size=69:=by decide
 have zl:69≤Rw.zero.cells.length:=by decide
 have lc:=lt_of_get c1
 have hrz:r.cells.toArray.size=69:=by rw [List.size_toArray];exact cells_len r hr
 have re:r.cells.toArray.extract 0 69=r.cells.toArray:=by rw [← hrz];exact Array.extract_size
 have pr:r.cells.all isPlain=true:=by simp [Rw.cells,numV,isPlain]
 have se1:setMany Rw.zero.cells.toArray 0 r.cells=r.cells.toArray:=setMany_all _ _ (by rw [zz,cells_len r hr])
 refine rawK_lookup rfl rfl rfl (by simpa only [vc_skip,vc_seq,vc_cond,vc_block,vc_exit,vc_ret,vc_ops,vcOps_nil,vcOps_cons,vcOps_gate,gateK_true,gateK_false,gate_true,gate_false,gate_undef,goL_apply,thenQ_normal,thenQ_ret,thenQ_exit,blockQ_normal,blockQ_ret,blockQ_same,blockQ_exit,condP_true,condP_false,upd_same,upd_other,updO_some,updO_none,ev_tmp,ev_const,ev_global,ev_func,endQ_ret,endQ_normal,endK,resK,resN,res1,resO_cells,resNO_cells,packed,initE_at,insVc,pickK,load1K,loadO_cells,loadV_some,loadV_none,loadNK,loadNO_cells,storeK,storeO_cells,storeNK,storeNO_cells,setMany,nilK,nilM,iopK,iopV,sopK,sopV,bopK,nilOf,pnilK,notK,convK,sameK,faddrK,fld1K,fldNK,iaddrK,iaddrAK,sidxK,extK,lenSK,lenLK,callvK,invK,buildK,fillL,buildSK,boundOf,slSK,slLK,slAK,isPlain,Value.cells,ne_eq,not_false_eq_true,not_true_eq_false,Nat.reduceEqDiff,Nat.reduceAdd,Nat.reduceLT,Nat.reduceLeDiff,reduceCtorEq,Bool.not_true,Bool.not_false,Option.map_some,Option.map_none,Option.getD_some,Option.getD_none,List.map_cons,List.map_nil,List.getElem?_cons_zero,List.getElem?_cons_succ,List.getElem?_nil,List.getElem?_toArray,List.size_toArray,List.length_cons,List.length_nil,List.zipIdx_cons,List.zipIdx_nil,List.foldl_cons,List.foldl_nil,List.setIfInBounds_toArray,List.set_cons_zero,List.set_cons_succ,List.append_eq,List.nil_append,List.cons_append,List.append_nil,List.toList_toArray,true_and,and_true,true_or,or_true,or_false,false_or,and_self,if_true,if_false,ite_true,ite_false,Bool.false_eq_true,Nat.zero_add,Nat.add_zero,decide_true,decide_false,Bool.and_true,Bool.and_false,Bool.true_and,Bool.false_and,Option.isNone_some,Option.isNone_none,Int.reduceLT,Int.reduceLE,Int.reduceToNat,Int.toNat_natCast,Int.reduceAdd,Int.reduceSub,Int.reduceMul,Int.reduceNeg,Int.reduceEq,Int.reduceNe,Int.reduceBEq,Int.reduceBNe,Nat.mul_one,List.extract_toArray,List.extract_eq_take_drop,List.drop_zero,List.drop_succ_cons,List.take_zero,List.take_succ_cons,Nat.sub_zero,Nat.add_sub_cancel,Nat.add_sub_cancel_left,vcS_nil,vcS_cons,vcS_gate,gateS_true,gateS_false,stepB_true,stepB_false,pureI,Nat.zero_mul,Nat.one_mul,Nat.reduceMul,Nat.reduceSub,List.all_toArray',List.all_cons,List.all_nil,size_set,size_alloc,size_drew,get_alloc_new,get_set_same,get_drew,Nat.lt_add_one,vcD_nil,vcD_cons,vcD_gate,gateD_true,gateD_false,stepD_pure,stepD_load,stepD_step,kindI,loadI] using (ht.keep hm1 id id).look (Maps.string_keyed tKeyS) tMapS hk) ?_
 simp only [ZB,endK,resK,resN,packed,insVc,storeNK,isPlain,ne_eq,Nat.reduceEqDiff,Nat.reduceLeDiff,Zai,Zad,Zau,Zbb,Nat.reduceEqDiff,Rw.val,c1,lc,pr,zl,hrz,re,se1]
 exact h _ (hm1.set (.inl (Nat.le_refl _)))
theorem addS_c (tb mb n x:Nat) (kv:Value) (kl:Lit) (r:Rw) (w:World) (K:Value→World→Prop) (hr:r.good) (hx:x<18446744073709551616) (ht:TalAt 9 72 w tb mb n kl r) (hk:keyOf prog 9 kv=some kl) (hkl:WideAt.IsKeyLit kl) (hn:n<maxLen)
  (h:∀w' v,Mod (fun k=>k=mb) w w'→TalAt 9 72 w' tb mb (n+1) kl (r.plus (Rw.one x))→K v w'):Ok prog 9 #[ptr tb,kv,.int .u64 x] w K:=by
 refine F9.enter (args:=[ptr tb,kv,.int .u64 x]) (by simp) ?_
 unfold c9 r9
 simp only [ZB,insVc,storeNK,setMany,nilOf,pnilK,buildK,fillL,isPlain,Value.cells,ne_eq,Nat.reduceEqDiff,Nat.reduceAdd,Nat.reduceLeDiff,Zac,Zae,Zab,Za,Zag,Zai,Zak,Zaj,Zbe,Zbf,Zbd,Zbc,Zal,Zam,Zan,Zbh,Zaa,Zaf,Zbq,Zau,Zav,Zax,get_alloc,Nat.reduceAdd,Nat.reduceEqDiff]
 refine callK_gen ?_
 intro w1 hw1
 have hm1:Mod (fun _=>False) w w1:=by rw [hw1];exact ((Mod.refl _ _).alloc _).set (.inl (Nat.le_refl _))
 have c1:w1.heap[w.heap.size]? = some (.cells (Rw.mk 1 x x x zs).cells.toArray 42 (0,0)):=by rw [hw1];simp only [size_alloc,Zbb,Zay,size_alloc];rfl
 clear hw1
 refine class_c x w1 _ hx ?_
 have hcls:=cls_le hx
 have h0i:(0:Int)≤(cls x:Nat)∧((cls x:Nat):Int)<((65:Nat):Int):=by omega
 have hone:(Rw.mk 1 x x x zs).cells.set (4+cls x) (.int .u64 1)=(Rw.one x).cells:=cells_set (Rw.mk 1 x x x zs) (cls x) 1
 have hog:=one_good x hx
 simp only [ZB,insVc,storeK,faddrK,iaddrAK,isPlain,ne_eq,Nat.reduceEqDiff,Zai,Zal,Zbj,Zbm,Nat.reduceEqDiff,c1,h0i,hone]
 refine ⟨⟨by simp [Rw.cells,numV,zs];omega,by simp⟩, ?_⟩
 refine vc_genT ?_
 intro w2 hw2
 have hm2:Mod (fun _=>False) w w2:=by rw [hw2];exact hm1.set (.inl (Nat.le_refl _))
 have c2:w2.heap[w.heap.size]? = some (.cells (Rw.one x).cells.toArray 42 (0,0)):=by rw [hw2];exact get_set_same _ _ _ (lt_of_get c1)
 clear hw2
 have ht2:=ht.keep hm2 id id
 have hsz:(Rw.one x).cells.toArray.size=69:=by rw [List.size_toArray];exact cells_len _ hog
 have hex:(Rw.one x).cells.toArray.extract 0 69=(Rw.one x).cells.toArray:=by rw [← hsz];exact Array.extract_size
 refine draw_c (dp:=[[],[0],[1],[2],[],[],[5],[6],[7],[],[8,9],[],[10,11],[3,4,12,12,0,1,2,3,4,5,6,7,8,9,10,11,12]]) (N:=13)
  (fun L ρ u=>RegI [(0,ptr tb),(1,kv),(6,ptr w.heap.size)]
   [(0,17,ptr tb),(1,18,ptr tb),(2,19,ptr tb),(3,20,.map (some mb)),(4,21,kv),(5,22,ptr tb),(6,23,ptr tb),(7,24,ptr tb),(8,25,.map (some mb)),(9,26,kv),(10,27,r.val),(11,28,(Rw.one x).val),(12,29,(r.plus (Rw.one x)).val)] L ρ ∧
   Mod (fun _=>False) w2 u)
  (by kernel_rfl) (by kernel_rfl) (by kernel_rfl) (by kernel_rfl) (by kernel_rfl) (by kernel_rfl) rfl rfl (by kernel_rfl) ?_ ?_ ?_
 ·refine ⟨RegI.start ?_,(Mod.refl _ _).drew⟩
  intro p hp
  simp only [Zbo,Zbp,or_false] at hp
  rcases hp with rfl|rfl|rfl <;> simp only [ZB,ne_eq,Nat.reduceEqDiff,reduceCtorEq,Zac,Za,Zag]
 ·rintro L ρ u k y d hk15 hx' hd hL hdeps hcl ⟨hI,hmu⟩
  have htu:=ht2.keep hmu id id
  have tu:=htu.1
  have cu:=hmu.keep c2 id
  obtain rfl|rfl|rfl|rfl|rfl|rfl|rfl|rfl|rfl|rfl|rfl|rfl|rfl:k=0∨k=1∨k=2∨k=3∨k=4∨k=5∨k=6∨k=7∨k=8∨k=9∨k=10∨k=11∨k=12:=by omega
  all_goals (obtain rfl:=Option.some.inj hx';obtain rfl:=Option.some.inj hd)
  ·simp only [updO_some,ev_tmp,insVc,hI.frm (d:=0) (v:=ptr tb) (by simp)]
   exact ⟨hI.put 0 17 _ rfl (by simp) rfl,hmu⟩
  ·simp only [updO_some,ev_tmp,insVc,nilK,hI.get (k:=0) (d:=17) (v:=ptr tb) (by simp) (hdeps 0 (by decide))]
   exact ⟨hI.put 1 18 _ rfl (by simp) rfl,hmu⟩
  ·simp only [updO_some,ev_tmp,insVc,faddrK,Nat.add_zero,hI.get (k:=1) (d:=18) (v:=ptr tb) (by simp) (hdeps 1 (by decide))]
   exact ⟨hI.put 2 19 _ rfl (by simp) rfl,hmu⟩
  ·simp only [ZB,insVc,load1K,Za,Zah,hI.get (k:=2) (d:=19) (v:=ptr tb) (by simp) (hdeps 2 (by decide)),tu]
   exact ⟨hI.put 3 20 _ rfl (by simp) rfl,hmu⟩
  ·simp only [updO_some,ev_tmp,insVc,hI.frm (d:=1) (v:=kv) (by simp)]
   exact ⟨hI.put 4 21 _ rfl (by simp) rfl,hmu⟩
  ·simp only [updO_some,ev_tmp,insVc,hI.frm (d:=0) (v:=ptr tb) (by simp)]
   exact ⟨hI.put 5 22 _ rfl (by simp) rfl,hmu⟩
  ·simp only [updO_some,ev_tmp,insVc,nilK,hI.get (k:=5) (d:=22) (v:=ptr tb) (by simp) (hdeps 5 (by decide))]
   exact ⟨hI.put 6 23 _ rfl (by simp) rfl,hmu⟩
  ·simp only [updO_some,ev_tmp,insVc,faddrK,Nat.add_zero,hI.get (k:=6) (d:=23) (v:=ptr tb) (by simp) (hdeps 6 (by decide))]
   exact ⟨hI.put 7 24 _ rfl (by simp) rfl,hmu⟩
  ·simp only [ZB,insVc,load1K,Za,Zah,hI.get (k:=7) (d:=24) (v:=ptr tb) (by simp) (hdeps 7 (by decide)),tu]
   exact ⟨hI.put 8 25 _ rfl (by simp) rfl,hmu⟩
  ·simp only [updO_some,ev_tmp,insVc,hI.frm (d:=1) (v:=kv) (by simp)]
   exact ⟨hI.put 9 26 _ rfl (by simp) rfl,hmu⟩
  ·simp only [updO_some,insVc]
   refine rawK_lookup rfl rfl rfl (by simpa only [vc_skip,vc_seq,vc_cond,vc_block,vc_exit,vc_ret,vc_ops,vcOps_nil,vcOps_cons,vcOps_gate,gateK_true,gateK_false,gate_true,gate_false,gate_undef,goL_apply,thenQ_normal,thenQ_ret,thenQ_exit,blockQ_normal,blockQ_ret,blockQ_same,blockQ_exit,condP_true,condP_false,upd_same,upd_other,updO_some,updO_none,ev_tmp,ev_const,ev_global,ev_func,endQ_ret,endQ_normal,endK,resK,resN,res1,resO_cells,resNO_cells,packed,initE_at,insVc,pickK,load1K,loadO_cells,loadV_some,loadV_none,loadNK,loadNO_cells,storeK,storeO_cells,storeNK,storeNO_cells,setMany,nilK,nilM,iopK,iopV,sopK,sopV,bopK,nilOf,pnilK,notK,convK,sameK,faddrK,fld1K,fldNK,iaddrK,iaddrAK,sidxK,extK,lenSK,lenLK,callvK,invK,buildK,fillL,buildSK,boundOf,slSK,slLK,slAK,isPlain,Value.cells,ne_eq,not_false_eq_true,not_true_eq_false,Nat.reduceEqDiff,Nat.reduceAdd,Nat.reduceLT,Nat.reduceLeDiff,reduceCtorEq,Bool.not_true,Bool.not_false,Option.map_some,Option.map_none,Option.getD_some,Option.getD_none,List.map_cons,List.map_nil,List.getElem?_cons_zero,List.getElem?_cons_succ,List.getElem?_nil,List.getElem?_toArray,List.size_toArray,List.length_cons,List.length_nil,List.zipIdx_cons,List.zipIdx_nil,List.foldl_cons,List.foldl_nil,List.setIfInBounds_toArray,List.set_cons_zero,List.set_cons_succ,List.append_eq,List.nil_append,List.cons_append,List.append_nil,List.toList_toArray,true_and,and_true,true_or,or_true,or_false,false_or,and_self,if_true,if_false,ite_true,ite_false,Bool.false_eq_true,Nat.zero_add,Nat.add_zero,decide_true,decide_false,Bool.and_true,Bool.and_false,Bool.true_and,Bool.false_and,Option.isNone_some,Option.isNone_none,Int.reduceLT,Int.reduceLE,Int.reduceToNat,Int.toNat_natCast,Int.reduceAdd,Int.reduceSub,Int.reduceMul,Int.reduceNeg,Int.reduceEq,Int.reduceNe,Int.reduceBEq,Int.reduceBNe,Nat.mul_one,List.extract_toArray,List.extract_eq_take_drop,List.drop_zero,List.drop_succ_cons,List.take_zero,List.take_succ_cons,Nat.sub_zero,Nat.add_sub_cancel,Nat.add_sub_cancel_left,vcS_nil,vcS_cons,vcS_gate,gateS_true,gateS_false,stepB_true,stepB_false,pureI,Nat.zero_mul,Nat.one_mul,Nat.reduceMul,Nat.reduceSub,List.all_toArray',List.all_cons,List.all_nil,size_set,size_alloc,size_drew,get_alloc_new,get_set_same,get_drew,Nat.lt_add_one,vcD_nil,vcD_cons,vcD_gate,gateD_true,gateD_false,stepD_pure,stepD_load,stepD_step,kindI,loadI,hI.get (k:=8) (d:=25) (v:=(.map (some mb))) (by simp) (hdeps 8 (by decide)),hI.get (k:=9) (d:=26) (v:=kv) (by simp) (hdeps 9 (by decide))] using htu.look (Maps.string_keyed tKeyS) tMapS hk) ?_
   exact ⟨hI.put 10 27 _ rfl (by simp) rfl,hmu⟩
  ·simp only [ZB,insVc,loadNK,Nat.reduceLeDiff,hI.frm (d:=6) (v:=ptr w.heap.size) (by simp),cu,hsz,hex]
   exact ⟨hI.put 11 28 _ rfl (by simp [Rw.val]) rfl,hmu⟩
  ·simp only [updO_some,ev_tmp,insVc,Zae,Zab,hI.get (k:=10) (d:=27) (v:=r.val) (by simp) (hdeps 10 (by decide)),hI.get (k:=11) (d:=28) (v:=(Rw.one x).val) (by simp) (hdeps 11 (by decide))]
   refine plus_c r (Rw.one x) u _ hr hog ?_
   intro u2 hm2
   exact ⟨hI.put 12 29 _ rfl (by simp) rfl,hmu.trans hm2⟩
 ·rintro L ρ u y hall ⟨hI,hmu⟩ hx'
  obtain rfl:=Option.some.inj hx'
  have htu:=ht2.keep hmu id id
  obtain ⟨u2,hr2,ht3,hm3⟩:=htu.store (Maps.string_keyed tKeyS) tMapS hk hkl hn (r.plus (Rw.one x))
  refine rawK_mapUpdate rfl rfl rfl rfl (by simpa only [vc_skip,vc_seq,vc_cond,vc_block,vc_exit,vc_ret,vc_ops,vcOps_nil,vcOps_cons,vcOps_gate,gateK_true,gateK_false,gate_true,gate_false,gate_undef,goL_apply,thenQ_normal,thenQ_ret,thenQ_exit,blockQ_normal,blockQ_ret,blockQ_same,blockQ_exit,condP_true,condP_false,upd_same,upd_other,updO_some,updO_none,ev_tmp,ev_const,ev_global,ev_func,endQ_ret,endQ_normal,endK,resK,resN,res1,resO_cells,resNO_cells,packed,initE_at,insVc,pickK,load1K,loadO_cells,loadV_some,loadV_none,loadNK,loadNO_cells,storeK,storeO_cells,storeNK,storeNO_cells,setMany,nilK,nilM,iopK,iopV,sopK,sopV,bopK,nilOf,pnilK,notK,convK,sameK,faddrK,fld1K,fldNK,iaddrK,iaddrAK,sidxK,extK,lenSK,lenLK,callvK,invK,buildK,fillL,buildSK,boundOf,slSK,slLK,slAK,isPlain,Value.cells,ne_eq,not_false_eq_true,not_true_eq_false,Nat.reduceEqDiff,Nat.reduceAdd,Nat.reduceLT,Nat.reduceLeDiff,reduceCtorEq,Bool.not_true,Bool.not_false,Option.map_some,Option.map_none,Option.getD_some,Option.getD_none,List.map_cons,List.map_nil,List.getElem?_cons_zero,List.getElem?_cons_succ,List.getElem?_nil,List.getElem?_toArray,List.size_toArray,List.length_cons,List.length_nil,List.zipIdx_cons,List.zipIdx_nil,List.foldl_cons,List.foldl_nil,List.setIfInBounds_toArray,List.set_cons_zero,List.set_cons_succ,List.append_eq,List.nil_append,List.cons_append,List.append_nil,List.toList_toArray,true_and,and_true,true_or,or_true,or_false,false_or,and_self,if_true,if_false,ite_true,ite_false,Bool.false_eq_true,Nat.zero_add,Nat.add_zero,decide_true,decide_false,Bool.and_true,Bool.and_false,Bool.true_and,Bool.false_and,Option.isNone_some,Option.isNone_none,Int.reduceLT,Int.reduceLE,Int.reduceToNat,Int.toNat_natCast,Int.reduceAdd,Int.reduceSub,Int.reduceMul,Int.reduceNeg,Int.reduceEq,Int.reduceNe,Int.reduceBEq,Int.reduceBNe,Nat.mul_one,List.extract_toArray,List.extract_eq_take_drop,List.drop_zero,List.drop_succ_cons,List.take_zero,List.take_succ_cons,Nat.sub_zero,Nat.add_sub_cancel,Nat.add_sub_cancel_left,vcS_nil,vcS_cons,vcS_gate,gateS_true,gateS_false,stepB_true,stepB_false,pureI,Nat.zero_mul,Nat.one_mul,Nat.reduceMul,Nat.reduceSub,List.all_toArray',List.all_cons,List.all_nil,size_set,size_alloc,size_drew,get_alloc_new,get_set_same,get_drew,Nat.lt_add_one,vcD_nil,vcD_cons,vcD_gate,gateD_true,gateD_false,stepD_pure,stepD_load,stepD_step,kindI,loadI,hI.get (k:=3) (d:=20) (v:=(.map (some mb))) (by simp) (hall 3 (by decide)),hI.get (k:=4) (d:=21) (v:=kv) (by simp) (hall 4 (by decide)),hI.get (k:=12) (d:=29) (v:=(r.plus (Rw.one x)).val) (by simp) (hall 12 (by decide))] using hr2) ?_
  simp only [updO_none,endQ_normal,endK,resK,packed]
  exact h u2 _ (((hm2.trans hmu).mono fun _ _ x=>x.elim).then hm3 (fun _ _ x=>x)) ht3
end Go.Oct
namespace Go.Vc
open Go
variable {P:Program} {n:Nat}
def rounds (P:Program) (ro:Option Nat) (n:Nat) (b:CC) (Q:QT) (m:Nat):Env→List Deferred→World→Prop :=
 fun ρ ds w=>vc P ro n b (thenQ (fun ρ' ds' w' => ∃m',∃_:m'<m,rounds P ro n b Q m' ρ' ds' w') Q) ρ ds w
termination_by m
theorem rounds_eq (ro:Option Nat) (b:CC) (Q:QT) (m:Nat) (ρ:Env) (ds:List Deferred) (w:World) :
  rounds P ro n b Q m ρ ds w=vc P ro n b (thenQ (fun ρ' ds' w' => ∃m',∃_:m'<m,rounds P ro n b Q m' ρ' ds' w') Q) ρ ds w:=by
 rw [rounds]
theorem vc_rounds {ro:Option Nat} {b:CC} {Q:QT} {ρ:Env} {ds:List Deferred} {w:World} (m:Nat)
  (h:vc P ro n b (thenQ (fun ρ' ds' w' => ∃m',∃_:m'<m,rounds P ro n b Q m' ρ' ds' w') Q) ρ ds w):vc P ro n (.loop b) Q ρ ds w:=by
 refine vc_loop (fun m ρ ds w=>rounds P ro n b Q m ρ ds w) m (by rw [rounds_eq];exact h) ?_
 intro m ρ ds w h
 rw [rounds_eq] at h
 simpa only [exists_prop] using h
theorem round_next {ro:Option Nat} {b:CC} {Q:QT} {ρ:Env} {ds:List Deferred} {w:World} {m:Nat}
  (h:vc P ro n b (thenQ (fun ρ' ds' w' => ∃m',∃_:m'<m,rounds P ro n b Q m' ρ' ds' w') Q) ρ ds w):∃m',∃_:m'<m+1,rounds P ro n b Q m' ρ ds w :=
 ⟨m,Nat.lt_succ_self m,by rw [rounds_eq];exact h⟩
end Go.Vc
namespace Go.VrH
open Go Go.Vc Go.Proofs.Tryz
set_option maxRecDepth 100000
noncomputable def c55:CC:=(.seq (.ops [⟨none,(some 0),(.mv (.const (.bool false)))⟩])
 (.seq (.ops [⟨none,(some 1),(.call 70 [])⟩,⟨none,(some 0),(.mv (.tmp 1))⟩])
 .ret))
abbrev r55:List RV:=[(.tmp 0)]
theorem F55:FnOk prog 55 2 c55 r55:=FnOk.o func55
noncomputable def c73:CC:=(.seq (.ops [⟨none,(some 0),(.alloc 139 (.agg #[.nilFunc,(.slice none 0 0)]))⟩])
 (.seq (.ops [⟨none,(some 1),(.call 91 [(.func 92)])⟩,⟨none,none,(.storeN 2 (.tmp 0) (.tmp 1))⟩])
 .ret))
abbrev r73:List RV:=[(.cN 0 2)]
theorem F73:FnOk prog 73 2 c73 r73:=FnOk.o func73
noncomputable def c151:CC:=(.seq (.ops [⟨none,(some 1),(.box 139 (.tmp 0))⟩,⟨none,(some 2),(.mv (.const .nilFunc))⟩])
 (.seq (.ops [⟨none,(some 3),(.mkF (.func 211) [] [(.tmp 1)])⟩,⟨none,(some 2),(.mv (.tmp 3))⟩])
 .ret))
abbrev r151:List RV:=[(.tmp 2)]
theorem F151:FnOk prog 151 4 c151 r151:=FnOk.o func151
noncomputable def c70:CC:=(.seq (.ops [⟨none,(some 0),(.mv (.const (.bool false)))⟩])
 (.seq (.ops [⟨none,(some 6),(.call 73 [])⟩,⟨none,(some 7),(.build [(.string (.mk #[])),(.int .u64 0)] [(0,(1,(.const (.string (.mk #[120])))))])⟩,⟨none,(some 8),(.call 87 [(.tmp 6),(.tmp 7),(.const (.int .u64 5))])⟩,⟨none,(some 1),(.alloc 139 (.agg #[.nilFunc,(.slice none 0 0)]))⟩,⟨none,none,(.storeN 2 (.tmp 1) (.tmp 8))⟩])
 (.seq (.ops [⟨none,(some 10),(.loadN 2 (.tmp 1))⟩,⟨none,(some 11),(.call 88 [(.tmp 10),(.const (.int .u64 4))])⟩,⟨none,(some 9),(.mv (.tmp 11))⟩,⟨none,(some 12),(.ext (.tmp 9) 0)⟩,⟨none,(some 13),(.ext (.tmp 9) 1)⟩,⟨none,(some 3),(.alloc 139 (.agg #[.nilFunc,(.slice none 0 0)]))⟩,⟨none,(some 2),(.mv (.tmp 12))⟩,⟨none,none,(.storeN 2 (.tmp 3) (.tmp 13))⟩])
 (.seq (.ops [⟨none,(some 15),(.loadN 2 (.tmp 1))⟩,⟨none,(some 16),(.call 88 [(.tmp 15),(.const (.int .u64 5))])⟩,⟨none,(some 14),(.mv (.tmp 16))⟩,⟨none,(some 17),(.ext (.tmp 14) 0)⟩,⟨none,(some 18),(.ext (.tmp 14) 1)⟩,⟨none,(some 5),(.alloc 139 (.agg #[.nilFunc,(.slice none 0 0)]))⟩,⟨none,(some 4),(.mv (.tmp 17))⟩,⟨none,none,(.storeN 2 (.tmp 5) (.tmp 18))⟩])
 (.seq (.ops [⟨none,(some 19),(.mv (.tmp 2))⟩,⟨none,(some 20),(.lenL (.tmp 19))⟩,⟨none,(some 21),(.iop .eql (.tmp 20) (.const (.int .i64 0)))⟩,⟨none,(some 22),(.mv (.tmp 21))⟩,⟨(some (22,true)),(some 23),(.mv (.tmp 4))⟩,⟨(some (22,true)),(some 24),(.lenL (.tmp 23))⟩,⟨(some (22,true)),(some 25),(.iop .eql (.tmp 24) (.const (.int .i64 1)))⟩,⟨none,(some 26),(.pick (.tmp 22) (.tmp 25) (.const (.bool false)))⟩,⟨none,(some 27),(.mv (.tmp 26))⟩,⟨(some (27,true)),(some 28),(.loadN 2 (.tmp 5))⟩,⟨(some (27,true)),(some 29),(.call 89 [(.tmp 28)])⟩,⟨(some (27,true)),(some 30),(.iop .eql (.tmp 29) (.const (.int .i64 0)))⟩,⟨none,(some 31),(.pick (.tmp 27) (.tmp 30) (.const (.bool false)))⟩,⟨none,(some 32),(.mv (.tmp 31))⟩,⟨(some (32,true)),(some 33),(.loadN 2 (.tmp 1))⟩,⟨(some (32,true)),(some 34),(.call 89 [(.tmp 33)])⟩,⟨(some (32,true)),(some 35),(.iop .eql (.tmp 34) (.const (.int .i64 1)))⟩,⟨none,(some 36),(.pick (.tmp 32) (.tmp 35) (.const (.bool false)))⟩,⟨none,(some 0),(.mv (.tmp 36))⟩])
 .ret)))))
abbrev r70:List RV:=[(.tmp 0)]
theorem F70:FnOk prog 70 37 c70 r70:=FnOk.o func70
noncomputable def c91:CC:=(.seq (.ops [⟨none,(some 2),(.alloc 139 (.agg #[.nilFunc,(.slice none 0 0)]))⟩])
 (.seq (.ops [⟨none,(some 3),(.mv (.tmp 0))⟩,⟨none,(some 4),(.build [.nilFunc,(.slice none 0 0)] [(0,(1,(.tmp 3)))])⟩,⟨none,none,(.storeN 2 (.tmp 2) (.tmp 4))⟩])
 .ret))
abbrev r91:List RV:=[(.cN 2 2)]
theorem F91:FnOk prog 91 5 c91 r91:=FnOk.o func91
noncomputable def c92:CC:=(.seq (.ops [⟨none,(some 2),(.box 164 (.tmp 0))⟩,⟨none,(some 3),(.box 164 (.tmp 1))⟩,⟨none,(some 4),(.mv (.const (.int .i64 0)))⟩])
 (.seq (.draw 1 (opsOf (sub (bodyOf f92) [1,0])) [⟨none,(some 5),(.faddr 0 (.tmp 2))⟩,⟨none,(some 6),(.load1 (.tmp 5))⟩,⟨none,(some 7),(.faddr 0 (.tmp 3))⟩,⟨none,(some 8),(.load1 (.tmp 7))⟩,⟨none,(some 9),(.call 155 [(.tmp 6),(.tmp 8)])⟩,⟨none,(some 10),(.faddr 1 (.tmp 2))⟩,⟨none,(some 11),(.load1 (.tmp 10))⟩,⟨none,(some 12),(.faddr 1 (.tmp 3))⟩,⟨none,(some 13),(.load1 (.tmp 12))⟩,⟨none,(some 14),(.call 156 [(.tmp 11),(.tmp 13)])⟩,⟨none,(some 15),(.buildS 3 2 [(.int .i64 0),(.int .i64 0)] [(0,(1,(.tmp 9))),(1,(1,(.tmp 14)))])⟩,⟨none,(some 16),(.call 154 [(.tmp 15)])⟩,⟨none,(some 4),(.mv (.tmp 16))⟩])
 .ret))
abbrev r92:List RV:=[(.tmp 4)]
theorem F92:FnOk prog 92 17 c92 r92:=FnOk.o func92
noncomputable def c211:CC:=(.seq (.ops [⟨none,(some 5),(.faddr 1 (.tmp 1))⟩,⟨none,(some 6),(.load1 (.tmp 5))⟩,⟨none,(some 7),(.lenL (.tmp 6))⟩,⟨none,(some 8),(.mv (.const (.int .i64 0)))⟩])
 (.block 0
 (.loop
 (.seq (.ops [⟨none,(some 9),(.iop .lss (.tmp 8) (.tmp 7))⟩])
 (.seq (.cond (.tmp 9)
 .skip
 (.exit 0))
 (.seq (.block 1
 (.seq (.ops [⟨none,(some 10),(.iaddr 3 (.tmp 6) (.tmp 8))⟩,⟨none,(some 11),(.loadN 3 (.tmp 10))⟩,⟨none,(some 4),(.alloc 233 (.agg #[(.string (.mk #[])),(.int .u64 0),(.int .u64 0)]))⟩,⟨none,none,(.storeN 3 (.tmp 4) (.tmp 11))⟩])
 (.seq (.ops [⟨none,(some 12),(.mv (.tmp 0))⟩,⟨none,(some 13),(.faddr 0 (.tmp 4))⟩,⟨none,(some 14),(.loadN 2 (.tmp 13))⟩,⟨none,(some 15),(.faddr 2 (.tmp 4))⟩,⟨none,(some 16),(.load1 (.tmp 15))⟩,⟨none,(some 17),(.callv (.tmp 12) [(.tmp 14),(.tmp 16)])⟩,⟨none,(some 18),(.not (.tmp 17))⟩])
 (.cond (.tmp 18)
 .ret
 .skip))))
 (.ops [⟨none,(some 19),(.iop .add (.tmp 8) (.const (.int .i64 1)))⟩,⟨none,(some 8),(.mv (.tmp 19))⟩])))))))
abbrev r211:List RV:=[]
theorem F211:FnOk prog 211 20 c211 r211:=FnOk.o func211
noncomputable def c87:CC:=(.seq (.ops [⟨none,(some 3),(.box 139 (.tmp 0))⟩,⟨none,(some 4),(.box 164 (.tmp 1))⟩,⟨none,(some 6),(.alloc 139 (.agg #[.nilFunc,(.slice none 0 0)]))⟩])
 (.seq (.ops [⟨none,(some 10),(.loadN 2 (.tmp 3))⟩,⟨none,(some 11),(.loadN 2 (.tmp 4))⟩,⟨none,(some 12),(.call 146 [(.tmp 10),(.tmp 11)])⟩,⟨none,none,(.storeN 2 (.tmp 3) (.tmp 12))⟩])
 (.seq (.ops [⟨none,(some 13),(.loadN 2 (.tmp 4))⟩,⟨none,(some 14),(.mv (.tmp 2))⟩,⟨none,(some 15),(.build [(.string (.mk #[])),(.int .u64 0),(.int .u64 0)] [(0,(2,(.tmp 13))),(2,(1,(.tmp 14)))])⟩,⟨none,(some 7),(.alloc 233 (.agg #[(.string (.mk #[])),(.int .u64 0),(.int .u64 0)]))⟩,⟨none,none,(.storeN 3 (.tmp 7) (.tmp 15))⟩])
 (.seq (.ops [⟨none,(some 17),(.faddr 1 (.tmp 3))⟩,⟨none,(some 18),(.load1 (.tmp 17))⟩,⟨none,(some 19),(.loadN 3 (.tmp 7))⟩,⟨none,(some 20),(.loadN 2 (.tmp 3))⟩,⟨none,(some 21),(.mkF (.func 148) [(.tmp 20)] [])⟩,⟨none,(some 22),(.call 147 [(.tmp 18),(.tmp 19),(.tmp 21)])⟩,⟨none,(some 16),(.mv (.tmp 22))⟩,⟨none,(some 23),(.ext (.tmp 16) 0)⟩,⟨none,(some 24),(.ext (.tmp 16) 1)⟩,⟨none,(some 8),(.mv (.tmp 23))⟩,⟨none,(some 9),(.mv (.tmp 24))⟩])
 (.seq (.draw 4 (opsOf (sub (bodyOf f87) [1,1,1,1,0])) [⟨none,(some 25),(.faddr 1 (.tmp 3))⟩,⟨none,(some 26),(.load1 (.tmp 25))⟩,⟨none,(some 27),(.call 150 [(.tmp 26)])⟩,⟨none,(some 28),(.mv (.tmp 8))⟩,⟨none,(some 29),(.loadN 3 (.tmp 7))⟩,⟨none,(some 30),(.buildS 233 1 [(.string (.mk #[])),(.int .u64 0),(.int .u64 0)] [(0,(3,(.tmp 29)))])⟩,⟨none,(some 31),(.call 149 [(.tmp 27),(.tmp 28),(.tmp 30)])⟩,⟨none,(some 32),(.faddr 1 (.tmp 3))⟩,⟨none,none,(.store1 (.tmp 32) (.tmp 31))⟩])
 (.seq (.ops [⟨none,(some 33),(.loadN 2 (.tmp 3))⟩,⟨none,none,(.storeN 2 (.tmp 6) (.tmp 33))⟩])
 .ret))))))
abbrev r87:List RV:=[(.cN 6 2)]
theorem F87:FnOk prog 87 34 c87 r87:=FnOk.o func87
noncomputable def c88:CC:=(.seq (.ops [⟨none,(some 2),(.box 139 (.tmp 0))⟩,⟨none,(some 3),(.box 27 (.tmp 1))⟩,⟨none,(some 4),(.mv (.const (.slice none 0 0)))⟩,⟨none,(some 5),(.alloc 139 (.agg #[.nilFunc,(.slice none 0 0)]))⟩])
 (.seq (.ops [⟨none,(some 6),(.alloc 165 (.slice none 0 0))⟩])
 (.seq (.seq (.ops [⟨none,(some 9),(.loadN 2 (.tmp 2))⟩,⟨none,(some 10),(.call 151 [(.tmp 9)])⟩])
 (.block 0
 (.range (.tmp 10) #[11,12] (sub (bodyOf f88) [1,1,0,1,0,0]) (sub (bodyOf f88) [1,1,0,1,0,1])
 (.seq (.ops [⟨none,(some 7),(.alloc 164 (.agg #[(.string (.mk #[])),(.int .u64 0)]))⟩,⟨none,none,(.storeN 2 (.tmp 7) (.tmp 11))⟩])
 (.ops [⟨none,(some 8),(.mv (.tmp 12))⟩]))
 (.block 1
 (.seq (.ops [⟨none,(some 13),(.mv (.tmp 8))⟩,⟨none,(some 14),(.load1 (.tmp 3))⟩,⟨none,(some 15),(.iop .leq (.tmp 13) (.tmp 14))⟩])
 (.cond (.tmp 15)
 (.ops [⟨none,(some 16),(.load1 (.tmp 6))⟩,⟨none,(some 17),(.loadN 2 (.tmp 7))⟩,⟨none,(some 18),(.buildS 164 1 [(.string (.mk #[])),(.int .u64 0)] [(0,(2,(.tmp 17)))])⟩,⟨none,(some 19),(.raw 29 (.mk (some 19) (.call (.mk (.builtin .append) #[(.tmp 16),(.tmp 18)] #[165,165])) 165 "lease.go:96" #[(.mk 0 .data),(.mk 2 .data)] none))⟩,⟨none,none,(.store1 (.tmp 6) (.tmp 19))⟩])
 .skip))))))
 (.seq (.ops [⟨none,(some 20),(.faddr 1 (.tmp 2))⟩,⟨none,(some 21),(.load1 (.tmp 20))⟩,⟨none,(some 22),(.load1 (.tmp 6))⟩,⟨none,(some 23),(.lenL (.tmp 22))⟩,⟨none,(some 24),(.slL 3 (.tmp 21) (some (.tmp 23)) none)⟩,⟨none,(some 25),(.call 150 [(.tmp 24)])⟩,⟨none,(some 26),(.faddr 1 (.tmp 2))⟩,⟨none,none,(.store1 (.tmp 26) (.tmp 25))⟩])
 (.seq (.draw 8 (opsOf (sub (bodyOf f88) [1,1,1,1,0])) [⟨none,(some 27),(.load1 (.tmp 6))⟩,⟨none,(some 28),(.loadN 2 (.tmp 2))⟩,⟨none,(some 4),(.mv (.tmp 27))⟩,⟨none,none,(.storeN 2 (.tmp 5) (.tmp 28))⟩])
 .ret)))))
abbrev r88:List RV:=[(.tmp 4),(.cN 5 2)]
theorem F88:FnOk prog 88 29 c88 r88:=FnOk.o func88
noncomputable def c89:CC:=(.seq (.ops [⟨none,(some 1),(.box 139 (.tmp 0))⟩,⟨none,(some 2),(.mv (.const (.int .i64 0)))⟩])
 (.seq (.ops [⟨none,(some 3),(.faddr 1 (.tmp 1))⟩,⟨none,(some 4),(.load1 (.tmp 3))⟩,⟨none,(some 5),(.lenL (.tmp 4))⟩,⟨none,(some 2),(.mv (.tmp 5))⟩])
 .ret))
abbrev r89:List RV:=[(.tmp 2)]
theorem F89:FnOk prog 89 6 c89 r89:=FnOk.o func89
noncomputable def c154:CC:=(.seq (.ops [⟨none,(some 2),(.mv (.const (.int .i64 0)))⟩])
 (.seq (.ops [⟨none,(some 3),(.mv (.const (.int .i64 0)))⟩])
 (.seq (.seq (.ops [⟨none,(some 6),(.mv (.tmp 0))⟩,⟨none,(some 7),(.lenL (.tmp 6))⟩,⟨none,(some 8),(.mv (.const (.int .i64 0)))⟩])
 (.block 0
 (.loop
 (.seq (.ops [⟨none,(some 9),(.iop .lss (.tmp 8) (.tmp 7))⟩])
 (.seq (.cond (.tmp 9)
 .skip
 (.exit 0))
 (.seq (.block 1
 (.seq (.ops [⟨none,(some 10),(.iaddr 1 (.tmp 6) (.tmp 8))⟩,⟨none,(some 11),(.load1 (.tmp 10))⟩,⟨none,(some 5),(.mv (.tmp 11))⟩])
 (.seq (.ops [⟨none,(some 12),(.mv (.tmp 5))⟩,⟨none,(some 13),(.mv (.tmp 3))⟩,⟨none,(some 14),(.iop .neq (.tmp 12) (.tmp 13))⟩])
 (.cond (.tmp 14)
 (.seq (.ops [⟨none,(some 15),(.mv (.tmp 5))⟩,⟨none,(some 2),(.mv (.tmp 15))⟩])
 .ret)
 .skip))))
 (.ops [⟨none,(some 16),(.iop .add (.tmp 8) (.const (.int .i64 1)))⟩,⟨none,(some 8),(.mv (.tmp 16))⟩])))))))
 (.seq (.ops [⟨none,(some 17),(.mv (.tmp 3))⟩,⟨none,(some 2),(.mv (.tmp 17))⟩])
 .ret))))
abbrev r154:List RV:=[(.tmp 2)]
theorem F154:FnOk prog 154 18 c154 r154:=FnOk.o func154
noncomputable def c155:CC:=(.seq (.ops [⟨none,(some 4),(.mv (.const (.int .i64 0)))⟩])
 (.seq (.ops [⟨none,(some 7),(.mv (.tmp 0))⟩,⟨none,(some 8),(.call 193 [(.tmp 7)])⟩,⟨none,(some 5),(.mv (.tmp 8))⟩])
 (.seq (.ops [⟨none,(some 9),(.mv (.tmp 1))⟩,⟨none,(some 10),(.call 193 [(.tmp 9)])⟩,⟨none,(some 6),(.mv (.tmp 10))⟩])
 (.seq (.seq (.ops [⟨none,(some 11),(.mv (.tmp 5))⟩])
 (.cond (.tmp 11)
 (.seq (.seq (.ops [⟨none,(some 12),(.mv (.tmp 6))⟩])
 (.cond (.tmp 12)
 (.seq (.ops [⟨none,(some 4),(.mv (.const (.int .i64 0)))⟩])
 .ret)
 .skip))
 (.seq (.ops [⟨none,(some 4),(.mv (.const (.int .i64 (-1))))⟩])
 .ret))
 .skip))
 (.seq (.seq (.ops [⟨none,(some 13),(.mv (.tmp 6))⟩])
 (.cond (.tmp 13)
 (.seq (.ops [⟨none,(some 4),(.mv (.const (.int .i64 1)))⟩])
 .ret)
 .skip))
 (.seq (.seq (.ops [⟨none,(some 14),(.mv (.tmp 0))⟩,⟨none,(some 15),(.mv (.tmp 1))⟩,⟨none,(some 16),(.sop .lss (.tmp 14) (.tmp 15))⟩])
 (.cond (.tmp 16)
 (.seq (.ops [⟨none,(some 4),(.mv (.const (.int .i64 (-1))))⟩])
 .ret)
 .skip))
 (.seq (.seq (.ops [⟨none,(some 17),(.mv (.tmp 0))⟩,⟨none,(some 18),(.mv (.tmp 1))⟩,⟨none,(some 19),(.sop .gtr (.tmp 17) (.tmp 18))⟩])
 (.cond (.tmp 19)
 (.seq (.ops [⟨none,(some 4),(.mv (.const (.int .i64 1)))⟩])
 .ret)
 .skip))
 (.seq (.ops [⟨none,(some 4),(.mv (.const (.int .i64 0)))⟩])
 .ret))))))))
abbrev r155:List RV:=[(.tmp 4)]
theorem F155:FnOk prog 155 20 c155 r155:=FnOk.o func155
noncomputable def c156:CC:=(.seq (.ops [⟨none,(some 4),(.mv (.const (.int .i64 0)))⟩])
 (.seq (.ops [⟨none,(some 7),(.mv (.tmp 0))⟩,⟨none,(some 8),(.call 216 [(.tmp 7)])⟩,⟨none,(some 5),(.mv (.tmp 8))⟩])
 (.seq (.ops [⟨none,(some 9),(.mv (.tmp 1))⟩,⟨none,(some 10),(.call 216 [(.tmp 9)])⟩,⟨none,(some 6),(.mv (.tmp 10))⟩])
 (.seq (.seq (.ops [⟨none,(some 11),(.mv (.tmp 5))⟩])
 (.cond (.tmp 11)
 (.seq (.seq (.ops [⟨none,(some 12),(.mv (.tmp 6))⟩])
 (.cond (.tmp 12)
 (.seq (.ops [⟨none,(some 4),(.mv (.const (.int .i64 0)))⟩])
 .ret)
 .skip))
 (.seq (.ops [⟨none,(some 4),(.mv (.const (.int .i64 (-1))))⟩])
 .ret))
 .skip))
 (.seq (.seq (.ops [⟨none,(some 13),(.mv (.tmp 6))⟩])
 (.cond (.tmp 13)
 (.seq (.ops [⟨none,(some 4),(.mv (.const (.int .i64 1)))⟩])
 .ret)
 .skip))
 (.seq (.seq (.ops [⟨none,(some 14),(.mv (.tmp 0))⟩,⟨none,(some 15),(.mv (.tmp 1))⟩,⟨none,(some 16),(.iop .lss (.tmp 14) (.tmp 15))⟩])
 (.cond (.tmp 16)
 (.seq (.ops [⟨none,(some 4),(.mv (.const (.int .i64 (-1))))⟩])
 .ret)
 .skip))
 (.seq (.seq (.ops [⟨none,(some 17),(.mv (.tmp 0))⟩,⟨none,(some 18),(.mv (.tmp 1))⟩,⟨none,(some 19),(.iop .gtr (.tmp 17) (.tmp 18))⟩])
 (.cond (.tmp 19)
 (.seq (.ops [⟨none,(some 4),(.mv (.const (.int .i64 1)))⟩])
 .ret)
 .skip))
 (.seq (.ops [⟨none,(some 4),(.mv (.const (.int .i64 0)))⟩])
 .ret))))))))
abbrev r156:List RV:=[(.tmp 4)]
theorem F156:FnOk prog 156 20 c156 r156:=FnOk.o func156
noncomputable def c146:CC:=(.seq (.ops [⟨none,(some 2),(.box 139 (.tmp 0))⟩,⟨none,(some 3),(.box 164 (.tmp 1))⟩,⟨none,(some 4),(.alloc 139 (.agg #[.nilFunc,(.slice none 0 0)]))⟩])
 (.seq (.seq (.ops [⟨none,(some 6),(.loadN 2 (.tmp 2))⟩,⟨none,(some 7),(.loadN 2 (.tmp 3))⟩,⟨none,(some 8),(.call 207 [(.tmp 6),(.tmp 7)])⟩,⟨none,(some 5),(.mv (.tmp 8))⟩])
 (.seq (.ops [⟨none,(some 9),(.mv (.tmp 5))⟩,⟨none,(some 10),(.iop .geq (.tmp 9) (.const (.int .i64 0)))⟩])
 (.cond (.tmp 10)
 (.ops [⟨none,(some 11),(.faddr 1 (.tmp 2))⟩,⟨none,(some 12),(.load1 (.tmp 11))⟩,⟨none,(some 13),(.call 150 [(.tmp 12)])⟩,⟨none,(some 14),(.mv (.tmp 5))⟩,⟨none,(some 15),(.mv (.tmp 5))⟩,⟨none,(some 16),(.iop .add (.tmp 15) (.const (.int .i64 1)))⟩,⟨none,(some 17),(.call 208 [(.tmp 13),(.tmp 14),(.tmp 16)])⟩,⟨none,(some 18),(.faddr 1 (.tmp 2))⟩,⟨none,none,(.store1 (.tmp 18) (.tmp 17))⟩])
 .skip)))
 (.seq (.ops [⟨none,(some 19),(.loadN 2 (.tmp 2))⟩,⟨none,none,(.storeN 2 (.tmp 4) (.tmp 19))⟩])
 .ret)))
abbrev r146:List RV:=[(.cN 4 2)]
theorem F146:FnOk prog 146 20 c146 r146:=FnOk.o func146
noncomputable def c147:CC:=(.seq (.ops [⟨none,(some 4),(.box 233 (.tmp 1))⟩,⟨none,(some 6),(.mv (.const (.int .i64 0)))⟩,⟨none,(some 7),(.mv (.const (.bool false)))⟩])
 (.seq (.ops [⟨none,(some 12),(.mv (.tmp 0))⟩,⟨none,(some 13),(.lenL (.tmp 12))⟩,⟨none,(some 8),(.mv (.tmp 13))⟩])
 (.seq (.ops [⟨none,(some 14),(.mv (.tmp 8))⟩,⟨none,(some 9),(.mv (.const (.int .i64 0)))⟩,⟨none,(some 10),(.mv (.tmp 14))⟩])
 (.seq (.block 0
 (.loop
 (.seq (.seq (.ops [⟨none,(some 15),(.mv (.tmp 9))⟩,⟨none,(some 16),(.mv (.tmp 10))⟩,⟨none,(some 17),(.iop .lss (.tmp 15) (.tmp 16))⟩])
 (.cond (.tmp 17)
 .skip
 (.exit 0)))
 (.block 1
 (.seq (.ops [⟨none,(some 18),(.mv (.tmp 9))⟩,⟨none,(some 19),(.mv (.tmp 10))⟩,⟨none,(some 20),(.iop .add (.tmp 18) (.tmp 19))⟩,⟨none,(some 21),(.conv .u64 (.tmp 20))⟩,⟨none,(some 22),(.iop .shr (.tmp 21) (.const (.int .u64 1)))⟩,⟨none,(some 23),(.conv .i64 (.tmp 22))⟩,⟨none,(some 11),(.mv (.tmp 23))⟩])
 (.seq (.draw 5 (opsOf (sub (bodyOf f147) [1,1,1,0,0,0,1,0,1,0])) [⟨none,(some 24),(.mv (.tmp 2))⟩,⟨none,(some 25),(.mv (.tmp 0))⟩,⟨none,(some 26),(.mv (.tmp 11))⟩,⟨none,(some 27),(.iaddr 3 (.tmp 25) (.tmp 26))⟩,⟨none,(some 28),(.loadN 3 (.tmp 27))⟩,⟨none,(some 29),(.loadN 3 (.tmp 4))⟩,⟨none,(some 30),(.callv (.tmp 24) [(.tmp 28),(.tmp 29)])⟩,⟨none,(some 31),(.iop .lss (.tmp 30) (.const (.int .i64 0)))⟩])
 (.cond (.tmp 31)
 (.ops [⟨none,(some 32),(.mv (.tmp 11))⟩,⟨none,(some 33),(.iop .add (.tmp 32) (.const (.int .i64 1)))⟩,⟨none,(some 9),(.mv (.tmp 33))⟩])
 (.ops [⟨none,(some 34),(.mv (.tmp 11))⟩,⟨none,(some 10),(.mv (.tmp 34))⟩]))))))))
 (.seq (.draw 8 (opsOf (sub (bodyOf f147) [1,1,1,1,0])) [⟨none,(some 35),(.mv (.tmp 9))⟩,⟨none,(some 36),(.mv (.tmp 9))⟩,⟨none,(some 37),(.mv (.tmp 8))⟩,⟨none,(some 38),(.iop .lss (.tmp 36) (.tmp 37))⟩,⟨none,(some 39),(.mv (.tmp 38))⟩,⟨(some (39,true)),(some 40),(.mv (.tmp 2))⟩,⟨(some (39,true)),(some 41),(.mv (.tmp 0))⟩,⟨(some (39,true)),(some 42),(.mv (.tmp 9))⟩,⟨(some (39,true)),(some 43),(.iaddr 3 (.tmp 41) (.tmp 42))⟩,⟨(some (39,true)),(some 44),(.loadN 3 (.tmp 43))⟩,⟨(some (39,true)),(some 45),(.loadN 3 (.tmp 4))⟩,⟨(some (39,true)),(some 46),(.callv (.tmp 40) [(.tmp 44),(.tmp 45)])⟩,⟨(some (39,true)),(some 47),(.iop .eql (.tmp 46) (.const (.int .i64 0)))⟩,⟨none,(some 48),(.pick (.tmp 39) (.tmp 47) (.const (.bool false)))⟩,⟨none,(some 6),(.mv (.tmp 35))⟩,⟨none,(some 7),(.mv (.tmp 48))⟩])
 .ret)))))
abbrev r147:List RV:=[(.tmp 6),(.tmp 7)]
theorem F147:FnOk prog 147 49 c147 r147:=FnOk.o func147
noncomputable def c148:CC:=(.seq (.ops [⟨none,(some 3),(.box 139 (.tmp 0))⟩,⟨none,(some 4),(.box 233 (.tmp 1))⟩,⟨none,(some 5),(.box 233 (.tmp 2))⟩,⟨none,(some 6),(.mv (.const (.int .i64 0)))⟩])
 (.seq (.seq (.ops [⟨none,(some 8),(.faddr 2 (.tmp 4))⟩,⟨none,(some 9),(.load1 (.tmp 8))⟩,⟨none,(some 10),(.faddr 2 (.tmp 5))⟩,⟨none,(some 11),(.load1 (.tmp 10))⟩,⟨none,(some 12),(.call 156 [(.tmp 9),(.tmp 11)])⟩,⟨none,(some 7),(.mv (.tmp 12))⟩])
 (.seq (.ops [⟨none,(some 13),(.mv (.tmp 7))⟩,⟨none,(some 14),(.iop .neq (.tmp 13) (.const (.int .i64 0)))⟩,⟨none,(some 15),(.mv (.tmp 14))⟩,⟨(some (15,false)),(some 16),(.faddr 0 (.tmp 3))⟩,⟨(some (15,false)),(some 17),(.load1 (.tmp 16))⟩,⟨(some (15,false)),(some 18),(.pnil 3 false (.tmp 17))⟩,⟨none,(some 19),(.pick (.tmp 15) (.const (.bool true)) (.tmp 18))⟩])
 (.cond (.tmp 19)
 (.seq (.ops [⟨none,(some 20),(.mv (.tmp 7))⟩,⟨none,(some 6),(.mv (.tmp 20))⟩])
 .ret)
 .skip)))
 (.seq (.ops [⟨none,(some 21),(.faddr 0 (.tmp 3))⟩,⟨none,(some 22),(.load1 (.tmp 21))⟩,⟨none,(some 23),(.faddr 0 (.tmp 4))⟩,⟨none,(some 24),(.loadN 2 (.tmp 23))⟩,⟨none,(some 25),(.faddr 0 (.tmp 5))⟩,⟨none,(some 26),(.loadN 2 (.tmp 25))⟩,⟨none,(some 27),(.callv (.tmp 22) [(.tmp 24),(.tmp 26)])⟩,⟨none,(some 6),(.mv (.tmp 27))⟩])
 .ret)))
abbrev r148:List RV:=[(.tmp 6)]
theorem F148:FnOk prog 148 28 c148 r148:=FnOk.o func148
noncomputable def c149:CC:=(.seq (.ops [⟨none,(some 6),(.mv (.const (.slice none 0 0)))⟩])
 (.seq (.ops [⟨none,(some 10),(.mv (.tmp 0))⟩,⟨none,(some 11),(.mv (.tmp 1))⟩,⟨none,(some 12),(.slL 3 (.tmp 10) (some (.tmp 11)) none)⟩])
 (.seq (.ops [⟨none,(some 13),(.mv (.tmp 2))⟩,⟨none,(some 14),(.lenL (.tmp 13))⟩,⟨none,(some 7),(.mv (.tmp 14))⟩])
 (.seq (.seq (.ops [⟨none,(some 15),(.mv (.tmp 7))⟩,⟨none,(some 16),(.iop .eql (.tmp 15) (.const (.int .i64 0)))⟩])
 (.cond (.tmp 16)
 (.seq (.ops [⟨none,(some 17),(.mv (.tmp 0))⟩,⟨none,(some 6),(.mv (.tmp 17))⟩])
 .ret)
 .skip))
 (.seq (.ops [⟨none,(some 18),(.mv (.tmp 0))⟩,⟨none,(some 19),(.lenL (.tmp 18))⟩,⟨none,(some 8),(.mv (.tmp 19))⟩])
 (.seq (.seq (.ops [⟨none,(some 20),(.mv (.tmp 1))⟩,⟨none,(some 21),(.mv (.tmp 8))⟩,⟨none,(some 22),(.iop .eql (.tmp 20) (.tmp 21))⟩])
 (.cond (.tmp 22)
 (.seq (.ops [⟨none,(some 23),(.mv (.tmp 0))⟩,⟨none,(some 24),(.mv (.tmp 2))⟩,⟨none,(some 25),(.raw 95 (.mk (some 25) (.call (.mk (.builtin .append) #[(.tmp 23),(.tmp 24)] #[137,137])) 137 "slices.go:145" #[(.mk 0 .data),(.mk 1 .data)] none))⟩,⟨none,(some 6),(.mv (.tmp 25))⟩])
 .ret)
 .skip))
 (.seq (.seq (.ops [⟨none,(some 26),(.mv (.tmp 8))⟩,⟨none,(some 27),(.mv (.tmp 7))⟩,⟨none,(some 28),(.iop .add (.tmp 26) (.tmp 27))⟩,⟨none,(some 29),(.mv (.tmp 0))⟩,⟨none,(some 30),(.raw 95 (.mk (some 30) (.call (.mk (.builtin .cap) #[(.tmp 29)] #[137])) 3 "slices.go:147" #[(.mk 3 .data)] none))⟩,⟨none,(some 31),(.iop .gtr (.tmp 28) (.tmp 30))⟩])
 (.cond (.tmp 31)
 (.seq (.ops [⟨none,(some 32),(.mv (.tmp 0))⟩,⟨none,(some 33),(.mv (.tmp 1))⟩,⟨none,(some 34),(.slL 3 (.tmp 32) none (some (.tmp 33)))⟩,⟨none,(some 35),(.mv (.tmp 8))⟩,⟨none,(some 36),(.mv (.tmp 7))⟩,⟨none,(some 37),(.iop .add (.tmp 35) (.tmp 36))⟩,⟨none,(some 38),(.mv (.tmp 1))⟩,⟨none,(some 39),(.iop .sub (.tmp 37) (.tmp 38))⟩,⟨none,(some 40),(.raw 95 (.mk (some 40) (.call (.mk (.builtin .append) #[(.tmp 34),(.tmp 39)] #[137,3])) 137 "slices.go:152" #[(.mk 2 .data),(.mk 7 .data)] none))⟩,⟨none,(some 9),(.mv (.tmp 40))⟩])
 (.seq (.ops [⟨none,(some 41),(.mv (.tmp 9))⟩,⟨none,(some 42),(.mv (.tmp 1))⟩,⟨none,(some 43),(.slL 3 (.tmp 41) (some (.tmp 42)) none)⟩,⟨none,(some 44),(.mv (.tmp 2))⟩,⟨none,(some 45),(.raw 95 (.mk (some 45) (.call (.mk (.builtin .copy) #[(.tmp 43),(.tmp 44)] #[137,137])) 3 "slices.go:153" #[(.mk 2 .data),(.mk 3 .data)] none))⟩])
 (.seq (.draw 11 (opsOf (sub (bodyOf f149) [1,1,1,1,1,1,0,1,0,1,1,0])) [⟨none,(some 46),(.mv (.tmp 9))⟩,⟨none,(some 47),(.mv (.tmp 1))⟩,⟨none,(some 48),(.mv (.tmp 7))⟩,⟨none,(some 49),(.iop .add (.tmp 47) (.tmp 48))⟩,⟨none,(some 50),(.slL 3 (.tmp 46) (some (.tmp 49)) none)⟩,⟨none,(some 51),(.mv (.tmp 0))⟩,⟨none,(some 52),(.mv (.tmp 1))⟩,⟨none,(some 53),(.slL 3 (.tmp 51) (some (.tmp 52)) none)⟩,⟨none,(some 54),(.raw 95 (.mk (some 54) (.call (.mk (.builtin .copy) #[(.tmp 50),(.tmp 53)] #[137,137])) 3 "slices.go:154" #[(.mk 4 .data),(.mk 7 .data)] none))⟩])
 (.seq (.ops [⟨none,(some 55),(.mv (.tmp 9))⟩,⟨none,(some 6),(.mv (.tmp 55))⟩])
 .ret))))
 .skip))
 (.seq (.ops [⟨none,(some 56),(.mv (.tmp 0))⟩,⟨none,(some 57),(.mv (.tmp 8))⟩,⟨none,(some 58),(.mv (.tmp 7))⟩,⟨none,(some 59),(.iop .add (.tmp 57) (.tmp 58))⟩,⟨none,(some 60),(.slL 3 (.tmp 56) none (some (.tmp 59)))⟩,⟨none,(some 0),(.mv (.tmp 60))⟩])
 (.seq (.seq (.ops [⟨none,(some 61),(.mv (.tmp 2))⟩,⟨none,(some 62),(.mv (.tmp 0))⟩,⟨none,(some 63),(.mv (.tmp 1))⟩,⟨none,(some 64),(.mv (.tmp 7))⟩,⟨none,(some 65),(.iop .add (.tmp 63) (.tmp 64))⟩,⟨none,(some 66),(.slL 3 (.tmp 62) (some (.tmp 65)) none)⟩,⟨none,(some 67),(.raw 95 (.mk (some 67) (.call (.mk (.value (.func 209)) #[(.tmp 61),(.tmp 66)] #[137,137])) 4 "slices.go:173" #[(.mk 0 .data),(.mk 5 .data)] none))⟩,⟨none,(some 68),(.not (.tmp 67))⟩])
 (.cond (.tmp 68)
 (.seq (.draw 15 (opsOf (sub (bodyOf f149) [1,1,1,1,1,1,1,1,0,1,0,0])) [⟨none,(some 69),(.mv (.tmp 0))⟩,⟨none,(some 70),(.mv (.tmp 1))⟩,⟨none,(some 71),(.mv (.tmp 7))⟩,⟨none,(some 72),(.iop .add (.tmp 70) (.tmp 71))⟩,⟨none,(some 73),(.slL 3 (.tmp 69) (some (.tmp 72)) none)⟩,⟨none,(some 74),(.mv (.tmp 0))⟩,⟨none,(some 75),(.mv (.tmp 1))⟩,⟨none,(some 76),(.slL 3 (.tmp 74) (some (.tmp 75)) none)⟩,⟨none,(some 77),(.raw 95 (.mk (some 77) (.call (.mk (.builtin .copy) #[(.tmp 73),(.tmp 76)] #[137,137])) 3 "slices.go:178" #[(.mk 4 .data),(.mk 7 .data)] none))⟩])
 (.seq (.ops [⟨none,(some 78),(.mv (.tmp 0))⟩,⟨none,(some 79),(.mv (.tmp 1))⟩,⟨none,(some 80),(.slL 3 (.tmp 78) (some (.tmp 79)) none)⟩,⟨none,(some 81),(.mv (.tmp 2))⟩,⟨none,(some 82),(.raw 95 (.mk (some 82) (.call (.mk (.builtin .copy) #[(.tmp 80),(.tmp 81)] #[137,137])) 3 "slices.go:186" #[(.mk 2 .data),(.mk 3 .data)] none))⟩])
 (.seq (.ops [⟨none,(some 83),(.mv (.tmp 0))⟩,⟨none,(some 6),(.mv (.tmp 83))⟩])
 .ret)))
 .skip))
 (.seq (.ops [⟨none,(some 84),(.mv (.tmp 0))⟩,⟨none,(some 85),(.mv (.tmp 8))⟩,⟨none,(some 86),(.slL 3 (.tmp 84) (some (.tmp 85)) none)⟩,⟨none,(some 87),(.mv (.tmp 2))⟩,⟨none,(some 88),(.raw 95 (.mk (some 88) (.call (.mk (.builtin .copy) #[(.tmp 86),(.tmp 87)] #[137,137])) 3 "slices.go:200" #[(.mk 2 .data),(.mk 3 .data)] none))⟩])
 (.seq (.ops [⟨none,(some 89),(.mv (.tmp 0))⟩,⟨none,(some 90),(.mv (.tmp 1))⟩,⟨none,(some 91),(.slL 3 (.tmp 89) (some (.tmp 90)) none)⟩,⟨none,(some 92),(.mv (.tmp 7))⟩,⟨none,(some 93),(.call 210 [(.tmp 91),(.tmp 92)])⟩])
 (.seq (.ops [⟨none,(some 94),(.mv (.tmp 0))⟩,⟨none,(some 6),(.mv (.tmp 94))⟩])
 .ret))))))))))))
abbrev r149:List RV:=[(.tmp 6)]
theorem F149:FnOk prog 149 95 c149 r149:=FnOk.o func149
noncomputable def c193:CC:=(.seq (.ops [⟨none,(some 2),(.mv (.const (.bool false)))⟩])
 (.seq (.ops [⟨none,(some 3),(.mv (.tmp 0))⟩,⟨none,(some 4),(.mv (.tmp 0))⟩,⟨none,(some 5),(.sop .neq (.tmp 3) (.tmp 4))⟩,⟨none,(some 2),(.mv (.tmp 5))⟩])
 .ret))
abbrev r193:List RV:=[(.tmp 2)]
theorem F193:FnOk prog 193 6 c193 r193:=FnOk.o func193
noncomputable def c216:CC:=(.seq (.ops [⟨none,(some 2),(.mv (.const (.bool false)))⟩])
 (.seq (.ops [⟨none,(some 3),(.mv (.tmp 0))⟩,⟨none,(some 4),(.mv (.tmp 0))⟩,⟨none,(some 5),(.iop .neq (.tmp 3) (.tmp 4))⟩,⟨none,(some 2),(.mv (.tmp 5))⟩])
 .ret))
abbrev r216:List RV:=[(.tmp 2)]
theorem F216:FnOk prog 216 6 c216 r216:=FnOk.o func216
noncomputable def c237:CC:=(.seq (.ops [⟨none,(some 2),(.box 139 (.tmp 0))⟩,⟨none,(some 3),(.box 164 (.tmp 1))⟩,⟨none,(some 4),(.mv (.const (.int .u64 0)))⟩,⟨none,(some 5),(.mv (.const (.bool false)))⟩])
 (.seq (.seq (.ops [⟨none,(some 7),(.loadN 2 (.tmp 2))⟩,⟨none,(some 8),(.loadN 2 (.tmp 3))⟩,⟨none,(some 9),(.call 207 [(.tmp 7),(.tmp 8)])⟩,⟨none,(some 6),(.mv (.tmp 9))⟩])
 (.seq (.ops [⟨none,(some 10),(.mv (.tmp 6))⟩,⟨none,(some 11),(.iop .geq (.tmp 10) (.const (.int .i64 0)))⟩])
 (.cond (.tmp 11)
 (.seq (.ops [⟨none,(some 12),(.faddr 1 (.tmp 2))⟩,⟨none,(some 13),(.load1 (.tmp 12))⟩,⟨none,(some 14),(.mv (.tmp 6))⟩,⟨none,(some 15),(.iaddr 3 (.tmp 13) (.tmp 14))⟩,⟨none,(some 16),(.faddr 2 (.tmp 15))⟩,⟨none,(some 17),(.load1 (.tmp 16))⟩,⟨none,(some 4),(.mv (.tmp 17))⟩,⟨none,(some 5),(.mv (.const (.bool true)))⟩])
 .ret)
 .skip)))
 (.seq (.ops [⟨none,(some 4),(.mv (.const (.int .u64 0)))⟩,⟨none,(some 5),(.mv (.const (.bool false)))⟩])
 .ret)))
abbrev r237:List RV:=[(.tmp 4),(.tmp 5)]
theorem F237:FnOk prog 237 18 c237 r237:=FnOk.o func237
noncomputable def c207:CC:=(.seq (.ops [⟨none,(some 2),(.box 139 (.tmp 0))⟩,⟨none,(some 3),(.box 164 (.tmp 1))⟩,⟨none,(some 4),(.mv (.const (.int .i64 0)))⟩])
 (.seq (.ops [⟨none,(some 5),(.faddr 1 (.tmp 2))⟩,⟨none,(some 6),(.load1 (.tmp 5))⟩,⟨none,(some 7),(.mkF (.func 259) [] [(.tmp 3)])⟩,⟨none,(some 8),(.call 258 [(.tmp 6),(.tmp 7)])⟩,⟨none,(some 4),(.mv (.tmp 8))⟩])
 .ret))
abbrev r207:List RV:=[(.tmp 4)]
theorem F207:FnOk prog 207 9 c207 r207:=FnOk.o func207
noncomputable def c208:CC:=(.seq (.ops [⟨none,(some 6),(.mv (.const (.slice none 0 0)))⟩])
 (.seq (.ops [⟨none,(some 8),(.mv (.tmp 0))⟩,⟨none,(some 9),(.mv (.tmp 1))⟩,⟨none,(some 10),(.mv (.tmp 2))⟩,⟨none,(some 11),(.mv (.tmp 0))⟩,⟨none,(some 12),(.lenL (.tmp 11))⟩,⟨none,(some 13),(.raw 33 (.mk (some 13) (.slice 137 (.tmp 8) (some (.tmp 9)) (some (.tmp 10)) (some (.tmp 12))) 137 "slices.go:225" #[(.mk 0 .data),(.mk 1 .data),(.mk 2 .data),(.mk 4 .data)] none))⟩])
 (.seq (.seq (.ops [⟨none,(some 14),(.mv (.tmp 1))⟩,⟨none,(some 15),(.mv (.tmp 2))⟩,⟨none,(some 16),(.iop .eql (.tmp 14) (.tmp 15))⟩])
 (.cond (.tmp 16)
 (.seq (.ops [⟨none,(some 17),(.mv (.tmp 0))⟩,⟨none,(some 6),(.mv (.tmp 17))⟩])
 .ret)
 .skip))
 (.seq (.ops [⟨none,(some 18),(.mv (.tmp 0))⟩,⟨none,(some 19),(.lenL (.tmp 18))⟩,⟨none,(some 7),(.mv (.tmp 19))⟩])
 (.seq (.draw 5 (opsOf (sub (bodyOf f208) [1,1,1,1,0])) [⟨none,(some 20),(.mv (.tmp 0))⟩,⟨none,(some 21),(.mv (.tmp 1))⟩,⟨none,(some 22),(.slL 3 (.tmp 20) none (some (.tmp 21)))⟩,⟨none,(some 23),(.mv (.tmp 0))⟩,⟨none,(some 24),(.mv (.tmp 2))⟩,⟨none,(some 25),(.slL 3 (.tmp 23) (some (.tmp 24)) none)⟩,⟨none,(some 26),(.raw 33 (.mk (some 26) (.call (.mk (.builtin .append) #[(.tmp 22),(.tmp 25)] #[137,137])) 137 "slices.go:232" #[(.mk 2 .data),(.mk 5 .data)] none))⟩,⟨none,(some 0),(.mv (.tmp 26))⟩])
 (.seq (.ops [⟨none,(some 27),(.mv (.tmp 0))⟩,⟨none,(some 28),(.mv (.tmp 0))⟩,⟨none,(some 29),(.lenL (.tmp 28))⟩,⟨none,(some 30),(.mv (.tmp 7))⟩,⟨none,(some 31),(.slL 3 (.tmp 27) (some (.tmp 29)) (some (.tmp 30)))⟩,⟨none,none,(.raw 33 (.mk none (.call (.mk (.builtin .clear) #[(.tmp 31)] #[137])) 0 "slices.go:233" #[(.mk 4 .data)] none))⟩])
 (.seq (.ops [⟨none,(some 32),(.mv (.tmp 0))⟩,⟨none,(some 6),(.mv (.tmp 32))⟩])
 .ret)))))))
abbrev r208:List RV:=[(.tmp 6)]
theorem F208:FnOk prog 208 33 c208 r208:=FnOk.o func208
noncomputable def c258:CC:=(.seq (.ops [⟨none,(some 4),(.mv (.const (.int .i64 0)))⟩])
 (.seq (.seq (.ops [⟨none,(some 6),(.mv (.tmp 0))⟩,⟨none,(some 7),(.lenL (.tmp 6))⟩,⟨none,(some 8),(.mv (.const (.int .i64 0)))⟩])
 (.block 0
 (.loop
 (.seq (.ops [⟨none,(some 9),(.iop .lss (.tmp 8) (.tmp 7))⟩])
 (.seq (.cond (.tmp 9)
 .skip
 (.exit 0))
 (.seq (.block 1
 (.seq (.ops [⟨none,(some 10),(.mv (.tmp 8))⟩,⟨none,(some 5),(.mv (.tmp 10))⟩])
 (.seq (.ops [⟨none,(some 11),(.mv (.tmp 1))⟩,⟨none,(some 12),(.mv (.tmp 0))⟩,⟨none,(some 13),(.mv (.tmp 5))⟩,⟨none,(some 14),(.iaddr 3 (.tmp 12) (.tmp 13))⟩,⟨none,(some 15),(.loadN 3 (.tmp 14))⟩,⟨none,(some 16),(.callv (.tmp 11) [(.tmp 15)])⟩])
 (.cond (.tmp 16)
 (.seq (.ops [⟨none,(some 17),(.mv (.tmp 5))⟩,⟨none,(some 4),(.mv (.tmp 17))⟩])
 .ret)
 .skip))))
 (.ops [⟨none,(some 18),(.iop .add (.tmp 8) (.const (.int .i64 1)))⟩,⟨none,(some 8),(.mv (.tmp 18))⟩])))))))
 (.seq (.ops [⟨none,(some 4),(.mv (.const (.int .i64 (-1))))⟩])
 .ret)))
abbrev r258:List RV:=[(.tmp 4)]
theorem F258:FnOk prog 258 19 c258 r258:=FnOk.o func258
noncomputable def c259:CC:=(.seq (.ops [⟨none,(some 2),(.box 233 (.tmp 0))⟩,⟨none,(some 3),(.mv (.const (.bool false)))⟩])
 (.seq (.ops [⟨none,(some 4),(.faddr 0 (.tmp 2))⟩,⟨none,(some 5),(.loadN 2 (.tmp 4))⟩,⟨none,(some 6),(.loadN 2 (.tmp 1))⟩,⟨none,(some 7),(.raw 8 (.mk (some 7) (.binOp .eql 164 (.tmp 5) (.tmp 6) 164) 4 "lease.go:49" #[(.mk 1 .data),(.mk 2 .data)] none))⟩,⟨none,(some 3),(.mv (.tmp 7))⟩])
 .ret))
abbrev r259:List RV:=[(.tmp 3)]
theorem F259:FnOk prog 259 8 c259 r259:=FnOk.o func259
end Go.VrH
namespace Go.Oct
open Go Go.Vc Go.VrA Go.VrH Go.Proofs.Tryz
set_option maxRecDepth 100000
def cmpN (a b:Nat):Int:=if a<b then -1 else if b<a then 1 else 0
def cmpS (a b:ByteArray):Int:=if Op.bytesLess a.toList b.toList=true then -1 else if (!(Op.bytesLess a.toList b.toList || a.toList == b.toList))=true then 1 else 0
theorem isNaNs_c (a:ByteArray) (w:World) (K:Value→World→Prop) (h:K (.bool false) w):Ok prog 193 #[.string a] w K:=by
 refine F193.enter (args:=[.string a]) (by simp) ?_
 unfold c193 r193
 simp only [ZB,endK,resK,packed,insVc,sopK,sopV,ne_eq,Nat.reduceEqDiff,reduceCtorEq,Zac,Za,Zad,beq_self_eq_true]
 exact h
theorem isNaNu_c (a:Nat) (w:World) (K:Value→World→Prop) (h:K (.bool false) w):Ok prog 216 #[.int .u64 a] w K:=by
 refine F216.enter (args:=[.int .u64 a]) (by simp) ?_
 unfold c216 r216
 simp only [ZB,endK,resK,packed,insVc,iopK,iopV,ne_eq,Nat.reduceEqDiff,reduceCtorEq,Zac,Za,Zad,bne_self_eq_false]
 exact h
theorem cmpU_c (a b:Nat) (w:World) (K:Value→World→Prop) (h:K (.int .i64 (cmpN a b)) w):Ok prog 156 #[.int .u64 a,.int .u64 b] w K:=by
 refine F156.enter (args:=[.int .u64 a,.int .u64 b]) (by simp) ?_
 unfold c156 r156
 simp only [ZB,insVc,ne_eq,reduceCtorEq,Zac,Zae,Zab,Za,Int.reduceNeg]
 refine isNaNu_c a w _ ?_
 simp only [ZB,insVc,ne_eq,Nat.reduceEqDiff,Zac,Zae,Zab,Za,Zag,Int.reduceNeg]
 refine isNaNu_c b w _ ?_
 unfold cmpN at h
 by_cases h1:a<b
 ·have h1':(a:Int)<(b:Int):=by omega
  simp only [ZB,endK,resK,packed,insVc,iopK,iopV,ne_eq,Nat.reduceEqDiff,reduceCtorEq,Zac,Za,Zag,Zad,Int.reduceNeg,h1']
  rw [if_pos h1] at h;exact h
 ·have h1':¬(a:Int)<(b:Int):=by omega
  rw [if_neg h1] at h
  by_cases h2:b<a
  ·have h2':(a:Int) > (b:Int):=by omega
   simp only [ZB,endK,resK,packed,insVc,iopK,iopV,ne_eq,Nat.reduceEqDiff,reduceCtorEq,Zac,Za,Zag,Zad,Int.reduceNeg,h1',h2']
   rw [if_pos h2] at h;exact h
  ·have h2':¬(a:Int) > (b:Int):=by omega
   simp only [ZB,endK,resK,packed,insVc,iopK,iopV,ne_eq,Nat.reduceEqDiff,reduceCtorEq,Zac,Za,Zag,Zad,Int.reduceNeg,h1',h2']
   rw [if_neg h2] at h;exact h
theorem cmpS_c (a b:ByteArray) (w:World) (K:Value→World→Prop) (h:K (.int .i64 (cmpS a b)) w):Ok prog 155 #[.string a,.string b] w K:=by
 refine F155.enter (args:=[.string a,.string b]) (by simp) ?_
 unfold c155 r155
 simp only [ZB,insVc,ne_eq,reduceCtorEq,Zac,Zae,Zab,Za,Int.reduceNeg]
 refine isNaNs_c a w _ ?_
 simp only [ZB,insVc,ne_eq,Nat.reduceEqDiff,Zac,Zae,Zab,Za,Zag,Int.reduceNeg]
 refine isNaNs_c b w _ ?_
 unfold cmpS at h
 cases h1:Op.bytesLess a.toList b.toList with
 | true =>
  simp only [ZB,endK,resK,packed,insVc,sopK,sopV,ne_eq,Nat.reduceEqDiff,reduceCtorEq,Zac,Za,Zag,Zad,Int.reduceNeg,h1]
  rw [if_pos h1] at h;exact h
 | false =>
  rw [if_neg (by rw [h1];decide),h1] at h
  cases h2:(!(false || a.toList == b.toList)) with
  | true =>
   simp only [ZB,endK,resK,packed,insVc,sopK,sopV,ne_eq,Nat.reduceEqDiff,reduceCtorEq,Zac,Za,Zag,Zad,Int.reduceNeg,h1,h2]
   rw [if_pos h2] at h;exact h
  | false =>
   simp only [ZB,endK,resK,packed,insVc,sopK,sopV,ne_eq,Nat.reduceEqDiff,reduceCtorEq,Zac,Za,Zag,Zad,Int.reduceNeg,h1,h2]
   rw [if_neg (by rw [h2];decide)] at h;exact h
end Go.Oct
