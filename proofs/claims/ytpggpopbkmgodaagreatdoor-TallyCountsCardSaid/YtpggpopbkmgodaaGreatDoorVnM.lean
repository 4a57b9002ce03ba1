import Derived.Test.YtpggpopbkmgodaaGreatDoorVnC
import Derived.Test.YtpggpopbkmgodaaGreatDoorVmE
import Derived.DeepKeys
import Derived.Test.YtpggpopbkmgodaaGreatDoorVcP
import Derived.Test.YtpggpopbkmgodaaGreatDoorVoM
import Derived.Test.YtpggpopbkmgodaaGreatDoorVcX
set_option linter.unusedSimpArgs false
set_option linter.unusedVariables false
set_option linter.unusedSectionVars false
set_option linter.unnecessarySimpa false
namespace Go.Oct
open Go Go.Vc Go.VrA Go.VrK Go.VrL Go.Tal Go.Proofs.Tryz
set_option maxRecDepth 100000
def rdW (v:Value):Option (DataW Value × List MemPlace):=some (.held v,[])
def TalD (kt tt:TypeId) (w:World) (tb mb n:Nat) (D:DataW Value):Prop :=
 w.heap[tb]? = some (.cells #[.map (some mb)] tt (0,0))∧w.ownsMap prog kt rdW mb n D∧tb≠mb
theorem TalD.keep {kt tt:TypeId} {w w':World} {S:Nat→Prop} {tb mb n:Nat} {D:DataW Value} (h:TalD kt tt w tb mb n D) (hm:Mod S w w') (hs:¬S tb) (hs':¬S mb):TalD kt tt w' tb mb n D:=by
 obtain ⟨h1,ho,h2⟩:=h
 refine ⟨hm.keep h1 hs, ?_,h2⟩
 obtain ⟨es,clock,hb,F,hsz,hD⟩:=ho
 exact ⟨es,clock,hm.keep hb hs',F,hsz,hD⟩
theorem zRow' (w:World):(zeroValue 42).run prog w = .ok Rw.zero.val w:=by kernel_rfl
theorem TalD.look {kt tt mt:TypeId} {w:World} {tb mb n:Nat} {kl:Lit} {kv:Value} {r:Rw} {D:DataW Value} (h:TalD kt tt w tb mb n D) (K:Maps.Keyed prog kt) (ht:(prog).underlying mt=some (.map kt 42)) (hk:keyOf prog kt kv=some kl)
  (hD:D.atKey kl (.held Rw.zero.val) = .held r.val):(Instr.lookup mt (.map (some mb)) kv false).run prog w = .ok r.val w:=by
 obtain ⟨_,ho,_⟩:=h
 obtain ⟨v,ps,hr,hv⟩:=World.ownsMap.lookup ho K ht (zRow' w) (rfl:rdW Rw.zero.val=some (.held Rw.zero.val,[])) hk
 rw [hD] at hv
 have:v=r.val:=by unfold rdW at hv;cases hv;rfl
 rw [← this];exact hr
theorem TalD.store {kt tt mt:TypeId} {w:World} {tb mb n:Nat} {kl:Lit} {kv:Value} {D:DataW Value} (h:TalD kt tt w tb mb n D) (K:Maps.Keyed prog kt) (ht:(prog).underlying mt=some (.map kt 42)) (hk:keyOf prog kt kv=some kl) (hn:n<maxLen) (r':Rw) :
  ∃w',(Instr.mapUpdate mt (.map (some mb)) kv r'.val).run prog w = .ok () w'∧TalD kt tt w' tb mb (n+1) (D.put kl (.held r'.val))∧Mod (fun i=>i=mb) w w':=by
 obtain ⟨h1,ho,h2⟩:=h
 obtain ⟨w',hr,ho',hg⟩:=World.ownsMap.update ho K ht hn hk (rfl:rdW r'.val=some (.held r'.val,[]))
 have hm:Mod (fun i=>i=mb) w w':=⟨hg.os,hg.tape,hg.output,hg.size,fun i hi hs=>hg.block i hi (fun e=>hs (Option.some.inj e))⟩
 exact ⟨w',hr,⟨hm.keep h1 h2,ho',h2⟩,hm⟩
theorem one_good' (x:Nat) (hx:x<18446744073709551616):(Rw.one x).good:=by
 refine ⟨(by decide:(1:Nat)<18446744073709551616),hx,hx,hx,by simp [Rw.one,zs], ?_⟩
 intro n hn
 have hn':n∈zs.set (cls x) 1:=hn
 rcases List.mem_or_eq_of_mem_set hn' with h|h
 ·have:=List.eq_of_mem_replicate h
  omega
 ·omega
theorem tKeySd:(prog).underlying 9=some .string:=by kernel_rfl
theorem tMapSd:(prog).underlying 70=some (.map 9 42):=by kernel_rfl
theorem newSd_c (w:World) (K:Value→World→Prop) (h:∀w' tb mb,Mod (fun _=>False) w w'→w.heap.size≤tb→w.heap.size≤mb→TalD 9 72 w' tb mb 0 (.map [])→K (ptr tb) w'):Ok prog 8 #[] w K:=by
 refine F8.enter (args:=[]) (by simp) ?_
 unfold c8 r8
 simp only [ZB,insVc]
 refine rawK_makeMap rfl ?_
 simp only [ZB,endK,resK,packed,insVc,buildK,fillL,Value.cells,Nat.reduceLeDiff,Zai,Zak,Zaj,Zbe,Zbf,Zbd,Zbc,Zal,Zam,Zad,Zbh,Zaa]
 refine h _ (w.heap.size+1) w.heap.size (((Mod.refl _ _).alloc _).alloc _) (by omega) (Nat.le_refl _) ⟨by simp only [Zaa,Zaf,size_alloc,get_alloc,size_alloc,Zba,Zaz],(World.ownsMap_made w prog 9 rdW).alloc _,by omega⟩
theorem ofSd_c (tb mb n:Nat) (kv:Value) (kl:Lit) (r:Rw) (D:DataW Value) (w:World) (K:Value→World→Prop) (hr:r.good) (ht:TalD 9 72 w tb mb n D) (hD:D.atKey kl (.held Rw.zero.val) = .held r.val) (hk:keyOf prog 9 kv=some kl)
  (h:∀w',Mod (fun _=>False) w w'→K r.val w'):Ok prog 24 #[ptr tb,kv] w K:=by
 refine F24.enter (args:=[ptr tb,kv]) (by simp) ?_
 unfold c24 r24
 have ht0:=ht.1
 have htl:=lt_of_get ht0
 have nt:tb≠w.heap.size:=by omega
 simp only [ZB,insVc,load1K,nilK,nilOf,pnilK,faddrK,Value.cells,ne_eq,Nat.reduceEqDiff,reduceCtorEq,Zac,Za,Zag,Zah,Zaf,Zbq,get_alloc,Nat.reduceEqDiff,ht0,nt]
 refine rawK_gen ?_
 intro w1 hw1
 have hm1:Mod (fun _=>False) w w1:=by rw [hw1];exact (Mod.refl _ _).alloc _
 have c1:w1.heap[w.heap.size]? = some (.cells Rw.zero.cells.toArray 42 (0,0)):=by rw [hw1];exact get_alloc_new _ _
 clear hw1
 have zz:Rw.zero.cells.toArray.size=69:=by decide
 have zl:69≤Rw.zero.cells.length:=by decide
 have lc:=lt_of_get c1
 have hrz:r.cells.toArray.size=69:=by rw [List.size_toArray];exact cells_len r hr
 have re:r.cells.toArray.extract 0 69=r.cells.toArray:=by rw [← hrz];exact Array.extract_size
 have pr:r.cells.all isPlain=true:=by simp [Rw.cells,numV,isPlain]
 have se1:setMany Rw.zero.cells.toArray 0 r.cells=r.cells.toArray:=setMany_all _ _ (by rw [zz,cells_len r hr])
 refine rawK_lookup rfl rfl rfl (by simpa only [vc_skip,vc_seq,vc_cond,vc_block,vc_exit,vc_ret,vc_ops,vcOps_nil,vcOps_cons,vcOps_gate,gateK_true,gateK_false,gate_true,gate_false,gate_undef,goL_apply,thenQ_normal,thenQ_ret,thenQ_exit,blockQ_normal,blockQ_ret,blockQ_same,blockQ_exit,condP_true,condP_false,upd_same,upd_other,updO_some,updO_none,ev_tmp,ev_const,ev_global,ev_func,endQ_ret,endQ_normal,endK,resK,resN,res1,resO_cells,resNO_cells,packed,initE_at,insVc,pickK,load1K,loadO_cells,loadV_some,loadV_none,loadNK,loadNO_cells,storeK,storeO_cells,storeNK,storeNO_cells,setMany,nilK,nilM,iopK,iopV,sopK,sopV,bopK,nilOf,pnilK,notK,convK,sameK,faddrK,fld1K,fldNK,iaddrK,iaddrAK,sidxK,extK,lenSK,lenLK,callvK,invK,buildK,fillL,buildSK,boundOf,slSK,slLK,slAK,isPlain,Value.cells,ne_eq,not_false_eq_true,not_true_eq_false,Nat.reduceEqDiff,Nat.reduceAdd,Nat.reduceLT,Nat.reduceLeDiff,reduceCtorEq,Bool.not_true,Bool.not_false,Option.map_some,Option.map_none,Option.getD_some,Option.getD_none,List.map_cons,List.map_nil,List.getElem?_cons_zero,List.getElem?_cons_succ,List.getElem?_nil,List.getElem?_toArray,List.size_toArray,List.length_cons,List.length_nil,List.zipIdx_cons,List.zipIdx_nil,List.foldl_cons,List.foldl_nil,List.setIfInBounds_toArray,List.set_cons_zero,List.set_cons_succ,List.append_eq,List.nil_append,List.cons_append,List.append_nil,List.toList_toArray,true_and,and_true,true_or,or_true,or_false,false_or,and_self,if_true,if_false,ite_true,ite_false,Bool.false_eq_true,Nat.zero_add,Nat.add_zero,decide_true,decide_false,Bool.and_true,Bool.and_false,Bool.true_and,Bool.false_and,Option.isNone_some,Option.isNone_none,Int.reduceLT,Int.reduceLE,Int.reduceToNat,Int.toNat_natCast,Int.reduceAdd,Int.reduceSub,Int.reduceMul,Int.reduceNeg,Int.reduceEq,Int.reduceNe,Int.reduceBEq,Int.reduceBNe,Nat.mul_one,List.extract_toArray,List.extract_eq_take_drop,List.drop_zero,List.drop_succ_cons,List.take_zero,List.take_succ_cons,Nat.sub_zero,Nat.add_sub_cancel,Nat.add_sub_cancel_left,vcS_nil,vcS_cons,vcS_gate,gateS_true,gateS_false,stepB_true,stepB_false,pureI,Nat.zero_mul,Nat.one_mul,Nat.reduceMul,Nat.reduceSub,List.all_toArray',List.all_cons,List.all_nil,size_set,size_alloc,size_drew,get_alloc_new,get_set_same,get_drew,Nat.lt_add_one,vcD_nil,vcD_cons,vcD_gate,gateD_true,gateD_false,stepD_pure,stepD_load,stepD_step,kindI,loadI] using (ht.keep hm1 id id).look (Maps.string_keyed tKeySd) tMapSd hk hD) ?_
 simp only [ZB,endK,resK,resN,packed,insVc,storeNK,isPlain,ne_eq,Nat.reduceEqDiff,Nat.reduceLeDiff,Zai,Zad,Zau,Zbb,Nat.reduceEqDiff,Rw.val,c1,lc,pr,zl,hrz,re,se1]
 exact h _ (hm1.set (.inl (Nat.le_refl _)))
theorem addSd_c (tb mb n x:Nat) (kv:Value) (kl:Lit) (r:Rw) (D:DataW Value) (w:World) (K:Value→World→Prop) (hr:r.good) (hx:x<18446744073709551616) (ht:TalD 9 72 w tb mb n D) (hD:D.atKey kl (.held Rw.zero.val) = .held r.val) (hk:keyOf prog 9 kv=some kl) (hn:n<maxLen)
  (h:∀w' v,Mod (fun k=>k=mb) w w'→TalD 9 72 w' tb mb (n+1) (D.put kl (.held (r.plus (Rw.one x)).val))→K v w'):Ok prog 9 #[ptr tb,kv,.int .u64 x] w K:=by
 refine F9.enter (args:=[ptr tb,kv,.int .u64 x]) (by simp) ?_
 unfold c9 r9
 simp only [ZB,insVc,storeNK,setMany,nilOf,pnilK,buildK,fillL,isPlain,Value.cells,ne_eq,Nat.reduceEqDiff,Nat.reduceAdd,Nat.reduceLeDiff,Zac,Zae,Zab,Za,Zag,Zai,Zak,Zaj,Zbe,Zbf,Zbd,Zbc,Zal,Zam,Zan,Zbh,Zaa,Zaf,Zbq,Zau,Zav,Zax,get_alloc,Nat.reduceAdd,Nat.reduceEqDiff]
 refine callK_gen ?_
 intro w1 hw1
 have hm1:Mod (fun _=>False) w w1:=by rw [hw1];exact ((Mod.refl _ _).alloc _).set (.inl (Nat.le_refl _))
 have c1:w1.heap[w.heap.size]? = some (.cells (Rw.mk 1 x x x zs).cells.toArray 42 (0,0)):=by rw [hw1];simp only [size_alloc,Zbb,Zay,size_alloc];rfl
 clear hw1
 refine class_c x w1 _ hx ?_
 have hcls:=cls_le hx
 have h0i:(0:Int)≤(cls x:Nat)∧((cls x:Nat):Int)<((65:Nat):Int):=by omega
 have hone:(Rw.mk 1 x x x zs).cells.set (4+cls x) (.int .u64 1)=(Rw.one x).cells:=cells_set (Rw.mk 1 x x x zs) (cls x) 1
 have hog:=one_good' x hx
 simp only [ZB,insVc,storeK,faddrK,iaddrAK,isPlain,ne_eq,Nat.reduceEqDiff,Zai,Zal,Zbj,Zbm,Nat.reduceEqDiff,c1,h0i,hone]
 refine ⟨⟨by simp [Rw.cells,numV,zs];omega,by simp⟩, ?_⟩
 refine vc_genT ?_
 intro w2 hw2
 have hm2:Mod (fun _=>False) w w2:=by rw [hw2];exact hm1.set (.inl (Nat.le_refl _))
 have c2:w2.heap[w.heap.size]? = some (.cells (Rw.one x).cells.toArray 42 (0,0)):=by rw [hw2];exact get_set_same _ _ _ (lt_of_get c1)
 clear hw2
 have ht2:=ht.keep hm2 id id
 have hsz:(Rw.one x).cells.toArray.size=69:=by rw [List.size_toArray];exact cells_len _ hog
 have hex:(Rw.one x).cells.toArray.extract 0 69=(Rw.one x).cells.toArray:=by rw [← hsz];exact Array.extract_size
 refine draw_c (dp:=[[],[0],[1],[2],[],[],[5],[6],[7],[],[8,9],[],[10,11],[3,4,12,12,0,1,2,3,4,5,6,7,8,9,10,11,12]]) (N:=13)
  (fun L ρ u=>RegI [(0,ptr tb),(1,kv),(6,ptr w.heap.size)]
   [(0,17,ptr tb),(1,18,ptr tb),(2,19,ptr tb),(3,20,.map (some mb)),(4,21,kv),(5,22,ptr tb),(6,23,ptr tb),(7,24,ptr tb),(8,25,.map (some mb)),(9,26,kv),(10,27,r.val),(11,28,(Rw.one x).val),(12,29,(r.plus (Rw.one x)).val)] L ρ ∧
   Mod (fun _=>False) w2 u)
  (by kernel_rfl) (by kernel_rfl) (by kernel_rfl) (by kernel_rfl) (by kernel_rfl) (by kernel_rfl) rfl rfl (by kernel_rfl) ?_ ?_ ?_
 ·refine ⟨RegI.start ?_,(Mod.refl _ _).drew⟩
  intro p hp
  simp only [Zbo,Zbp,or_false] at hp
  rcases hp with rfl|rfl|rfl <;> simp only [ZB,ne_eq,Nat.reduceEqDiff,reduceCtorEq,Zac,Za,Zag]
 ·rintro L ρ u k y d hk15 hx' hd hL hdeps hcl ⟨hI,hmu⟩
  have htu:=ht2.keep hmu id id
  have tu:=htu.1
  have cu:=hmu.keep c2 id
  obtain rfl|rfl|rfl|rfl|rfl|rfl|rfl|rfl|rfl|rfl|rfl|rfl|rfl:k=0∨k=1∨k=2∨k=3∨k=4∨k=5∨k=6∨k=7∨k=8∨k=9∨k=10∨k=11∨k=12:=by omega
  all_goals (obtain rfl:=Option.some.inj hx';obtain rfl:=Option.some.inj hd)
  ·simp only [updO_some,ev_tmp,insVc,hI.frm (d:=0) (v:=ptr tb) (by simp)]
   exact ⟨hI.put 0 17 _ rfl (by simp) rfl,hmu⟩
  ·simp only [updO_some,ev_tmp,insVc,nilK,hI.get (k:=0) (d:=17) (v:=ptr tb) (by simp) (hdeps 0 (by decide))]
   exact ⟨hI.put 1 18 _ rfl (by simp) rfl,hmu⟩
  ·simp only [updO_some,ev_tmp,insVc,faddrK,Nat.add_zero,hI.get (k:=1) (d:=18) (v:=ptr tb) (by simp) (hdeps 1 (by decide))]
   exact ⟨hI.put 2 19 _ rfl (by simp) rfl,hmu⟩
  ·simp only [ZB,insVc,load1K,Za,Zah,hI.get (k:=2) (d:=19) (v:=ptr tb) (by simp) (hdeps 2 (by decide)),tu]
   exact ⟨hI.put 3 20 _ rfl (by simp) rfl,hmu⟩
  ·simp only [updO_some,ev_tmp,insVc,hI.frm (d:=1) (v:=kv) (by simp)]
   exact ⟨hI.put 4 21 _ rfl (by simp) rfl,hmu⟩
  ·simp only [updO_some,ev_tmp,insVc,hI.frm (d:=0) (v:=ptr tb) (by simp)]
   exact ⟨hI.put 5 22 _ rfl (by simp) rfl,hmu⟩
  ·simp only [updO_some,ev_tmp,insVc,nilK,hI.get (k:=5) (d:=22) (v:=ptr tb) (by simp) (hdeps 5 (by decide))]
   exact ⟨hI.put 6 23 _ rfl (by simp) rfl,hmu⟩
  ·simp only [updO_some,ev_tmp,insVc,faddrK,Nat.add_zero,hI.get (k:=6) (d:=23) (v:=ptr tb) (by simp) (hdeps 6 (by decide))]
   exact ⟨hI.put 7 24 _ rfl (by simp) rfl,hmu⟩
  ·simp only [ZB,insVc,load1K,Za,Zah,hI.get (k:=7) (d:=24) (v:=ptr tb) (by simp) (hdeps 7 (by decide)),tu]
   exact ⟨hI.put 8 25 _ rfl (by simp) rfl,hmu⟩
  ·simp only [updO_some,ev_tmp,insVc,hI.frm (d:=1) (v:=kv) (by simp)]
   exact ⟨hI.put 9 26 _ rfl (by simp) rfl,hmu⟩
  ·simp only [updO_some,insVc]
   refine rawK_lookup rfl rfl rfl (by simpa only [vc_skip,vc_seq,vc_cond,vc_block,vc_exit,vc_ret,vc_ops,vcOps_nil,vcOps_cons,vcOps_gate,gateK_true,gateK_false,gate_true,gate_false,gate_undef,goL_apply,thenQ_normal,thenQ_ret,thenQ_exit,blockQ_normal,blockQ_ret,blockQ_same,blockQ_exit,condP_true,condP_false,upd_same,upd_other,updO_some,updO_none,ev_tmp,ev_const,ev_global,ev_func,endQ_ret,endQ_normal,endK,resK,resN,res1,resO_cells,resNO_cells,packed,initE_at,insVc,pickK,load1K,loadO_cells,loadV_some,loadV_none,loadNK,loadNO_cells,storeK,storeO_cells,storeNK,storeNO_cells,setMany,nilK,nilM,iopK,iopV,sopK,sopV,bopK,nilOf,pnilK,notK,convK,sameK,faddrK,fld1K,fldNK,iaddrK,iaddrAK,sidxK,extK,lenSK,lenLK,callvK,invK,buildK,fillL,buildSK,boundOf,slSK,slLK,slAK,isPlain,Value.cells,ne_eq,not_false_eq_true,not_true_eq_false,Nat.reduceEqDiff,Nat.reduceAdd,Nat.reduceLT,Nat.reduceLeDiff,reduceCtorEq,Bool.not_true,Bool.not_false,Option.map_some,Option.map_none,Option.getD_some,Option.getD_none,List.map_cons,List.map_nil,List.getElem?_cons_zero,List.getElem?_cons_succ,List.getElem?_nil,List.getElem?_toArray,List.size_toArray,List.length_cons,List.length_nil,List.zipIdx_cons,List.zipIdx_nil,List.foldl_cons,List.foldl_nil,List.setIfInBounds_toArray,List.set_cons_zero,List.set_cons_succ,List.append_eq,List.nil_append,List.cons_append,List.append_nil,List.toList_toArray,true_and,and_true,true_or,or_true,or_false,false_or,and_self,if_true,if_false,ite_true,ite_false,Bool.false_eq_true,Nat.zero_add,Nat.add_zero,decide_true,decide_false,Bool.and_true,Bool.and_false,Bool.true_and,Bool.false_and,Option.isNone_some,Option.isNone_none,Int.reduceLT,Int.reduceLE,Int.reduceToNat,Int.toNat_natCast,Int.reduceAdd,Int.reduceSub,Int.reduceMul,Int.reduceNeg,Int.reduceEq,Int.reduceNe,Int.reduceBEq,Int.reduceBNe,Nat.mul_one,List.extract_toArray,List.extract_eq_take_drop,List.drop_zero,List.drop_succ_cons,List.take_zero,List.take_succ_cons,Nat.sub_zero,Nat.add_sub_cancel,Nat.add_sub_cancel_left,vcS_nil,vcS_cons,vcS_gate,gateS_true,gateS_false,stepB_true,stepB_false,pureI,Nat.zero_mul,Nat.one_mul,Nat.reduceMul,Nat.reduceSub,List.all_toArray',List.all_cons,List.all_nil,size_set,size_alloc,size_drew,get_alloc_new,get_set_same,get_drew,Nat.lt_add_one,vcD_nil,vcD_cons,vcD_gate,gateD_true,gateD_false,stepD_pure,stepD_load,stepD_step,kindI,loadI,hI.get (k:=8) (d:=25) (v:=(.map (some mb))) (by simp) (hdeps 8 (by decide)),hI.get (k:=9) (d:=26) (v:=kv) (by simp) (hdeps 9 (by decide))] using htu.look (Maps.string_keyed tKeySd) tMapSd hk hD) ?_
   exact ⟨hI.put 10 27 _ rfl (by simp) rfl,hmu⟩
  ·simp only [ZB,insVc,loadNK,Nat.reduceLeDiff,hI.frm (d:=6) (v:=ptr w.heap.size) (by simp),cu,hsz,hex]
   exact ⟨hI.put 11 28 _ rfl (by simp [Rw.val]) rfl,hmu⟩
  ·simp only [updO_some,ev_tmp,insVc,Zae,Zab,hI.get (k:=10) (d:=27) (v:=r.val) (by simp) (hdeps 10 (by decide)),hI.get (k:=11) (d:=28) (v:=(Rw.one x).val) (by simp) (hdeps 11 (by decide))]
   refine plus_c r (Rw.one x) u _ hr hog ?_
   intro u2 hm2
   exact ⟨hI.put 12 29 _ rfl (by simp) rfl,hmu.trans hm2⟩
 ·rintro L ρ u y hall ⟨hI,hmu⟩ hx'
  obtain rfl:=Option.some.inj hx'
  have htu:=ht2.keep hmu id id
  obtain ⟨u2,hr2,ht3,hm3⟩:=htu.store (Maps.string_keyed tKeySd) tMapSd hk hn (r.plus (Rw.one x))
  refine rawK_mapUpdate rfl rfl rfl rfl (by simpa only [vc_skip,vc_seq,vc_cond,vc_block,vc_exit,vc_ret,vc_ops,vcOps_nil,vcOps_cons,vcOps_gate,gateK_true,gateK_false,gate_true,gate_false,gate_undef,goL_apply,thenQ_normal,thenQ_ret,thenQ_exit,blockQ_normal,blockQ_ret,blockQ_same,blockQ_exit,condP_true,condP_false,upd_same,upd_other,updO_some,updO_none,ev_tmp,ev_const,ev_global,ev_func,endQ_ret,endQ_normal,endK,resK,resN,res1,resO_cells,resNO_cells,packed,initE_at,insVc,pickK,load1K,loadO_cells,loadV_some,loadV_none,loadNK,loadNO_cells,storeK,storeO_cells,storeNK,storeNO_cells,setMany,nilK,nilM,iopK,iopV,sopK,sopV,bopK,nilOf,pnilK,notK,convK,sameK,faddrK,fld1K,fldNK,iaddrK,iaddrAK,sidxK,extK,lenSK,lenLK,callvK,invK,buildK,fillL,buildSK,boundOf,slSK,slLK,slAK,isPlain,Value.cells,ne_eq,not_false_eq_true,not_true_eq_false,Nat.reduceEqDiff,Nat.reduceAdd,Nat.reduceLT,Nat.reduceLeDiff,reduceCtorEq,Bool.not_true,Bool.not_false,Option.map_some,Option.map_none,Option.getD_some,Option.getD_none,List.map_cons,List.map_nil,List.getElem?_cons_zero,List.getElem?_cons_succ,List.getElem?_nil,List.getElem?_toArray,List.size_toArray,List.length_cons,List.length_nil,List.zipIdx_cons,List.zipIdx_nil,List.foldl_cons,List.foldl_nil,List.setIfInBounds_toArray,List.set_cons_zero,List.set_cons_succ,List.append_eq,List.nil_append,List.cons_append,List.append_nil,List.toList_toArray,true_and,and_true,true_or,or_true,or_false,false_or,and_self,if_true,if_false,ite_true,ite_false,Bool.false_eq_true,Nat.zero_add,Nat.add_zero,decide_true,decide_false,Bool.and_true,Bool.and_false,Bool.true_and,Bool.false_and,Option.isNone_some,Option.isNone_none,Int.reduceLT,Int.reduceLE,Int.reduceToNat,Int.toNat_natCast,Int.reduceAdd,Int.reduceSub,Int.reduceMul,Int.reduceNeg,Int.reduceEq,Int.reduceNe,Int.reduceBEq,Int.reduceBNe,Nat.mul_one,List.extract_toArray,List.extract_eq_take_drop,List.drop_zero,List.drop_succ_cons,List.take_zero,List.take_succ_cons,Nat.sub_zero,Nat.add_sub_cancel,Nat.add_sub_cancel_left,vcS_nil,vcS_cons,vcS_gate,gateS_true,gateS_false,stepB_true,stepB_false,pureI,Nat.zero_mul,Nat.one_mul,Nat.reduceMul,Nat.reduceSub,List.all_toArray',List.all_cons,List.all_nil,size_set,size_alloc,size_drew,get_alloc_new,get_set_same,get_drew,Nat.lt_add_one,vcD_nil,vcD_cons,vcD_gate,gateD_true,gateD_false,stepD_pure,stepD_load,stepD_step,kindI,loadI,hI.get (k:=3) (d:=20) (v:=(.map (some mb))) (by simp) (hall 3 (by decide)),hI.get (k:=4) (d:=21) (v:=kv) (by simp) (hall 4 (by decide)),hI.get (k:=12) (d:=29) (v:=(r.plus (Rw.one x)).val) (by simp) (hall 12 (by decide))] using hr2) ?_
  simp only [updO_none,endQ_normal,endK,resK,packed]
  exact h u2 _ (((hm2.trans hmu).mono fun _ _ x=>x.elim).then hm3 (fun _ _ x=>x)) ht3
section
variable {t ta tu:TypeId}
theorem keyLits_row (hu:(prog).underlying t=some (.struct ((prog).fieldsOf t))) (hL:(((prog).fieldsOf t).toList.map fun f=>(f.type,f.offset))=[(tu,0),(tu,1),(tu,2),(tu,3),(ta,4)])
  (hn:((prog).fieldsOf t).all (fun f=>f.name != "_")=true) (hc:(prog).cellsOf t=69) (hta:(prog).underlying ta=some (.array 65 tu)) (hca:(prog).cellsOf ta=65) (htu:(prog).underlying tu=some (.int .u64)) (hcu:(prog).cellsOf tu=1)
  (r:Rw) (hr:r.good):(prog).keyLits 3 t r.cells=some r.lits:=by
 unfold Program.keyLits
 have e0:(r.cells.drop 0).take 1=[.int .u64 (r.c:Int)]:=rfl
 have e1:(r.cells.drop 1).take 1=[.int .u64 (r.s:Int)]:=rfl
 have e2:(r.cells.drop 2).take 1=[.int .u64 (r.lo:Int)]:=rfl
 have e3:(r.cells.drop 3).take 1=[.int .u64 (r.hi:Int)]:=rfl
 have e4:(r.cells.drop 4).take 65=r.cl.map fun (n:Nat)=>.int .u64 (n:Int):=by
  show (numV r.cl).take 65=_
  rw [List.take_of_length_le (by rw [numV_len,hr.len];omega)]
  rfl
 have hmm:((prog).fieldsOf t).toList.mapM (fun f=>(prog).keyLits 2 f.type ((r.cells.drop f.offset).take ((prog).cellsOf f.type)))=([(tu,0),(tu,1),(tu,2),(tu,3),(ta,4)]:List (TypeId × Nat)).mapM (fun p=>(prog).keyLits 2 p.1 ((r.cells.drop p.2).take ((prog).cellsOf p.1))):=by
  rw [← hL]
  exact mapM_of_map (fun f:Field=>(f.type,f.offset)) (fun p:TypeId × Nat=>(prog).keyLits 2 p.1 ((r.cells.drop p.2).take ((prog).cellsOf p.1))) _
 simp only [hu,hc,cells_len r hr,hn,and_self,Zaa]
 rw [hmm]
 simp only [List.mapM_cons,List.mapM_nil,hca,hcu,e0,e1,e2,e3,e4,keyLits_u64 htu 1 _ hr.c,keyLits_u64 htu 1 _ hr.s,keyLits_u64 htu 1 _ hr.lo,keyLits_u64 htu 1 _ hr.hi,keyLits_arr hta hca htu hcu 0 r.cl hr.len hr.cl]
 simp [Rw.lits]
theorem rowEq_of (hu:(prog).underlying t=some (.struct ((prog).fieldsOf t))) (hL:(((prog).fieldsOf t).toList.map fun f=>(f.type,f.offset))=[(tu,0),(tu,1),(tu,2),(tu,3),(ta,4)])
  (hn:((prog).fieldsOf t).all (fun f=>f.name != "_")=true) (hc:(prog).cellsOf t=69) (hta:(prog).underlying ta=some (.array 65 tu)) (hca:(prog).cellsOf ta=65) (htu:(prog).underlying tu=some (.int .u64)) (hcu:(prog).cellsOf tu=1)
  (hk:(prog).keyTypeAt 3 t=true) (r s:Rw) (hr:r.good) (hs:s.good):EqR (prog) 10000 t r.val s.val (decide (r=s)):=by
 intro w
 have fm:∀x:Rw,x.good→x.val.formed (prog) t=true:=by
  intro x hx
  unfold Value.formed
  simp [Rw.val,hu,hc,cells_len x hx]
 obtain ⟨b,hb,hiff⟩:=run_equalIn_deep 9997 3 t hk w 3 3 r.val s.val r.lits s.lits (fm r hr) (fm s hs) (keyLits_row hu hL hn hc hta hca htu hcu r hr) (keyLits_row hu hL hn hc hta hca htu hcu s hs)
 have:b=decide (r=s):=by
  by_cases h:r=s
  ·rw [decide_eq_true h];exact hiff.2 ((lits_inj r s).2 h)
  ·rw [decide_eq_false h]
   cases b with
   | false=>rfl
   | true=>exact (h ((lits_inj r s).1 (hiff.1 rfl))).elim
 rw [← this]
 exact hb
end
theorem rowEqT (r s:Rw) (hr:r.good) (hs:s.good):EqR (prog) 10000 42 r.val s.val (decide (r=s)) :=
 rowEq_of (ta:=40) (tu:=27) (by kernel_rfl) (by kernel_rfl) (by kernel_rfl) (by kernel_rfl) (by kernel_rfl) (by kernel_rfl) (by kernel_rfl) (by kernel_rfl) (by kernel_rfl) r s hr hs
theorem rowEqR (r s:Rw) (hr:r.good) (hs:s.good):EqR (prog) 10000 86 r.val s.val (decide (r=s)) :=
 rowEq_of (ta:=40) (tu:=27) (by kernel_rfl) (by kernel_rfl) (by kernel_rfl) (by kernel_rfl) (by kernel_rfl) (by kernel_rfl) (by kernel_rfl) (by kernel_rfl) (by kernel_rfl) r s hr hs
def TalG (w:World) (tb mb n:Nat) (m:MG Rw):Prop:=TalD 9 72 w tb mb n (DG Rw.val m)
def keyRows (m:MG Rw):List (List Value):=(keysG m).map fun k=>[.string ⟨k.toArray⟩]
def rowRows (m:MG Rw):List (List Value):=m.map fun p=>[.string ⟨p.1.toArray⟩,p.2.val]
theorem TalG.keep {w w':World} {S:Nat→Prop} {tb mb n:Nat} {m:MG Rw} (h:TalG w tb mb n m) (hm:Mod S w w') (hs:¬S tb) (hs':¬S mb):TalG w' tb mb n m:=TalD.keep h hm hs hs'
theorem TalG.sorted {w:World} {tb mb n:Nat} {m:MG Rw} (h:TalG w tb mb n m):SortedG m:=sortedG_of_canon (World.ownsMap.canon h.2.1 (Maps.string_keyed tKeySd))
theorem TalG.keySize {w:World} {tb mb n:Nat} {m:MG Rw} (h:TalG w tb mb n m) {p} (hp:p∈m):p.1.length≤maxLen:=by
 obtain ⟨es,he,hk⟩:=World.ownsMap.keysOf h.2.1
 have e:encG Rw.val m=es:=by injection he
 subst e
 obtain ⟨v,hv⟩:=hk (.string p.1,.held p.2.val) (List.mem_map.2 ⟨p,hp,rfl⟩)
 obtain ⟨x,_,h1,h2⟩:=Maps.keyOf_str tKeySd hv
 cases h1
 exact h2
theorem keyRows_len (m:MG Rw):(keyRows m).length=m.length:=by simp [keyRows,keysG]
theorem rowRows_len (m:MG Rw):(rowRows m).length=m.length:=by simp [rowRows]
theorem keyRows_at (m:MG Rw) (i:Nat) (p:List UInt8 × Rw) (h:m[i]? = some p):(keyRows m)[i]? = some [.string ⟨p.1.toArray⟩]:=by simp [keyRows,keysG,h]
theorem rowRows_at (m:MG Rw) (i:Nat) (p:List UInt8 × Rw) (h:m[i]? = some p):(rowRows m)[i]? = some [.string ⟨p.1.toArray⟩,p.2.val]:=by simp [rowRows,h]
theorem keysS1_c (c1 tb mb n:Nat) (m:MG Rw) (hml:m.length * 16≤140737488355328) :
  IterP prog 46 [ptr c1] (keyRows m) (fun u=>TalG u tb mb n m∧u.heap[c1]? = some (.cells #[ptr tb] 25 (0,0))):=by
 intro y _ J Jx w hJ hF hS hSx hy
 refine F46.enter (args:=[y,ptr c1]) (by simp) ?_
 unfold c46 r46
 obtain ⟨hs,e1⟩:=hF 0 _ _ hJ
 have hsort:=hs.sorted
 simp only [ZB,insVc,load1K,nilK,nilOf,pnilK,faddrK,ne_eq,Nat.reduceEqDiff,Zac,Zae,Zab,Za,Zag,Zah,Zaf,Zbq,e1,hs.1]
 refine ok_of_calls (by kernel_rfl) (callsIn_wide.1 (Go.Proofs.Tryz.maps_Keys_48 (some mb) w)) ?_
 rintro e w' ⟨rfl,rfl⟩
 refine ⟨_,rfl, ?_⟩
 simp only [ZB,insVc,Zae,Zab]
 have hsz:Maps.size (DG Rw.val m)=m.length:=sizeG m
 refine ok_of_calls (by kernel_rfl) (callsIn_wide.1 (Go.Proofs.Tryz.slices_Sorted_keys_47_48 mb n (DG Rw.val m) _ w hs.2.1 (by rw [hsz];simp only [maxLen];omega) (by rw [hsz];exact hml))) ?_
 rintro e w2 ⟨v,ss,rfl,hp,hrow,hnil,hbel⟩
 refine ⟨v,rfl, ?_⟩
 have hm2:Mod (fun _=>False) w w2:=((Mod.refl _ _).alloc _).trans (Mod.of_below hbel)
 have hks:ss.mergeSort (fun x y=>decide (x≤y))=m.map (·.1):=sort_keysG hsort (by rw [strKeysG] at hp;exact hp)
 have hlen:ss.length=m.length:=by have:=congrArg List.length hks;simpa using this
 rw [hks,hlen] at hrow
 have hend:∀(u:World) (X:Nat→Prop),w.heap.size≤u.heap.size→(∀k,X k→w.heap.size≤k∧k<u.heap.size)→J m.length X u →
   w.heap.size≤u.heap.size∧∃X,(∀k,X k→w.heap.size≤k∧k<u.heap.size)∧(J (keyRows m).length X u∨Jx X u):=fun u X h1 h2 h3=>⟨h1,X,h2,.inl (by rw [keyRows_len];exact h3)⟩
 have hJ2:J 0 (fun k=>w.heap.size≤k∧k<w2.heap.size) w2:=hS 0 _ _ w w2 hJ (hm2.mono fun _ _ x=>x.elim) (fun k hk=>.inr hk)
 have hw2:=hm2.size
 rcases hrow.2 with ⟨rfl,hm0⟩|⟨g,cap,cur,rfl,hbg,hg,hnc,hcm,hcs,htake⟩
 ·have hm':m=[]:=List.eq_nil_of_length_eq_zero hm0
  subst hm'
  simp only [ZB,insVc,lenLK]
  refine vc_loop (fun _ ρ ds u=>ρ 13 = .int .i64 0∧ρ 14 = .int .i64 0∧ds=[]∧u=w2) 0 ⟨rfl,rfl,rfl,rfl⟩ ?_
  rintro _ ρ ds u ⟨h13,h14,rfl,rfl⟩
  simp only [ZB,endK,resK,insVc,iopK,iopV,reduceCtorEq,Int.reduceLT,h13,h14]
  exact hend _ _ hw2 (fun k hk=>hk) hJ2
 ·simp only [ZB,insVc,lenLK]
  have hbg':w.heap.size≤g:=by have:=hbg;rw [size_alloc] at this;omega
  have hcell:∀(i:Nat) (p:List UInt8 × Rw),m[i]? = some p→cur[i]? = some (Value.string ⟨p.1.toArray⟩):=by
   intro i p hi
   have h1:(cur.toList.take (m.length * 1))[i]? = some (Value.string ⟨p.1.toArray⟩):=by rw [htake];simp [hi,Go.Proofs.encStr]
   have hlt:i<m.length:=by
    rcases Nat.lt_or_ge i m.length with h|h
    ·exact h
    ·rw [List.getElem?_eq_none h] at hi;cases hi
   rw [List.getElem?_take,if_pos (by omega)] at h1
   simpa using h1
  refine vc_loop (fun mm ρ ds u => ∃i X,i≤m.length∧mm=m.length-i∧ρ 0=y∧ρ 12 = .slice (some ⟨g,0,none⟩) m.length cap∧ρ 13 = .int .i64 m.length∧ρ 14 = .int .i64 i∧ds=[] ∧
   J i X u∧(∀k,X k→w.heap.size≤k∧k<u.heap.size)∧X g∧u.heap[g]? = some (.cells cur 9 (0,0))∧w.heap.size≤u.heap.size) (m.length-0) ?_ ?_
  ·refine ⟨0,fun k=>w.heap.size≤k∧k<w2.heap.size,Nat.zero_le _,rfl, ?_⟩
   simp only [ZB,ne_eq,Nat.reduceEqDiff,reduceCtorEq,Zac,Za]
   exact ⟨rfl,hJ2,fun k hk=>hk,⟨hbg',lt_of_get hg⟩,hg,hw2⟩
  ·rintro mm ρ ds u ⟨i,X,hi,rfl,h0,h12,h13,h14,rfl,hJu,hX,hXg,hgu,hsu⟩
   simp only [ZB,insVc,iopK,iopV,reduceCtorEq,h13,h14]
   refine condP_split ?_ ?_
   ·intro hc
    have hlt:i<m.length:=by have:=of_decide_eq_true hc;omega
    obtain ⟨p,hp⟩:∃p,m[i]? = some p:=⟨m[i],List.getElem?_eq_getElem hlt⟩
    have hi1:IntKind.i64.wrap ((i:Int)+1)=((i+1:Nat):Int):=by
     have:m.length≤140737488355328:=by omega
     rw [wrap_i64 _ (by omega)];omega
    simp only [ZB,insVc,load1K,iaddrK,callvK,ne_eq,Nat.reduceEqDiff,reduceCtorEq,Zae,Zab,Zbj,Zbm,h0,h12,h14,hgu,hcell i p hp]
    refine ⟨by omega, ?_⟩
    have hyy:=hy i (by rw [keyRows_len];exact hlt) X u hJu hX hsu
    rw [keyRows_at m i p hp] at hyy
    refine callvK_mono hyy ?_
    rintro v u' ⟨⟨q1,q2⟩,⟨rfl,q3⟩|⟨rfl,q3⟩⟩
    ·simp only [ZB,insVc,iopK,iopV,notK,ne_eq,Nat.reduceEqDiff,reduceCtorEq,h14,hi1]
     refine ⟨m.length-(i+1),by omega,i+1,X,by omega,rfl, ?_⟩
     simp only [true_and,h0,h12,h13]
     exact ⟨q3,fun k hk=>⟨(hX k hk).1,Nat.lt_of_lt_of_le (hX k hk).2 q1⟩,hXg,(q2 g hXg).trans hgu,Nat.le_trans hsu q1⟩
    ·simp only [ZB,endK,resK,insVc,notK]
     exact ⟨Nat.le_trans hsu q1,X,fun k hk=>⟨(hX k hk).1,Nat.lt_of_lt_of_le (hX k hk).2 q1⟩,.inr q3⟩
   ·intro hc
    have hge:i=m.length:=by have:=of_decide_eq_false hc;omega
    subst hge
    simp only [ZB,endK,resK]
    exact hend u X hsu hX hJu
theorem keysS_c (tb mb n:Nat) (m:MG Rw) (w:World) (K:Value→World→Prop) (hml:m.length * 16≤140737488355328)
  (h:∀w' gf cap,Mod (fun _=>False) w w'→IterP prog gf cap (keyRows m) (fun u=>TalG u tb mb n m∧Kept w.heap.size w' u)→K (.func (.func gf) #[] cap.toArray) w') :
  Ok prog 35 #[ptr tb] w K:=by
 refine F35.enter (args:=[ptr tb]) (by simp) ?_
 unfold c35 r35
 simp only [ZB,endK,resK,packed,insVc,Value.cells,ne_eq,Nat.reduceEqDiff,Zac,Zae,Zab,Za,Zad]
 refine h _ _ [ptr w.heap.size] ((Mod.refl _ _).alloc _) (iterP_mono (keysS1_c _ tb mb n m hml) ?_)
 rintro u ⟨h1,h2⟩
 refine ⟨h1,h2.at ?_ (Nat.le_refl _)⟩
 simp only [Zaa,get_alloc]
theorem allS1_c (c1 tb mb n:Nat) (m:MG Rw) (hml:m.length * 16≤140737488355328) (hg:∀p∈m,p.2.good) :
  IterP prog 42 [ptr c1] (rowRows m) (fun u=>TalG u tb mb n m∧u.heap[c1]? = some (.cells #[ptr tb] 25 (0,0))):=by
 rintro y ⟨fy,ya,yb,hyf⟩ J Jx w hJ hF hS hSx hy
 refine F42.enter (args:=[y,ptr c1]) (by simp) ?_
 unfold c42 r42
 obtain ⟨hA,e1⟩:=hF 0 _ _ hJ
 have q1:=lt_of_get e1
 simp only [ZB,insVc,load1K,Value.cells,ne_eq,Nat.reduceEqDiff,Zac,Zae,Zab,Za,Zag,Zah,Zaf,get_alloc,Nat.reduceEqDiff,e1,Nat.ne_of_lt q1]
 refine callK_gen ?_
 intro w1 hw1
 have hm1:Mod (fun _=>False) w w1:=by rw [hw1];exact (Mod.refl _ _).alloc _
 have b1:w1.heap[w.heap.size]? = some (.cells #[y] 102 (0,0)):=by rw [hw1];simp only [Zaa,get_alloc,hyf]
 clear hw1
 refine keysS_c tb mb n m w1 _ hml ?_
 intro w4 gf cap hm4 it
 have hm14:=hm1.trans hm4
 have hz1:=hm1.size
 have hz4:=hm4.size
 have b4:=hm4.keep b1 id
 simp only [ZB]
 let XO:(Nat→Prop)→Nat→Prop:=fun X k=>(w.heap.size≤k∧k<w4.heap.size+2)∨X k
 have hXO:∀(X X':Nat→Prop) (a b:World),(∀k,X' k→X k∨a.heap.size≤k∧k<b.heap.size)→∀k,XO X' k→XO X k∨a.heap.size≤k∧k<b.heap.size:=by
  rintro X X' a b h k (hk|hk)
  ·exact .inl (.inl hk)
  ·exact (h k hk).elim (fun x=>.inl (.inr x)) .inr
 have hfin:∀(u:World) (X:Nat→Prop) (u':World),w4.heap.size+2≤u.heap.size→(∀k,X k→w4.heap.size≤k∧k<u.heap.size)→J (rowRows m).length (XO X) u∨Jx (XO X) u→Mod (fun k=>k=w4.heap.size) u u' →
   w.heap.size≤u'.heap.size∧∃X,(∀k,X k→w.heap.size≤k∧k<u'.heap.size)∧(J (rowRows m).length X u'∨Jx X u'):=by
  intro u X u' h1 h2 h3 h4
  have h5:=h4.size
  have hb:∀k,XO X k→w.heap.size≤k∧k<u'.heap.size:=by
   rintro k (hk|hk)
   ·omega
   ·have:=h2 k hk;omega
  have hm:Mod (XO X) u u':=h4.mono fun k _ hk=>.inl (by omega)
  exact ⟨by omega,XO X,hb,h3.imp (fun h=>hS _ _ _ u u' h hm (fun k hk=>.inl hk)) (fun h=>hSx _ _ u u' h hm (fun k hk=>.inl hk))⟩
 refine range_iter (by kernel_rfl) (by kernel_rfl) (by kernel_rfl) (gf:=gf) (cap:=cap) (by simp only [upd_same,ev_tmp]) it
  (fun i X u=>J i (XO X) u∧Kept w.heap.size w4 u) (fun c X u=>c = .ret∧Jx (XO X) u) ?_ ?_ ?_ ?_ ?_ ?_ ?_ ?_
 ·intro X w' hm hsz hX
  refine ⟨hS 0 _ _ w w' hJ ((hm14.trans hm).mono fun _ _ x=>x.elim) ?_,(Kept.refl _ _).keep hm (fun _ _ _=>id)⟩
  rintro k (hk|hk)
  ·exact .inr ⟨hk.1,by omega⟩
  ·have:=hX k hk
   exact .inr (by omega)
 ·rintro i X u ⟨h1,h2⟩
  exact ⟨(hF _ _ _ h1).1,h2.1,fun k hk hk'=>h2.2 k (by omega) hk'⟩
 ·rintro i X X' a b ⟨h1,h2⟩ hX ha hm hx
  exact ⟨hS i _ _ a b h1 (hm.mono fun _ _ x=>.inr x) (hXO X X' a b hx),h2.keep hm (fun k _ hk x=>by have:=hX k x;omega)⟩
 ·rintro c X X' a b ⟨rfl,h⟩ hX ha hm hx
  exact ⟨rfl,hSx _ _ a b h (hm.mono fun _ _ x=>.inr x) (hXO X X' a b hx)⟩
 ·intro i hi
  rw [keyRows_len] at hi
  rw [keyRows_at m i _ (List.getElem?_eq_getElem hi)]
  rfl
 ·intro i hi X a ⟨hJa,hKa⟩ hX ha
  rw [keyRows_len] at hi
  obtain ⟨p,hp⟩:∃p,m[i]? = some p:=⟨m[i],List.getElem?_eq_getElem hi⟩
  have hpm:p∈m:=List.mem_of_getElem? hp
  rw [keyRows_at m i p hp]
  simp only [ZB,insVc,Zac,Zac,updMany]
  refine ⟨Mod.refl _ _, ?_⟩
  rintro c hmc ⟨hJc,hKc⟩
  obtain ⟨hAc,e1c⟩:=hF _ _ _ hJc
  have bC:=hKc.at b4 (Nat.le_refl _)
  have hsz:=hAc.keySize hpm
  have hlk:=look_memG hAc.sorted hpm
  have hk:keyOf prog 9 (.string ⟨p.1.toArray⟩)=some (.string p.1):=by
   simp [keyOf,mapKey,ByteArray.size,hsz]
  have hD:(DG Rw.val m).atKey (.string p.1) (.held Rw.zero.val) = .held p.2.val:=by rw [DG_at,hlk];rfl
  refine draw_c (dp:=[[],[],[],[],[2,3],[0,1,4,4],[5]]) (N:=6)
   (fun L ρ u=>RegI [(2,ptr w.heap.size),(1,ptr c1),(3,.string ⟨p.1.toArray⟩)]
    [(0,7,y),(1,8,.string ⟨p.1.toArray⟩),(2,9,ptr tb),(3,10,.string ⟨p.1.toArray⟩),(4,11,p.2.val)] L ρ∧(L 5=false→Mod (fun _=>False) c u) ∧
    (L 5=true→(c.heap.size≤u.heap.size∧(∀k,XO X k→u.heap[k]? = c.heap[k]?))∧(ρ 12 = .bool true∧J (i+1) (XO X) u∨ρ 12 = .bool false∧Jx (XO X) u)))
   (by kernel_rfl) (by kernel_rfl) (by kernel_rfl) (by kernel_rfl) (by kernel_rfl) (by kernel_rfl) rfl rfl (by kernel_rfl) ?_ ?_ ?_
  ·refine ⟨RegI.start ?_,fun _=>(Mod.refl _ _).drew,fun h=>(Bool.false_ne_true h).elim⟩
   intro q hq
   simp only [Zbo,Zbp,or_false] at hq
   rcases hq with rfl|rfl|rfl <;> simp only [ZB,ne_eq,Nat.reduceEqDiff,Zac,Za,Zag]
  ·rintro L ρ u k x d hk6 hx' hd hL hdeps hcl ⟨hI,hm5,h5⟩
   have hnot:L 5=false:=by
    cases h:L 5 with
    | false=>rfl
    | true =>
     have g5:=hcl 5 _ rfl h
     have g4:=hcl 4 _ rfl (g5 4 (by decide))
     have:L k=true:=by
      obtain rfl|rfl|rfl|rfl|rfl|rfl:k=0∨k=1∨k=2∨k=3∨k=4∨k=5:=by omega
      ·exact g5 0 (by decide)
      ·exact g5 1 (by decide)
      ·exact g4 2 (by decide)
      ·exact g4 3 (by decide)
      ·exact g5 4 (by decide)
      ·exact h
     rw [this] at hL;cases hL
   have hmu:=hm5 hnot
   have hAu:=hAc.keep hmu id id
   have bu:=hmu.keep bC id
   have eu:=hmu.keep e1c id
   obtain rfl|rfl|rfl|rfl|rfl|rfl:k=0∨k=1∨k=2∨k=3∨k=4∨k=5:=by omega
   all_goals (obtain rfl:=Option.some.inj hx';obtain rfl:=Option.some.inj hd)
   ·simp only [ZB,insVc,load1K,ne_eq,Nat.reduceEqDiff,Za,Zah,hI.frm (d:=2) (v:=ptr w.heap.size) (by simp),bu]
    exact ⟨hI.put 0 7 _ rfl (by simp) rfl,fun _=>hmu,fun h=>by simp [hnot] at h⟩
   ·simp only [ZB,insVc,ne_eq,Nat.reduceEqDiff,hI.frm (d:=3) (v:=.string ⟨p.1.toArray⟩) (by simp)]
    exact ⟨hI.put 1 8 _ rfl (by simp) rfl,fun _=>hmu,fun h=>by simp [hnot] at h⟩
   ·simp only [ZB,insVc,load1K,ne_eq,Nat.reduceEqDiff,Za,Zah,hI.frm (d:=1) (v:=ptr c1) (by simp),eu]
    exact ⟨hI.put 2 9 _ rfl (by simp) rfl,fun _=>hmu,fun h=>by simp [hnot] at h⟩
   ·simp only [ZB,insVc,ne_eq,Nat.reduceEqDiff,hI.frm (d:=3) (v:=.string ⟨p.1.toArray⟩) (by simp)]
    exact ⟨hI.put 3 10 _ rfl (by simp) rfl,fun _=>hmu,fun h=>by simp [hnot] at h⟩
   ·simp only [ZB,insVc,ne_eq,Nat.reduceEqDiff,Zae,Zab,hI.get (k:=2) (d:=9) (v:=ptr tb) (by simp) (hdeps 2 (by decide)),hI.get (k:=3) (d:=10) (v:=.string ⟨p.1.toArray⟩) (by simp) (hdeps 3 (by decide))]
    refine ofSd_c tb mb n _ _ p.2 (DG Rw.val m) u _ (hg p hpm) hAu hD hk ?_
    intro u2 hm2
    exact ⟨hI.put 4 11 _ rfl (by simp) rfl,fun _=>hmu.trans hm2,fun h=>by simp [hnot] at h⟩
   ·simp only [upd_same,updO_some,ev_tmp,insVc,callvK,Zae,Zab,hI.get (k:=0) (d:=7) (v:=y) (by simp) (hdeps 0 (by decide)),hI.get (k:=1) (d:=8) (v:=.string ⟨p.1.toArray⟩) (by simp) (hdeps 1 (by decide)),hI.get (k:=4) (d:=11) (v:=p.2.val) (by simp) (hdeps 4 (by decide))]
    have hc0:=hKc.1
    have hus:=hmu.size
    have hmcs:=hmc.size
    have hbd:∀k,XO X k→w.heap.size≤k∧k<u.heap.size:=by
     rintro k (hk|hk)
     ·omega
     ·have:=hX k hk;omega
    have hJu:=hS i _ (XO X) c u hJc (hmu.mono fun _ _ x=>x.elim) (fun k hk=>.inl hk)
    have hyy:=hy i (by rw [rowRows_len];exact hi) (XO X) u hJu hbd (by omega)
    rw [rowRows_at m i p hp] at hyy
    refine callvK_mono hyy ?_
    rintro v d ⟨⟨k1,k2⟩,k3⟩
    refine ⟨hI.put 5 12 v rfl (by simp) rfl,fun h=>by simp at h,fun _=>⟨⟨by omega,fun k hk=>(k2 k hk).trans (hmu.get k ?_ id)⟩, ?_⟩⟩
    ·have:=hbd k hk
     rcases hk with hk|hk
     ·omega
     ·have:=hX k hk;omega
    ·exact k3
  ·rintro L ρ u x hall ⟨hI,_,h5⟩ hx'
   obtain rfl:=Option.some.inj hx'
   obtain ⟨⟨k1,k2⟩,k3⟩:=h5 (hall 5 (by decide))
   have hc0:=hKc.1
   have hmcs:=hmc.size
   rcases k3 with ⟨e,k3⟩|⟨e,k3⟩
   ·simp only [ZB,insVc,notK,reduceCtorEq,e]
    exact ⟨⟨k1,fun k hk=>k2 k (.inr hk)⟩,.inl ⟨k3,by omega,fun k h1 h2=>(k2 k (.inl ⟨h1,by omega⟩)).trans (hKc.2 k h1 h2)⟩⟩
   ·simp only [ZB,insVc,notK,reduceCtorEq,e]
    exact ⟨⟨k1,fun k hk=>k2 k (.inr hk)⟩,.inr ⟨.ret,.inl rfl,rfl,k3⟩⟩
 ·rintro X u ⟨h3,h4⟩ ⟨a1,a2,a3⟩
  simp only [blockQ_normal,endQ_normal,endK,resK,size_set,markO,a1]
  have hfin':=fun h=>hfin u X (Vc.set u w4.heap.size (.deferred none)) a2 a3 h ((Mod.refl _ _).set (.inr rfl))
  simp only [size_set] at hfin'
  refine hfin' (.inl ?_)
  rw [rowRows_len,← keyRows_len];exact h3
 ·rintro c X u ⟨rfl,h⟩ ⟨a1,a2,a3⟩
  have hfin':=hfin u X (Vc.set u w4.heap.size (.deferred none)) a2 a3 (.inr h) ((Mod.refl _ _).set (.inr rfl))
  simp only [size_set] at hfin'
  simp only [exitOf,blockQ_ret,endQ_ret,endK,resK,size_set,markO,a1]
  exact hfin'
theorem allS_c (tb mb n:Nat) (m:MG Rw) (w:World) (K:Value→World→Prop) (hml:m.length * 16≤140737488355328) (hg:∀p∈m,p.2.good)
  (h:∀w' gf cap,Mod (fun _=>False) w w'→IterP prog gf cap (rowRows m) (fun u=>TalG u tb mb n m∧Kept w.heap.size w' u)→K (.func (.func gf) #[] cap.toArray) w') :
  Ok prog 30 #[ptr tb] w K:=by
 refine F30.enter (args:=[ptr tb]) (by simp) ?_
 unfold c30 r30
 simp only [ZB,endK,resK,packed,insVc,Value.cells,ne_eq,Nat.reduceEqDiff,Zac,Zae,Zab,Za,Zad]
 refine h _ _ [ptr w.heap.size] ((Mod.refl _ _).alloc _) (iterP_mono (allS1_c _ tb mb n m hml hg) ?_)
 rintro u ⟨h1,h2⟩
 refine ⟨h1,h2.at ?_ (Nat.le_refl _)⟩
 simp only [Zaa,get_alloc]
theorem class36_c (n:Nat) (w:World) (K:Value→World→Prop) (hn:n<18446744073709551616) (h:K (.int .i64 (cls n:Nat)) w):Ok prog 23 #[.int .u64 n] w K:=by
 refine F23.enter (args:=[.int .u64 n]) (by simp) ?_
 unfold c23 r23
 simp only [ZB,insVc]
 refine vc_loop (fun m ρ ds u=>ds=[]∧u=w∧∃x k:Nat,m=x∧ρ 0 = .int .u64 x∧ρ 3 = .int .i64 k∧x<18446744073709551616∧k+cls x=cls n) n ?_ ?_
 ·exact ⟨rfl,rfl,n,0,rfl,by simp only [upd_other,initE_at,ne_eq,not_false_eq_true,reduceCtorEq,Zac,Za],by simp only [upd_same];rfl,hn,by omega⟩
 ·rintro m ρ ds u ⟨rfl,rfl,x,k,rfl,h0,h3,hx,hk⟩
  simp only [ZB,insVc,iopK,iopV,reduceCtorEq,h0]
  have hc64:=cls_le hn
  by_cases hp:0<m
  ·have g:(m:Int) > 0:=by omega
   have hh:=cls_half m hp hx
   have hq:IntKind.u64.wrap (Int.tdiv (m:Int) 2)=((m/2:Nat):Int):=by
    rw [show Int.tdiv (m:Int) 2=((m/2:Nat):Int) from rfl,wrap_u64' _ (by omega)]
   simp only [ZB,insVc,iopK,iopV,ne_eq,Nat.reduceEqDiff,reduceCtorEq,Zaf,Int.reduceEq,g,h0,h3,hq]
   refine ⟨m/2,by omega,m/2,k+1,rfl,rfl, ?_,by omega,by omega⟩
   rw [wrap_i64 _ (by omega)];rfl
  ·have g:¬(m:Int) > 0:=by omega
   have hm0:m=0:=by omega
   subst hm0
   rw [cls_zero] at hk
   simp only [ZB,endK,resK,packed,insVc,ne_eq,Nat.reduceEqDiff,Zad,g,h3]
   have:k=cls n:=by omega
   rw [this]
   exact h
theorem of36_c (l:List Nat) (v:Value) (w:World) (K:Value→World→Prop) (hv:IsNs w v l) (hb:∀n∈l,n<18446744073709551616) (hl:l.length<1152921504606846976)
  (h:∀w',Mod (fun _=>False) w w'→K (rowOf l).val w'):Ok prog 34 #[v] w K:=by
 refine F34.enter (args:=[v]) (by simp) ?_
 unfold c34 r34
 obtain ⟨va,vc',rfl⟩:=hv.1
 simp only [ZB,insVc,lenLK,Value.cells,ne_eq,reduceCtorEq,Zac,Za]
 refine vc_genT ?_
 intro w1 hw1
 have hm1:Mod (fun _=>False) w w1:=by rw [hw1];exact ((Mod.refl _ _).alloc _).alloc _
 have z1:w1.heap[w.heap.size]? = some (.cells Rw.zero.cells.toArray 86 (0,0)):=by rw [hw1];simp only [Zaa,Zaf,size_alloc,get_alloc,size_alloc,Zbi,Zaz];rfl
 have a1:w1.heap[w.heap.size+1]? = some (.cells Rw.zero.cells.toArray 86 (0,0)):=by rw [hw1];simp only [Zaa,Zaf,size_alloc,get_alloc,size_alloc,Zba,Zaz];rfl
 clear hw1
 refine vc_loop (fun m ρ ds u=>ds=[]∧ρ 2=ptr w.heap.size∧ρ 3=ptr (w.heap.size+1)∧ρ 6 = .slice va l.length vc'∧ρ 7 = .int .i64 l.length∧Mod (fun _=>False) w u∧u.heap[w.heap.size]? = some (.cells Rw.zero.cells.toArray 86 (0,0)) ∧
  ∃i:Nat,i+m=l.length∧ρ 8 = .int .i64 i∧u.heap[w.heap.size+1]? = some (.cells (rowOf (l.take i)).cells.toArray 86 (0,0))) l.length ?_ ?_
 ·exact ⟨rfl,by simp only [upd_same,upd_other,ne_eq,not_false_eq_true,Nat.reduceEqDiff],by simp only [upd_same,upd_other,ne_eq,not_false_eq_true,Nat.reduceEqDiff],by simp only [upd_same,upd_other,ne_eq,not_false_eq_true,Nat.reduceEqDiff],by simp only [upd_same,upd_other,ne_eq,not_false_eq_true,Nat.reduceEqDiff],hm1,z1,0,by omega,by simp only [upd_same];rfl,by rw [List.take_zero,rowOf_nil];exact a1⟩
 ·rintro m ρ ds u ⟨rfl,q2,q3,q6,q7,hm,z,i,him,q8,a⟩
  simp only [ZB,insVc,iopK,iopV,reduceCtorEq,q7,q8]
  have hrg:(rowOf (l.take i)).good:=row_good _ (by rw [List.length_take];omega) (fun n hn=>hb n (List.mem_of_mem_take hn))
  by_cases hi:(i:Int)<l.length
  ·obtain ⟨x,hx⟩:∃x,l[i]? = some x:=⟨_,List.getElem?_eq_getElem (by omega)⟩
   obtain ⟨bk,o,c,cur,t,f,e1,e2,e3⟩:=(hv.keep hm).2 i x hx
   obtain ⟨rfl,rfl⟩:va=some ⟨bk,o,none⟩∧vc'=c:=by
    have:=e1;simp only [Value.slice.injEq] at this;exact ⟨this.1,this.2.2⟩
   have hxl:=hb x (List.mem_of_getElem? hx)
   have h0i:(0:Int)≤(i:Int)∧(i:Int)<(l.length:Int):=by omega
   have et:l.take (i+1)=l.take i ++ [x]:=by rw [List.take_add_one,hx];rfl
   have hlt:(l.take i).length=i:=by rw [List.length_take];omega
   have hsn:=row_snoc (l.take i) x
   rw [← et,hlt] at hsn
   obtain ⟨cc,hcc⟩:∃cc,cc=(List.range 65).map (cAt (l.take i)):=⟨_,rfl⟩
   have hclen:cc.length=65:=by rw [hcc];simp
   have hcat:cc[cls x]? = some (cAt (l.take i) (cls x)):=by rw [hcc];exact cAt_get _ _ (by have:=cls_le hxl;omega)
   have hcab:cAt (l.take i) (cls x)≤i:=by have:cAt (l.take i) (cls x)≤(l.take i).length:=List.countP_le_length;omega
   have hR:rowOf (l.take i)=⟨i,sumN (l.take i),minN (l.take i),maxN (l.take i),cc⟩:=by unfold rowOf;rw [hlt,hcc]
   rw [← hcc] at hsn
   rw [hR] at a
   have hlo:=hrg.lo
   have hhi:=hrg.hi
   rw [hR] at hlo hhi
   clear hrg hR hcc
   revert hsn a hlo hhi
   generalize sumN (l.take i)=s
   generalize minN (l.take i)=lo
   generalize maxN (l.take i)=hi'
   generalize cAt (l.take i) (cls x)=ca at hcat hcab ⊢
   intro a hsn hlo hhi
   have lu:=lt_of_get a
   have hlo':lo<18446744073709551616:=hlo
   have hhi':hi'<18446744073709551616:=hhi
   have wr:∀x y:Nat,IntKind.u64.wrap ((x:Int)+(y:Int))=(((x+y)%18446744073709551616:Nat):Int):=fun x y=>by rw [IntKind.wrap_u64];omega
   have wr1:∀x:Nat,x<18446744073709551615→IntKind.u64.wrap ((x:Int)+1)=((x+1:Nat):Int):=fun x hx=>by rw [IntKind.wrap_u64];omega
   have wi:=wr1 i (by omega)
   have g0:∀c s lo hi cl,(Rw.mk c s lo hi cl).cells[0]? = some (.int .u64 (c:Int)):=fun _ _ _ _ _=>rfl
   have g1:∀c s lo hi cl,(Rw.mk c s lo hi cl).cells[1]? = some (.int .u64 (s:Int)):=fun _ _ _ _ _=>rfl
   have g2:∀c s lo hi cl,(Rw.mk c s lo hi cl).cells[2]? = some (.int .u64 (lo:Int)):=fun _ _ _ _ _=>rfl
   have g3:∀c s lo hi cl,(Rw.mk c s lo hi cl).cells[3]? = some (.int .u64 (hi:Int)):=fun _ _ _ _ _=>rfl
   have s0:∀(c s lo hi:Nat) cl (v:Nat),(Rw.mk c s lo hi cl).cells.set 0 (.int .u64 (v:Int))=(Rw.mk v s lo hi cl).cells:=fun _ _ _ _ _ _=>rfl
   have s1:∀(c s lo hi:Nat) cl (v:Nat),(Rw.mk c s lo hi cl).cells.set 1 (.int .u64 (v:Int))=(Rw.mk c v lo hi cl).cells:=fun _ _ _ _ _ _=>rfl
   have s2:∀(c s lo hi:Nat) cl (v:Nat),(Rw.mk c s lo hi cl).cells.set 2 (.int .u64 (v:Int))=(Rw.mk c s v hi cl).cells:=fun _ _ _ _ _ _=>rfl
   have s3:∀(c s lo hi:Nat) cl (v:Nat),(Rw.mk c s lo hi cl).cells.set 3 (.int .u64 (v:Int))=(Rw.mk c s lo v cl).cells:=fun _ _ _ _ _ _=>rfl
   have hz:∀c s lo hi,(Rw.mk c s lo hi cc).cells.length=69:=fun _ _ _ _=>by simp [Rw.cells,numV_len,hclen]
   have nab:w.heap.size≠w.heap.size+1:=by omega
   obtain ⟨lo2,hlo2⟩:∃lo2,lo2=if i=0∨x<lo then x else lo:=⟨_,rfl⟩
   obtain ⟨hi2,hhi2⟩:∃hi2,hi2=if hi'<x then x else hi':=⟨_,rfl⟩
   rw [← hlo2,← hhi2] at hsn
   have hc1:((((i:Int) == 0)=true∧True)∧lo2=x)∨((((i:Int) == 0)=false∧(x:Int)<lo)∧lo2=x)∨((((i:Int) == 0)=false∧¬(x:Int)<lo)∧lo2=lo):=by
    by_cases h0:i=0
    ·subst h0;exact .inl ⟨⟨rfl,trivial⟩,by rw [hlo2,if_pos (.inl rfl)]⟩
    ·have e0:((i:Int) == 0)=false:=by simpa using h0
     by_cases h1:x<lo
     ·exact .inr (.inl ⟨⟨e0,by omega⟩,by rw [hlo2,if_pos (.inr h1)]⟩)
     ·exact .inr (.inr ⟨⟨e0,by omega⟩,by rw [hlo2,if_neg (by omega)]⟩)
   have hc2:((x:Int) > hi'∧hi2=x)∨(¬(x:Int) > hi'∧hi2=hi'):=by
    by_cases h1:hi'<x
    ·exact .inl ⟨by omega,by rw [hhi2,if_pos h1]⟩
    ·exact .inr ⟨by omega,by rw [hhi2,if_neg h1]⟩
   clear hlo2 hhi2
   have hcl:cls x≤64:=cls_le hxl
   have h0c:(0:Int)≤(cls x:Nat)∧((cls x:Nat):Int)<((65:Nat):Int):=by omega
   have wca:=wr1 ca (by omega)
   rcases hc1 with ⟨⟨kz,kl⟩,eL⟩|⟨⟨kz,kl⟩,eL⟩|⟨⟨kz,kl⟩,eL⟩ <;> rcases hc2 with ⟨kh,eH⟩|⟨kh,eH⟩ <;>
   ·simp only [ZB,insVc,pickK,load1K,storeK,iopK,iopV,faddrK,iaddrK,isPlain,ne_eq,Nat.reduceEqDiff,Nat.reduceLT,Nat.reduceLeDiff,reduceCtorEq,Zae,Zab,Zah,Zai,Zal,Zaa,Zaf,Zbj,Zbm,Zbb,Nat.reduceEqDiff,Nat.reduceLT,hi,h0i,q3,q6,q8,e2,e3,a,lu,g0,g1,g2,g3,s0,s1,s2,s3,hz,wi,wr,kz,kl,kh]
    refine callK_gen ?_
    intro w5 hw5
    have hm5:Mod (fun _=>False) w w5:=by rw [hw5];repeat (first|exact hm|refine Mod.set ?_ (.inl (by omega)))
    have a5:w5.heap[w.heap.size+1]? = some (.cells (Rw.mk (i+1) ((s+x)%18446744073709551616) lo2 hi2 cc).cells.toArray 86 (0,0)):=by rw [hw5,eL,eH];exact get_set_same _ _ _ (by simp only [size_set];exact lu)
    have z5:w5.heap[w.heap.size]? = some (.cells Rw.zero.cells.toArray 86 (0,0)):=by rw [hw5];simp only [Zaf,size_set,get_set,size_set,false_and,z,nab]
    clear hw5
    refine class36_c x w5 _ hxl ?_
    have l5:=lt_of_get a5
    have hld:∀c s lo hi,(Rw.mk c s lo hi cc).cells[4+cls x]? = some (.int .u64 (ca:Int)):=fun _ _ _ _=>by rw [cells_at,hcat];rfl
    have hst:∀(c s lo hi v:Nat),(Rw.mk c s lo hi cc).cells.set (4+cls x) (.int .u64 (v:Int))=(Rw.mk c s lo hi (cc.set (cls x) v)).cells:=fun _ _ _ _ _=>cells_set _ _ _
    simp only [ZB,insVc,load1K,storeK,iopK,iopV,faddrK,iaddrAK,isPlain,ne_eq,Nat.reduceEqDiff,reduceCtorEq,Zah,Zai,Zal,Zaf,Zbj,Zbm,Zbb,get_set,Zbi,Nat.reduceEqDiff,Zaz,q2,q3,q6,q7,q8,a5,l5,h0c,hld,hst,hz,wca]
    refine ⟨⟨by omega,by simp⟩,m-1,by omega,hm5.set (.inl (by omega)), ?_,i+1,by omega, ?_, ?_⟩
    ·simp only [z5]
    ·rw [wrap_i64 _ (by omega)];rfl
    ·rw [hsn]
  ·have hil:i=l.length:=by omega
   subst hil
   rw [List.take_length] at a
   have hrg':(rowOf l).good:=row_good l (by omega) hb
   have hrz:(rowOf l).cells.toArray.size=69:=by rw [List.size_toArray];exact cells_len _ hrg'
   have re:(rowOf l).cells.toArray.extract 0 69=(rowOf l).cells.toArray:=by rw [← hrz];exact Array.extract_size
   have pr:(rowOf l).cells.all isPlain=true:=by simp [Rw.cells,numV,isPlain]
   have se:setMany Rw.zero.cells.toArray 0 (rowOf l).cells=(rowOf l).cells.toArray:=setMany_all _ _ (by rw [cells_len _ hrg'];decide)
   have lz:=lt_of_get z
   have zl:69≤Rw.zero.cells.length:=by decide
   simp only [ZB,endK,resK,resN,packed,insVc,loadNK,storeNK,isPlain,ne_eq,Nat.reduceEqDiff,Nat.reduceLeDiff,Zai,Zad,Zau,Zbb,Nat.reduceEqDiff,hi,q2,q3,a,z,hrz,re,pr,se,lz,zl]
   exact h _ (hm.set (.inl (Nat.le_refl _)))
structure Sl where
 l:List Nat
 b:Nat
 cap:Nat
def Sl.val (s:Sl):Value:=.slice (some ⟨s.b,0,none⟩) s.l.length s.cap
def lsOf (m:MG Sl):MG (List Nat):=m.map fun p=>(p.1,p.2.l)
theorem lookG_ls (k:List UInt8) (m:MG Sl):lookG k (lsOf m)=(lookG k m).map Sl.l:=by
 induction m with
 | nil=>rfl
 | cons y r ih =>
  simp only [lsOf,Zae,lookG] at ih ⊢
  split
  ·rfl
  ·exact ih
theorem lsOf_ins (x:List UInt8 × Sl) (m:MG Sl):lsOf (insG x m)=insG (x.1,x.2.l) (lsOf m):=by
 induction m with
 | nil=>rfl
 | cons y r ih =>
  simp only [insG,lsOf,Zae] at ih ⊢
  split
  ·rfl
  ·rw [List.map_cons,ih]
theorem lsOf_put (k:List UInt8) (s:Sl) (m:MG Sl):lsOf (putG k s m)=putG k s.l (lsOf m):=by
 unfold putG
 rw [lsOf_ins]
 congr 1
 simp only [lsOf,List.filter_map]
 rfl
theorem lsOf_len (m:MG Sl):(lsOf m).length=m.length:=by simp [lsOf]
structure Want (w:World) (B wb n:Nat) (m:MG Sl):Prop where
 map:w.ownsMap prog 9 rdW wb n (DG Sl.val m)
 hB:B≤wb
 own:∀k s,lookG k m=some s→OwnU w B s.val s.l∧s.b≠wb
 far:∀j k s t,lookG j m=some s→lookG k m=some t→j≠k→s.b≠t.b
theorem Sl.block (s:Sl):s.val.ownBlock=some s.b:=rfl
theorem OwnU.at {w:World} {B:Nat} {s:Sl} (h:OwnU w B s.val s.l):B≤s.b∧s.b<w.heap.size:=by
 rcases h.2 with ⟨h0,_⟩|⟨g,cap,cur,hv,hg,hb,_⟩
 ·cases h0
 ·have e:s.b=g:=by simp only [Sl.val,Value.slice.injEq,Option.some.injEq,Addr.mk.injEq] at hv;exact hv.1.1
  rw [e];exact ⟨hg,lt_of_get hb⟩
theorem Want.keep {w w':World} {S:Nat→Prop} {B wb n:Nat} {m:MG Sl} (h:Want w B wb n m) (hm:Mod S w w') (hS:∀k,B≤k→k<w.heap.size→¬S k):Want w' B wb n m:=by
 refine ⟨?_,h.hB,fun k s hk=>⟨?_,(h.own k s hk).2⟩,h.far⟩
 ·obtain ⟨es,clock,hb,F,hsz,hD⟩:=h.map
  exact ⟨es,clock,hm.keep hb (hS _ h.hB (lt_of_get hb)),F,hsz,hD⟩
 ·have ho:=(h.own k s hk).1
  refine ho.keep hm (fun i hi => ?_)
  rw [Sl.block] at hi
  obtain rfl:=Option.some.inj hi
  exact hS _ ho.at.1 ho.at.2
theorem tMapW:(prog).underlying 44=some (.map 9 49):=by kernel_rfl
theorem zW (w:World):(zeroValue 49).run prog w = .ok (.slice none 0 0) w:=by kernel_rfl
def oldV (o:Option Sl):Value:=(o.map Sl.val).getD (.slice none 0 0)
def oldL (o:Option Sl):List Nat:=(o.map Sl.l).getD []
theorem key_ok (k:List UInt8) (hk:k.length≤maxLen):keyOf prog 9 (.string ⟨k.toArray⟩)=some (.string k):=by
 simp [keyOf,mapKey,ByteArray.size,hk]
theorem Want.look {w:World} {B wb n:Nat} {m:MG Sl} (h:Want w B wb n m) (k:List UInt8) (hk:k.length≤maxLen) :
  (Instr.lookup 44 (.map (some wb)) (.string ⟨k.toArray⟩) false).run prog w = .ok (oldV (lookG k m)) w:=by
 obtain ⟨v,ps,hr,hv⟩:=World.ownsMap.lookup h.map (Maps.string_keyed tKeySd) tMapW (zW w) (rfl:rdW (.slice none 0 0)=some (.held (.slice none 0 0),[])) (key_ok k hk)
 rw [DG_at] at hv
 have:v=oldV (lookG k m):=by unfold rdW at hv;injection hv with hv;injection hv with hv _;injection hv
 rw [← this];exact hr
theorem Want.look_ok {w:World} {B wb n:Nat} {m:MG Sl} (h:Want w B wb n m) (k:List UInt8) (hk:k.length≤maxLen) :
  (Instr.lookup 44 (.map (some wb)) (.string ⟨k.toArray⟩) true).run prog w = .ok (.tuple #[oldV (lookG k m),.bool (lookG k m).isSome]) w:=by
 obtain ⟨v,ps,hr,hv⟩:=World.ownsMap.look_ok h.map (Maps.string_keyed tKeySd) tMapW (zW w) (rfl:rdW (.slice none 0 0)=some (.held (.slice none 0 0),[])) (key_ok k hk)
 rw [DG_at] at hv
 have:v=oldV (lookG k m):=by unfold rdW at hv;injection hv with hv;injection hv with hv _;injection hv
 rw [← this,← DG_has Sl.val];exact hr
theorem Want.len {w:World} {B wb n:Nat} {m:MG Sl} (h:Want w B wb n m) (ty:TypeId):(Builtin.len_ #[44] ty #[.map (some wb)]).run prog w = .ok (.int .i64 (m.length:Nat)) w:=by
 have:=World.ownsMap.len h.map tMapW ty
 rw [sizeG] at this
 exact this
theorem Want.made (w:World):Want (w.alloc (.map #[] 0)) w.heap.size w.heap.size 0 [] :=
 ⟨World.ownsMap_made w prog 9 rdW,Nat.le_refl _,fun k s h=>by simp [lookG] at h,fun j k s t h=>by simp [lookG] at h⟩
theorem Want.app {w:World} {B wb n:Nat} {m:MG Sl} (h:Want w B wb n m) (k:List UInt8) (x:Nat) (hk:k.length≤maxLen) (hn:n<maxLen) (hl:(oldL (lookG k m)).length<2^40) (ty:TypeId) :
  ∃(s:Sl) (w' w'':World),(Builtin.append_ #[49,49] ty #[oldV (lookG k m),.slice (some ⟨w.heap.size,0,none⟩) 1 1]).run prog (w.alloc (.cells #[.int .u64 x] 27)) = .ok s.val w' ∧
   (Instr.mapUpdate 44 (.map (some wb)) (.string ⟨k.toArray⟩) s.val).run prog w' = .ok () w''∧s.l=oldL (lookG k m) ++ [x]∧Want w'' B wb (n+1) (putG k s m)∧Mod (fun i=>B≤i) w w'∧Mod (fun i=>B≤i) w w'' ∧
    (∀(rb:Nat) (cs:Array Value) (T:TypeId) (f:Nat × Nat),w.heap[rb]? = some (.cells cs T f)→T≠27→w'.heap[rb]? = some (.cells cs T f)∧w''.heap[rb]? = some (.cells cs T f)):=by
 have hwb:wb<w.heap.size:=World.ownsMap.lt h.map
 have hBw:B≤w.heap.size:=Nat.le_trans h.hB (Nat.le_of_lt hwb)
 have hown:OwnU w B (oldV (lookG k m)) (oldL (lookG k m)):=by
  cases hq:lookG k m with
  | none=>exact World.ownsRow_nil w B 27 1
  | some s=>exact (h.own k s hq).1
 obtain ⟨v',w',hr,ho,hm,hb⟩:=append_u64 B _ _ x w hown hBw hl ty
 obtain ⟨s,hs,hsl⟩:∃s:Sl,v'=s.val∧s.l=oldL (lookG k m) ++ [x]:=by
  rcases ho.2 with ⟨_,h0⟩|⟨g,cap,cur,hv,_⟩
  ·simp at h0
  ·exact ⟨⟨_,g,cap⟩,hv,rfl⟩
 subst hs
 have hmB:Mod (fun i=>B≤i) w w':=hm.mono (fun i _ hi=>by
  cases hq:lookG k m with
  | none=>rw [hq] at hi;simp [oldV,Value.ownBlock] at hi
  | some t =>
   rw [hq] at hi
   have:t.b=i:=Option.some.inj hi
   rw [← this];exact (h.own k t hq).1.at.1)
 have hoth:∀i,i≠s.b→i<w.heap.size→w'.heap[i]? = w.heap[i]?∨(∃t,lookG k m=some t∧t.b=i):=by
  intro i hi hlt
  by_cases hx:(oldV (lookG k m)).ownBlock=some i
  ·right
   cases hq:lookG k m with
   | none=>rw [hq] at hx;simp [oldV,Value.ownBlock] at hx
   | some t=>rw [hq] at hx;exact ⟨t,rfl,Option.some.inj hx⟩
  ·exact .inl (hm.get i hlt hx)
 have hsb:(∃t,lookG k m=some t∧t.b=s.b)∨w.heap.size≤s.b:=by
  rcases hb s.b rfl with hx|hx
  ·left
   cases hq:lookG k m with
   | none=>rw [hq] at hx;simp [oldV,Value.ownBlock] at hx
   | some t=>rw [hq] at hx;exact ⟨t,rfl,Option.some.inj hx⟩
  ·exact .inr hx
 have hswb:s.b≠wb:=by
  rcases hsb with ⟨t,ht,e⟩|hx
  ·rw [← e];exact (h.own k t ht).2
  ·omega
 have hwbk:w'.heap[wb]? = w.heap[wb]?:=by
  rcases hoth wb (fun e=>hswb e.symm) hwb with e|⟨t,ht,e⟩
  ·exact e
  ·exact ((h.own k t ht).2 e).elim
 have hmap':w'.ownsMap prog 9 rdW wb n (DG Sl.val m):=by
  obtain ⟨es,clock,hb,F,hsz,hD⟩:=h.map
  exact ⟨es,clock,hwbk.trans hb,F,hsz,hD⟩
 obtain ⟨w'',hr2,hmap2,hg⟩:=World.ownsMap.update hmap' (Maps.string_keyed tKeySd) tMapW hn (key_ok k hk) (rfl:rdW s.val=some (.held s.val,[]))
 rw [DG_put] at hmap2
 have hm2:Mod (fun i=>i=wb) w' w'':=⟨hg.os,hg.tape,hg.output,hg.size,fun i hi hs=>hg.block i hi (fun e=>hs (Option.some.inj e))⟩
 refine ⟨s,w',w'',hr,hr2,hsl,⟨hmap2,h.hB, ?_, ?_⟩,hmB,hmB.trans (hm2.mono fun i _ e=>by rw [e];exact h.hB), ?_⟩
 ·intro j t hj
  rw [lookG_put] at hj
  by_cases hjk:j=k
  ·rw [if_pos hjk] at hj
   obtain rfl:=Option.some.inj hj
   refine ⟨?_,hswb⟩
   have ho':OwnU w' B s.val s.l:=by rw [hsl];exact ho
   exact ho'.keep hm2 (fun i hi e=>hswb ((Option.some.inj hi).trans e))
  ·rw [if_neg hjk] at hj
   obtain ⟨h1,h2⟩:=h.own j t hj
   refine ⟨?_,h2⟩
   have h3:OwnU w' B t.val t.l:=h1.keep hm (fun i hi hx=>by
    have e1:t.b=i:=Option.some.inj hi
    cases hq:lookG k m with
    | none=>rw [hq] at hx;simp [oldV,Value.ownBlock] at hx
    | some u =>
     rw [hq] at hx
     have e2:u.b=i:=Option.some.inj hx
     exact h.far j k t u hj hq hjk (e1.trans e2.symm))
   exact h3.keep hm2 (fun i hi e=>h2 ((Option.some.inj hi).trans e))
 ·have hfk:∀j t,lookG j m=some t→j≠k→t.b≠s.b:=by
   intro j t hj hne e
   rcases hsb with ⟨u,hu,e2⟩|hx
   ·exact h.far j k t u hj hu hne (e.trans e2.symm)
   ·have:=(h.own j t hj).1.at.2;omega
  intro i j t u hi hj hne
  rw [lookG_put] at hi hj
  by_cases hik:i=k
  ·rw [if_pos hik] at hi
   obtain rfl:=Option.some.inj hi
   have hjk:j≠k:=fun e=>hne (hik.trans e.symm)
   rw [if_neg hjk] at hj
   exact fun e=>hfk j u hj hjk e.symm
  ·rw [if_neg hik] at hi
   by_cases hjk:j=k
   ·rw [if_pos hjk] at hj
    obtain rfl:=Option.some.inj hj
    exact hfk i t hi hik
   ·rw [if_neg hjk] at hj
    exact h.far i j t u hi hj hne
 ·intro rb cs T f hrb hT
  have h1:rb≠wb:=by
   rintro rfl
   obtain ⟨es,clock,hb',_⟩:=h.map
   rw [hrb] at hb';cases hb'
  have h2:¬(oldV (lookG k m)).ownBlock=some rb:=by
   intro hx
   obtain ⟨cs',hc⟩:=OwnU.cells hown hx
   rw [hrb] at hc
   simp at hc
   exact hT hc.2.1
  exact ⟨hm.keep hrb h2,hm2.keep (hm.keep hrb h2) h1⟩
end Go.Oct
