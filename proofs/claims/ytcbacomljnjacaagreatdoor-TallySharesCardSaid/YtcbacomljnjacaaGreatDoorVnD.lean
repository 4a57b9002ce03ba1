import Derived.Test.YtcbacomljnjacaaGreatDoorVnC
set_option linter.unusedSimpArgs false
set_option linter.unusedVariables false
set_option linter.unusedSectionVars false
set_option linter.unnecessarySimpa false
namespace Go.Oct
open Go Go.Vc Go.VrA Go.VrK Go.VrL Go.Tal
set_option maxRecDepth 100000
def rdV (v : Value) : Option (DataW Value × List MemPlace):=some (.held v,[])
def TalAt (kt tt : TypeId) (w : World) (tb mb n : Nat) (kl : Lit) (r : Rw) : Prop :=
  w.heap[tb]? = some (.cells #[.map (some mb)] tt (0,0))∧(∃ D : DataW Value,w.ownsMap Proofs.Tryz.prog kt rdV mb n D∧D.atKey kl (.held Rw.zero.val) = .held r.val)∧tb≠mb
theorem TalAt.keep {kt tt : TypeId} {w w' : World} {S : Nat→Prop} {tb mb n : Nat} {kl : Lit} {r : Rw} (h : TalAt kt tt w tb mb n kl r) (hm : Mod S w w') (hs : ¬ S tb) (hs' : ¬ S mb) : TalAt kt tt w' tb mb n kl r:=by
  obtain ⟨h1,⟨D,ho,hD⟩,h2⟩:=h
  refine ⟨hm.keep h1 hs,⟨D, ?_,hD⟩,h2⟩
  obtain ⟨es,clock,hb,F,hsz,hD⟩:=ho
  exact ⟨es,clock,hm.keep hb hs',F,hsz,hD⟩
theorem zRow (w : World) : (zeroValue 42).run Proofs.Tryz.prog w = .ok Rw.zero.val w:=by kernel_rfl
theorem TalAt.look {kt tt mt : TypeId} {w : World} {tb mb n : Nat} {kl : Lit} {kv : Value} {r : Rw} (h : TalAt kt tt w tb mb n kl r) (K : Maps.Keyed Proofs.Tryz.prog kt) (ht : (Proofs.Tryz.prog).underlying mt = some (.map kt 42)) (hk : keyOf Proofs.Tryz.prog kt kv = some kl) :
    (Instr.lookup mt (.map (some mb)) kv false).run Proofs.Tryz.prog w = .ok r.val w:=by
  obtain ⟨_,⟨D,ho,hD⟩,_⟩:=h
  obtain ⟨v,ps,hr,hv⟩:=World.ownsMap.lookup ho K ht (zRow w) (rfl : rdV Rw.zero.val = some (.held Rw.zero.val,[])) hk
  rw [hD] at hv
  have : v = r.val:=by unfold rdV at hv; cases hv; rfl
  rw [← this]; exact hr
theorem TalAt.store {kt tt mt : TypeId} {w : World} {tb mb n : Nat} {kl : Lit} {kv : Value} {r : Rw} (h : TalAt kt tt w tb mb n kl r) (K : Maps.Keyed Proofs.Tryz.prog kt) (ht : (Proofs.Tryz.prog).underlying mt = some (.map kt 42)) (hk : keyOf Proofs.Tryz.prog kt kv = some kl) (hkl : WideAt.IsKeyLit kl) (hn : n < maxLen) (r' : Rw) :
    ∃ w',(Instr.mapUpdate mt (.map (some mb)) kv r'.val).run Proofs.Tryz.prog w = .ok () w'∧TalAt kt tt w' tb mb (n + 1) kl r'∧Mod (fun i=>i = mb) w w':=by
  obtain ⟨h1,⟨D,ho,hD⟩,h2⟩:=h
  obtain ⟨w',hr,ho',hg⟩:=World.ownsMap.update ho K ht hn hk (rfl : rdV r'.val = some (.held r'.val,[]))
  have hm : Mod (fun i=>i = mb) w w':=⟨hg.os,hg.tape,hg.output,hg.size,fun i hi hs=>hg.block i hi (fun e=>hs (Option.some.inj e))⟩
  refine ⟨w',hr,⟨hm.keep h1 h2,⟨_,ho', ?_⟩,h2⟩,hm⟩
  obtain ⟨es,clock,hb,F,hsz,rfl⟩:=ho
  exact Maps.atKey_put_same ⟨_,rfl⟩ hkl _ _
theorem one_good (x : Nat) (hx : x < 18446744073709551616) : (Rw.one x).good:=by
  refine ⟨(by decide : (1 : Nat) < 18446744073709551616),hx,hx,hx,by simp [Rw.one,zs], ?_⟩
  intro n hn
  have hn' : n ∈ zs.set (cls x) 1:=hn
  rcases List.mem_or_eq_of_mem_set hn' with h | h
  · have:=List.eq_of_mem_replicate h
    omega
  · omega
section
theorem tKeyI : (Proofs.Tryz.prog).underlying 3 = some (.int .i64):=by kernel_rfl
theorem tMapI : (Proofs.Tryz.prog).underlying 93 = some (.map 3 42):=by kernel_rfl
theorem newI_c (w : World) (K : Value→World→Prop) (h : ∀ w' tb mb,Mod (fun _=>False) w w'→w.heap.size≤tb→w.heap.size≤mb→(∀ kl,TalAt 3 95 w' tb mb 0 kl Rw.zero)→K (ptr tb) w') : Ok Proofs.Tryz.prog 18 #[] w K:=by
  refine F18.enter (args:=[]) (by simp) ?_
  unfold c18 r18
  simp only [ZB,insVc]
  refine rawK_makeMap rfl ?_
  simp only [ZB,endK,resK,packed,insVc,buildK,fillL,Value.cells,Nat.reduceLeDiff,Zai,Zaj,Zak,Zbd,Zbe,Zbc,Zbb,Zal,Zam,Zaa,Zbh,Zab]
  refine h _ (w.heap.size + 1) w.heap.size (((Mod.refl _ _).alloc _).alloc _) (by omega) (Nat.le_refl _) (fun kl=>⟨by simp only [Zab,Zae,size_alloc,get_alloc,size_alloc,Zba,Zay],⟨.map [],(World.ownsMap_made w Proofs.Tryz.prog 3 rdV).alloc _,rfl⟩,by omega⟩)
theorem ofI_c (tb mb n : Nat) (kv : Value) (kl : Lit) (r : Rw) (w : World) (K : Value→World→Prop) (hr : r.good) (ht : TalAt 3 95 w tb mb n kl r) (hk : keyOf Proofs.Tryz.prog 3 kv = some kl)
    (h : ∀ w',Mod (fun _=>False) w w'→K r.val w') : Ok Proofs.Tryz.prog 20 #[ptr tb,kv] w K:=by
  refine F20.enter (args:=[ptr tb,kv]) (by simp) ?_
  unfold c20 r20
  have ht0:=ht.1
  have htl:=lt_of_get ht0
  have nt : tb≠w.heap.size:=by omega
  simp only [ZB,insVc,load1K,nilK,nilOf,pnilK,faddrK,Value.cells,ne_eq,Nat.reduceEqDiff,reduceCtorEq,Zaf,Za,Zag,Zah,Zae,Zbr,get_alloc,Nat.reduceEqDiff,ht0,nt]
  refine rawK_gen ?_
  intro w1 hw1
  have hm1 : Mod (fun _=>False) w w1:=by rw [hw1]; exact (Mod.refl _ _).alloc _
  have c1 : w1.heap[w.heap.size]? = some (.cells Rw.zero.cells.toArray 42 (0,0)):=by rw [hw1]; exact get_alloc_new _ _
  clear hw1
  have zz : Rw.zero.cells.toArray.size = 69:=by decide
  have zl : 69≤Rw.zero.cells.length:=by decide
  have lc:=lt_of_get c1
  have hrz : r.cells.toArray.size = 69:=by rw [List.size_toArray]; exact cells_len r hr
  have re : r.cells.toArray.extract 0 69 = r.cells.toArray:=by rw [← hrz]; exact Array.extract_size
  have pr : r.cells.all isPlain = true:=by simp [Rw.cells,numV,isPlain]
  have se1 : setMany Rw.zero.cells.toArray 0 r.cells = r.cells.toArray:=setMany_all _ _ (by rw [zz,cells_len r hr])
  refine rawK_lookup rfl rfl rfl (by simpa only [vc_skip,vc_seq,vc_cond,vc_block,vc_exit,vc_ret,vc_ops,vcOps_nil,vcOps_cons,vcOps_gate,gateK_true,gateK_false,gate_true,gate_false,gate_undef,goL_apply,thenQ_normal,thenQ_ret,thenQ_exit,blockQ_normal,blockQ_ret,blockQ_same,blockQ_exit,condP_true,condP_false,upd_same,upd_other,updO_some,updO_none,ev_tmp,ev_const,ev_global,ev_func,endQ_ret,endQ_normal,endK,resK,resN,res1,resO_cells,resNO_cells,packed,initE_at,insVc,pickK,load1K,loadO_cells,loadV_some,loadV_none,loadNK,loadNO_cells,storeK,storeO_cells,storeNK,storeNO_cells,setMany,nilK,nilM,iopK,iopV,sopK,sopV,bopK,nilOf,pnilK,notK,convK,sameK,faddrK,fld1K,fldNK,iaddrK,iaddrAK,sidxK,extK,lenSK,lenLK,callvK,invK,buildK,fillL,buildSK,boundOf,slSK,slLK,slAK,isPlain,Value.cells,ne_eq,not_false_eq_true,not_true_eq_false,Nat.reduceEqDiff,Nat.reduceAdd,Nat.reduceLT,Nat.reduceLeDiff,reduceCtorEq,Bool.not_true,Bool.not_false,Option.map_some,Option.map_none,Option.getD_some,Option.getD_none,List.map_cons,List.map_nil,List.getElem?_cons_zero,List.getElem?_cons_succ,List.getElem?_nil,List.getElem?_toArray,List.size_toArray,List.length_cons,List.length_nil,List.zipIdx_cons,List.zipIdx_nil,List.foldl_cons,List.foldl_nil,List.setIfInBounds_toArray,List.set_cons_zero,List.set_cons_succ,List.append_eq,List.nil_append,List.cons_append,List.append_nil,List.toList_toArray,true_and,and_true,true_or,or_true,or_false,false_or,and_self,if_true,if_false,ite_true,ite_false,Bool.false_eq_true,Nat.zero_add,Nat.add_zero,decide_true,decide_false,Bool.and_true,Bool.and_false,Bool.true_and,Bool.false_and,Option.isNone_some,Option.isNone_none,Int.reduceLT,Int.reduceLE,Int.reduceToNat,Int.toNat_natCast,Int.reduceAdd,Int.reduceSub,Int.reduceMul,Int.reduceNeg,Int.reduceEq,Int.reduceNe,Int.reduceBEq,Int.reduceBNe,Nat.mul_one,List.extract_toArray,List.extract_eq_take_drop,List.drop_zero,List.drop_succ_cons,List.take_zero,List.take_succ_cons,Nat.sub_zero,Nat.add_sub_cancel,Nat.add_sub_cancel_left,vcS_nil,vcS_cons,vcS_gate,gateS_true,gateS_false,stepB_true,stepB_false,pureI,Nat.zero_mul,Nat.one_mul,Nat.reduceMul,Nat.reduceSub,List.all_toArray',List.all_cons,List.all_nil,size_set,size_alloc,size_drew,get_alloc_new,get_set_same,get_drew,Nat.lt_add_one,vcD_nil,vcD_cons,vcD_gate,gateD_true,gateD_false,stepD_pure,stepD_load,stepD_step,kindI,loadI] using (ht.keep hm1 id id).look (Maps.int_keyed tKeyI) tMapI hk) ?_
  simp only [ZB,endK,resK,resN,packed,insVc,storeNK,isPlain,ne_eq,Nat.reduceEqDiff,Nat.reduceLeDiff,Zai,Zaa,Zau,Zbf,Nat.reduceEqDiff,Rw.val,c1,lc,pr,zl,hrz,re,se1]
  exact h _ (hm1.set (.inl (Nat.le_refl _)))
theorem addI_c (tb mb n x : Nat) (kv : Value) (kl : Lit) (r : Rw) (w : World) (K : Value→World→Prop) (hr : r.good) (hx : x < 18446744073709551616) (ht : TalAt 3 95 w tb mb n kl r) (hk : keyOf Proofs.Tryz.prog 3 kv = some kl) (hkl : WideAt.IsKeyLit kl) (hn : n < maxLen)
    (h : ∀ w' v,Mod (fun k=>k = mb) w w'→TalAt 3 95 w' tb mb (n + 1) kl (r.plus (Rw.one x))→K v w') : Ok Proofs.Tryz.prog 19 #[ptr tb,kv,.int .u64 x] w K:=by
  refine F19.enter (args:=[ptr tb,kv,.int .u64 x]) (by simp) ?_
  unfold c19 r19
  simp only [ZB,insVc,storeNK,setMany,nilOf,pnilK,buildK,fillL,isPlain,Value.cells,ne_eq,Nat.reduceEqDiff,Nat.reduceAdd,Nat.reduceLeDiff,Zaf,Zad,Zac,Za,Zag,Zai,Zaj,Zak,Zbd,Zbe,Zbc,Zbb,Zal,Zam,Zan,Zbh,Zab,Zae,Zbr,Zau,Zaw,Zax,get_alloc,Nat.reduceAdd,Nat.reduceEqDiff]
  refine callK_gen ?_
  intro w1 hw1
  have hm1 : Mod (fun _=>False) w w1:=by rw [hw1]; exact ((Mod.refl _ _).alloc _).set (.inl (Nat.le_refl _))
  have c1 : w1.heap[w.heap.size]? = some (.cells (Rw.mk 1 x x x zs).cells.toArray 42 (0,0)):=by rw [hw1]; simp only [size_alloc,Zbf,Zb,size_alloc]; rfl
  clear hw1
  refine class_c x w1 _ hx ?_
  have hcls:=cls_le hx
  have h0i : (0 : Int)≤(cls x : Nat)∧((cls x : Nat) : Int) < ((65 : Nat) : Int):=by omega
  have hone : (Rw.mk 1 x x x zs).cells.set (4 + cls x) (.int .u64 1) = (Rw.one x).cells:=cells_set (Rw.mk 1 x x x zs) (cls x) 1
  have hog:=one_good x hx
  simp only [ZB,insVc,storeK,faddrK,iaddrAK,isPlain,ne_eq,Nat.reduceEqDiff,Zai,Zal,Zbj,Zbm,Nat.reduceEqDiff,c1,h0i,hone]
  refine ⟨⟨by simp [Rw.cells,numV,zs]; omega,by simp⟩, ?_⟩
  refine vc_genT ?_
  intro w2 hw2
  have hm2 : Mod (fun _=>False) w w2:=by rw [hw2]; exact hm1.set (.inl (Nat.le_refl _))
  have c2 : w2.heap[w.heap.size]? = some (.cells (Rw.one x).cells.toArray 42 (0,0)):=by rw [hw2]; exact get_set_same _ _ _ (lt_of_get c1)
  clear hw2
  have ht2:=ht.keep hm2 id id
  have hsz : (Rw.one x).cells.toArray.size = 69:=by rw [List.size_toArray]; exact cells_len _ hog
  have hex : (Rw.one x).cells.toArray.extract 0 69 = (Rw.one x).cells.toArray:=by rw [← hsz]; exact Array.extract_size
  refine draw_c (dp:=[[],[0],[1],[2],[],[],[5],[6],[7],[],[8,9],[],[10,11],[3,4,12,12,0,1,2,3,4,5,6,7,8,9,10,11,12]]) (N:=13)
    (fun L ρ u=>RegI [(0,ptr tb),(1,kv),(6,ptr w.heap.size)]
      [(0,17,ptr tb),(1,18,ptr tb),(2,19,ptr tb),(3,20,.map (some mb)),(4,21,kv),(5,22,ptr tb),(6,23,ptr tb),(7,24,ptr tb),(8,25,.map (some mb)),(9,26,kv),(10,27,r.val),(11,28,(Rw.one x).val),(12,29,(r.plus (Rw.one x)).val)] L ρ ∧
      Mod (fun _=>False) w2 u)
    (by kernel_rfl) (by kernel_rfl) (by kernel_rfl) (by kernel_rfl) (by kernel_rfl) (by kernel_rfl) rfl rfl (by kernel_rfl) ?_ ?_ ?_
  · refine ⟨RegI.start ?_,(Mod.refl _ _).drew⟩
    intro p hp
    simp only [Zbo,Zbp,or_false] at hp
    rcases hp with rfl | rfl | rfl <;> simp only [ZB,ne_eq,Nat.reduceEqDiff,reduceCtorEq,Zaf,Za,Zag]
  · rintro L ρ u k y d hk15 hx' hd hL hdeps hcl ⟨hI,hmu⟩
    have htu:=ht2.keep hmu id id
    have tu:=htu.1
    have cu:=hmu.keep c2 id
    obtain rfl | rfl | rfl | rfl | rfl | rfl | rfl | rfl | rfl | rfl | rfl | rfl | rfl : k = 0∨k = 1∨k = 2∨k = 3∨k = 4∨k = 5∨k = 6∨k = 7∨k = 8∨k = 9∨k = 10∨k = 11∨k = 12:=by omega
    all_goals (obtain rfl:=Option.some.inj hx'; obtain rfl:=Option.some.inj hd)
    · simp only [ZB,insVc,hI.frm (d:=0) (v:=ptr tb) (by simp)]
      exact ⟨hI.put 0 17 _ rfl (by simp) rfl,hmu⟩
    · simp only [ZB,insVc,nilK,hI.get (k:=0) (d:=17) (v:=ptr tb) (by simp) (hdeps 0 (by decide))]
      exact ⟨hI.put 1 18 _ rfl (by simp) rfl,hmu⟩
    · simp only [ZB,insVc,faddrK,hI.get (k:=1) (d:=18) (v:=ptr tb) (by simp) (hdeps 1 (by decide))]
      exact ⟨hI.put 2 19 _ rfl (by simp) rfl,hmu⟩
    · simp only [ZB,insVc,load1K,Za,Zah,hI.get (k:=2) (d:=19) (v:=ptr tb) (by simp) (hdeps 2 (by decide)),tu]
      exact ⟨hI.put 3 20 _ rfl (by simp) rfl,hmu⟩
    · simp only [ZB,insVc,hI.frm (d:=1) (v:=kv) (by simp)]
      exact ⟨hI.put 4 21 _ rfl (by simp) rfl,hmu⟩
    · simp only [ZB,insVc,hI.frm (d:=0) (v:=ptr tb) (by simp)]
      exact ⟨hI.put 5 22 _ rfl (by simp) rfl,hmu⟩
    · simp only [ZB,insVc,nilK,hI.get (k:=5) (d:=22) (v:=ptr tb) (by simp) (hdeps 5 (by decide))]
      exact ⟨hI.put 6 23 _ rfl (by simp) rfl,hmu⟩
    · simp only [ZB,insVc,faddrK,hI.get (k:=6) (d:=23) (v:=ptr tb) (by simp) (hdeps 6 (by decide))]
      exact ⟨hI.put 7 24 _ rfl (by simp) rfl,hmu⟩
    · simp only [ZB,insVc,load1K,Za,Zah,hI.get (k:=7) (d:=24) (v:=ptr tb) (by simp) (hdeps 7 (by decide)),tu]
      exact ⟨hI.put 8 25 _ rfl (by simp) rfl,hmu⟩
    · simp only [ZB,insVc,hI.frm (d:=1) (v:=kv) (by simp)]
      exact ⟨hI.put 9 26 _ rfl (by simp) rfl,hmu⟩
    · simp only [ZB,insVc]
      refine rawK_lookup rfl rfl rfl (by simpa only [vc_skip,vc_seq,vc_cond,vc_block,vc_exit,vc_ret,vc_ops,vcOps_nil,vcOps_cons,vcOps_gate,gateK_true,gateK_false,gate_true,gate_false,gate_undef,goL_apply,thenQ_normal,thenQ_ret,thenQ_exit,blockQ_normal,blockQ_ret,blockQ_same,blockQ_exit,condP_true,condP_false,upd_same,upd_other,updO_some,updO_none,ev_tmp,ev_const,ev_global,ev_func,endQ_ret,endQ_normal,endK,resK,resN,res1,resO_cells,resNO_cells,packed,initE_at,insVc,pickK,load1K,loadO_cells,loadV_some,loadV_none,loadNK,loadNO_cells,storeK,storeO_cells,storeNK,storeNO_cells,setMany,nilK,nilM,iopK,iopV,sopK,sopV,bopK,nilOf,pnilK,notK,convK,sameK,faddrK,fld1K,fldNK,iaddrK,iaddrAK,sidxK,extK,lenSK,lenLK,callvK,invK,buildK,fillL,buildSK,boundOf,slSK,slLK,slAK,isPlain,Value.cells,ne_eq,not_false_eq_true,not_true_eq_false,Nat.reduceEqDiff,Nat.reduceAdd,Nat.reduceLT,Nat.reduceLeDiff,reduceCtorEq,Bool.not_true,Bool.not_false,Option.map_some,Option.map_none,Option.getD_some,Option.getD_none,List.map_cons,List.map_nil,List.getElem?_cons_zero,List.getElem?_cons_succ,List.getElem?_nil,List.getElem?_toArray,List.size_toArray,List.length_cons,List.length_nil,List.zipIdx_cons,List.zipIdx_nil,List.foldl_cons,List.foldl_nil,List.setIfInBounds_toArray,List.set_cons_zero,List.set_cons_succ,List.append_eq,List.nil_append,List.cons_append,List.append_nil,List.toList_toArray,true_and,and_true,true_or,or_true,or_false,false_or,and_self,if_true,if_false,ite_true,ite_false,Bool.false_eq_true,Nat.zero_add,Nat.add_zero,decide_true,decide_false,Bool.and_true,Bool.and_false,Bool.true_and,Bool.false_and,Option.isNone_some,Option.isNone_none,Int.reduceLT,Int.reduceLE,Int.reduceToNat,Int.toNat_natCast,Int.reduceAdd,Int.reduceSub,Int.reduceMul,Int.reduceNeg,Int.reduceEq,Int.reduceNe,Int.reduceBEq,Int.reduceBNe,Nat.mul_one,List.extract_toArray,List.extract_eq_take_drop,List.drop_zero,List.drop_succ_cons,List.take_zero,List.take_succ_cons,Nat.sub_zero,Nat.add_sub_cancel,Nat.add_sub_cancel_left,vcS_nil,vcS_cons,vcS_gate,gateS_true,gateS_false,stepB_true,stepB_false,pureI,Nat.zero_mul,Nat.one_mul,Nat.reduceMul,Nat.reduceSub,List.all_toArray',List.all_cons,List.all_nil,size_set,size_alloc,size_drew,get_alloc_new,get_set_same,get_drew,Nat.lt_add_one,vcD_nil,vcD_cons,vcD_gate,gateD_true,gateD_false,stepD_pure,stepD_load,stepD_step,kindI,loadI,hI.get (k:=8) (d:=25) (v:=(.map (some mb))) (by simp) (hdeps 8 (by decide)),hI.get (k:=9) (d:=26) (v:=kv) (by simp) (hdeps 9 (by decide))] using htu.look (Maps.int_keyed tKeyI) tMapI hk) ?_
      exact ⟨hI.put 10 27 _ rfl (by simp) rfl,hmu⟩
    · simp only [ZB,insVc,loadNK,Nat.reduceLeDiff,hI.frm (d:=6) (v:=ptr w.heap.size) (by simp),cu,hsz,hex]
      exact ⟨hI.put 11 28 _ rfl (by simp [Rw.val]) rfl,hmu⟩
    · simp only [ZB,insVc,Zad,Zac,hI.get (k:=10) (d:=27) (v:=r.val) (by simp) (hdeps 10 (by decide)),hI.get (k:=11) (d:=28) (v:=(Rw.one x).val) (by simp) (hdeps 11 (by decide))]
      refine plus_c r (Rw.one x) u _ hr hog ?_
      intro u2 hm2
      exact ⟨hI.put 12 29 _ rfl (by simp) rfl,hmu.trans hm2⟩
  · rintro L ρ u y hall ⟨hI,hmu⟩ hx'
    obtain rfl:=Option.some.inj hx'
    have htu:=ht2.keep hmu id id
    obtain ⟨u2,hr2,ht3,hm3⟩:=htu.store (Maps.int_keyed tKeyI) tMapI hk hkl hn (r.plus (Rw.one x))
    refine rawK_mapUpdate rfl rfl rfl rfl (by simpa only [vc_skip,vc_seq,vc_cond,vc_block,vc_exit,vc_ret,vc_ops,vcOps_nil,vcOps_cons,vcOps_gate,gateK_true,gateK_false,gate_true,gate_false,gate_undef,goL_apply,thenQ_normal,thenQ_ret,thenQ_exit,blockQ_normal,blockQ_ret,blockQ_same,blockQ_exit,condP_true,condP_false,upd_same,upd_other,updO_some,updO_none,ev_tmp,ev_const,ev_global,ev_func,endQ_ret,endQ_normal,endK,resK,resN,res1,resO_cells,resNO_cells,packed,initE_at,insVc,pickK,load1K,loadO_cells,loadV_some,loadV_none,loadNK,loadNO_cells,storeK,storeO_cells,storeNK,storeNO_cells,setMany,nilK,nilM,iopK,iopV,sopK,sopV,bopK,nilOf,pnilK,notK,convK,sameK,faddrK,fld1K,fldNK,iaddrK,iaddrAK,sidxK,extK,lenSK,lenLK,callvK,invK,buildK,fillL,buildSK,boundOf,slSK,slLK,slAK,isPlain,Value.cells,ne_eq,not_false_eq_true,not_true_eq_false,Nat.reduceEqDiff,Nat.reduceAdd,Nat.reduceLT,Nat.reduceLeDiff,reduceCtorEq,Bool.not_true,Bool.not_false,Option.map_some,Option.map_none,Option.getD_some,Option.getD_none,List.map_cons,List.map_nil,List.getElem?_cons_zero,List.getElem?_cons_succ,List.getElem?_nil,List.getElem?_toArray,List.size_toArray,List.length_cons,List.length_nil,List.zipIdx_cons,List.zipIdx_nil,List.foldl_cons,List.foldl_nil,List.setIfInBounds_toArray,List.set_cons_zero,List.set_cons_succ,List.append_eq,List.nil_append,List.cons_append,List.append_nil,List.toList_toArray,true_and,and_true,true_or,or_true,or_false,false_or,and_self,if_true,if_false,ite_true,ite_false,Bool.false_eq_true,Nat.zero_add,Nat.add_zero,decide_true,decide_false,Bool.and_true,Bool.and_false,Bool.true_and,Bool.false_and,Option.isNone_some,Option.isNone_none,Int.reduceLT,Int.reduceLE,Int.reduceToNat,Int.toNat_natCast,Int.reduceAdd,Int.reduceSub,Int.reduceMul,Int.reduceNeg,Int.reduceEq,Int.reduceNe,Int.reduceBEq,Int.reduceBNe,Nat.mul_one,List.extract_toArray,List.extract_eq_take_drop,List.drop_zero,List.drop_succ_cons,List.take_zero,List.take_succ_cons,Nat.sub_zero,Nat.add_sub_cancel,Nat.add_sub_cancel_left,vcS_nil,vcS_cons,vcS_gate,gateS_true,gateS_false,stepB_true,stepB_false,pureI,Nat.zero_mul,Nat.one_mul,Nat.reduceMul,Nat.reduceSub,List.all_toArray',List.all_cons,List.all_nil,size_set,size_alloc,size_drew,get_alloc_new,get_set_same,get_drew,Nat.lt_add_one,vcD_nil,vcD_cons,vcD_gate,gateD_true,gateD_false,stepD_pure,stepD_load,stepD_step,kindI,loadI,hI.get (k:=3) (d:=20) (v:=(.map (some mb))) (by simp) (hall 3 (by decide)),hI.get (k:=4) (d:=21) (v:=kv) (by simp) (hall 4 (by decide)),hI.get (k:=12) (d:=29) (v:=(r.plus (Rw.one x)).val) (by simp) (hall 12 (by decide))] using hr2) ?_
    simp only [ZB,endK,resK,packed]
    exact h u2 _ (((hm2.trans hmu).mono fun _ _ x=>x.elim).then hm3 (fun _ _ x=>x)) ht3
end
end Go.Oct
