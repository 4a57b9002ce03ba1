import Derived.Test.YtcbacomljnjacaaGreatDoorVrE
set_option linter.unusedSimpArgs false
set_option linter.unusedVariables false
set_option linter.unusedSectionVars false
set_option linter.unnecessarySimpa false
namespace Go.Oct
open Go Go.Vc Go.VrA Go.VrE Go.ChangeMaps
set_option maxRecDepth 100000
section
variable {P : Program} {n : Nat} {go : Value→World→Prop} {ρ : Env} {ds : List Deferred} {w : World} {o : Oper}
theorem rawK_delete {s x : Operand} {t tx : TypeId} {v : Value} {w' : World} (ho : o.op = .call { callee:=.builtin .delete,args:=#[s,x],argTypes:=#[t,tx] })
    (hs : inB n s = true) (hx : inB n x = true) (hr : (Builtin.delete_ #[t,tx] o.type #[ev ρ s,ev ρ x]).run P w = .ok v w') (h : go v w') : RawK P go ρ ds n o w:=by
  unfold RawK
  simp only [execOp,ho,resolve,Sem.run_bind,pure,Sem.run,Result.andThen,invoke,builtin]
  have e : (#[s,x] : Array Operand).map (mkA n ρ ds).eval = #[ev ρ s,ev ρ x]:=by simp [mkA_eval n ρ ds s hs,mkA_eval n ρ ds x hx]
  rw [e,hr]
  exact h
end
theorem IsM.drop {w : World} {mb n : Nat} {m : M} (h : IsM w mb n m) (k : ByteArray) (hk : k.size≤maxLen) (ty : TypeId) :
    ∃ w',(Builtin.delete_ #[172,9] ty #[.map (some mb),.string k]).run Proofs.Tryz.prog w = .ok (.tuple #[]) w'∧IsM w' mb n (delM k.data.toList m)∧Mod (fun i=>i = mb) w w':=by
  obtain ⟨w',hr,ho,es,clock,es',clock',hb,rfl⟩:=World.ownsMap.drop h (Maps.string_keyed tStr) tMap (WideMaps.keyOf_string_mk tStr hk) ty
  refine ⟨_,hr, ?_, ?_⟩
  · unfold IsM
    rw [← DM_del]
    exact ho
  · exact ⟨rfl,rfl,rfl,by simp [setBlock],fun i _ hi=>heap_setBlock_other hb _ (fun e=>hi e)⟩
theorem sdel_c (sb mb n : Nat) (m : M) (k : ByteArray) (w : World) (K : Value→World→Prop) (hs : IsShelf w sb mb n m) (hk : k.size≤maxLen)
    (h : ∀ w',Mod (fun i=>i = mb) w w'→IsShelf w' sb mb n (delM k.data.toList m)→K (.tuple #[.bool (lookM k.data.toList m).isSome,.int .i64 0]) w') :
    Ok Proofs.Tryz.prog 349 #[ptr sb,.string k] w K:=by
  refine F349.enter (args:=[ptr sb,.string k]) (by simp) ?_
  unfold c349 r349
  simp only [ZB,insVc,load1K,nilK,faddrK,ne_eq,Nat.reduceEqDiff,reduceCtorEq,Zaf,Za,Zag,Zah,hs.1]
  refine rawK_lookup rfl rfl rfl (by simpa only [vc_skip,vc_seq,vc_cond,vc_block,vc_exit,vc_ret,vc_ops,vcOps_nil,vcOps_cons,vcOps_gate,gateK_true,gateK_false,gate_true,gate_false,gate_undef,goL_apply,thenQ_normal,thenQ_ret,thenQ_exit,blockQ_normal,blockQ_ret,blockQ_same,blockQ_exit,condP_true,condP_false,upd_same,upd_other,updO_some,updO_none,ev_tmp,ev_const,ev_global,ev_func,endQ_ret,endQ_normal,endK,resK,resN,res1,resO_cells,resNO_cells,packed,initE_at,insVc,pickK,load1K,loadO_cells,loadV_some,loadV_none,loadNK,loadNO_cells,storeK,storeO_cells,storeNK,storeNO_cells,setMany,nilK,nilM,iopK,iopV,sopK,sopV,bopK,nilOf,pnilK,notK,convK,sameK,faddrK,fld1K,fldNK,iaddrK,iaddrAK,sidxK,extK,lenSK,lenLK,callvK,invK,buildK,fillL,buildSK,boundOf,slSK,slLK,slAK,isPlain,Value.cells,ne_eq,not_false_eq_true,not_true_eq_false,Nat.reduceEqDiff,Nat.reduceAdd,Nat.reduceLT,Nat.reduceLeDiff,reduceCtorEq,Bool.not_true,Bool.not_false,Option.map_some,Option.map_none,Option.getD_some,Option.getD_none,List.map_cons,List.map_nil,List.getElem?_cons_zero,List.getElem?_cons_succ,List.getElem?_nil,List.getElem?_toArray,List.size_toArray,List.length_cons,List.length_nil,List.zipIdx_cons,List.zipIdx_nil,List.foldl_cons,List.foldl_nil,List.setIfInBounds_toArray,List.set_cons_zero,List.set_cons_succ,List.append_eq,List.nil_append,List.cons_append,List.append_nil,List.toList_toArray,true_and,and_true,true_or,or_true,or_false,false_or,and_self,if_true,if_false,ite_true,ite_false,Bool.false_eq_true,Nat.zero_add,Nat.add_zero,decide_true,decide_false,Bool.and_true,Bool.and_false,Bool.true_and,Bool.false_and,Option.isNone_some,Option.isNone_none,Int.reduceLT,Int.reduceLE,Int.reduceToNat,Int.toNat_natCast,Int.reduceAdd,Int.reduceSub,Int.reduceMul,Int.reduceNeg,Int.reduceEq,Int.reduceNe,Int.reduceBEq,Int.reduceBNe,Nat.mul_one,List.extract_toArray,List.extract_eq_take_drop,List.drop_zero,List.drop_succ_cons,List.take_zero,List.take_succ_cons,Nat.sub_zero,Nat.add_sub_cancel,Nat.add_sub_cancel_left,vcS_nil,vcS_cons,vcS_gate,gateS_true,gateS_false,stepB_true,stepB_false,pureI,Nat.zero_mul,Nat.one_mul,Nat.reduceMul,Nat.reduceSub,List.all_toArray',List.all_cons,List.all_nil,size_set,size_alloc,size_drew,get_alloc_new,get_set_same,get_drew,Nat.lt_add_one,vcD_nil,vcD_cons,vcD_gate,gateD_true,gateD_false,stepD_pure,stepD_load,stepD_step,kindI,loadI] using hs.2.1.look k hk true) ?_
  simp only [ZB,insVc,load1K,nilK,faddrK,extK,ne_eq,Nat.reduceEqDiff,reduceCtorEq,Zaf,Za,Zag,Zah,hs.1]
  obtain ⟨w',hr,hm,hmod⟩:=hs.2.1.drop k hk 0
  refine rawK_delete rfl rfl rfl (by simpa only [vc_skip,vc_seq,vc_cond,vc_block,vc_exit,vc_ret,vc_ops,vcOps_nil,vcOps_cons,vcOps_gate,gateK_true,gateK_false,gate_true,gate_false,gate_undef,goL_apply,thenQ_normal,thenQ_ret,thenQ_exit,blockQ_normal,blockQ_ret,blockQ_same,blockQ_exit,condP_true,condP_false,upd_same,upd_other,updO_some,updO_none,ev_tmp,ev_const,ev_global,ev_func,endQ_ret,endQ_normal,endK,resK,resN,res1,resO_cells,resNO_cells,packed,initE_at,insVc,pickK,load1K,loadO_cells,loadV_some,loadV_none,loadNK,loadNO_cells,storeK,storeO_cells,storeNK,storeNO_cells,setMany,nilK,nilM,iopK,iopV,sopK,sopV,bopK,nilOf,pnilK,notK,convK,sameK,faddrK,fld1K,fldNK,iaddrK,iaddrAK,sidxK,extK,lenSK,lenLK,callvK,invK,buildK,fillL,buildSK,boundOf,slSK,slLK,slAK,isPlain,Value.cells,ne_eq,not_false_eq_true,not_true_eq_false,Nat.reduceEqDiff,Nat.reduceAdd,Nat.reduceLT,Nat.reduceLeDiff,reduceCtorEq,Bool.not_true,Bool.not_false,Option.map_some,Option.map_none,Option.getD_some,Option.getD_none,List.map_cons,List.map_nil,List.getElem?_cons_zero,List.getElem?_cons_succ,List.getElem?_nil,List.getElem?_toArray,List.size_toArray,List.length_cons,List.length_nil,List.zipIdx_cons,List.zipIdx_nil,List.foldl_cons,List.foldl_nil,List.setIfInBounds_toArray,List.set_cons_zero,List.set_cons_succ,List.append_eq,List.nil_append,List.cons_append,List.append_nil,List.toList_toArray,true_and,and_true,true_or,or_true,or_false,false_or,and_self,if_true,if_false,ite_true,ite_false,Bool.false_eq_true,Nat.zero_add,Nat.add_zero,decide_true,decide_false,Bool.and_true,Bool.and_false,Bool.true_and,Bool.false_and,Option.isNone_some,Option.isNone_none,Int.reduceLT,Int.reduceLE,Int.reduceToNat,Int.toNat_natCast,Int.reduceAdd,Int.reduceSub,Int.reduceMul,Int.reduceNeg,Int.reduceEq,Int.reduceNe,Int.reduceBEq,Int.reduceBNe,Nat.mul_one,List.extract_toArray,List.extract_eq_take_drop,List.drop_zero,List.drop_succ_cons,List.take_zero,List.take_succ_cons,Nat.sub_zero,Nat.add_sub_cancel,Nat.add_sub_cancel_left,vcS_nil,vcS_cons,vcS_gate,gateS_true,gateS_false,stepB_true,stepB_false,pureI,Nat.zero_mul,Nat.one_mul,Nat.reduceMul,Nat.reduceSub,List.all_toArray',List.all_cons,List.all_nil,size_set,size_alloc,size_drew,get_alloc_new,get_set_same,get_drew,Nat.lt_add_one,vcD_nil,vcD_cons,vcD_gate,gateD_true,gateD_false,stepD_pure,stepD_load,stepD_step,kindI,loadI] using hr) ?_
  simp only [ZB,endK,resK,packed,insVc,ne_eq,Nat.reduceEqDiff,Zaa,Zav]
  exact h w' hmod ⟨hmod.keep hs.1 hs.2.2,hm,hs.2.2⟩
structure StoC (σ : Type) extends Sto σ where
  cut : σ→ByteArray→(Bool × Int) × σ
  cutOk : ∀ s k w (G : Value→World→Prop),At s w→k.size≤255 →
    (∀ w',Mod own w w'→At (cut s k).2 w'→G (.tuple #[.bool (cut s k).1.1,.int .i64 (cut s k).1.2]) w')→InvK Proofs.Tryz.prog G t v "Cut" [.string k] w
def shelfC (sb mb : Nat) (h0 : 3≠mb) : StoC (Nat × M) where
  toSto:=shelf sb mb h0
  cut s k:=(((lookM k.data.toList s.2).isSome,0),(s.1,delM k.data.toList s.2))
  cutOk s k w G h hk hG:=⟨349,ptr sb,by kernel_rfl,sdel_c sb mb s.1 s.2 k w G h (by simp [maxLen]; omega) (fun w' hm hs=>hG w' hm hs)⟩
theorem keysR_size2 (q : Ms) : (keysR q).2.1.size≤255:=by
  unfold keysR
  split
  · exact (by decide : e0.size≤255)
  · exact keyL_size _ _ (by simp)
def StoC.mcut {σ : Type} (St : StoC σ) (s : σ) (q : Ms) : Int × σ :=
  if (keysR q).2.2≠0 then ((keysR q).2.2,s) else
  if (St.cut s (keysR q).1).1.2≠0∨emptyB (keysR q).2.1 = true then ((St.cut s (keysR q).1).1.2,(St.cut s (keysR q).1).2) else
  ((St.cut (St.cut s (keysR q).1).2 (keysR q).2.1).1.2,(St.cut (St.cut s (keysR q).1).2 (keysR q).2.1).2)
theorem mcut_c {σ : Type} (St : StoC σ) (s : σ) (q : Ms) (m : Int) (w : World) (K : Value→World→Prop) (hAt : St.At s w) (hg : Gl m w) (hs : q.queue.size < 4294967281) (hi : q.id < 2 ^ 64) (he : q.expiry < 2 ^ 64)
    (h : ∀ w',Mod St.own w w'→St.At (St.mcut s q).2 w'→K (.int .i64 (St.mcut s q).1) w') :
    Ok Proofs.Tryz.prog 240 #[.iface St.t St.v,q.val] w K:=by
  refine F240.enter (args:=[.iface St.t St.v,q.val]) (by simp) ?_
  unfold c240 r240
  have hk2:=keysR_size2 q
  have hk1:=keysR_size q
  simp only [ZB,insVc,loadNK,Value.cells,ne_eq,Nat.reduceEqDiff,Nat.reduceAdd,Nat.reduceLeDiff,Zaf,Zad,Zac,Za,Zag,Zai,Zaj,Zak,Zaq,Zap,Zar,Zao,Zas,Zat,Zbk,Ms.val,Ms.cells]
  refine callK_gen ?_
  intro w1 hw1
  have hm1 : Mod (fun _=>False) w w1:=by rw [hw1]; exact (Mod.refl _ _).alloc _
  clear hw1
  refine keys_c q m w1 _ (hg.mod hm1 id) hs hi he ?_
  intro w2 hm2
  have hm12:=hm1.trans hm2
  have hA2:=St.keep0 hAt hm12
  unfold StoC.mcut at h
  simp only [ZB,insVc,iopK,iopV,extK,ne_eq,Nat.reduceEqDiff,reduceCtorEq,Za,Zag,Zah]
  refine condP_split ?_ ?_
  · intro hc
    have hc' : (keysR q).2.2≠0:=by simpa using hc
    rw [if_pos hc'] at h
    simp only [ZB,endK,resK,packed,insVc,ne_eq,Nat.reduceEqDiff,Zaa]
    exact h w2 (hm12.mono fun _ _ x=>x.elim) hA2
  intro hc
  have hc' : (keysR q).2.2 = 0:=by simpa using hc
  rw [if_neg (by simpa using hc')] at h
  simp only [ZB,insVc,invK,ne_eq,Nat.reduceEqDiff,reduceCtorEq,Zaf,Zad,Zac,Za]
  refine St.cutOk s (keysR q).1 w2 _ hA2 hk1 ?_
  intro w3 hm3 hA3
  have hm13 : Mod St.own w w3:=(hm12.mono fun _ _ x=>x.elim).trans hm3
  revert h hA3
  generalize St.cut s (keysR q).1 = P
  intro h hA3
  simp only [ZB,insVc,iopK,iopV,extK,ne_eq,Nat.reduceEqDiff,reduceCtorEq,Za,Zag,Zah]
  have hfin : (P.1.2≠0∨emptyB (keysR q).2.1 = true)→K (.int .i64 P.1.2) w3:=by
    intro hx
    rw [if_pos hx] at h
    exact h w3 hm13 hA3
  by_cases h1 : P.1.2 = 0
  · have b1 : (P.1.2 != 0) = false:=by simpa using h1
    cases h2 : emptyB (keysR q).2.1 with
    | true =>
      have h2' : ((keysR q).2.1.toList == (⟨#[]⟩ : ByteArray).toList) = true:=h2
      simp only [ZB,endK,resK,packed,insVc,pickK,sopK,sopV,ne_eq,Nat.reduceEqDiff,Zaa,Zae,b1,h2']
      exact hfin (.inr h2)
    | false =>
      have h2' : ((keysR q).2.1.toList == (⟨#[]⟩ : ByteArray).toList) = false:=h2
      rw [if_neg (by simp [h1,h2])] at h
      simp only [ZB,insVc,pickK,sopK,sopV,invK,ne_eq,Nat.reduceEqDiff,reduceCtorEq,Zaf,Zad,Zac,Za,Zae,b1,h2']
      refine St.cutOk P.2 (keysR q).2.1 w3 _ hA3 hk2 ?_
      intro w4 hm4 hA4
      simp only [ZB,endK,resK,packed,insVc,extK,ne_eq,Nat.reduceEqDiff,Za,Zag,Zah,Zaa]
      exact h w4 (hm13.trans hm4) hA4
  · have b1 : (P.1.2 != 0) = true:=by simpa using h1
    simp only [ZB,endK,resK,packed,insVc,pickK,ne_eq,Nat.reduceEqDiff,Zaa,Zab,b1]
    exact hfin (.inl h1)
end Go.Oct
namespace Go.Oct
open Go Go.Vc Go.VrA Go.VrB Go.VrE
set_option maxRecDepth 100000
def StoC.mtake {σ : Type} (St : StoC σ) (s : σ) (queue : ByteArray) (n : Nat) : (Ms × Int) × σ :=
  if (St.mgetR s queue n).2≠0 then ((ms0,(St.mgetR s queue n).2),s) else
  if (St.mcut s (St.mgetR s queue n).1).1≠0 then ((ms0,(St.mcut s (St.mgetR s queue n).1).1),(St.mcut s (St.mgetR s queue n).1).2) else
  (((St.mgetR s queue n).1,0),(St.mcut s (St.mgetR s queue n).1).2)
theorem mtake_c {σ : Type} (St : StoC σ) (s : σ) (hp : PureGet St.toSto s) (queue : ByteArray) (n : Nat) (m : Int) (w : World) (K : Value→World→Prop) (hAt : St.At s w) (hg : Gl m w) (h0 : 3 < w.heap.size) (hs : queue.size < 4294967281) (hn : n < 2 ^ 64)
    (hv : (St.get s (messageK queue n).1).1.1.size < 2 ^ 60)
    (hx : (St.mgetR s queue n).1.queue.size < 4294967281∧(St.mgetR s queue n).1.id < 2 ^ 64∧(St.mgetR s queue n).1.expiry < 2 ^ 64)
    (h : ∀ w',Mod St.own w w'→St.At (St.mtake s queue n).2 w'→K (.tuple #[(St.mtake s queue n).1.1.val,.int .i64 (St.mtake s queue n).1.2]) w') :
    Ok Proofs.Tryz.prog 174 #[.iface St.t St.v,.string queue,.int .u64 n] w K:=by
  refine F174.enter (args:=[.iface St.t St.v,.string queue,.int .u64 n]) (by simp) ?_
  unfold c174 r174
  simp only [ZB,insVc,Value.cells,ne_eq,Nat.reduceEqDiff,reduceCtorEq,Zaf,Zad,Zac,Za,Zag]
  refine callK_gen ?_
  intro w1 hw1
  have hm1 : Mod (fun _=>False) w w1:=by rw [hw1]; exact (Mod.refl _ _).alloc _
  have e1 : w1.heap[w.heap.size]? = some (.cells zms 128 (0,0)):=by rw [hw1]; exact get_alloc_new _ _
  clear hw1
  refine msget_c St.toSto s hp queue n m w1 _ (St.keep0 hAt hm1) (hg.mod hm1 id) hs hn hv ?_
  intro w2 hm2
  have e2:=hm2.keep e1 id
  have hm12:=hm1.trans hm2
  have hA2:=St.keep0 hAt hm12
  have hfoot : ∀ k,w.heap.size≤k→¬ St.foot k:=fun k hk x=>by have:=St.footLt s w _ hAt x; omega
  have hno : ∀ k,w.heap.size≤k→¬ St.own k:=fun k hk x=>hfoot k hk (St.ownFoot _ x)
  unfold StoC.mtake at h
  revert h hx
  obtain ⟨q,hq⟩ : ∃ q,q = (St.mgetR s queue n).1:=⟨_,rfl⟩
  obtain ⟨e,he⟩ : ∃ e,e = (St.mgetR s queue n).2:=⟨_,rfl⟩
  rw [← hq,← he]
  intro hx h
  obtain ⟨w3,hw3⟩ : ∃ w3,w3 = Vc.set (w2.alloc (.cells #[.string ⟨#[]⟩,.int .u64 0,.int .u32 0,.int .u64 0,.string ⟨#[]⟩] 128)) w2.heap.size (.cells #[.string q.queue,.int .u64 q.id,.int .u32 q.tries,.int .u64 q.expiry,.string q.body] 128):=⟨_,rfl⟩
  have hm3 : Mod (fun _=>False) w2 w3:=by rw [hw3]; exact ((Mod.refl _ _).alloc _).set (.inl (Nat.le_refl _))
  have x3 : w3.heap[w2.heap.size]? = some (.cells #[.string q.queue,.int .u64 q.id,.int .u32 q.tries,.int .u64 q.expiry,.string q.body] 128 (0,0)):=by rw [hw3]; exact get_set_same _ _ _ (by rw [size_alloc]; omega)
  have e3:=hm3.keep e2 id
  have hA3:=St.keep0 hA2 hm3
  have hm13:=hm12.trans hm3
  have hle : w.heap.size≤w2.heap.size:=hm12.size
  simp only [ZB,insVc,storeNK,setMany,iopK,iopV,extK,isPlain,Value.cells,ne_eq,Nat.reduceEqDiff,Nat.reduceAdd,Nat.reduceLeDiff,reduceCtorEq,Za,Zag,Zah,Zai,Zaj,Zak,Zal,Zam,Zan,Zab,Zau,Zaw,Zax,get_alloc,Nat.reduceAdd,Nat.reduceEqDiff,Ms.val,Ms.cells]
  rw [← hw3]
  clear hw3
  by_cases h1 : e = 0
  · have b1 : (e == 0) = true:=by simpa using h1
    rw [if_neg (by simpa using h1)] at h
    simp only [ZB,insVc,loadNK,ne_eq,Nat.reduceEqDiff,Nat.reduceAdd,Nat.reduceLeDiff,reduceCtorEq,Zaf,Zad,Zac,Za,Zai,Zaj,Zak,Zaq,Zap,Zar,Zao,Zas,Zat,b1,x3]
    refine mcut_c St s q m w3 _ hA3 (hg.mod hm13 id) hx.1 hx.2.1 hx.2.2 ?_
    intro w4 hm4 hA4
    have e4:=hm4.keep e3 (hno _ (Nat.le_refl _))
    have x4:=hm4.keep x3 (hno _ hle)
    have hm14 : Mod St.own w w4:=(hm13.mono fun _ _ x=>x.elim).trans hm4
    by_cases h2 : (St.mcut s q).1 = 0
    · have b2 : ((St.mcut s q).1 != 0) = false:=by simpa using h2
      rw [if_neg (by simpa using h2)] at h
      simp only [ZB,endK,resK,resN,packed,insVc,loadNK,storeNK,setMany,iopK,iopV,isPlain,ne_eq,Nat.reduceEqDiff,Nat.reduceAdd,Nat.reduceLeDiff,reduceCtorEq,Zai,Zaj,Zak,Zal,Zam,Zan,Zaa,Zav,Zaq,Zap,Zar,Zao,Zas,Zat,Zau,Zaw,Zax,b2,x4,e4,get_set_same _ _ _ (lt_of_get e4)]
      exact h _ (hm14.set (.inl (Nat.le_refl _))) (St.keep (fun k=>w.heap.size≤k) _ _ _ hA4 ((Mod.refl _ _).set (.inr (Nat.le_refl _))) (fun k _ hk=>hfoot k hk))
    · have b2 : ((St.mcut s q).1 != 0) = true:=by simpa using h2
      rw [if_pos (by simpa using h2)] at h
      simp only [ZB,endK,resK,resN,packed,insVc,storeNK,setMany,iopK,iopV,buildK,fillL,isPlain,ne_eq,Nat.reduceEqDiff,Nat.reduceAdd,Nat.reduceLeDiff,reduceCtorEq,Zai,Zaj,Zak,Zal,Zam,Zan,Zaa,Zav,Zaq,Zap,Zar,Zao,Zas,Zat,Zau,Zaw,Zax,b2,e4,get_set_same _ _ _ (lt_of_get e4)]
      exact h _ (hm14.set (.inl (Nat.le_refl _))) (St.keep (fun k=>w.heap.size≤k) _ _ _ hA4 ((Mod.refl _ _).set (.inr (Nat.le_refl _))) (fun k _ hk=>hfoot k hk))
  · have b1 : (e == 0) = false:=by simpa using h1
    have b2 : (e != 0) = true:=by simpa using h1
    rw [if_pos (by simpa using h1)] at h
    simp only [ZB,endK,resK,resN,packed,insVc,storeNK,setMany,iopK,iopV,buildK,fillL,isPlain,ne_eq,Nat.reduceEqDiff,Nat.reduceAdd,Nat.reduceLeDiff,reduceCtorEq,Zai,Zaj,Zak,Zal,Zam,Zan,Zaa,Zav,Zaq,Zap,Zar,Zao,Zas,Zat,Zau,Zaw,Zax,b1,b2,e3,get_set_same _ _ _ (lt_of_get e3)]
    exact h _ ((hm13.mono fun _ _ x=>x.elim).set (.inl (Nat.le_refl _))) (St.keep (fun k=>w.heap.size≤k) _ _ _ hA3 ((Mod.refl _ _).set (.inr (Nat.le_refl _))) (fun k _ hk=>hfoot k hk))
end Go.Oct
namespace Go.Oct
open Go Go.Vc Go.VrA Go.VrB Go.VrE
set_option maxRecDepth 100000
def StoC.msave {σ : Type} (St : StoC σ) (s : σ) (q : Ms) : Int × σ :=
  if (St.mgetR s q.queue q.id).2≠0 then ((St.mgetR s q.queue q.id).2,s) else
  if (keysR q).2.2≠0 then ((keysR q).2.2,s) else
  if (St.mgetR s q.queue q.id).1.expiry = q.expiry then St.mput s q else
  if (St.mcut s (St.mgetR s q.queue q.id).1).1≠0 then St.mcut s (St.mgetR s q.queue q.id).1 else St.mput (St.mcut s (St.mgetR s q.queue q.id).1).2 q
theorem msave_c {σ : Type} (St : StoC σ) (s : σ) (hp : PureGet St.toSto s) (q : Ms) (m : Int) (w : World) (K : Value→World→Prop) (hAt : St.At s w) (hg : Gl m w) (h0 : 3 < w.heap.size) (hs : q.queue.size < 4294967281) (hi : q.id < 2 ^ 64) (hq : q.good)
    (hv : (St.get s (messageK q.queue q.id).1).1.1.size < 2 ^ 60)
    (hx : (St.mgetR s q.queue q.id).1.queue.size < 4294967281∧(St.mgetR s q.queue q.id).1.id < 2 ^ 64∧(St.mgetR s q.queue q.id).1.expiry < 2 ^ 64)
    (hf : ∀ s',s' = s∨s' = (St.mcut s (St.mgetR s q.queue q.id).1).2→St.fit s'∧St.fit (St.put s' (keysR q).1 (mbytes q)).2)
    (h : ∀ w',Mod St.own w w'→St.At (St.msave s q).2 w'→K (.int .i64 (St.msave s q).1) w') :
    Ok Proofs.Tryz.prog 241 #[.iface St.t St.v,q.val] w K:=by
  refine F241.enter (args:=[.iface St.t St.v,q.val]) (by simp) ?_
  unfold c241 r241
  simp only [ZB,insVc,load1K,faddrK,Value.cells,ne_eq,Nat.reduceEqDiff,reduceCtorEq,Zaf,Zad,Zac,Za,Zag,Zah,Zab,Ms.val,Ms.cells,get_alloc,Nat.reduceEqDiff]
  refine callK_gen ?_
  intro w1 hw1
  have hm1 : Mod (fun _=>False) w w1:=by rw [hw1]; exact (Mod.refl _ _).alloc _
  have e1 : w1.heap[w.heap.size]? = some (.cells #[.string q.queue,.int .u64 q.id,.int .u32 q.tries,.int .u64 q.expiry,.string q.body] 128 (0,0)):=by rw [hw1]; exact get_alloc_new _ _
  clear hw1
  refine msget_c St.toSto s hp q.queue q.id m w1 _ (St.keep0 hAt hm1) (hg.mod hm1 id) hs hi hv ?_
  intro w2 hm2
  have e2:=hm2.keep e1 id
  have hm12:=hm1.trans hm2
  have hA2:=St.keep0 hAt hm12
  have hfoot : ∀ k,w.heap.size≤k→¬ St.foot k:=fun k hk x=>by have:=St.footLt s w _ hAt x; omega
  have hno : ∀ k,w.heap.size≤k→¬ St.own k:=fun k hk x=>hfoot k hk (St.ownFoot _ x)
  unfold StoC.msave at h
  revert h hx hf
  obtain ⟨y,hy⟩ : ∃ y,y = (St.mgetR s q.queue q.id).1:=⟨_,rfl⟩
  obtain ⟨e,he⟩ : ∃ e,e = (St.mgetR s q.queue q.id).2:=⟨_,rfl⟩
  rw [← hy,← he]
  intro hx hf h
  obtain ⟨w3,hw3⟩ : ∃ w3,w3 = Vc.set (w2.alloc (.cells #[.string ⟨#[]⟩,.int .u64 0,.int .u32 0,.int .u64 0,.string ⟨#[]⟩] 128)) w2.heap.size (.cells #[.string y.queue,.int .u64 y.id,.int .u32 y.tries,.int .u64 y.expiry,.string y.body] 128):=⟨_,rfl⟩
  have hm3 : Mod (fun _=>False) w2 w3:=by rw [hw3]; exact ((Mod.refl _ _).alloc _).set (.inl (Nat.le_refl _))
  have x3 : w3.heap[w2.heap.size]? = some (.cells #[.string y.queue,.int .u64 y.id,.int .u32 y.tries,.int .u64 y.expiry,.string y.body] 128 (0,0)):=by rw [hw3]; exact get_set_same _ _ _ (by rw [size_alloc]; omega)
  have e3:=hm3.keep e2 id
  have hA3:=St.keep0 hA2 hm3
  have hm13:=hm12.trans hm3
  have hle : w.heap.size≤w2.heap.size:=hm12.size
  simp only [ZB,insVc,storeNK,setMany,iopK,iopV,extK,isPlain,Value.cells,ne_eq,Nat.reduceEqDiff,Nat.reduceAdd,Nat.reduceLeDiff,reduceCtorEq,Za,Zag,Zah,Zai,Zaj,Zak,Zal,Zam,Zan,Zab,Zau,Zaw,Zax,get_alloc,Nat.reduceAdd,Nat.reduceEqDiff,Ms.val,Ms.cells]
  rw [← hw3]
  clear hw3
  by_cases h1 : e = 0
  · have b1 : (e != 0) = false:=by simpa using h1
    rw [if_neg (by simpa using h1)] at h
    simp only [ZB,insVc,loadNK,ne_eq,Nat.reduceEqDiff,Nat.reduceAdd,Nat.reduceLeDiff,Zad,Zac,Zai,Zaj,Zak,Zaq,Zap,Zar,Zao,Zas,Zat,b1,e3]
    refine keys_c q m w3 _ (hg.mod hm13 id) hs hi hq.2.1 ?_
    intro w4 hm4
    have e4:=hm4.keep e3 id
    have x4:=hm4.keep x3 id
    have hA4:=St.keep0 hA3 hm4
    have hm14:=hm13.trans hm4
    by_cases h2 : (keysR q).2.2 = 0
    · have b2 : ((keysR q).2.2 != 0) = false:=by simpa using h2
      rw [if_neg (by simpa using h2)] at h
      by_cases h3 : y.expiry = q.expiry
      · have b3 : (((y.expiry : Nat) : Int) != ((q.expiry : Nat) : Int)) = false:=by rw [h3]; simp
        rw [if_pos h3] at h
        simp only [ZB,insVc,load1K,loadNK,iopK,iopV,faddrK,extK,ne_eq,Nat.reduceEqDiff,Nat.reduceAdd,Nat.reduceLeDiff,reduceCtorEq,Zaf,Zad,Zac,Za,Zag,Zah,Zai,Zaj,Zak,Zaq,Zap,Zar,Zao,Zas,Zat,b2,b3,e4,x4]
        refine mput66_c St.toSto s q m w4 _ hA4 (hg.mod hm14 id) hs hi hq (hf s (.inl rfl)).1 (hf s (.inl rfl)).2 ?_
        intro w5 hm5 hA5
        simp only [ZB,endK,resK,packed,insVc,Zaa]
        exact h w5 ((hm14.mono fun _ _ x=>x.elim).trans hm5) hA5
      · have b3 : (((y.expiry : Nat) : Int) != ((q.expiry : Nat) : Int)) = true:=by simp only [bne_iff_ne,ne_eq]; omega
        rw [if_neg h3] at h
        simp only [ZB,insVc,load1K,loadNK,iopK,iopV,faddrK,extK,ne_eq,Nat.reduceEqDiff,Nat.reduceAdd,Nat.reduceLeDiff,reduceCtorEq,Zaf,Zad,Zac,Za,Zag,Zah,Zai,Zaj,Zak,Zaq,Zap,Zar,Zao,Zas,Zat,b2,b3,e4,x4]
        refine mcut_c St s y m w4 _ hA4 (hg.mod hm14 id) hx.1 hx.2.1 hx.2.2 ?_
        intro w5 hm5 hA5
        have e5:=hm5.keep e4 (hno _ (Nat.le_refl _))
        have hm15 : Mod St.own w w5:=(hm14.mono fun _ _ x=>x.elim).trans hm5
        by_cases h4 : (St.mcut s y).1 = 0
        · have b4 : ((St.mcut s y).1 != 0) = false:=by simpa using h4
          rw [if_neg (by simpa using h4)] at h
          simp only [ZB,insVc,loadNK,iopK,iopV,ne_eq,Nat.reduceEqDiff,Nat.reduceAdd,Nat.reduceLeDiff,reduceCtorEq,Zaf,Zad,Zac,Za,Zai,Zaj,Zak,Zaq,Zap,Zar,Zao,Zas,Zat,b4,e5]
          refine mput66_c St.toSto (St.mcut s y).2 q m w5 _ hA5 (hg.mod hm15 St.own0) hs hi hq (hf _ (.inr rfl)).1 (hf _ (.inr rfl)).2 ?_
          intro w6 hm6 hA6
          simp only [ZB,endK,resK,packed,insVc,Zaa]
          exact h w6 (hm15.trans hm6) hA6
        · have b4 : ((St.mcut s y).1 != 0) = true:=by simpa using h4
          rw [if_pos (by simpa using h4)] at h
          simp only [ZB,endK,resK,packed,insVc,iopK,iopV,ne_eq,Nat.reduceEqDiff,reduceCtorEq,Zaa,b4]
          exact h w5 hm15 hA5
    · have b2 : ((keysR q).2.2 != 0) = true:=by simpa using h2
      rw [if_pos (by simpa using h2)] at h
      simp only [ZB,endK,resK,packed,insVc,iopK,iopV,extK,ne_eq,Nat.reduceEqDiff,reduceCtorEq,Za,Zag,Zah,Zaa,b2]
      exact h w4 (hm14.mono fun _ _ x=>x.elim) hA4
  · have b1 : (e != 0) = true:=by simpa using h1
    rw [if_pos (by simpa using h1)] at h
    simp only [ZB,endK,resK,packed,insVc,ne_eq,Nat.reduceEqDiff,Zaa,b1]
    exact h w3 (hm13.mono fun _ _ x=>x.elim) hA3
end Go.Oct
