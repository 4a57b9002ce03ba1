import Derived.Test.YtcbacomljnjacaaGreatDoorVoF
set_option linter.unusedSimpArgs false
set_option linter.unusedVariables false
set_option linter.unusedSectionVars false
set_option linter.unnecessarySimpa false
namespace Go.Oct
open Go Go.Vc Go.VrA
set_option maxRecDepth 100000
theorem qget_c (b nb : Nat) (name : ByteArray) (r : Rd) (w : World) (K : Value→World→Prop) (hb : IsRd w b r) (hn : w.heap[nb]? = some (.cells #[.string name] 9 (0,0))) (hne : nb≠b) (hs : (r.1.size : Int) < 2 ^ 63)
    (h : ∀ w',Mod (fun k=>k = b) w w'→IsRd w' b (qget name r).2→K (qget name r).1.val w') :
    Ok Proofs.Tryz.prog 223 #[ptr b,ptr nb] w K:=by
  refine F223.enter (args:=[ptr b,ptr nb]) (by simp) ?_
  unfold c223 r223
  simp only [ZB,insVc,Value.cells]
  have hm0 : Mod (fun k=>k = b) w (w.alloc (.cells #[.string ⟨#[]⟩,.int .u32 0,.int .u64 0,.int .u32 0,.string ⟨#[]⟩] 121)).drew:=((Mod.refl _ _).alloc _).drew
  have hn0:=hm0.keep hn hne
  have hbl:=lt_of_get hb
  have hb0 : IsRd (w.alloc (.cells #[.string ⟨#[]⟩,.int .u32 0,.int .u64 0,.int .u32 0,.string ⟨#[]⟩] 121)).drew b r:=by
    unfold IsRd; rw [get_drew,get_alloc_old _ _ _ hbl]; exact hb
  have hr0 : (w.alloc (.cells #[.string ⟨#[]⟩,.int .u32 0,.int .u64 0,.int .u32 0,.string ⟨#[]⟩] 121)).drew.heap[w.heap.size]? = some (.cells #[.string ⟨#[]⟩,.int .u32 0,.int .u64 0,.int .u32 0,.string ⟨#[]⟩] 121 (0,0)):=get_alloc_new _ _
  refine draw_d (fun w'=>w'.heap[nb]? = some (.cells #[.string name] 9 (0,0))) (by kernel_rfl) (by kernel_rfl) (by kernel_rfl) (by kernel_rfl) hn0 ?_
  generalize (w.alloc (.cells #[.string ⟨#[]⟩,.int .u32 0,.int .u64 0,.int .u32 0,.string ⟨#[]⟩] 121)).drew = w1 at *
  have hne' : w.heap.size≠b:=by omega
  have hnn : w.heap.size≠nb:=by have:=lt_of_get hn; omega
  simp only [ZB,endK,resK,resN,packed,insVc,storeNK,buildK,fillL,Value.cells,ne_eq,Nat.reduceEqDiff,Nat.reduceAdd,Nat.reduceLeDiff,reduceCtorEq,Zaf,Zad,Zac,Za,Zai,Zaj,Zak,Zaa,Zab,Zae,pureI,vcD_nil,vcD_cons,stepD_pure,stepD_load,stepD_step,kindI,loadI]
  refine loadD1 (b:=nb) (o:=0) (v:=.string name) rfl (fun w' hw'=>⟨_,_,_,hw',rfl⟩) ?_
  refine four_c b r w1 _ hb0 hs ?_
  intro w2 hm2 hb2
  refine ⟨hm2.keep hn0 hne, ?_⟩
  simp only [Nat.reduceAdd,Nat.reduceLeDiff,Zai,Zaj,Zak,Zbd,Zbe,Zbc,Zbb,Zal,Zam,Zan,and_true,and_self,Zab,Nat.zero_add,Nat.add_zero]
  refine eight_c b _ w2 _ hb2 (by have:=number_size r 4; omega) ?_
  intro w3 hm3 hb3
  refine ⟨hm3.keep (hm2.keep hn0 hne) hne, ?_⟩
  simp only [Nat.reduceAdd,Nat.reduceLeDiff,Zai,Zaj,Zak,Zbd,Zbe,Zbc,Zbb,Zal,Zam,Zan,and_true,Zab,Nat.zero_add,Nat.add_zero]
  refine four_c b _ w3 _ hb3 (by have:=number_size r 4; have:=number_size (number r 4).2 8; omega) ?_
  intro w4 hm4 hb4
  have hn4:=hm4.keep (hm3.keep (hm2.keep hn0 hne) hne) hne
  refine ⟨hn4, ?_⟩
  simp only [Nat.reduceAdd,Nat.reduceLeDiff,Zai,Zaj,Zak,Zbd,Zbe,Zbc,Zbb,Zal,Zam,Zan,and_true,Zab,Nat.zero_add,Nat.add_zero]
  refine text_c b _ 32 w4 _ hb4 (by have:=number_size r 4; have:=number_size (number r 4).2 8; have:=number_size (number (number r 4).2 8).2 4; omega) (by omega) ?_
  intro w5 hm5 hb5
  refine ⟨hm5.keep hn4 hne, ?_⟩
  have hr5:=hm5.keep (hm4.keep (hm3.keep (hm2.keep hr0 hne') hne') hne') hne'
  have hl5:=lt_of_get hr5
  simp only [resNO_cells,storeNO_cells,setMany,isPlain,Nat.reduceAdd,Nat.reduceLeDiff,Zai,Zaj,Zak,Zbd,Zbe,Zbc,Zbb,Zal,Zam,Zan,true_and,and_self,Zab,Nat.zero_add,Nat.add_zero,Bool.and_true,Zaq,Zap,Zar,Zao,Zas,Zat,Zau,Zaw,Zax,Zbf,hr5,hl5]
  refine ⟨by rw [get_set_other _ _ _ _ (Ne.symm hnn)]; exact hm5.keep hn4 hne, ?_⟩
  have hx : (qget name r).1.val = .agg #[.string name,.int .u32 ((number r 4).1 % 2 ^ 32 : Nat),.int .u64 ((number (number r 4).2 8).1 : Nat),.int .u32 ((number (number (number r 4).2 8).2 4).1 % 2 ^ 32 : Nat),.string (text (number (number (number r 4).2 8).2 4).2 32).1]:=rfl
  rw [hx] at h
  refine h _ ?_ ?_
  · exact (((((hm0.trans hm2).trans hm3).trans hm4).trans hm5)).set (.inl (Nat.le_refl _))
  · unfold IsRd
    rw [get_set_other _ _ _ _ (Ne.symm hne')]
    exact hb5
def IsQ (w : World) (lo : Nat) (v : Value) (name : ByteArray) : Prop :=
  ∃ b1 b2 b3,v = .agg #[.func (.func 266) #[] #[ptr b1],.func (.func 267) #[] #[ptr b2]]∧lo≤b1∧lo≤b2∧lo≤b3 ∧
    w.heap[b1]? = some (.cells #[.func (.func 222) #[] #[]] 254 (0,0)) ∧
    w.heap[b2]? = some (.cells #[.func (.func 223) #[] #[ptr b3]] 255 (0,0)) ∧
    w.heap[b3]? = some (.cells #[.string name] 9 (0,0))
theorem IsQ.keep {w w' : World} {lo : Nat} {v : Value} {name : ByteArray} {S : Nat→Prop} (h : IsQ w lo v name) (hm : Mod S w w') (hS : ∀ k,lo≤k→k < w.heap.size→¬ S k) : IsQ w' lo v name:=by
  obtain ⟨b1,b2,b3,e,l1,l2,l3,h1,h2,h3⟩:=h
  exact ⟨b1,b2,b3,e,l1,l2,l3,hm.keep h1 (hS _ l1 (lt_of_get h1)),hm.keep h2 (hS _ l2 (lt_of_get h2)),hm.keep h3 (hS _ l3 (lt_of_get h3))⟩
theorem queues_c (name : ByteArray) (w : World) (K : Value→World→Prop) (h : ∀ w' v,Mod (fun _=>False) w w'→IsQ w' w.heap.size v name→K v w') :
    Ok Proofs.Tryz.prog 163 #[.string name] w K:=by
  refine F163.enter (args:=[.string name]) (by simp) ?_
  unfold c163 r163
  simp only [ZB,insVc,Value.cells,ne_eq,Nat.reduceEqDiff,Zaf,Zad,Zac,Za]
  refine F221.enter (args:=[_,_]) (by simp) ?_
  unfold c221 r221
  simp only [ZB,endK,resK,resN,packed,insVc,storeNK,setMany,buildK,fillL,isPlain,Value.cells,ne_eq,Nat.reduceEqDiff,Nat.reduceAdd,Nat.reduceLT,Nat.reduceLeDiff,reduceCtorEq,Zaf,Zad,Zac,Za,Zag,Zai,Zaj,Zak,Zbd,Zbe,Zbc,Zbb,Zal,Zam,Zan,Zaa,Zbh,Zab,Zae,Zaq,Zap,Zar,Zao,Zas,Zat,Zau,Zaw,Zax,Zbf,Zb,get_alloc,get_set,Zaz,Nat.reduceAdd,Zbg,Zba,Nat.reduceEqDiff,Zbv,Nat.reduceLT,Zay]
  refine h _ _ ?_ ⟨w.heap.size + 2,w.heap.size + 3,w.heap.size,rfl, ?_, ?_, ?_, ?_, ?_, ?_⟩
  · exact (((((((Mod.refl _ _).alloc _).alloc _).alloc _).alloc _).alloc _).set (.inl (by omega))).set (.inl (by omega))
  · omega
  · omega
  · exact Nat.le_refl _
  · simp only [Nat.reduceEqDiff,Nat.reduceAdd,Nat.reduceLT,reduceCtorEq,and_true,Zab,Zae,size_set,size_alloc,Zb,get_alloc,get_set,size_alloc,size_set,Zaz,Nat.reduceAdd,Zbg,Zba,Nat.reduceEqDiff,Zbv,Nat.reduceLT]
  · simp only [Nat.reduceEqDiff,Nat.reduceAdd,Nat.reduceLT,reduceCtorEq,and_true,Zab,Zae,size_set,size_alloc,Zb,get_alloc,get_set,size_alloc,size_set,Zaz,Nat.reduceAdd,Zbg,Zba,Nat.reduceEqDiff,Zbv,Nat.reduceLT]
  · simp only [Nat.reduceAdd,Nat.reduceLT,reduceCtorEq,and_true,Zab,Zae,size_set,size_alloc,Zb,get_alloc,get_set,size_alloc,size_set,Zaz,Nat.reduceAdd,Zbi,Zbv,Nat.reduceLT,Zay]
theorem qbytesf_c (q : Qu) (bb : Nat) (w : World) (K : Value→World→Prop) (hq : q.good) (hb : w.heap[bb]? = some (.cells #[.func (.func 222) #[] #[]] 254 (0,0)))
    (h : ∀ w',Mod (fun _=>False) w w'→K (.string (qbytes q)) w') :
    Ok Proofs.Tryz.prog 266 #[q.val,ptr bb] w K:=by
  refine F266.enter (args:=[q.val,ptr bb]) (by simp) ?_
  unfold c266 r266
  simp only [ZB,insVc,Value.cells,Zaf,Za,Qu.val,Qu.cells]
  have hb0 : (w.alloc (.cells #[.string q.name,.int .u32 q.most,.int .u64 q.ttl,.int .u32 q.tries,.string q.dead] 121)).drew.heap[w.heap.size]? = some (.cells #[.string q.name,.int .u32 q.most,.int .u64 q.ttl,.int .u32 q.tries,.string q.dead] 121 (0,0)):=get_alloc_new _ _
  have hm0 : Mod (fun _=>False) w (w.alloc (.cells #[.string q.name,.int .u32 q.most,.int .u64 q.ttl,.int .u32 q.tries,.string q.dead] 121)).drew:=((Mod.refl _ _).alloc _).drew
  have hbb:=hm0.keep hb id
  refine draw_d (fun w'=>w'.heap[w.heap.size]? = some (.cells #[.string q.name,.int .u32 q.most,.int .u64 q.ttl,.int .u32 q.tries,.string q.dead] 121 (0,0))∧w'.heap[bb]? = some (.cells #[.func (.func 222) #[] #[]] 254 (0,0))) (by kernel_rfl) (by kernel_rfl) (by kernel_rfl) (by kernel_rfl) ⟨hb0,hbb⟩ ?_
  generalize (w.alloc (.cells #[.string q.name,.int .u32 q.most,.int .u64 q.ttl,.int .u32 q.tries,.string q.dead] 121)).drew = w1 at *
  simp only [ZB,endK,resK,packed,insVc,sopK,sopV,callvK,ne_eq,Nat.reduceEqDiff,Zad,Zac,Zaa,Zab,Zae,pureI,vcD_nil,vcD_cons,stepD_pure,stepD_load,stepD_step,kindI,loadI]
  refine wone_c 1 w1 _ (by decide) ?_
  intro w2 hm2
  refine ⟨⟨hm2.keep hb0 id,hm2.keep hbb id⟩, ?_⟩
  refine loadD1 (b:=bb) (o:=0) (v:=.func (.func 222) #[] #[]) rfl (fun w' hw'=>⟨_,_,_,hw'.2,rfl⟩) ?_
  refine loadDN (b:=w.heap.size) (o:=0) (v:=q.val) rfl (fun w' hw'=>⟨_,_,_,hw'.1,by simp,rfl⟩) ?_
  simp only [Zaa,Zbt]
  refine qput_c q w2 _ hq ?_
  intro w3 hm3
  refine ⟨⟨hm3.keep (hm2.keep hb0 id) id,hm3.keep (hm2.keep hbb id) id⟩, ?_⟩
  have x1 : ¬ (((big 1 1).size + (qput q).size : Nat) : Int) > IntKind.i64.max:=by
    have:=hq.2.2.2
    simp only [qput,Zbs,big_size,textB_size,imax]; omega
  simp only [loadV_some,Zae,x1]
  exact h w3 ((hm0.trans hm2).trans hm3)
theorem qgetf_c (b gb nb : Nat) (name : ByteArray) (r : Rd) (w : World) (K : Value→World→Prop) (hb : IsRd w b r) (hg : w.heap[gb]? = some (.cells #[.func (.func 223) #[] #[ptr nb]] 255 (0,0)))
    (hn : w.heap[nb]? = some (.cells #[.string name] 9 (0,0))) (hne : nb≠b) (hge : gb≠b) (hs : (r.1.size : Int) < 2 ^ 63)
    (h : ∀ w',Mod (fun k=>k = b) w w'→IsRd w' b (qget name (ver r)).2→K (qget name (ver r)).1.val w') :
    Ok Proofs.Tryz.prog 267 #[ptr b,ptr gb] w K:=by
  refine F267.enter (args:=[ptr b,ptr gb]) (by simp) ?_
  unfold c267 r267
  simp only [ZB,insVc,Value.cells,ne_eq,reduceCtorEq,Zaf,Zad,Zac,Za]
  have hm0 : Mod (fun k=>k = b) w (w.alloc (.cells #[.string ⟨#[]⟩,.int .u32 0,.int .u64 0,.int .u32 0,.string ⟨#[]⟩] 121)):=(Mod.refl _ _).alloc _
  have hn0:=hm0.keep hn hne
  have hg0:=hm0.keep hg hge
  have hbl:=lt_of_get hb
  have hb0 : IsRd (w.alloc (.cells #[.string ⟨#[]⟩,.int .u32 0,.int .u64 0,.int .u32 0,.string ⟨#[]⟩] 121)) b r:=by
    unfold IsRd; rw [get_alloc_old _ _ _ hbl]; exact hb
  have hr0 : (w.alloc (.cells #[.string ⟨#[]⟩,.int .u32 0,.int .u64 0,.int .u32 0,.string ⟨#[]⟩] 121)).heap[w.heap.size]? = some (.cells #[.string ⟨#[]⟩,.int .u32 0,.int .u64 0,.int .u32 0,.string ⟨#[]⟩] 121 (0,0)):=get_alloc_new _ _
  generalize (w.alloc (.cells #[.string ⟨#[]⟩,.int .u32 0,.int .u64 0,.int .u32 0,.string ⟨#[]⟩] 121)) = w1 at *
  have hne' : w.heap.size≠b:=by omega
  refine one_c b r w1 _ hb0 hs ?_
  intro w2 hm2 hb2
  simp only [ZB,insVc,iopK,iopV,reduceCtorEq]
  have fin : ∀ w3,Mod (fun k=>k = b) w2 w3→IsRd w3 b (ver r)→∀ G : Value→World→Prop,(∀ w4,Mod (fun k=>k = b) w3 w4→IsRd w4 b (qget name (ver r)).2→G (qget name (ver r)).1.val w4)→Ok Proofs.Tryz.prog 223 #[ptr b,ptr nb] w3 G:=by
    intro w3 hm3 hb3 G hG
    exact qget_c b nb name (ver r) w3 G hb3 (hm3.keep (hm2.keep hn0 hne) hne) hne (by have:=ver_size r; omega) hG
  refine condP_split ?_ ?_
  · intro hc
    simp only [ZB,insVc,ne_eq,reduceCtorEq,Zaf,Zad,Zac,Za]
    refine fail_c b _ 4 w2 _ hb2 ?_
    intro w3 v hm3 hb3
    have hv : ver r = fail (number r 1).2 4:=by
      unfold ver; rw [if_pos]; simp at hc; omega
    simp only [ZB,insVc,load1K,callvK,ne_eq,Nat.reduceEqDiff,reduceCtorEq,Zaf,Zad,Zac,Za,Zag,Zah,Zaa,Zav,hm3.keep (hm2.keep hg0 hge) hge]
    refine fin w3 hm3 (hv ▸ hb3) _ ?_
    intro w4 hm4 hb4
    have hr4:=hm4.keep (hm3.keep (hm2.keep hr0 hne') hne') hne'
    simp only [ZB,endK,resK,resN,packed,insVc,storeNK,setMany,isPlain,ne_eq,Nat.reduceEqDiff,Nat.reduceAdd,Nat.reduceLeDiff,Zai,Zaj,Zak,Zal,Zam,Zan,Zaa,Zaq,Zap,Zar,Zao,Zas,Zat,Zau,Zaw,Zax,Zbf,hr4,lt_of_get hr4,Qu.val,Qu.cells]
    refine h _ ((((hm0.trans hm2).trans hm3).trans hm4).set (.inl (Nat.le_refl _))) ?_
    unfold IsRd
    rw [get_set_other _ _ _ _ (Ne.symm hne')]
    exact hb4
  · intro hc
    simp only [ZB,insVc,load1K,ne_eq,Nat.reduceEqDiff,Zaf,Za,Zag]
    have hv : ver r = (number r 1).2:=by
      unfold ver; rw [if_neg]; simp at hc; omega
    simp only [ZB,insVc,callvK,ne_eq,Nat.reduceEqDiff,reduceCtorEq,Zaf,Zad,Zac,Za,Zah,Zaa,Zav,hm2.keep hg0 hge]
    refine fin w2 (Mod.refl _ _) (hv ▸ hb2) _ ?_
    intro w4 hm4 hb4
    have hr4:=hm4.keep (hm2.keep hr0 hne') hne'
    simp only [ZB,endK,resK,resN,packed,insVc,storeNK,setMany,isPlain,ne_eq,Nat.reduceEqDiff,Nat.reduceAdd,Nat.reduceLeDiff,Zai,Zaj,Zak,Zal,Zam,Zan,Zaa,Zaq,Zap,Zar,Zao,Zas,Zat,Zau,Zaw,Zax,Zbf,hr4,lt_of_get hr4,Qu.val,Qu.cells]
    refine h _ (((hm0.trans hm2).trans hm4).set (.inl (Nat.le_refl _))) ?_
    unfold IsRd
    rw [get_set_other _ _ _ _ (Ne.symm hne')]
    exact hb4
end Go.Oct
