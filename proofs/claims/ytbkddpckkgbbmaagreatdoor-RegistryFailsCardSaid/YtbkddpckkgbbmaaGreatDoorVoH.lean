import Derived.Test.YtbkddpckkgbbmaaGreatDoorVoE
set_option linter.unusedSimpArgs false
set_option linter.unusedVariables false
set_option linter.unusedSectionVars false
set_option linter.unnecessarySimpa false
namespace Go.Oct
open Go Go.Vc Go.VrA
set_option maxRecDepth 100000
structure Qu where
  name : ByteArray
  most : Nat
  ttl : Nat
  tries : Nat
  dead : ByteArray
def Qu.cells (q : Qu) : List Value:=[.string q.name,.int .u32 q.most,.int .u64 q.ttl,.int .u32 q.tries,.string q.dead]
def Qu.val (q : Qu) : Value:=.agg q.cells.toArray
def q0 : Qu:=⟨e0,0,0,0,e0⟩
def Qu.good (q : Qu) : Prop:=q.most < 2 ^ 32∧q.ttl < 2 ^ 64∧q.tries < 2 ^ 32∧q.dead.size < 2 ^ 60
def qput (q : Qu) : ByteArray:=big q.most 4 ++ big q.ttl 8 ++ big q.tries 4 ++ textB q.dead
def qget (name : ByteArray) (r : Rd) : Qu × Rd :=
  let a:=number r 4
  let b:=number a.2 8
  let c:=number b.2 4
  let d:=text c.2 32
  (⟨name,a.1 % 2 ^ 32,b.1,c.1 % 2 ^ 32,d.1⟩,d.2)
def ver (r : Rd) : Rd:=if (number r 1).1 % 256≠1 then fail (number r 1).2 4 else (number r 1).2
def qread (name s : ByteArray) : Qu × Int :=
  let x:=qget name (ver (s,0))
  if ende x.2≠0 then (q0,ende x.2) else (x.1,0)
def qbytes (q : Qu) : ByteArray:=big 1 1 ++ qput q
theorem number_size (r : Rd) (n : Int) : (number r n).2.1.size≤r.1.size:=take_size r n
theorem fail_size (r : Rd) (e : Int) : (fail r e).1.size = r.1.size:=by unfold fail; split <;> rfl
theorem ver_size (r : Rd) : (ver r).1.size≤r.1.size:=by
  unfold ver
  split
  · rw [fail_size]; exact number_size r 1
  · exact number_size r 1
theorem textB_size (s : ByteArray) : (textB s).size = 4 + s.size:=by simp [textB,big_size,ByteArray.size_append]
theorem imax : IntKind.i64.max = 9223372036854775807:=rfl
theorem qput_c (q : Qu) (w : World) (K : Value→World→Prop) (hq : q.good) (h : ∀ w',Mod (fun _=>False) w w'→K (.string (qput q)) w') :
    Ok Proofs.Tryz.prog 122 #[q.val] w K:=by
  refine F122.enter (args:=[q.val]) (by simp) ?_
  unfold c122 r122
  simp only [ZB,insVc,Value.cells,Zab,Za,Qu.val,Qu.cells]
  have hb0 : (w.alloc (.cells #[.string q.name,.int .u32 q.most,.int .u64 q.ttl,.int .u32 q.tries,.string q.dead] 33)).drew.heap[w.heap.size]? = some (.cells #[.string q.name,.int .u32 q.most,.int .u64 q.ttl,.int .u32 q.tries,.string q.dead] 33 (0,0)):=get_alloc_new _ _
  have hm0 : Mod (fun _=>False) w (w.alloc (.cells #[.string q.name,.int .u32 q.most,.int .u64 q.ttl,.int .u32 q.tries,.string q.dead] 33)).drew:=((Mod.refl _ _).alloc _).drew
  refine draw_d (fun w'=>w'.heap[w.heap.size]? = some (.cells #[.string q.name,.int .u32 q.most,.int .u64 q.ttl,.int .u32 q.tries,.string q.dead] 33 (0,0))) (by kernel_rfl) (by kernel_rfl) (by kernel_rfl) (by kernel_rfl) hb0 ?_
  generalize (w.alloc (.cells #[.string q.name,.int .u32 q.most,.int .u64 q.ttl,.int .u32 q.tries,.string q.dead] 33)).drew = w1 at *
  simp only [ZB,endK,resK,packed,insVc,sopK,sopV,faddrK,ne_eq,Nat.reduceEqDiff,Zad,Zae,Zaa,Zac,Zag,pureI,vcD_nil,vcD_cons,stepD_pure,stepD_load,stepD_step,kindI,loadI]
  refine loadD1 (b:=w.heap.size) (o:=1) (v:=.int .u32 q.most) rfl (fun w' hw'=>⟨_,_,_,hw',rfl⟩) ?_
  refine wfour_c q.most w1 _ hq.1 ?_
  intro w2 hm2
  refine ⟨hm2.keep hb0 id, ?_⟩
  refine loadD1 (b:=w.heap.size) (o:=2) (v:=.int .u64 q.ttl) rfl (fun w' hw'=>⟨_,_,_,hw',rfl⟩) ?_
  refine weight_c q.ttl w2 _ hq.2.1 ?_
  intro w3 hm3
  refine ⟨hm3.keep (hm2.keep hb0 id) id, ?_⟩
  have x1 : ¬ (((big q.most 4).size + (big q.ttl 8).size : Nat) : Int) > IntKind.i64.max:=by simp only [big_size,imax]; omega
  simp only [loadV_some,Zag,x1]
  refine loadD1 (b:=w.heap.size) (o:=3) (v:=.int .u32 q.tries) rfl (fun w' hw'=>⟨_,_,_,hw',rfl⟩) ?_
  refine wfour_c q.tries w3 _ hq.2.2.1 ?_
  intro w4 hm4
  refine ⟨hm4.keep (hm3.keep (hm2.keep hb0 id) id) id, ?_⟩
  have x2 : ¬ (((big q.most 4 ++ big q.ttl 8).size + (big q.tries 4).size : Nat) : Int) > IntKind.i64.max:=by simp only [ByteArray.size_append,big_size,imax]; omega
  simp only [loadV_some,Zag,x2]
  refine loadD1 (b:=w.heap.size) (o:=4) (v:=.string q.dead) rfl (fun w' hw'=>⟨_,_,_,hw',rfl⟩) ?_
  refine wtext_c q.dead w4 _ (by have:=hq.2.2.2; omega) ?_
  intro w5 hm5
  refine ⟨hm5.keep (hm4.keep (hm3.keep (hm2.keep hb0 id) id) id) id, ?_⟩
  have x3 : ¬ (((big q.most 4 ++ big q.ttl 8 ++ big q.tries 4).size + (textB q.dead).size : Nat) : Int) > IntKind.i64.max:=by
    have:=hq.2.2.2
    simp only [ByteArray.size_append,big_size,textB_size,imax]; omega
  simp only [loadV_some,Zag,x3]
  exact h w5 (((((hm0.trans hm2).trans hm3).trans hm4).trans hm5))
end Go.Oct
namespace Go.Oct
open Go Go.Vc Go.VrA
set_option maxRecDepth 100000
theorem qget_c (b nb : Nat) (name : ByteArray) (r : Rd) (w : World) (K : Value→World→Prop) (hb : IsRd w b r) (hn : w.heap[nb]? = some (.cells #[.string name] 9 (0,0))) (hne : nb≠b) (hs : (r.1.size : Int) < 2 ^ 63)
    (h : ∀ w',Mod (fun k=>k = b) w w'→IsRd w' b (qget name r).2→K (qget name r).1.val w') :
    Ok Proofs.Tryz.prog 126 #[ptr b,ptr nb] w K:=by
  refine F126.enter (args:=[ptr b,ptr nb]) (by simp) ?_
  unfold c126 r126
  simp only [ZB,insVc,Value.cells]
  have hm0 : Mod (fun k=>k = b) w (w.alloc (.cells #[.string ⟨#[]⟩,.int .u32 0,.int .u64 0,.int .u32 0,.string ⟨#[]⟩] 33)).drew:=((Mod.refl _ _).alloc _).drew
  have hn0:=hm0.keep hn hne
  have hbl:=lt_of_get hb
  have hb0 : IsRd (w.alloc (.cells #[.string ⟨#[]⟩,.int .u32 0,.int .u64 0,.int .u32 0,.string ⟨#[]⟩] 33)).drew b r:=by
    unfold IsRd; rw [get_drew,get_alloc_old _ _ _ hbl]; exact hb
  have hr0 : (w.alloc (.cells #[.string ⟨#[]⟩,.int .u32 0,.int .u64 0,.int .u32 0,.string ⟨#[]⟩] 33)).drew.heap[w.heap.size]? = some (.cells #[.string ⟨#[]⟩,.int .u32 0,.int .u64 0,.int .u32 0,.string ⟨#[]⟩] 33 (0,0)):=get_alloc_new _ _
  refine draw_d (fun w'=>w'.heap[nb]? = some (.cells #[.string name] 9 (0,0))) (by kernel_rfl) (by kernel_rfl) (by kernel_rfl) (by kernel_rfl) hn0 ?_
  generalize (w.alloc (.cells #[.string ⟨#[]⟩,.int .u32 0,.int .u64 0,.int .u32 0,.string ⟨#[]⟩] 33)).drew = w1 at *
  have hne' : w.heap.size≠b:=by omega
  have hnn : w.heap.size≠nb:=by have:=lt_of_get hn; omega
  simp only [ZB,endK,resK,resN,packed,insVc,storeNK,buildK,fillL,Value.cells,ne_eq,Nat.reduceEqDiff,Nat.reduceAdd,Nat.reduceLeDiff,reduceCtorEq,Zab,Zad,Zae,Za,Zak,Zai,Zaj,Zaa,Zac,Zag,pureI,vcD_nil,vcD_cons,stepD_pure,stepD_load,stepD_step,kindI,loadI]
  refine loadD1 (b:=nb) (o:=0) (v:=.string name) rfl (fun w' hw'=>⟨_,_,_,hw',rfl⟩) ?_
  refine four_c b r w1 _ hb0 hs ?_
  intro w2 hm2 hb2
  refine ⟨hm2.keep hn0 hne, ?_⟩
  simp only [Nat.reduceAdd,Nat.reduceLeDiff,Zak,Zai,Zaj,Zbc,Zbd,Zba,Zbb,Zal,Zam,Zan,and_true,and_self,Zac,Nat.zero_add,Nat.add_zero]
  refine eight_c b _ w2 _ hb2 (by have:=number_size r 4; omega) ?_
  intro w3 hm3 hb3
  refine ⟨hm3.keep (hm2.keep hn0 hne) hne, ?_⟩
  simp only [Nat.reduceAdd,Nat.reduceLeDiff,Zak,Zai,Zaj,Zbc,Zbd,Zba,Zbb,Zal,Zam,Zan,and_true,Zac,Nat.zero_add,Nat.add_zero]
  refine four_c b _ w3 _ hb3 (by have:=number_size r 4; have:=number_size (number r 4).2 8; omega) ?_
  intro w4 hm4 hb4
  have hn4:=hm4.keep (hm3.keep (hm2.keep hn0 hne) hne) hne
  refine ⟨hn4, ?_⟩
  simp only [Nat.reduceAdd,Nat.reduceLeDiff,Zak,Zai,Zaj,Zbc,Zbd,Zba,Zbb,Zal,Zam,Zan,and_true,Zac,Nat.zero_add,Nat.add_zero]
  refine text_c b _ 32 w4 _ hb4 (by have:=number_size r 4; have:=number_size (number r 4).2 8; have:=number_size (number (number r 4).2 8).2 4; omega) (by omega) ?_
  intro w5 hm5 hb5
  refine ⟨hm5.keep hn4 hne, ?_⟩
  have hr5:=hm5.keep (hm4.keep (hm3.keep (hm2.keep hr0 hne') hne') hne') hne'
  have hl5:=lt_of_get hr5
  simp only [resNO_cells,storeNO_cells,setMany,isPlain,Nat.reduceAdd,Nat.reduceLeDiff,Zak,Zai,Zaj,Zbc,Zbd,Zba,Zbb,Zal,Zam,Zan,true_and,and_self,Zac,Nat.zero_add,Nat.add_zero,Bool.and_true,Zb,Zaz,Zav,Zar,Zay,Zaw,Zas,Zat,Zau,Zbe,hr5,hl5]
  refine ⟨by rw [get_set_other _ _ _ _ (Ne.symm hnn)]; exact hm5.keep hn4 hne, ?_⟩
  have hx : (qget name r).1.val = .agg #[.string name,.int .u32 ((number r 4).1 % 2 ^ 32 : Nat),.int .u64 ((number (number r 4).2 8).1 : Nat),.int .u32 ((number (number (number r 4).2 8).2 4).1 % 2 ^ 32 : Nat),.string (text (number (number (number r 4).2 8).2 4).2 32).1]:=rfl
  rw [hx] at h
  refine h _ ?_ ?_
  · exact (((((hm0.trans hm2).trans hm3).trans hm4).trans hm5)).set (.inl (Nat.le_refl _))
  · unfold IsRd
    rw [get_set_other _ _ _ _ (Ne.symm hne')]
    exact hb5
def IsQ (w : World) (lo : Nat) (v : Value) (name : ByteArray) : Prop :=
  ∃ b1 b2 b3,v = .agg #[.func (.func 181) #[] #[ptr b1],.func (.func 183) #[] #[ptr b2]]∧lo≤b1∧lo≤b2∧lo≤b3 ∧
    w.heap[b1]? = some (.cells #[.func (.func 122) #[] #[]] 128 (0,0)) ∧
    w.heap[b2]? = some (.cells #[.func (.func 126) #[] #[ptr b3]] 129 (0,0)) ∧
    w.heap[b3]? = some (.cells #[.string name] 9 (0,0))
theorem IsQ.keep {w w' : World} {lo : Nat} {v : Value} {name : ByteArray} {S : Nat→Prop} (h : IsQ w lo v name) (hm : Mod S w w') (hS : ∀ k,lo≤k→k < w.heap.size→¬ S k) : IsQ w' lo v name:=by
  obtain ⟨b1,b2,b3,e,l1,l2,l3,h1,h2,h3⟩:=h
  exact ⟨b1,b2,b3,e,l1,l2,l3,hm.keep h1 (hS _ l1 (lt_of_get h1)),hm.keep h2 (hS _ l2 (lt_of_get h2)),hm.keep h3 (hS _ l3 (lt_of_get h3))⟩
theorem queues_c (name : ByteArray) (w : World) (K : Value→World→Prop) (h : ∀ w' v,Mod (fun _=>False) w w'→IsQ w' w.heap.size v name→K v w') :
    Ok Proofs.Tryz.prog 52 #[.string name] w K:=by
  refine F52.enter (args:=[.string name]) (by simp) ?_
  unfold c52 r52
  simp only [ZB,insVc,Value.cells,ne_eq,Nat.reduceEqDiff,Zab,Zad,Zae,Za]
  refine F121.enter (args:=[_,_]) (by simp) ?_
  unfold c121 r121
  simp only [ZB,endK,resK,resN,packed,insVc,storeNK,setMany,buildK,fillL,isPlain,Value.cells,ne_eq,Nat.reduceEqDiff,Nat.reduceAdd,Nat.reduceLT,Nat.reduceLeDiff,reduceCtorEq,Zab,Zad,Zae,Za,Zaf,Zak,Zai,Zaj,Zbc,Zbd,Zba,Zbb,Zal,Zam,Zan,Zaa,Zbf,Zac,Zag,Zb,Zaz,Zav,Zar,Zay,Zaw,Zas,Zat,Zau,Zbe,Zao,get_alloc,get_set,Zaq,Nat.reduceAdd,Zbm,Zbj,Nat.reduceEqDiff,Zcf,Nat.reduceLT,Zbi]
  refine h _ _ ?_ ⟨w.heap.size + 2,w.heap.size + 3,w.heap.size,rfl, ?_, ?_, ?_, ?_, ?_, ?_⟩
  · exact (((((((Mod.refl _ _).alloc _).alloc _).alloc _).alloc _).alloc _).set (.inl (by omega))).set (.inl (by omega))
  · omega
  · omega
  · exact Nat.le_refl _
  · simp only [Nat.reduceEqDiff,Nat.reduceAdd,Nat.reduceLT,reduceCtorEq,and_true,Zac,Zag,size_set,size_alloc,Zao,get_alloc,get_set,size_alloc,size_set,Zaq,Nat.reduceAdd,Zbm,Zbj,Nat.reduceEqDiff,Zcf,Nat.reduceLT]
  · simp only [Nat.reduceEqDiff,Nat.reduceAdd,Nat.reduceLT,reduceCtorEq,and_true,Zac,Zag,size_set,size_alloc,Zao,get_alloc,get_set,size_alloc,size_set,Zaq,Nat.reduceAdd,Zbm,Zbj,Nat.reduceEqDiff,Zcf,Nat.reduceLT]
  · simp only [Nat.reduceAdd,Nat.reduceLT,reduceCtorEq,and_true,Zac,Zag,size_set,size_alloc,Zao,get_alloc,get_set,size_alloc,size_set,Zaq,Nat.reduceAdd,Zbl,Zcf,Nat.reduceLT,Zbi]
theorem qbytesf_c (q : Qu) (bb : Nat) (w : World) (K : Value→World→Prop) (hq : q.good) (hb : w.heap[bb]? = some (.cells #[.func (.func 122) #[] #[]] 128 (0,0)))
    (h : ∀ w',Mod (fun _=>False) w w'→K (.string (qbytes q)) w') :
    Ok Proofs.Tryz.prog 181 #[q.val,ptr bb] w K:=by
  refine F181.enter (args:=[q.val,ptr bb]) (by simp) ?_
  unfold c181 r181
  simp only [ZB,insVc,Value.cells,Zab,Za,Qu.val,Qu.cells]
  have hb0 : (w.alloc (.cells #[.string q.name,.int .u32 q.most,.int .u64 q.ttl,.int .u32 q.tries,.string q.dead] 33)).drew.heap[w.heap.size]? = some (.cells #[.string q.name,.int .u32 q.most,.int .u64 q.ttl,.int .u32 q.tries,.string q.dead] 33 (0,0)):=get_alloc_new _ _
  have hm0 : Mod (fun _=>False) w (w.alloc (.cells #[.string q.name,.int .u32 q.most,.int .u64 q.ttl,.int .u32 q.tries,.string q.dead] 33)).drew:=((Mod.refl _ _).alloc _).drew
  have hbb:=hm0.keep hb id
  refine draw_d (fun w'=>w'.heap[w.heap.size]? = some (.cells #[.string q.name,.int .u32 q.most,.int .u64 q.ttl,.int .u32 q.tries,.string q.dead] 33 (0,0))∧w'.heap[bb]? = some (.cells #[.func (.func 122) #[] #[]] 128 (0,0))) (by kernel_rfl) (by kernel_rfl) (by kernel_rfl) (by kernel_rfl) ⟨hb0,hbb⟩ ?_
  generalize (w.alloc (.cells #[.string q.name,.int .u32 q.most,.int .u64 q.ttl,.int .u32 q.tries,.string q.dead] 33)).drew = w1 at *
  simp only [ZB,endK,resK,packed,insVc,sopK,sopV,callvK,ne_eq,Nat.reduceEqDiff,Zad,Zae,Zaa,Zac,Zag,pureI,vcD_nil,vcD_cons,stepD_pure,stepD_load,stepD_step,kindI,loadI]
  refine wone_c 1 w1 _ (by decide) ?_
  intro w2 hm2
  refine ⟨⟨hm2.keep hb0 id,hm2.keep hbb id⟩, ?_⟩
  refine loadD1 (b:=bb) (o:=0) (v:=.func (.func 122) #[] #[]) rfl (fun w' hw'=>⟨_,_,_,hw'.2,rfl⟩) ?_
  refine loadDN (b:=w.heap.size) (o:=0) (v:=q.val) rfl (fun w' hw'=>⟨_,_,_,hw'.1,by simp,rfl⟩) ?_
  simp only [Zaa,Zbr]
  refine qput_c q w2 _ hq ?_
  intro w3 hm3
  refine ⟨⟨hm3.keep (hm2.keep hb0 id) id,hm3.keep (hm2.keep hbb id) id⟩, ?_⟩
  have x1 : ¬ (((big 1 1).size + (qput q).size : Nat) : Int) > IntKind.i64.max:=by
    have:=hq.2.2.2
    simp only [qput,ByteArray.size_append,big_size,textB_size,imax]; omega
  simp only [loadV_some,Zag,x1]
  exact h w3 ((hm0.trans hm2).trans hm3)
theorem qgetf_c (b gb nb : Nat) (name : ByteArray) (r : Rd) (w : World) (K : Value→World→Prop) (hb : IsRd w b r) (hg : w.heap[gb]? = some (.cells #[.func (.func 126) #[] #[ptr nb]] 129 (0,0)))
    (hn : w.heap[nb]? = some (.cells #[.string name] 9 (0,0))) (hne : nb≠b) (hge : gb≠b) (hs : (r.1.size : Int) < 2 ^ 63)
    (h : ∀ w',Mod (fun k=>k = b) w w'→IsRd w' b (qget name (ver r)).2→K (qget name (ver r)).1.val w') :
    Ok Proofs.Tryz.prog 183 #[ptr b,ptr gb] w K:=by
  refine F183.enter (args:=[ptr b,ptr gb]) (by simp) ?_
  unfold c183 r183
  simp only [ZB,insVc,Value.cells,ne_eq,reduceCtorEq,Zab,Zad,Zae,Za]
  have hm0 : Mod (fun k=>k = b) w (w.alloc (.cells #[.string ⟨#[]⟩,.int .u32 0,.int .u64 0,.int .u32 0,.string ⟨#[]⟩] 33)):=(Mod.refl _ _).alloc _
  have hn0:=hm0.keep hn hne
  have hg0:=hm0.keep hg hge
  have hbl:=lt_of_get hb
  have hb0 : IsRd (w.alloc (.cells #[.string ⟨#[]⟩,.int .u32 0,.int .u64 0,.int .u32 0,.string ⟨#[]⟩] 33)) b r:=by
    unfold IsRd; rw [get_alloc_old _ _ _ hbl]; exact hb
  have hr0 : (w.alloc (.cells #[.string ⟨#[]⟩,.int .u32 0,.int .u64 0,.int .u32 0,.string ⟨#[]⟩] 33)).heap[w.heap.size]? = some (.cells #[.string ⟨#[]⟩,.int .u32 0,.int .u64 0,.int .u32 0,.string ⟨#[]⟩] 33 (0,0)):=get_alloc_new _ _
  generalize (w.alloc (.cells #[.string ⟨#[]⟩,.int .u32 0,.int .u64 0,.int .u32 0,.string ⟨#[]⟩] 33)) = w1 at *
  have hne' : w.heap.size≠b:=by omega
  refine one_c b r w1 _ hb0 hs ?_
  intro w2 hm2 hb2
  simp only [ZB,insVc,iopK,iopV,reduceCtorEq]
  have fin : ∀ w3,Mod (fun k=>k = b) w2 w3→IsRd w3 b (ver r)→∀ G : Value→World→Prop,(∀ w4,Mod (fun k=>k = b) w3 w4→IsRd w4 b (qget name (ver r)).2→G (qget name (ver r)).1.val w4)→Ok Proofs.Tryz.prog 126 #[ptr b,ptr nb] w3 G:=by
    intro w3 hm3 hb3 G hG
    exact qget_c b nb name (ver r) w3 G hb3 (hm3.keep (hm2.keep hn0 hne) hne) hne (by have:=ver_size r; omega) hG
  refine condP_split ?_ ?_
  · intro hc
    simp only [ZB,insVc,ne_eq,reduceCtorEq,Zab,Zad,Zae,Za]
    refine fail_c b _ 4 w2 _ hb2 ?_
    intro w3 v hm3 hb3
    have hv : ver r = fail (number r 1).2 4:=by
      unfold ver; rw [if_pos]; simp at hc; omega
    simp only [ZB,insVc,load1K,callvK,ne_eq,Nat.reduceEqDiff,reduceCtorEq,Zab,Zad,Zae,Za,Zaf,Zah,Zaa,Zap,hm3.keep (hm2.keep hg0 hge) hge]
    refine fin w3 hm3 (hv ▸ hb3) _ ?_
    intro w4 hm4 hb4
    have hr4:=hm4.keep (hm3.keep (hm2.keep hr0 hne') hne') hne'
    simp only [ZB,endK,resK,resN,packed,insVc,storeNK,setMany,isPlain,ne_eq,Nat.reduceEqDiff,Nat.reduceAdd,Nat.reduceLeDiff,Zak,Zai,Zaj,Zal,Zam,Zan,Zaa,Zb,Zaz,Zav,Zar,Zay,Zaw,Zas,Zat,Zau,Zbe,hr4,lt_of_get hr4,Qu.val,Qu.cells]
    refine h _ ((((hm0.trans hm2).trans hm3).trans hm4).set (.inl (Nat.le_refl _))) ?_
    unfold IsRd
    rw [get_set_other _ _ _ _ (Ne.symm hne')]
    exact hb4
  · intro hc
    simp only [ZB,insVc,load1K,ne_eq,Nat.reduceEqDiff,Zab,Za,Zaf]
    have hv : ver r = (number r 1).2:=by
      unfold ver; rw [if_neg]; simp at hc; omega
    simp only [ZB,insVc,callvK,ne_eq,Nat.reduceEqDiff,reduceCtorEq,Zab,Zad,Zae,Za,Zah,Zaa,Zap,hm2.keep hg0 hge]
    refine fin w2 (Mod.refl _ _) (hv ▸ hb2) _ ?_
    intro w4 hm4 hb4
    have hr4:=hm4.keep (hm2.keep hr0 hne') hne'
    simp only [ZB,endK,resK,resN,packed,insVc,storeNK,setMany,isPlain,ne_eq,Nat.reduceEqDiff,Nat.reduceAdd,Nat.reduceLeDiff,Zak,Zai,Zaj,Zal,Zam,Zan,Zaa,Zb,Zaz,Zav,Zar,Zay,Zaw,Zas,Zat,Zau,Zbe,hr4,lt_of_get hr4,Qu.val,Qu.cells]
    refine h _ (((hm0.trans hm2).trans hm4).set (.inl (Nat.le_refl _))) ?_
    unfold IsRd
    rw [get_set_other _ _ _ _ (Ne.symm hne')]
    exact hb4
end Go.Oct
namespace Go.Oct
open Go Go.Vc Go.VrA
set_option maxRecDepth 100000
theorem qbytes_c (v : Value) (lo : Nat) (name : ByteArray) (q : Qu) (w : World) (K : Value→World→Prop) (hv : IsQ w lo v name) (hq : q.good)
    (h : ∀ w',Mod (fun _=>False) w w'→K (.string (qbytes q)) w') :
    Ok Proofs.Tryz.prog 60 #[v,q.val] w K:=by
  obtain ⟨b1,b2,b3,rfl,_,_,_,h1,h2,h3⟩:=hv
  refine F60.enter (args:=[_,q.val]) (by simp) ?_
  unfold c60 r60
  simp only [ZB,insVc,load1K,loadNK,nilOf,pnilK,faddrK,callvK,Value.cells,ne_eq,Nat.reduceEqDiff,Nat.reduceAdd,Nat.reduceLeDiff,Zab,Zad,Zae,Za,Zaf,Zah,Zak,Zai,Zaj,Zaa,Zap,Zac,Zag,Zb,Zaz,Zav,Zar,Zay,Zaw,get_alloc,Nat.reduceAdd,Zbj,Zbl,Nat.reduceEqDiff,Zbi,Qu.val,Qu.cells]
  have hm0 : Mod (fun _=>False) w ((w.alloc (.cells #[.func (.func 181) #[] #[ptr b1],.func (.func 183) #[] #[ptr b2]] 131)).alloc (.cells #[.string q.name,.int .u32 q.most,.int .u64 q.ttl,.int .u32 q.tries,.string q.dead] 33)):=((Mod.refl _ _).alloc _).alloc _
  refine qbytesf_c q b1 _ _ hq (hm0.keep h1 id) ?_
  intro w2 hm2
  simp only [ZB,endK,resK,packed,insVc,Zaa]
  exact h w2 (hm0.trans hm2)
theorem callK_gen {P : Program} {go : Value→World→Prop} {f : FuncId} {args : List Value} {w : World} (h : ∀ W,W = w→CallK P go f args W) : CallK P go f args w:=h w rfl
abbrev zq : Array Value:=#[.string ⟨#[]⟩,.int .u32 0,.int .u64 0,.int .u32 0,.string ⟨#[]⟩]
theorem qread_c (v : Value) (lo : Nat) (name s : ByteArray) (w : World) (K : Value→World→Prop) (hv : IsQ w lo v name) (hs : s.size < 2 ^ 60)
    (h : ∀ w',Mod (fun _=>False) w w'→K (.tuple #[(qread name s).1.val,.int .i64 (qread name s).2]) w') :
    Ok Proofs.Tryz.prog 53 #[v,.string s] w K:=by
  obtain ⟨b1,b2,b3,rfl,_,_,_,h1,h2,h3⟩:=hv
  refine F53.enter (args:=[_,.string s]) (by simp) ?_
  unfold c53 r53
  simp only [ZB,insVc,load1K,nilOf,pnilK,faddrK,Value.cells,ne_eq,Nat.reduceEqDiff,Nat.reduceAdd,reduceCtorEq,Zab,Zad,Zae,Za,Zaf,Zah,Zac,Zag,get_alloc,Zaq,Nat.reduceAdd,Zbl,Nat.reduceEqDiff,Zbi]
  refine over_c s _ _ ?_
  simp only [ZB,insVc,load1K,faddrK,callvK,ne_eq,Nat.reduceEqDiff,Nat.reduceAdd,reduceCtorEq,Zad,Zae,Za,Zaf,Zah,Zaa,Zap,Zac,Zag,get_alloc,Zaq,Nat.reduceAdd,Zbl,Nat.reduceEqDiff,Zbi]
  have l1:=lt_of_get h1
  have l2:=lt_of_get h2
  have l3:=lt_of_get h3
  refine callK_gen ?_
  intro w1 hw1
  have hm0 : Mod (fun _=>False) w w1:=by rw [hw1]; exact ((((Mod.refl _ _).alloc _).alloc _).alloc _).alloc _
  have e1 : w1.heap[w.heap.size + 1]? = some (.cells zq 33 (0,0)):=by rw [hw1]; simp only [Nat.reduceEqDiff,Nat.reduceAdd,Zac,Zag,size_alloc,get_alloc,size_alloc,Zaq,Nat.reduceAdd,Zbm,Zbj,Nat.reduceEqDiff,Zbi]
  have e2 : w1.heap[w.heap.size + 2]? = some (.cells zq 33 (0,0)):=by rw [hw1]; simp only [Nat.reduceEqDiff,Nat.reduceAdd,reduceCtorEq,Zac,Zag,size_alloc,get_alloc,size_alloc,Zaq,Nat.reduceAdd,Zbm,Zbj,Nat.reduceEqDiff]
  have e3 : IsRd w1 (w.heap.size + 3) (s,0):=by unfold IsRd; rw [hw1]; simp only [Nat.reduceEqDiff,Nat.reduceAdd,reduceCtorEq,Zac,Zag,size_alloc,get_alloc,size_alloc,Zaq,Nat.reduceAdd,Zbm,Zbj,Nat.reduceEqDiff]
  have hszx : w1.heap.size = w.heap.size + 4:=by rw [hw1]; simp only [Nat.reduceAdd,size_alloc,size_alloc,Zaq,Nat.reduceAdd]
  clear hw1
  refine qgetf_c (w.heap.size + 3) b2 b3 name (s,0) w1 _ e3 (hm0.keep h2 id) (hm0.keep h3 id) (by omega) (by omega) (by simpa using (by omega : (s.size : Int) < 2 ^ 63)) ?_
  intro w2 hm2 hb2
  have f1:=hm2.keep e1 (by omega)
  have f2:=hm2.keep e2 (by omega)
  have hm2' : Mod (fun _=>False) w w2:=hm0.then hm2 (fun i hi hk=>by omega)
  have s2:=hm2.size
  have hr2:=lt_of_get hb2
  simp only [ZB,insVc,storeNK,setMany,isPlain,Value.cells,ne_eq,Nat.reduceEqDiff,Nat.reduceAdd,Nat.reduceLeDiff,Zad,Zae,Zak,Zai,Zaj,Zal,Zam,Zan,Zas,Zat,Zau,Zbg,Qu.val,Qu.cells]
  refine callK_gen ?_
  intro w3 hw3
  have hm3 : Mod (fun _=>False) w2 w3:=by rw [hw3]; exact ((Mod.refl _ _).alloc _).set (.inl (Nat.le_refl _))
  have g0 : w3.heap[w2.heap.size]? = some (.cells (qget name (ver (s,0))).1.cells.toArray 33 (0,0)):=by rw [hw3]; simp only [size_alloc,Zbe,Zao,size_alloc,Qu.cells]
  clear hw3
  have g1:=hm3.keep f1 id
  have g2:=hm3.keep f2 id
  have gb : IsRd w3 (w.heap.size + 3) _:=hm3.keep hb2 id
  have hm3':=hm2'.trans hm3
  refine ende_c (w.heap.size + 3) _ w3 _ gb ?_
  simp only [ZB,insVc,iopK,iopV,reduceCtorEq]
  refine condP_split ?_ ?_
  · intro he
    have he' : ende (qget name (ver (s,0))).2≠0:=by simpa using he
    have hq : qread name s = (q0,ende (qget name (ver (s,0))).2):=by unfold qread; simp only []; rw [if_pos he']
    rw [hq] at h
    simp only [ZB,endK,resK,resN,packed,insVc,loadNK,storeNK,setMany,isPlain,ne_eq,Nat.reduceEqDiff,Nat.reduceAdd,Nat.reduceLeDiff,Zak,Zai,Zaj,Zal,Zam,Zan,Zaa,Zap,Zb,Zaz,Zav,Zar,Zay,Zaw,Zas,Zat,Zau,g2,g1,get_set_same _ _ _ (lt_of_get g1)]
    exact h _ (hm3'.set (.inl (by omega)))
  · intro he
    have he' : ende (qget name (ver (s,0))).2 = 0:=by simpa using he
    have hq : qread name s = ((qget name (ver (s,0))).1,0):=by unfold qread; simp only []; rw [if_neg (by simpa using he')]
    rw [hq] at h
    simp only [ZB,endK,resK,resN,packed,insVc,loadNK,storeNK,setMany,isPlain,ne_eq,Nat.reduceEqDiff,Nat.reduceAdd,Nat.reduceLeDiff,Zak,Zai,Zaj,Zal,Zam,Zan,Zaa,Zap,Zb,Zaz,Zav,Zar,Zay,Zaw,Zas,Zat,Zau,g0,g1,Qu.cells,get_set_same _ _ _ (lt_of_get g1)]
    exact h _ (hm3'.set (.inl (by omega)))
def cbytes (n : Nat) : ByteArray:=big 1 1 ++ big n 8
def cread (s : ByteArray) : Nat × Int :=
  let x:=number (ver (s,0)) 8
  if ende x.2≠0 then (0,ende x.2) else (x.1,0)
def IsC (w : World) (lo : Nat) (v : Value) : Prop :=
  ∃ b1 b2,v = .agg #[.func (.func 185) #[] #[ptr b1],.func (.func 186) #[] #[ptr b2]]∧lo≤b1∧lo≤b2 ∧
    w.heap[b1]? = some (.cells #[.func (.func 124) #[] #[]] 136 (0,0)) ∧
    w.heap[b2]? = some (.cells #[.func (.func 19) #[] #[]] 137 (0,0))
theorem counters_c (w : World) (K : Value→World→Prop) (h : ∀ w' v,Mod (fun _=>False) w w'→IsC w' w.heap.size v→K v w') :
    Ok Proofs.Tryz.prog 54 #[] w K:=by
  refine F54.enter (args:=[]) (by simp) ?_
  unfold c54 r54
  simp only [ZB,insVc,Value.cells,Zad,Zae]
  refine F130.enter (args:=[_,_]) (by simp) ?_
  unfold c130 r130
  simp only [ZB,endK,resK,resN,packed,insVc,storeNK,setMany,buildK,fillL,isPlain,Value.cells,ne_eq,Nat.reduceEqDiff,Nat.reduceAdd,Nat.reduceLT,Nat.reduceLeDiff,reduceCtorEq,Zab,Zad,Zae,Za,Zaf,Zak,Zai,Zaj,Zbc,Zbd,Zba,Zbb,Zal,Zam,Zan,Zaa,Zbf,Zac,Zag,Zb,Zaz,Zav,Zar,Zay,Zaw,Zas,Zat,Zau,Zbe,Zao,get_alloc,get_set,Zaq,Nat.reduceAdd,Zbm,Zbj,Zbl,Nat.reduceEqDiff,Zcg,Nat.reduceLT,Zbi]
  refine h _ _ ?_ ⟨w.heap.size + 1,w.heap.size + 2,rfl, ?_, ?_, ?_, ?_⟩
  · exact ((((((Mod.refl _ _).alloc _).alloc _).alloc _).alloc _).set (.inl (by omega))).set (.inl (by omega))
  · omega
  · omega
  · simp only [Nat.reduceEqDiff,Nat.reduceAdd,Nat.reduceLT,and_true,Zac,Zag,size_set,size_alloc,Zao,get_alloc,get_set,size_alloc,size_set,Zaq,Nat.reduceAdd,Zbm,Zbj,Nat.reduceEqDiff,Zcg,Nat.reduceLT,Zbi]
  · simp only [Nat.reduceEqDiff,Nat.reduceAdd,Nat.reduceLT,reduceCtorEq,and_true,Zac,Zag,size_set,size_alloc,Zao,get_alloc,get_set,size_alloc,size_set,Zaq,Nat.reduceAdd,Zbm,Zbj,Nat.reduceEqDiff,Zcg,Nat.reduceLT]
theorem cbytes_c (v : Value) (lo : Nat) (n : Nat) (w : World) (K : Value→World→Prop) (hv : IsC w lo v) (hn : n < 2 ^ 64)
    (h : ∀ w',Mod (fun _=>False) w w'→K (.string (cbytes n)) w') :
    Ok Proofs.Tryz.prog 56 #[v,.int .u64 n] w K:=by
  obtain ⟨b1,b2,rfl,_,_,h1,h2⟩:=hv
  refine F56.enter (args:=[_,.int .u64 n]) (by simp) ?_
  unfold c56 r56
  simp only [ZB,insVc,load1K,nilOf,pnilK,faddrK,callvK,Value.cells,ne_eq,Nat.reduceEqDiff,Zab,Zad,Zae,Za,Zaf,Zah,Zaa,Zap,Zac,Zag,get_alloc,Nat.reduceEqDiff]
  refine callK_gen ?_
  intro w1 hw1
  have hm0 : Mod (fun _=>False) w w1:=by rw [hw1]; exact (Mod.refl _ _).alloc _
  clear hw1
  have h1':=hm0.keep h1 id
  refine F185.enter (args:=[.int .u64 n,ptr b1]) (by simp) ?_
  unfold c185 r185
  simp only [ZB,insVc]
  refine draw_d (fun w'=>w'.heap[b1]? = some (.cells #[.func (.func 124) #[] #[]] 136 (0,0))) (by kernel_rfl) (by kernel_rfl) (by kernel_rfl) (by kernel_rfl) h1' ?_
  simp only [ZB,endK,resK,packed,insVc,sopK,sopV,callvK,ne_eq,Nat.reduceEqDiff,reduceCtorEq,Zab,Zad,Zae,Za,Zaa,Zac,Zag,pureI,vcD_nil,vcD_cons,stepD_pure,stepD_load,stepD_step,kindI,loadI]
  refine wone_c 1 _ _ (by decide) ?_
  intro w2 hm2
  refine ⟨hm2.keep h1' id, ?_⟩
  refine loadD1 (b:=b1) (o:=0) (v:=.func (.func 124) #[] #[]) rfl (fun w' hw'=>⟨_,_,_,hw',rfl⟩) ?_
  simp only [Zaa,Zbr]
  refine weight_c n w2 _ hn ?_
  intro w3 hm3
  refine ⟨hm3.keep (hm2.keep h1' id) id, ?_⟩
  have x1 : ¬ (((big 1 1).size + (big n 8).size : Nat) : Int) > IntKind.i64.max:=by simp only [big_size,imax]; omega
  simp only [loadV_some,Zag,x1]
  exact h w3 ((hm0.drew.trans hm2).trans hm3)
theorem cread_c (v : Value) (lo : Nat) (s : ByteArray) (w : World) (K : Value→World→Prop) (hv : IsC w lo v) (hs : s.size < 2 ^ 60)
    (h : ∀ w',Mod (fun _=>False) w w'→K (.tuple #[.int .u64 ((cread s).1 : Nat),.int .i64 (cread s).2]) w') :
    Ok Proofs.Tryz.prog 55 #[v,.string s] w K:=by
  obtain ⟨b1,b2,rfl,_,_,h1,h2⟩:=hv
  refine F55.enter (args:=[_,.string s]) (by simp) ?_
  unfold c55 r55
  simp only [ZB,insVc,load1K,nilOf,pnilK,faddrK,Value.cells,ne_eq,Nat.reduceEqDiff,Zab,Zad,Zae,Za,Zaf,Zah,Zac,Zag,get_alloc,Nat.reduceEqDiff]
  refine over_c s _ _ ?_
  simp only [ZB,insVc,load1K,faddrK,callvK,ne_eq,Nat.reduceEqDiff,Zad,Zae,Za,Zaf,Zah,Zaa,Zap,Zac,Zag,get_alloc,Zbl,Nat.reduceEqDiff,Zbi]
  have l2:=lt_of_get h2
  refine callK_gen ?_
  intro w1 hw1
  have hm0 : Mod (fun _=>False) w w1:=by rw [hw1]; exact ((Mod.refl _ _).alloc _).alloc _
  have e3 : IsRd w1 (w.heap.size + 1) (s,0):=by unfold IsRd; rw [hw1]; simp only [Zac,Zag,size_alloc,get_alloc,size_alloc,Zbj,Zbi]
  clear hw1
  have h2':=hm0.keep h2 id
  have hsI : (s.size : Int) < 2 ^ 63:=by omega
  have hver:=ver_size (s,0)
  refine F186.enter (args:=[ptr (w.heap.size + 1),ptr b2]) (by simp) ?_
  unfold c186 r186
  simp only [ZB,insVc,ne_eq,reduceCtorEq,Zab,Zad,Zae,Za]
  refine one_c (w.heap.size + 1) (s,0) w1 _ e3 hsI ?_
  intro w2 hm2 hb2
  simp only [ZB,insVc,iopK,iopV,reduceCtorEq]
  have main : ∀ w3,Mod (fun k=>k = w.heap.size + 1) w2 w3→IsRd w3 (w.heap.size + 1) (ver (s,0))→∀ G : Value→World→Prop,
      (∀ w4,Mod (fun _=>False) w w4→IsRd w4 (w.heap.size + 1) (number (ver (s,0)) 8).2→G (.int .u64 ((number (ver (s,0)) 8).1 : Nat)) w4)→Ok Proofs.Tryz.prog 19 #[ptr (w.heap.size + 1)] w3 G:=by
    intro w3 hm3 hb3 G hG
    refine eight_c (w.heap.size + 1) _ w3 G hb3 (by simp only [] at hver; omega) ?_
    intro w4 hm4 hb4
    exact hG w4 (((hm0.then hm2 (fun i hi hk=>by omega)).then hm3 (fun i hi hk=>by omega)).then hm4 (fun i hi hk=>by omega)) hb4
  refine condP_split ?_ ?_
  · intro hc
    have hv : ver (s,0) = fail (number (s,0) 1).2 4:=by
      unfold ver; rw [if_pos]; simp at hc; omega
    simp only [ZB,insVc,ne_eq,reduceCtorEq,Zab,Zad,Zae,Za]
    refine fail_c (w.heap.size + 1) _ 4 w2 _ hb2 ?_
    intro w3 v hm3 hb3
    simp only [ZB,insVc,load1K,callvK,ne_eq,Nat.reduceEqDiff,reduceCtorEq,Zab,Zad,Zae,Za,Zaf,Zah,Zaa,Zbr,hm3.keep (hm2.keep h2' (by omega)) (by omega)]
    refine main w3 hm3 (hv ▸ hb3) _ ?_
    intro w4 hm4 hb4
    simp only [ZB,endK,resK,packed,insVc,ne_eq,Nat.reduceEqDiff,Zad,Zae,Zaa]
    refine ende_c (w.heap.size + 1) _ w4 _ hb4 ?_
    simp only [ZB,insVc,iopK,iopV,reduceCtorEq]
    refine condP_split ?_ ?_
    · intro he
      have he' : ende (number (ver (s,0)) 8).2≠0:=by simpa using he
      have hq : cread s = (0,ende (number (ver (s,0)) 8).2):=by unfold cread; simp only []; rw [if_pos he']
      rw [hq] at h
      simp only [ZB,endK,resK,packed,insVc,ne_eq,Nat.reduceEqDiff,Zaa,Zap]
      exact h w4 hm4
    · intro he
      have he' : ende (number (ver (s,0)) 8).2 = 0:=by simpa using he
      have hq : cread s = ((number (ver (s,0)) 8).1,0):=by unfold cread; simp only []; rw [if_neg (by simpa using he')]
      rw [hq] at h
      simp only [ZB,endK,resK,packed,insVc,ne_eq,Nat.reduceEqDiff,Zaa,Zap]
      exact h w4 hm4
  · intro hc
    have hv : ver (s,0) = (number (s,0) 1).2:=by
      unfold ver; rw [if_neg]; simp at hc; omega
    simp only [ZB,insVc,load1K,callvK,ne_eq,Nat.reduceEqDiff,reduceCtorEq,Zab,Zad,Zae,Za,Zaf,Zah,Zaa,Zbr,hm2.keep h2' (by omega)]
    refine main w2 (Mod.refl _ _) (hv ▸ hb2) _ ?_
    intro w4 hm4 hb4
    simp only [ZB,endK,resK,packed,insVc,ne_eq,Nat.reduceEqDiff,Zad,Zae,Zaa]
    refine ende_c (w.heap.size + 1) _ w4 _ hb4 ?_
    simp only [ZB,insVc,iopK,iopV,reduceCtorEq]
    refine condP_split ?_ ?_
    · intro he
      have he' : ende (number (ver (s,0)) 8).2≠0:=by simpa using he
      have hq : cread s = (0,ende (number (ver (s,0)) 8).2):=by unfold cread; simp only []; rw [if_pos he']
      rw [hq] at h
      simp only [ZB,endK,resK,packed,insVc,ne_eq,Nat.reduceEqDiff,Zaa,Zap]
      exact h w4 hm4
    · intro he
      have he' : ende (number (ver (s,0)) 8).2 = 0:=by simpa using he
      have hq : cread s = ((number (ver (s,0)) 8).1,0):=by unfold cread; simp only []; rw [if_neg (by simpa using he')]
      rw [hq] at h
      simp only [ZB,endK,resK,packed,insVc,ne_eq,Nat.reduceEqDiff,Zaa,Zap]
      exact h w4 hm4
end Go.Oct
