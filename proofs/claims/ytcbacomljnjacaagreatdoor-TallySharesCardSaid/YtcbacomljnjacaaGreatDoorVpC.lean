import Derived.Test.YtcbacomljnjacaaGreatDoorVmA
set_option linter.unusedSimpArgs false
set_option linter.unusedVariables false
set_option linter.unusedSectionVars false
set_option linter.unnecessarySimpa false
namespace Go.Oct
open Go Go.Vc Go.VrA Go.VrB
set_option maxRecDepth 100000
def IsMs (w : World) (lo : Nat) (v : Value) (queue : ByteArray) (n : Nat) : Prop :=
  ∃ b1 b2 b3 b4,v = .agg #[.func (.func 285) #[] #[ptr b1],.func (.func 286) #[] #[ptr b2]]∧lo≤b1∧lo≤b2∧lo≤b3∧lo≤b4 ∧
    w.heap[b1]? = some (.cells #[.func (.func 252) #[] #[]] 296 (0,0)) ∧
    w.heap[b2]? = some (.cells #[.func (.func 253) #[] #[ptr b3,ptr b4]] 297 (0,0)) ∧
    w.heap[b3]? = some (.cells #[.string queue] 9 (0,0))∧w.heap[b4]? = some (.cells #[.int .u64 n] 27 (0,0))
theorem messages_c (queue : ByteArray) (n : Nat) (w : World) (K : Value→World→Prop) (h : ∀ w' v,Mod (fun _=>False) w w'→IsMs w' w.heap.size v queue n→K v w') :
    Ok Proofs.Tryz.prog 200 #[.string queue,.int .u64 n] w K:=by
  refine F200.enter (args:=[.string queue,.int .u64 n]) (by simp) ?_
  unfold c200 r200
  simp only [ZB,insVc,Value.cells,ne_eq,Nat.reduceEqDiff,Zaf,Zad,Zac,Za,Zag]
  refine F251.enter (args:=[_,_]) (by simp) ?_
  unfold c251 r251
  simp only [ZB,endK,resK,resN,packed,insVc,storeNK,setMany,buildK,fillL,isPlain,Value.cells,ne_eq,Nat.reduceEqDiff,Nat.reduceAdd,Nat.reduceLT,Nat.reduceLeDiff,reduceCtorEq,Zaf,Zad,Zac,Za,Zag,Zai,Zaj,Zak,Zbd,Zbe,Zbc,Zbb,Zal,Zam,Zan,Zaa,Zbh,Zab,Zae,Zaq,Zap,Zar,Zao,Zas,Zat,Zau,Zaw,Zax,Zbf,Zb,get_alloc,get_set,Zaz,Nat.reduceAdd,Zbg,Zba,Nat.reduceEqDiff,Zbv,Nat.reduceLT]
  refine h _ _ ?_ ⟨w.heap.size + 3,w.heap.size + 4,w.heap.size,w.heap.size + 1,rfl,by omega,by omega,by omega,by omega, ?_, ?_, ?_, ?_⟩
  · exact (((((((Mod.refl _ _).alloc _).alloc _).alloc _).alloc _).alloc _).alloc _).set (.inl (by omega)) |>.set (.inl (by omega))
  · simp only [Nat.reduceEqDiff,Nat.reduceAdd,Nat.reduceLT,reduceCtorEq,and_true,Zab,Zae,size_set,size_alloc,Zb,get_alloc,get_set,size_alloc,size_set,Zaz,Nat.reduceAdd,Zbg,Zba,Nat.reduceEqDiff,Zbv,Nat.reduceLT]
  · simp only [Nat.reduceEqDiff,Nat.reduceAdd,Nat.reduceLT,reduceCtorEq,and_true,Zab,Zae,size_set,size_alloc,Zb,get_alloc,get_set,size_alloc,size_set,Zaz,Nat.reduceAdd,Zbg,Zba,Nat.reduceEqDiff,Zbv,Nat.reduceLT]
  · simp only [Nat.reduceAdd,Nat.reduceLT,reduceCtorEq,and_true,Zab,Zae,size_set,size_alloc,Zb,get_alloc,get_set,size_alloc,size_set,Zaz,Nat.reduceAdd,Zbi,Zbv,Nat.reduceLT,Zay]
  · simp only [Nat.reduceEqDiff,Nat.reduceAdd,Nat.reduceLT,and_true,Zab,Zae,size_set,size_alloc,Zb,get_alloc,get_set,size_alloc,size_set,Zaz,Nat.reduceAdd,Zbg,Zba,Nat.reduceEqDiff,Zbv,Nat.reduceLT,Zay]
theorem mbytesf_c (q : Ms) (bb : Nat) (w : World) (K : Value→World→Prop) (hq : q.good) (hb : w.heap[bb]? = some (.cells #[.func (.func 252) #[] #[]] 296 (0,0)))
    (h : ∀ w',Mod (fun _=>False) w w'→K (.string (mbytes q)) w') :
    Ok Proofs.Tryz.prog 285 #[q.val,ptr bb] w K:=by
  refine F285.enter (args:=[q.val,ptr bb]) (by simp) ?_
  unfold c285 r285
  simp only [ZB,insVc,Value.cells,Zaf,Za,Ms.val,Ms.cells]
  have hb0 : (w.alloc (.cells #[.string q.queue,.int .u64 q.id,.int .u32 q.tries,.int .u64 q.expiry,.string q.body] 128)).drew.heap[w.heap.size]? = some (.cells #[.string q.queue,.int .u64 q.id,.int .u32 q.tries,.int .u64 q.expiry,.string q.body] 128 (0,0)):=get_alloc_new _ _
  have hm0 : Mod (fun _=>False) w (w.alloc (.cells #[.string q.queue,.int .u64 q.id,.int .u32 q.tries,.int .u64 q.expiry,.string q.body] 128)).drew:=((Mod.refl _ _).alloc _).drew
  have hbb:=hm0.keep hb id
  refine draw_d (fun w'=>w'.heap[w.heap.size]? = some (.cells #[.string q.queue,.int .u64 q.id,.int .u32 q.tries,.int .u64 q.expiry,.string q.body] 128 (0,0))∧w'.heap[bb]? = some (.cells #[.func (.func 252) #[] #[]] 296 (0,0))) (by kernel_rfl) (by kernel_rfl) (by kernel_rfl) (by kernel_rfl) ⟨hb0,hbb⟩ ?_
  generalize (w.alloc (.cells #[.string q.queue,.int .u64 q.id,.int .u32 q.tries,.int .u64 q.expiry,.string q.body] 128)).drew = w1 at *
  simp only [ZB,endK,resK,packed,insVc,sopK,sopV,callvK,ne_eq,Nat.reduceEqDiff,Zad,Zac,Zaa,Zab,Zae,pureI,vcD_nil,vcD_cons,stepD_pure,stepD_load,stepD_step,kindI,loadI]
  refine wone_c 1 w1 _ (by decide) ?_
  intro w2 hm2
  refine ⟨⟨hm2.keep hb0 id,hm2.keep hbb id⟩, ?_⟩
  refine loadD1 (b:=bb) (o:=0) (v:=.func (.func 252) #[] #[]) rfl (fun w' hw'=>⟨_,_,_,hw'.2,rfl⟩) ?_
  refine loadDN (b:=w.heap.size) (o:=0) (v:=q.val) rfl (fun w' hw'=>⟨_,_,_,hw'.1,by simp,rfl⟩) ?_
  simp only [Zaa,Zbt]
  refine mput_c q w2 _ hq ?_
  intro w3 hm3
  refine ⟨⟨hm3.keep (hm2.keep hb0 id) id,hm3.keep (hm2.keep hbb id) id⟩, ?_⟩
  have x1 : ¬ (((big 1 1).size + (mput q).size : Nat) : Int) > IntKind.i64.max:=by
    have:=hq.2.2
    simp only [mput,Zbs,big_size,textB_size,imax]; omega
  simp only [loadV_some,Zae,x1]
  exact h w3 ((hm0.trans hm2).trans hm3)
theorem mgetf_c (b gb nb ib : Nat) (queue : ByteArray) (n : Nat) (r : Rd) (w : World) (K : Value→World→Prop) (hb : IsRd w b r) (hg : w.heap[gb]? = some (.cells #[.func (.func 253) #[] #[ptr nb,ptr ib]] 297 (0,0)))
    (hn : w.heap[nb]? = some (.cells #[.string queue] 9 (0,0))) (hi : w.heap[ib]? = some (.cells #[.int .u64 n] 27 (0,0))) (hne : nb≠b) (hie : ib≠b) (hge : gb≠b) (hs : (r.1.size : Int) < 2 ^ 63)
    (h : ∀ w',Mod (fun k=>k = b) w w'→IsRd w' b (mget queue n (ver r)).2→K (mget queue n (ver r)).1.val w') :
    Ok Proofs.Tryz.prog 286 #[ptr b,ptr gb] w K:=by
  refine F286.enter (args:=[ptr b,ptr gb]) (by simp) ?_
  unfold c286 r286
  simp only [ZB,insVc,Value.cells,ne_eq,reduceCtorEq,Zaf,Zad,Zac,Za]
  have hm0 : Mod (fun k=>k = b) w (w.alloc (.cells zms 128)):=(Mod.refl _ _).alloc _
  have hn0:=hm0.keep hn hne
  have hi0:=hm0.keep hi hie
  have hg0:=hm0.keep hg hge
  have hbl:=lt_of_get hb
  have hb0 : IsRd (w.alloc (.cells zms 128)) b r:=by
    unfold IsRd; rw [get_alloc_old _ _ _ hbl]; exact hb
  have hr0 : (w.alloc (.cells zms 128)).heap[w.heap.size]? = some (.cells zms 128 (0,0)):=get_alloc_new _ _
  generalize (w.alloc (.cells zms 128)) = w1 at *
  have hne' : w.heap.size≠b:=by omega
  refine one_c b r w1 _ hb0 hs ?_
  intro w2 hm2 hb2
  simp only [ZB,insVc,iopK,iopV,reduceCtorEq]
  have fin : ∀ w3,Mod (fun k=>k = b) w2 w3→IsRd w3 b (ver r)→∀ G : Value→World→Prop,(∀ w4,Mod (fun k=>k = b) w3 w4→IsRd w4 b (mget queue n (ver r)).2→G (mget queue n (ver r)).1.val w4)→Ok Proofs.Tryz.prog 253 #[ptr b,ptr nb,ptr ib] w3 G:=by
    intro w3 hm3 hb3 G hG
    exact mget_c b nb ib queue n (ver r) w3 G hb3 (hm3.keep (hm2.keep hn0 hne) hne) (hm3.keep (hm2.keep hi0 hie) hie) hne hie (by have:=ver_size r; omega) hG
  refine condP_split ?_ ?_
  · intro hc
    simp only [ZB,insVc,ne_eq,reduceCtorEq,Zaf,Zad,Zac,Za]
    refine fail_c b _ 4 w2 _ hb2 ?_
    intro w3 v hm3 hb3
    have hv : ver r = fail (number r 1).2 4:=by
      unfold ver; rw [if_pos]; simp at hc; omega
    simp only [ZB,insVc,load1K,callvK,ne_eq,Nat.reduceEqDiff,reduceCtorEq,Zaf,Zad,Zac,Za,Zag,Zah,Zaa,Zav,hm3.keep (hm2.keep hg0 hge) hge]
    refine fin w3 hm3 (hv ▸ hb3) _ ?_
    intro w4 hm4 hb4
    have hr4:=hm4.keep (hm3.keep (hm2.keep hr0 hne') hne') hne'
    simp only [ZB,endK,resK,resN,packed,insVc,storeNK,setMany,isPlain,ne_eq,Nat.reduceEqDiff,Nat.reduceAdd,Nat.reduceLeDiff,Zai,Zaj,Zak,Zal,Zam,Zan,Zaa,Zaq,Zap,Zar,Zao,Zas,Zat,Zau,Zaw,Zax,Zbf,hr4,lt_of_get hr4,Ms.val,Ms.cells]
    refine h _ ((((hm0.trans hm2).trans hm3).trans hm4).set (.inl (Nat.le_refl _))) ?_
    unfold IsRd
    rw [get_set_other _ _ _ _ (Ne.symm hne')]
    exact hb4
  · intro hc
    simp only [ZB,insVc,load1K,ne_eq,Nat.reduceEqDiff,Zaf,Za,Zag]
    have hv : ver r = (number r 1).2:=by
      unfold ver; rw [if_neg]; simp at hc; omega
    simp only [ZB,insVc,callvK,ne_eq,Nat.reduceEqDiff,reduceCtorEq,Zaf,Zad,Zac,Za,Zah,Zaa,Zav,hm2.keep hg0 hge]
    refine fin w2 (Mod.refl _ _) (hv ▸ hb2) _ ?_
    intro w4 hm4 hb4
    have hr4:=hm4.keep (hm2.keep hr0 hne') hne'
    simp only [ZB,endK,resK,resN,packed,insVc,storeNK,setMany,isPlain,ne_eq,Nat.reduceEqDiff,Nat.reduceAdd,Nat.reduceLeDiff,Zai,Zaj,Zak,Zal,Zam,Zan,Zaa,Zaq,Zap,Zar,Zao,Zas,Zat,Zau,Zaw,Zax,Zbf,hr4,lt_of_get hr4,Ms.val,Ms.cells]
    refine h _ (((hm0.trans hm2).trans hm4).set (.inl (Nat.le_refl _))) ?_
    unfold IsRd
    rw [get_set_other _ _ _ _ (Ne.symm hne')]
    exact hb4
theorem mbytes_c (v : Value) (lo : Nat) (queue : ByteArray) (n : Nat) (q : Ms) (w : World) (K : Value→World→Prop) (hv : IsMs w lo v queue n) (hq : q.good)
    (h : ∀ w',Mod (fun _=>False) w w'→K (.string (mbytes q)) w') :
    Ok Proofs.Tryz.prog 201 #[v,q.val] w K:=by
  obtain ⟨b1,b2,b3,b4,rfl,_,_,_,_,h1,h2,h3,h4⟩:=hv
  refine F201.enter (args:=[_,q.val]) (by simp) ?_
  unfold c201 r201
  simp only [ZB,insVc,load1K,loadNK,nilOf,pnilK,faddrK,callvK,Value.cells,ne_eq,Nat.reduceEqDiff,Nat.reduceAdd,Nat.reduceLeDiff,Zaf,Zad,Zac,Za,Zag,Zah,Zai,Zaj,Zak,Zaa,Zav,Zab,Zae,Zaq,Zap,Zar,Zao,Zas,Zat,get_alloc,Nat.reduceAdd,Zba,Zbi,Nat.reduceEqDiff,Zay,Ms.val,Ms.cells]
  have hm0 : Mod (fun _=>False) w ((w.alloc (.cells #[.func (.func 285) #[] #[ptr b1],.func (.func 286) #[] #[ptr b2]] 299)).alloc (.cells #[.string q.queue,.int .u64 q.id,.int .u32 q.tries,.int .u64 q.expiry,.string q.body] 128)):=((Mod.refl _ _).alloc _).alloc _
  refine mbytesf_c q b1 _ _ hq (hm0.keep h1 id) ?_
  intro w2 hm2
  simp only [ZB,endK,resK,packed,insVc,Zaa]
  exact h w2 (hm0.trans hm2)
theorem mread_c (v : Value) (lo : Nat) (queue : ByteArray) (n : Nat) (s : ByteArray) (w : World) (K : Value→World→Prop) (hv : IsMs w lo v queue n) (hs : s.size < 2 ^ 60)
    (h : ∀ w',Mod (fun _=>False) w w'→K (.tuple #[(mread queue n s).1.val,.int .i64 (mread queue n s).2]) w') :
    Ok Proofs.Tryz.prog 206 #[v,.string s] w K:=by
  obtain ⟨b1,b2,b3,b4,rfl,_,_,_,_,h1,h2,h3,h4⟩:=hv
  refine F206.enter (args:=[_,.string s]) (by simp) ?_
  unfold c206 r206
  simp only [ZB,insVc,load1K,nilOf,pnilK,faddrK,Value.cells,ne_eq,Nat.reduceEqDiff,Nat.reduceAdd,reduceCtorEq,Zaf,Zad,Zac,Za,Zag,Zah,Zab,Zae,get_alloc,Zaz,Nat.reduceAdd,Zbi,Nat.reduceEqDiff,Zay]
  refine over_c s _ _ ?_
  simp only [ZB,insVc,load1K,faddrK,callvK,ne_eq,Nat.reduceEqDiff,Nat.reduceAdd,reduceCtorEq,Zad,Zac,Za,Zag,Zah,Zaa,Zav,Zab,Zae,get_alloc,Zaz,Nat.reduceAdd,Zbi,Nat.reduceEqDiff,Zay]
  have l1:=lt_of_get h1
  have l2:=lt_of_get h2
  have l3:=lt_of_get h3
  have l4:=lt_of_get h4
  refine callK_gen ?_
  intro w1 hw1
  have hm0 : Mod (fun _=>False) w w1:=by rw [hw1]; exact ((((Mod.refl _ _).alloc _).alloc _).alloc _).alloc _
  have e1 : w1.heap[w.heap.size + 1]? = some (.cells zms 128 (0,0)):=by rw [hw1]; simp only [Nat.reduceEqDiff,Nat.reduceAdd,Zab,Zae,size_alloc,get_alloc,size_alloc,Zaz,Nat.reduceAdd,Zbg,Zba,Nat.reduceEqDiff,Zay]
  have e2 : w1.heap[w.heap.size + 2]? = some (.cells zms 128 (0,0)):=by rw [hw1]; simp only [Nat.reduceEqDiff,Nat.reduceAdd,reduceCtorEq,Zab,Zae,size_alloc,get_alloc,size_alloc,Zaz,Nat.reduceAdd,Zbg,Zba,Nat.reduceEqDiff]
  have e3 : IsRd w1 (w.heap.size + 3) (s,0):=by unfold IsRd; rw [hw1]; simp only [Nat.reduceEqDiff,Nat.reduceAdd,reduceCtorEq,Zab,Zae,size_alloc,get_alloc,size_alloc,Zaz,Nat.reduceAdd,Zbg,Zba,Nat.reduceEqDiff]
  have hszx : w1.heap.size = w.heap.size + 4:=by rw [hw1]; simp only [Nat.reduceAdd,size_alloc,size_alloc,Zaz,Nat.reduceAdd]
  clear hw1
  refine mgetf_c (w.heap.size + 3) b2 b3 b4 queue n (s,0) w1 _ e3 (hm0.keep h2 id) (hm0.keep h3 id) (hm0.keep h4 id) (by omega) (by omega) (by omega) (by simpa using (by omega : (s.size : Int) < 2 ^ 63)) ?_
  intro w2 hm2 hb2
  have f1:=hm2.keep e1 (by omega)
  have f2:=hm2.keep e2 (by omega)
  have hm2' : Mod (fun _=>False) w w2:=hm0.then hm2 (fun i hi hk=>by omega)
  have s2:=hm2.size
  have hr2:=lt_of_get hb2
  simp only [ZB,insVc,storeNK,setMany,isPlain,Value.cells,ne_eq,Nat.reduceEqDiff,Nat.reduceAdd,Nat.reduceLeDiff,Zad,Zac,Zai,Zaj,Zak,Zal,Zam,Zan,Zau,Zaw,Zax,Zbk,Ms.val,Ms.cells]
  refine callK_gen ?_
  intro w3 hw3
  have hm3 : Mod (fun _=>False) w2 w3:=by rw [hw3]; exact ((Mod.refl _ _).alloc _).set (.inl (Nat.le_refl _))
  have g0 : w3.heap[w2.heap.size]? = some (.cells (mget queue n (ver (s,0))).1.cells.toArray 128 (0,0)):=by rw [hw3]; simp only [size_alloc,Zbf,Zb,size_alloc,Ms.cells]
  clear hw3
  have g1:=hm3.keep f1 id
  have g2:=hm3.keep f2 id
  have gb : IsRd w3 (w.heap.size + 3) _:=hm3.keep hb2 id
  have hm3':=hm2'.trans hm3
  refine ende_c (w.heap.size + 3) _ w3 _ gb ?_
  simp only [ZB,insVc,iopK,iopV,reduceCtorEq]
  refine condP_split ?_ ?_
  · intro he
    have he' : ende (mget queue n (ver (s,0))).2≠0:=by simpa using he
    have hq : mread queue n s = (ms0,ende (mget queue n (ver (s,0))).2):=by unfold mread; simp only []; rw [if_pos he']
    rw [hq] at h
    simp only [ZB,endK,resK,resN,packed,insVc,loadNK,storeNK,setMany,isPlain,ne_eq,Nat.reduceEqDiff,Nat.reduceAdd,Nat.reduceLeDiff,Zai,Zaj,Zak,Zal,Zam,Zan,Zaa,Zav,Zaq,Zap,Zar,Zao,Zas,Zat,Zau,Zaw,Zax,g2,g1,get_set_same _ _ _ (lt_of_get g1)]
    exact h _ (hm3'.set (.inl (by omega)))
  · intro he
    have he' : ende (mget queue n (ver (s,0))).2 = 0:=by simpa using he
    have hq : mread queue n s = ((mget queue n (ver (s,0))).1,0):=by unfold mread; simp only []; rw [if_neg (by simpa using he')]
    rw [hq] at h
    simp only [ZB,endK,resK,resN,packed,insVc,loadNK,storeNK,setMany,isPlain,ne_eq,Nat.reduceEqDiff,Nat.reduceAdd,Nat.reduceLeDiff,Zai,Zaj,Zak,Zal,Zam,Zan,Zaa,Zav,Zaq,Zap,Zar,Zao,Zas,Zat,Zau,Zaw,Zax,g0,g1,Ms.cells,get_set_same _ _ _ (lt_of_get g1)]
    exact h _ (hm3'.set (.inl (by omega)))
end Go.Oct
