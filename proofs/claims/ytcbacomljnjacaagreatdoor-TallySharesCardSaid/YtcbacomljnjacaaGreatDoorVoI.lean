import Derived.Test.YtcbacomljnjacaaGreatDoorVoG
import Derived.Test.YtcbacomljnjacaaGreatDoorVoA
import Derived.Maps.OwnSet
import Derived.WideMake
set_option linter.unusedSimpArgs false
set_option linter.unusedVariables false
set_option linter.unusedSectionVars false
set_option linter.unnecessarySimpa false
namespace Go.Oct
open Go Go.Vc Go.VrA
set_option maxRecDepth 100000
theorem qbytes_c (v : Value) (lo : Nat) (name : ByteArray) (q : Qu) (w : World) (K : Value→World→Prop) (hv : IsQ w lo v name) (hq : q.good)
    (h : ∀ w',Mod (fun _=>False) w w'→K (.string (qbytes q)) w') :
    Ok Proofs.Tryz.prog 164 #[v,q.val] w K:=by
  obtain ⟨b1,b2,b3,rfl,_,_,_,h1,h2,h3⟩:=hv
  refine F164.enter (args:=[_,q.val]) (by simp) ?_
  unfold c164 r164
  simp only [ZB,insVc,load1K,loadNK,nilOf,pnilK,faddrK,callvK,Value.cells,ne_eq,Nat.reduceEqDiff,Nat.reduceAdd,Nat.reduceLeDiff,Zaf,Zad,Zac,Za,Zag,Zah,Zai,Zaj,Zak,Zaa,Zav,Zab,Zae,Zaq,Zap,Zar,Zao,Zas,Zat,get_alloc,Nat.reduceAdd,Zba,Zbi,Nat.reduceEqDiff,Zay,Qu.val,Qu.cells]
  have hm0 : Mod (fun _=>False) w ((w.alloc (.cells #[.func (.func 266) #[] #[ptr b1],.func (.func 267) #[] #[ptr b2]] 257)).alloc (.cells #[.string q.name,.int .u32 q.most,.int .u64 q.ttl,.int .u32 q.tries,.string q.dead] 121)):=((Mod.refl _ _).alloc _).alloc _
  refine qbytesf_c q b1 _ _ hq (hm0.keep h1 id) ?_
  intro w2 hm2
  simp only [ZB,endK,resK,packed,insVc,Zaa]
  exact h w2 (hm0.trans hm2)
theorem callK_gen {P : Program} {go : Value→World→Prop} {f : FuncId} {args : List Value} {w : World} (h : ∀ W,W = w→CallK P go f args W) : CallK P go f args w:=h w rfl
abbrev zq : Array Value:=#[.string ⟨#[]⟩,.int .u32 0,.int .u64 0,.int .u32 0,.string ⟨#[]⟩]
theorem qread_c (v : Value) (lo : Nat) (name s : ByteArray) (w : World) (K : Value→World→Prop) (hv : IsQ w lo v name) (hs : s.size < 2 ^ 60)
    (h : ∀ w',Mod (fun _=>False) w w'→K (.tuple #[(qread name s).1.val,.int .i64 (qread name s).2]) w') :
    Ok Proofs.Tryz.prog 175 #[v,.string s] w K:=by
  obtain ⟨b1,b2,b3,rfl,_,_,_,h1,h2,h3⟩:=hv
  refine F175.enter (args:=[_,.string s]) (by simp) ?_
  unfold c175 r175
  simp only [ZB,insVc,load1K,nilOf,pnilK,faddrK,Value.cells,ne_eq,Nat.reduceEqDiff,Nat.reduceAdd,reduceCtorEq,Zaf,Zad,Zac,Za,Zag,Zah,Zab,Zae,get_alloc,Zaz,Nat.reduceAdd,Zbi,Nat.reduceEqDiff,Zay]
  refine over_c s _ _ ?_
  simp only [ZB,insVc,load1K,faddrK,callvK,ne_eq,Nat.reduceEqDiff,Nat.reduceAdd,reduceCtorEq,Zad,Zac,Za,Zag,Zah,Zaa,Zav,Zab,Zae,get_alloc,Zaz,Nat.reduceAdd,Zbi,Nat.reduceEqDiff,Zay]
  have l1:=lt_of_get h1
  have l2:=lt_of_get h2
  have l3:=lt_of_get h3
  refine callK_gen ?_
  intro w1 hw1
  have hm0 : Mod (fun _=>False) w w1:=by rw [hw1]; exact ((((Mod.refl _ _).alloc _).alloc _).alloc _).alloc _
  have e1 : w1.heap[w.heap.size + 1]? = some (.cells zq 121 (0,0)):=by rw [hw1]; simp only [Nat.reduceEqDiff,Nat.reduceAdd,Zab,Zae,size_alloc,get_alloc,size_alloc,Zaz,Nat.reduceAdd,Zbg,Zba,Nat.reduceEqDiff,Zay]
  have e2 : w1.heap[w.heap.size + 2]? = some (.cells zq 121 (0,0)):=by rw [hw1]; simp only [Nat.reduceEqDiff,Nat.reduceAdd,reduceCtorEq,Zab,Zae,size_alloc,get_alloc,size_alloc,Zaz,Nat.reduceAdd,Zbg,Zba,Nat.reduceEqDiff]
  have e3 : IsRd w1 (w.heap.size + 3) (s,0):=by unfold IsRd; rw [hw1]; simp only [Nat.reduceEqDiff,Nat.reduceAdd,reduceCtorEq,Zab,Zae,size_alloc,get_alloc,size_alloc,Zaz,Nat.reduceAdd,Zbg,Zba,Nat.reduceEqDiff]
  have hszx : w1.heap.size = w.heap.size + 4:=by rw [hw1]; simp only [Nat.reduceAdd,size_alloc,size_alloc,Zaz,Nat.reduceAdd]
  clear hw1
  refine qgetf_c (w.heap.size + 3) b2 b3 name (s,0) w1 _ e3 (hm0.keep h2 id) (hm0.keep h3 id) (by omega) (by omega) (by simpa using (by omega : (s.size : Int) < 2 ^ 63)) ?_
  intro w2 hm2 hb2
  have f1:=hm2.keep e1 (by omega)
  have f2:=hm2.keep e2 (by omega)
  have hm2' : Mod (fun _=>False) w w2:=hm0.then hm2 (fun i hi hk=>by omega)
  have s2:=hm2.size
  have hr2:=lt_of_get hb2
  simp only [ZB,insVc,storeNK,setMany,isPlain,Value.cells,ne_eq,Nat.reduceEqDiff,Nat.reduceAdd,Nat.reduceLeDiff,Zad,Zac,Zai,Zaj,Zak,Zal,Zam,Zan,Zau,Zaw,Zax,Zbk,Qu.val,Qu.cells]
  refine callK_gen ?_
  intro w3 hw3
  have hm3 : Mod (fun _=>False) w2 w3:=by rw [hw3]; exact ((Mod.refl _ _).alloc _).set (.inl (Nat.le_refl _))
  have g0 : w3.heap[w2.heap.size]? = some (.cells (qget name (ver (s,0))).1.cells.toArray 121 (0,0)):=by rw [hw3]; simp only [size_alloc,Zbf,Zb,size_alloc,Qu.cells]
  clear hw3
  have g1:=hm3.keep f1 id
  have g2:=hm3.keep f2 id
  have gb : IsRd w3 (w.heap.size + 3) _:=hm3.keep hb2 id
  have hm3':=hm2'.trans hm3
  refine ende_c (w.heap.size + 3) _ w3 _ gb ?_
  simp only [ZB,insVc,iopK,iopV,reduceCtorEq]
  refine condP_split ?_ ?_
  · intro he
    have he' : ende (qget name (ver (s,0))).2≠0:=by simpa using he
    have hq : qread name s = (q0,ende (qget name (ver (s,0))).2):=by unfold qread; simp only []; rw [if_pos he']
    rw [hq] at h
    simp only [ZB,endK,resK,resN,packed,insVc,loadNK,storeNK,setMany,isPlain,ne_eq,Nat.reduceEqDiff,Nat.reduceAdd,Nat.reduceLeDiff,Zai,Zaj,Zak,Zal,Zam,Zan,Zaa,Zav,Zaq,Zap,Zar,Zao,Zas,Zat,Zau,Zaw,Zax,g2,g1,get_set_same _ _ _ (lt_of_get g1)]
    exact h _ (hm3'.set (.inl (by omega)))
  · intro he
    have he' : ende (qget name (ver (s,0))).2 = 0:=by simpa using he
    have hq : qread name s = ((qget name (ver (s,0))).1,0):=by unfold qread; simp only []; rw [if_neg (by simpa using he')]
    rw [hq] at h
    simp only [ZB,endK,resK,resN,packed,insVc,loadNK,storeNK,setMany,isPlain,ne_eq,Nat.reduceEqDiff,Nat.reduceAdd,Nat.reduceLeDiff,Zai,Zaj,Zak,Zal,Zam,Zan,Zaa,Zav,Zaq,Zap,Zar,Zao,Zas,Zat,Zau,Zaw,Zax,g0,g1,Qu.cells,get_set_same _ _ _ (lt_of_get g1)]
    exact h _ (hm3'.set (.inl (by omega)))
def cbytes (n : Nat) : ByteArray:=big 1 1 ++ big n 8
def cread (s : ByteArray) : Nat × Int :=
  let x:=number (ver (s,0)) 8
  if ende x.2≠0 then (0,ende x.2) else (x.1,0)
def IsC (w : World) (lo : Nat) (v : Value) : Prop :=
  ∃ b1 b2,v = .agg #[.func (.func 310) #[] #[ptr b1],.func (.func 311) #[] #[ptr b2]]∧lo≤b1∧lo≤b2 ∧
    w.heap[b1]? = some (.cells #[.func (.func 160) #[] #[]] 251 (0,0)) ∧
    w.heap[b2]? = some (.cells #[.func (.func 225) #[] #[]] 370 (0,0))
theorem counters_c (w : World) (K : Value→World→Prop) (h : ∀ w' v,Mod (fun _=>False) w w'→IsC w' w.heap.size v→K v w') :
    Ok Proofs.Tryz.prog 282 #[] w K:=by
  refine F282.enter (args:=[]) (by simp) ?_
  unfold c282 r282
  simp only [ZB,insVc,Value.cells,Zad,Zac]
  refine F301.enter (args:=[_,_]) (by simp) ?_
  unfold c301 r301
  simp only [ZB,endK,resK,resN,packed,insVc,storeNK,setMany,buildK,fillL,isPlain,Value.cells,ne_eq,Nat.reduceEqDiff,Nat.reduceAdd,Nat.reduceLT,Nat.reduceLeDiff,reduceCtorEq,Zaf,Zad,Zac,Za,Zag,Zai,Zaj,Zak,Zbd,Zbe,Zbc,Zbb,Zal,Zam,Zan,Zaa,Zbh,Zab,Zae,Zaq,Zap,Zar,Zao,Zas,Zat,Zau,Zaw,Zax,Zbf,Zb,get_alloc,get_set,Zaz,Nat.reduceAdd,Zbg,Zba,Zbi,Nat.reduceEqDiff,Zcb,Nat.reduceLT,Zay]
  refine h _ _ ?_ ⟨w.heap.size + 1,w.heap.size + 2,rfl, ?_, ?_, ?_, ?_⟩
  · exact ((((((Mod.refl _ _).alloc _).alloc _).alloc _).alloc _).set (.inl (by omega))).set (.inl (by omega))
  · omega
  · omega
  · simp only [Nat.reduceEqDiff,Nat.reduceAdd,Nat.reduceLT,and_true,Zab,Zae,size_set,size_alloc,Zb,get_alloc,get_set,size_alloc,size_set,Zaz,Nat.reduceAdd,Zbg,Zba,Nat.reduceEqDiff,Zcb,Nat.reduceLT,Zay]
  · simp only [Nat.reduceEqDiff,Nat.reduceAdd,Nat.reduceLT,reduceCtorEq,and_true,Zab,Zae,size_set,size_alloc,Zb,get_alloc,get_set,size_alloc,size_set,Zaz,Nat.reduceAdd,Zbg,Zba,Nat.reduceEqDiff,Zcb,Nat.reduceLT]
theorem cbytes_c (v : Value) (lo : Nat) (n : Nat) (w : World) (K : Value→World→Prop) (hv : IsC w lo v) (hn : n < 2 ^ 64)
    (h : ∀ w',Mod (fun _=>False) w w'→K (.string (cbytes n)) w') :
    Ok Proofs.Tryz.prog 284 #[v,.int .u64 n] w K:=by
  obtain ⟨b1,b2,rfl,_,_,h1,h2⟩:=hv
  refine F284.enter (args:=[_,.int .u64 n]) (by simp) ?_
  unfold c284 r284
  simp only [ZB,insVc,load1K,nilOf,pnilK,faddrK,callvK,Value.cells,ne_eq,Nat.reduceEqDiff,Zaf,Zad,Zac,Za,Zag,Zah,Zaa,Zav,Zab,Zae,get_alloc,Nat.reduceEqDiff]
  refine callK_gen ?_
  intro w1 hw1
  have hm0 : Mod (fun _=>False) w w1:=by rw [hw1]; exact (Mod.refl _ _).alloc _
  clear hw1
  have h1':=hm0.keep h1 id
  refine F310.enter (args:=[.int .u64 n,ptr b1]) (by simp) ?_
  unfold c310 r310
  simp only [ZB,insVc]
  refine draw_d (fun w'=>w'.heap[b1]? = some (.cells #[.func (.func 160) #[] #[]] 251 (0,0))) (by kernel_rfl) (by kernel_rfl) (by kernel_rfl) (by kernel_rfl) h1' ?_
  simp only [ZB,endK,resK,packed,insVc,sopK,sopV,callvK,ne_eq,Nat.reduceEqDiff,reduceCtorEq,Zaf,Zad,Zac,Za,Zaa,Zab,Zae,pureI,vcD_nil,vcD_cons,stepD_pure,stepD_load,stepD_step,kindI,loadI]
  refine wone_c 1 _ _ (by decide) ?_
  intro w2 hm2
  refine ⟨hm2.keep h1' id, ?_⟩
  refine loadD1 (b:=b1) (o:=0) (v:=.func (.func 160) #[] #[]) rfl (fun w' hw'=>⟨_,_,_,hw',rfl⟩) ?_
  simp only [Zaa,Zbt]
  refine weight_c n w2 _ hn ?_
  intro w3 hm3
  refine ⟨hm3.keep (hm2.keep h1' id) id, ?_⟩
  have x1 : ¬ (((big 1 1).size + (big n 8).size : Nat) : Int) > IntKind.i64.max:=by simp only [big_size,imax]; omega
  simp only [loadV_some,Zae,x1]
  exact h w3 ((hm0.drew.trans hm2).trans hm3)
theorem cread_c (v : Value) (lo : Nat) (s : ByteArray) (w : World) (K : Value→World→Prop) (hv : IsC w lo v) (hs : s.size < 2 ^ 60)
    (h : ∀ w',Mod (fun _=>False) w w'→K (.tuple #[.int .u64 ((cread s).1 : Nat),.int .i64 (cread s).2]) w') :
    Ok Proofs.Tryz.prog 283 #[v,.string s] w K:=by
  obtain ⟨b1,b2,rfl,_,_,h1,h2⟩:=hv
  refine F283.enter (args:=[_,.string s]) (by simp) ?_
  unfold c283 r283
  simp only [ZB,insVc,load1K,nilOf,pnilK,faddrK,Value.cells,ne_eq,Nat.reduceEqDiff,Zaf,Zad,Zac,Za,Zag,Zah,Zab,Zae,get_alloc,Nat.reduceEqDiff]
  refine over_c s _ _ ?_
  simp only [ZB,insVc,load1K,faddrK,callvK,ne_eq,Nat.reduceEqDiff,Zad,Zac,Za,Zag,Zah,Zaa,Zav,Zab,Zae,get_alloc,Zbi,Nat.reduceEqDiff,Zay]
  have l2:=lt_of_get h2
  refine callK_gen ?_
  intro w1 hw1
  have hm0 : Mod (fun _=>False) w w1:=by rw [hw1]; exact ((Mod.refl _ _).alloc _).alloc _
  have e3 : IsRd w1 (w.heap.size + 1) (s,0):=by unfold IsRd; rw [hw1]; simp only [Zab,Zae,size_alloc,get_alloc,size_alloc,Zba,Zay]
  clear hw1
  have h2':=hm0.keep h2 id
  have hsI : (s.size : Int) < 2 ^ 63:=by omega
  have hver:=ver_size (s,0)
  refine F311.enter (args:=[ptr (w.heap.size + 1),ptr b2]) (by simp) ?_
  unfold c311 r311
  simp only [ZB,insVc,ne_eq,reduceCtorEq,Zaf,Zad,Zac,Za]
  refine one_c (w.heap.size + 1) (s,0) w1 _ e3 hsI ?_
  intro w2 hm2 hb2
  simp only [ZB,insVc,iopK,iopV,reduceCtorEq]
  have main : ∀ w3,Mod (fun k=>k = w.heap.size + 1) w2 w3→IsRd w3 (w.heap.size + 1) (ver (s,0))→∀ G : Value→World→Prop,
      (∀ w4,Mod (fun _=>False) w w4→IsRd w4 (w.heap.size + 1) (number (ver (s,0)) 8).2→G (.int .u64 ((number (ver (s,0)) 8).1 : Nat)) w4)→Ok Proofs.Tryz.prog 225 #[ptr (w.heap.size + 1)] w3 G:=by
    intro w3 hm3 hb3 G hG
    refine eight_c (w.heap.size + 1) _ w3 G hb3 (by simp only [] at hver; omega) ?_
    intro w4 hm4 hb4
    exact hG w4 (((hm0.then hm2 (fun i hi hk=>by omega)).then hm3 (fun i hi hk=>by omega)).then hm4 (fun i hi hk=>by omega)) hb4
  refine condP_split ?_ ?_
  · intro hc
    have hv : ver (s,0) = fail (number (s,0) 1).2 4:=by
      unfold ver; rw [if_pos]; simp at hc; omega
    simp only [ZB,insVc,ne_eq,reduceCtorEq,Zaf,Zad,Zac,Za]
    refine fail_c (w.heap.size + 1) _ 4 w2 _ hb2 ?_
    intro w3 v hm3 hb3
    simp only [ZB,insVc,load1K,callvK,ne_eq,Nat.reduceEqDiff,reduceCtorEq,Zaf,Zad,Zac,Za,Zag,Zah,Zaa,Zbt,hm3.keep (hm2.keep h2' (by omega)) (by omega)]
    refine main w3 hm3 (hv ▸ hb3) _ ?_
    intro w4 hm4 hb4
    simp only [ZB,endK,resK,packed,insVc,ne_eq,Nat.reduceEqDiff,Zad,Zac,Zaa]
    refine ende_c (w.heap.size + 1) _ w4 _ hb4 ?_
    simp only [ZB,insVc,iopK,iopV,reduceCtorEq]
    refine condP_split ?_ ?_
    · intro he
      have he' : ende (number (ver (s,0)) 8).2≠0:=by simpa using he
      have hq : cread s = (0,ende (number (ver (s,0)) 8).2):=by unfold cread; simp only []; rw [if_pos he']
      rw [hq] at h
      simp only [ZB,endK,resK,packed,insVc,ne_eq,Nat.reduceEqDiff,Zaa,Zav]
      exact h w4 hm4
    · intro he
      have he' : ende (number (ver (s,0)) 8).2 = 0:=by simpa using he
      have hq : cread s = ((number (ver (s,0)) 8).1,0):=by unfold cread; simp only []; rw [if_neg (by simpa using he')]
      rw [hq] at h
      simp only [ZB,endK,resK,packed,insVc,ne_eq,Nat.reduceEqDiff,Zaa,Zav]
      exact h w4 hm4
  · intro hc
    have hv : ver (s,0) = (number (s,0) 1).2:=by
      unfold ver; rw [if_neg]; simp at hc; omega
    simp only [ZB,insVc,load1K,callvK,ne_eq,Nat.reduceEqDiff,reduceCtorEq,Zaf,Zad,Zac,Za,Zag,Zah,Zaa,Zbt,hm2.keep h2' (by omega)]
    refine main w2 (Mod.refl _ _) (hv ▸ hb2) _ ?_
    intro w4 hm4 hb4
    simp only [ZB,endK,resK,packed,insVc,ne_eq,Nat.reduceEqDiff,Zad,Zac,Zaa]
    refine ende_c (w.heap.size + 1) _ w4 _ hb4 ?_
    simp only [ZB,insVc,iopK,iopV,reduceCtorEq]
    refine condP_split ?_ ?_
    · intro he
      have he' : ende (number (ver (s,0)) 8).2≠0:=by simpa using he
      have hq : cread s = (0,ende (number (ver (s,0)) 8).2):=by unfold cread; simp only []; rw [if_pos he']
      rw [hq] at h
      simp only [ZB,endK,resK,packed,insVc,ne_eq,Nat.reduceEqDiff,Zaa,Zav]
      exact h w4 hm4
    · intro he
      have he' : ende (number (ver (s,0)) 8).2 = 0:=by simpa using he
      have hq : cread s = ((number (ver (s,0)) 8).1,0):=by unfold cread; simp only []; rw [if_neg (by simpa using he')]
      rw [hq] at h
      simp only [ZB,endK,resK,packed,insVc,ne_eq,Nat.reduceEqDiff,Zaa,Zav]
      exact h w4 hm4
end Go.Oct
namespace Go.Oct
open Go Go.Vc
abbrev M:=List (List UInt8 × List UInt8)
def encM (m : M) : List (Lit × DataW Unit):=m.map fun p=>(.string p.1,.lit (.string p.2))
def DM (m : M) : DataW Unit:=.map (encM m)
def insM (x : List UInt8 × List UInt8) : M→M
  | []=>[x]
  | y :: r=>if bytesBefore x.1 y.1 then x :: y :: r else y :: insM x r
def putM (k v : List UInt8) (m : M) : M:=insM (k,v) (m.filter fun p => !(p.1 == k))
def delM (k : List UInt8) (m : M) : M:=m.filter fun p => !(p.1 == k)
def lookM (k : List UInt8) : M→Option (List UInt8)
  | []=>none
  | p :: r=>if p.1 == k then some p.2 else lookM k r
theorem enc_ins (x : List UInt8 × List UInt8) (m : M) : encM (insM x m) = DataW.insert (.string x.1,.lit (.string x.2)) (encM m):=by
  induction m with
  | nil=>rfl
  | cons y r ih =>
    have hb : ∀ (a b : List UInt8 × List UInt8),((Lit.string a.1,DataW.lit (Lit.string a.2)) : Lit × DataW Unit).1.before ((Lit.string b.1,DataW.lit (Lit.string b.2)) : Lit × DataW Unit).1 = bytesBefore a.1 b.1:=fun _ _=>rfl
    show encM (if bytesBefore x.1 y.1 then x :: y :: r else y :: insM x r) = DataW.insert _ ((Lit.string y.1,DataW.lit (Lit.string y.2)) :: encM r)
    by_cases h : bytesBefore x.1 y.1 = true
    · rw [if_pos h,DataW.insert,if_pos (by rw [hb]; exact h)]; rfl
    · rw [if_neg h,DataW.insert,if_neg (by rw [hb]; exact h),← ih]; rfl
theorem enc_filter (k : List UInt8) (m : M) : encM (m.filter fun p => !(p.1 == k)) = (encM m).filter fun p => !p.1.sameKey (.string k):=by
  induction m with
  | nil=>rfl
  | cons y r ih =>
    simp only [encM,Zad,List.filter_cons,Lit.sameKey] at ih ⊢
    split
    · simp only [Zad]; congr 1
    · exact ih
theorem DM_put (k v : List UInt8) (m : M) : (DM m).put (.string k) (.lit (.string v)) = DM (putM k v m):=by
  simp only [DM,DataW.put,putM,enc_ins,enc_filter]
theorem DM_del (k : List UInt8) (m : M) : (DM m).del (.string k) = DM (delM k m):=by
  simp only [DM,DataW.del,delM,enc_filter]
theorem DM_has (k : List UInt8) (m : M) : Maps.has (DM m) (.string k) = (lookM k m).isSome:=by
  induction m with
  | nil=>rfl
  | cons y r ih =>
    simp only [DM,encM,Maps.has,Zad,List.any_cons,Lit.sameKey,lookM] at ih ⊢
    by_cases h : y.1 == k
    · simp [h]
    · simp only [h,Zbz]; simpa using ih
theorem DM_at (k z : List UInt8) (m : M) : (DM m).atKey (.string k) (.lit (.string z)) = .lit (.string ((lookM k m).getD z)):=by
  induction m with
  | nil=>rfl
  | cons y r ih =>
    simp only [DM,encM,DataW.atKey,Zad,List.find?_cons,Lit.sameKey,lookM] at ih ⊢
    by_cases h : y.1 == k
    · simp [h]
    · simp only [h] at ih ⊢; simpa using ih
end Go.Oct
namespace Go.Oct
open Go Go.Vc Go.VrA
set_option maxRecDepth 100000
section
variable {P : Program} {n : Nat} {go : Value→World→Prop} {ρ : Env} {ds : List Deferred} {w : World} {o : Oper}
theorem rawK_lookup {x i : Operand} {t : TypeId} {ok : Bool} {v : Value} {w' : World} (ho : o.op = .lookup t x i ok) (hx : inB n x = true) (hi : inB n i = true)
    (hr : (Instr.lookup t (ev ρ x) (ev ρ i) ok).run P w = .ok v w') (h : go v w') : RawK P go ρ ds n o w:=by
  unfold RawK
  simp only [execOp,ho,Sem.run_bind,mkA_eval n ρ ds x hx,mkA_eval n ρ ds i hi,hr,Result.andThen,pure,Sem.run]
  exact h
theorem rawK_mapUpdate {m k x : Operand} {t : TypeId} {w' : World} (ho : o.op = .mapUpdate t m k x) (hm : inB n m = true) (hk : inB n k = true) (hx : inB n x = true)
    (hr : (Instr.mapUpdate t (ev ρ m) (ev ρ k) (ev ρ x)).run P w = .ok () w') (h : go undef w') : RawK P go ρ ds n o w:=by
  unfold RawK
  simp only [execOp,ho,Sem.run_bind,mkA_eval n ρ ds m hm,mkA_eval n ρ ds k hk,mkA_eval n ρ ds x hx,hr,Result.andThen,pure,Sem.run]
  exact h
theorem rawK_makeMap {t : TypeId} (ho : o.op = .makeMap t none) (h : go (.map (some w.heap.size)) (w.alloc (.map #[] 0))) : RawK P go ρ ds n o w:=by
  unfold RawK
  simp only [execOp,ho,Sem.run_bind,Zbu,run_makeMap_plain,Result.andThen,pure,Sem.run]
  exact h
end
def IsM (w : World) (mb n : Nat) (m : M) : Prop:=w.ownsMap Proofs.Tryz.prog 9 (plainElem Proofs.Tryz.prog 9) mb n (DM m)
def IsShelf (w : World) (sb mb n : Nat) (m : M) : Prop:=w.heap[sb]? = some (.cells #[.map (some mb)] 174 (0,0))∧IsM w mb n m∧sb≠mb
theorem tStr : (Proofs.Tryz.prog).underlying 9 = some .string:=by kernel_rfl
theorem tMap : (Proofs.Tryz.prog).underlying 172 = some (.map 9 9):=by kernel_rfl
theorem zStr (w : World) : (zeroValue 9).run Proofs.Tryz.prog w = .ok (.string ⟨#[]⟩) w:=by kernel_rfl
theorem IsM.keep {w w' : World} {S : Nat→Prop} {mb n : Nat} {m : M} (h : IsM w mb n m) (hm : Mod S w w') (hs : ¬ S mb) : IsM w' mb n m:=by
  have hlt:=World.ownsMap.lt h
  obtain ⟨es,clock,hb,F,hsz,hD⟩:=h
  exact ⟨es,clock,hm.keep hb hs,F,hsz,hD⟩
theorem IsShelf.keep {w w' : World} {S : Nat→Prop} {sb mb n : Nat} {m : M} (h : IsShelf w sb mb n m) (hm : Mod S w w') (hs : ¬ S sb) (hs' : ¬ S mb) : IsShelf w' sb mb n m :=
  ⟨hm.keep h.1 hs,h.2.1.keep hm hs',h.2.2⟩
theorem IsM.look {w : World} {mb n : Nat} {m : M} (h : IsM w mb n m) (k : ByteArray) (hk : k.size≤maxLen) (ok : Bool) :
    (Instr.lookup 172 (.map (some mb)) (.string k) ok).run Proofs.Tryz.prog w = .ok (if ok then .tuple #[.string ⟨((lookM k.data.toList m).getD []).toArray⟩,.bool (lookM k.data.toList m).isSome] else .string ⟨((lookM k.data.toList m).getD []).toArray⟩) w:=by
  have inv : ∀ v ps,plainElem (H:=Unit) Proofs.Tryz.prog 9 v = some ((DM m).atKey (.string k.data.toList) (.lit (.string [])),ps)→v = .string ⟨((lookM k.data.toList m).getD []).toArray⟩:=by
    intro v ps hv
    rw [DM_at] at hv
    unfold plainElem at hv
    rw [tStr] at hv
    cases v <;> simp at hv
    rename_i s
    obtain ⟨_,h1,_⟩:=hv
    rw [← h1]
  cases ok with
  | true =>
    obtain ⟨v,ps,hr,hv⟩:=World.ownsMap.look_ok h (Maps.string_keyed tStr) tMap (zStr w) (plainElem_string tStr (by simp [ByteArray.size,maxLen])) (WideMaps.keyOf_string_mk tStr hk)
    rw [hr,inv v ps hv,DM_has]; rfl
  | false =>
    obtain ⟨v,ps,hr,hv⟩:=World.ownsMap.lookup h (Maps.string_keyed tStr) tMap (zStr w) (plainElem_string tStr (by simp [ByteArray.size,maxLen])) (WideMaps.keyOf_string_mk tStr hk)
    rw [hr,inv v ps hv]; rfl
theorem IsM.store {w : World} {mb n : Nat} {m : M} (h : IsM w mb n m) (k v : ByteArray) (hk : k.size≤maxLen) (hv : v.size≤maxLen) (hn : n < maxLen) :
    ∃ w',(Instr.mapUpdate 172 (.map (some mb)) (.string k) (.string v)).run Proofs.Tryz.prog w = .ok () w'∧IsM w' mb (n + 1) (putM k.data.toList v.data.toList m)∧Mod (fun i=>i = mb) w w':=by
  obtain ⟨w',hr,ho,hg⟩:=World.ownsMap.update h (Maps.string_keyed tStr) tMap hn (WideMaps.keyOf_string_mk tStr hk) (plainElem_string (H:=Unit) tStr hv)
  refine ⟨w',hr, ?_,⟨hg.os,hg.tape,hg.output,hg.size,fun i hi hs=>hg.block i hi (fun e=>hs (Option.some.inj e))⟩⟩
  unfold IsM
  rw [← DM_put]
  exact ho
theorem sget_c (sb mb n : Nat) (m : M) (k : ByteArray) (w : World) (K : Value→World→Prop) (hs : IsShelf w sb mb n m) (hk : k.size≤maxLen)
    (h : K (.tuple #[.string ⟨((lookM k.data.toList m).getD []).toArray⟩,.bool (lookM k.data.toList m).isSome,.int .i64 0]) w) :
    Ok Proofs.Tryz.prog 350 #[ptr sb,.string k] w K:=by
  refine F350.enter (args:=[ptr sb,.string k]) (by simp) ?_
  unfold c350 r350
  simp only [ZB,insVc,load1K,nilK,faddrK,ne_eq,Nat.reduceEqDiff,reduceCtorEq,Zaf,Za,Zag,Zah,hs.1]
  refine rawK_lookup rfl rfl rfl (by simpa only [vc_skip,vc_seq,vc_cond,vc_block,vc_exit,vc_ret,vc_ops,vcOps_nil,vcOps_cons,vcOps_gate,gateK_true,gateK_false,gate_true,gate_false,gate_undef,goL_apply,thenQ_normal,thenQ_ret,thenQ_exit,blockQ_normal,blockQ_ret,blockQ_same,blockQ_exit,condP_true,condP_false,upd_same,upd_other,updO_some,updO_none,ev_tmp,ev_const,ev_global,ev_func,endQ_ret,endQ_normal,endK,resK,resN,res1,resO_cells,resNO_cells,packed,initE_at,insVc,pickK,load1K,loadO_cells,loadV_some,loadV_none,loadNK,loadNO_cells,storeK,storeO_cells,storeNK,storeNO_cells,setMany,nilK,nilM,iopK,iopV,sopK,sopV,bopK,nilOf,pnilK,notK,convK,sameK,faddrK,fld1K,fldNK,iaddrK,iaddrAK,sidxK,extK,lenSK,lenLK,callvK,invK,buildK,fillL,buildSK,boundOf,slSK,slLK,slAK,isPlain,Value.cells,ne_eq,not_false_eq_true,not_true_eq_false,Nat.reduceEqDiff,Nat.reduceAdd,Nat.reduceLT,Nat.reduceLeDiff,reduceCtorEq,Bool.not_true,Bool.not_false,Option.map_some,Option.map_none,Option.getD_some,Option.getD_none,List.map_cons,List.map_nil,List.getElem?_cons_zero,List.getElem?_cons_succ,List.getElem?_nil,List.getElem?_toArray,List.size_toArray,List.length_cons,List.length_nil,List.zipIdx_cons,List.zipIdx_nil,List.foldl_cons,List.foldl_nil,List.setIfInBounds_toArray,List.set_cons_zero,List.set_cons_succ,List.append_eq,List.nil_append,List.cons_append,List.append_nil,List.toList_toArray,true_and,and_true,true_or,or_true,or_false,false_or,and_self,if_true,if_false,ite_true,ite_false,Bool.false_eq_true,Nat.zero_add,Nat.add_zero,decide_true,decide_false,Bool.and_true,Bool.and_false,Bool.true_and,Bool.false_and,Option.isNone_some,Option.isNone_none,Int.reduceLT,Int.reduceLE,Int.reduceToNat,Int.toNat_natCast,Int.reduceAdd,Int.reduceSub,Int.reduceMul,Int.reduceNeg,Int.reduceEq,Int.reduceNe,Int.reduceBEq,Int.reduceBNe,Nat.mul_one,List.extract_toArray,List.extract_eq_take_drop,List.drop_zero,List.drop_succ_cons,List.take_zero,List.take_succ_cons,Nat.sub_zero,Nat.add_sub_cancel,Nat.add_sub_cancel_left,vcS_nil,vcS_cons,vcS_gate,gateS_true,gateS_false,stepB_true,stepB_false,pureI,Nat.zero_mul,Nat.one_mul,Nat.reduceMul,Nat.reduceSub,List.all_toArray',List.all_cons,List.all_nil,size_set,size_alloc,size_drew,get_alloc_new,get_set_same,get_drew,Nat.lt_add_one,vcD_nil,vcD_cons,vcD_gate,gateD_true,gateD_false,stepD_pure,stepD_load,stepD_step,kindI,loadI] using hs.2.1.look k hk true) ?_
  simp only [ZB,endK,resK,packed,insVc,extK,ne_eq,Nat.reduceEqDiff,Za,Zag,Zah,Zaa,Zav]
  exact h
theorem sput_c (sb mb n : Nat) (m : M) (k v : ByteArray) (w : World) (K : Value→World→Prop) (hs : IsShelf w sb mb n m) (hn : n < maxLen)
    (h1 : k.size > 255∨v.size > 65536→K (.int .i64 5) w)
    (h2 : ¬ (k.size > 255∨v.size > 65536)→∀ w',Mod (fun i=>i = mb) w w'→IsShelf w' sb mb (n + 1) (putM k.data.toList v.data.toList m)→K (.int .i64 0) w') :
    Ok Proofs.Tryz.prog 351 #[ptr sb,.string k,.string v] w K:=by
  refine F351.enter (args:=[ptr sb,.string k,.string v]) (by simp) ?_
  unfold c351 r351
  simp only [ZB,insVc,iopK,iopV,lenSK,ne_eq,Nat.reduceEqDiff,reduceCtorEq,Zaf,Za,Zag]
  have fin : ¬ (k.size > 255∨v.size > 65536)→∃ w',(Instr.mapUpdate 172 (.map (some mb)) (.string k) (.string v)).run Proofs.Tryz.prog w = .ok () w'∧K (.int .i64 0) w':=by
    intro hc
    obtain ⟨w',hr,hm,hmod⟩:=hs.2.1.store k v (by simp [maxLen]; omega) (by simp [maxLen]; omega) hn
    exact ⟨w',hr,h2 hc w' hmod ⟨hmod.keep hs.1 hs.2.2,hm,hs.2.2⟩⟩
  by_cases c1 : (k.size : Int) > 255
  · simp only [ZB,endK,resK,packed,insVc,pickK,ne_eq,Nat.reduceEqDiff,Zaa,Zab,c1]
    exact h1 (.inl (by omega))
  · simp only [ZB,insVc,pickK,iopK,iopV,lenSK,ne_eq,Nat.reduceEqDiff,reduceCtorEq,Zaf,Za,Zag,Zae,c1]
    by_cases c2 : (v.size : Int) > 65536
    · simp only [ZB,endK,resK,packed,insVc,Zaa,c2]
      exact h1 (.inr (by omega))
    · simp only [ZB,insVc,load1K,nilK,faddrK,ne_eq,Nat.reduceEqDiff,reduceCtorEq,Zaf,Za,Zag,Zah,c2,hs.1]
      obtain ⟨w',hr,hk⟩:=fin (by omega)
      refine rawK_mapUpdate rfl rfl rfl rfl (by simpa only [vc_skip,vc_seq,vc_cond,vc_block,vc_exit,vc_ret,vc_ops,vcOps_nil,vcOps_cons,vcOps_gate,gateK_true,gateK_false,gate_true,gate_false,gate_undef,goL_apply,thenQ_normal,thenQ_ret,thenQ_exit,blockQ_normal,blockQ_ret,blockQ_same,blockQ_exit,condP_true,condP_false,upd_same,upd_other,updO_some,updO_none,ev_tmp,ev_const,ev_global,ev_func,endQ_ret,endQ_normal,endK,resK,resN,res1,resO_cells,resNO_cells,packed,initE_at,insVc,pickK,load1K,loadO_cells,loadV_some,loadV_none,loadNK,loadNO_cells,storeK,storeO_cells,storeNK,storeNO_cells,setMany,nilK,nilM,iopK,iopV,sopK,sopV,bopK,nilOf,pnilK,notK,convK,sameK,faddrK,fld1K,fldNK,iaddrK,iaddrAK,sidxK,extK,lenSK,lenLK,callvK,invK,buildK,fillL,buildSK,boundOf,slSK,slLK,slAK,isPlain,Value.cells,ne_eq,not_false_eq_true,not_true_eq_false,Nat.reduceEqDiff,Nat.reduceAdd,Nat.reduceLT,Nat.reduceLeDiff,reduceCtorEq,Bool.not_true,Bool.not_false,Option.map_some,Option.map_none,Option.getD_some,Option.getD_none,List.map_cons,List.map_nil,List.getElem?_cons_zero,List.getElem?_cons_succ,List.getElem?_nil,List.getElem?_toArray,List.size_toArray,List.length_cons,List.length_nil,List.zipIdx_cons,List.zipIdx_nil,List.foldl_cons,List.foldl_nil,List.setIfInBounds_toArray,List.set_cons_zero,List.set_cons_succ,List.append_eq,List.nil_append,List.cons_append,List.append_nil,List.toList_toArray,true_and,and_true,true_or,or_true,or_false,false_or,and_self,if_true,if_false,ite_true,ite_false,Bool.false_eq_true,Nat.zero_add,Nat.add_zero,decide_true,decide_false,Bool.and_true,Bool.and_false,Bool.true_and,Bool.false_and,Option.isNone_some,Option.isNone_none,Int.reduceLT,Int.reduceLE,Int.reduceToNat,Int.toNat_natCast,Int.reduceAdd,Int.reduceSub,Int.reduceMul,Int.reduceNeg,Int.reduceEq,Int.reduceNe,Int.reduceBEq,Int.reduceBNe,Nat.mul_one,List.extract_toArray,List.extract_eq_take_drop,List.drop_zero,List.drop_succ_cons,List.take_zero,List.take_succ_cons,Nat.sub_zero,Nat.add_sub_cancel,Nat.add_sub_cancel_left,vcS_nil,vcS_cons,vcS_gate,gateS_true,gateS_false,stepB_true,stepB_false,pureI,Nat.zero_mul,Nat.one_mul,Nat.reduceMul,Nat.reduceSub,List.all_toArray',List.all_cons,List.all_nil,size_set,size_alloc,size_drew,get_alloc_new,get_set_same,get_drew,Nat.lt_add_one,vcD_nil,vcD_cons,vcD_gate,gateD_true,gateD_false,stepD_pure,stepD_load,stepD_step,kindI,loadI] using hr) ?_
      simp only [ZB,endK,resK,packed,insVc,Zaa]
      exact hk
end Go.Oct
