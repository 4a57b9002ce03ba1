import Derived.Test.YtpggpopbkmgodaaGreatDoorVoG
import Derived.Test.YtpggpopbkmgodaaGreatDoorVoB
import Derived.Maps.OwnSet
import Derived.WideMake
import Derived.Sort.Walk0
import Derived.Sort.KeysCollected
import Derived.Maps.Ext
set_option linter.unusedSimpArgs false
set_option linter.unusedVariables false
set_option linter.unusedSectionVars false
set_option linter.unnecessarySimpa false
namespace Go.Oct
open Go Go.Vc Go.VrA Go.Proofs.Tryz
set_option maxRecDepth 100000
theorem qbytes_c (v:Value) (lo:Nat) (name:ByteArray) (q:Qu) (w:World) (K:Value→World→Prop) (hv:IsQ w lo v name) (hq:q.good)
  (h:∀w',Mod (fun _=>False) w w'→K (.string (qbytes q)) w') :
  Ok prog 164 #[v,q.val] w K:=by
 obtain ⟨b1,b2,b3,rfl,_,_,_,h1,h2,h3⟩:=hv
 refine F164.enter (args:=[_,q.val]) (by simp) ?_
 unfold c164 r164
 simp only [ZB,insVc,load1K,loadNK,nilOf,pnilK,faddrK,callvK,Value.cells,ne_eq,Nat.reduceEqDiff,Nat.reduceAdd,Nat.reduceLeDiff,Zac,Zae,Zab,Za,Zag,Zah,Zai,Zak,Zaj,Zad,Zaw,Zaa,Zaf,Zar,Zap,Zaq,Zao,Zas,Zat,get_alloc,Nat.reduceAdd,Zba,Zbi,Nat.reduceEqDiff,Zaz,Qu.val,Qu.cells]
 have hm0:Mod (fun _=>False) w ((w.alloc (.cells #[.func (.func 266) #[] #[ptr b1],.func (.func 267) #[] #[ptr b2]] 257)).alloc (.cells #[.string q.name,.int .u32 q.most,.int .u64 q.ttl,.int .u32 q.tries,.string q.dead] 121)):=((Mod.refl _ _).alloc _).alloc _
 refine qbytesf_c q b1 _ _ hq (hm0.keep h1 id) ?_
 intro w2 hm2
 simp only [ZB,endK,resK,packed,insVc,Zad]
 exact h w2 (hm0.trans hm2)
theorem callK_gen {P:Program} {go:Value→World→Prop} {f:FuncId} {args:List Value} {w:World} (h:∀W,W=w→CallK P go f args W):CallK P go f args w:=h w rfl
abbrev zq:Array Value:=#[.string ⟨#[]⟩,.int .u32 0,.int .u64 0,.int .u32 0,.string ⟨#[]⟩]
theorem qread_c (v:Value) (lo:Nat) (name s:ByteArray) (w:World) (K:Value→World→Prop) (hv:IsQ w lo v name) (hs:s.size<2^60)
  (h:∀w',Mod (fun _=>False) w w'→K (.tuple #[(qread name s).1.val,.int .i64 (qread name s).2]) w') :
  Ok prog 175 #[v,.string s] w K:=by
 obtain ⟨b1,b2,b3,rfl,_,_,_,h1,h2,h3⟩:=hv
 refine F175.enter (args:=[_,.string s]) (by simp) ?_
 unfold c175 r175
 simp only [ZB,insVc,load1K,nilOf,pnilK,faddrK,Value.cells,ne_eq,Nat.reduceEqDiff,Nat.reduceAdd,reduceCtorEq,Zac,Zae,Zab,Za,Zag,Zah,Zaa,Zaf,get_alloc,Zb,Nat.reduceAdd,Zbi,Nat.reduceEqDiff,Zaz]
 refine over_c s _ _ ?_
 simp only [ZB,insVc,load1K,faddrK,callvK,ne_eq,Nat.reduceEqDiff,Nat.reduceAdd,reduceCtorEq,Zae,Zab,Za,Zag,Zah,Zad,Zaw,Zaa,Zaf,get_alloc,Zb,Nat.reduceAdd,Zbi,Nat.reduceEqDiff,Zaz]
 have l1:=lt_of_get h1
 have l2:=lt_of_get h2
 have l3:=lt_of_get h3
 refine callK_gen ?_
 intro w1 hw1
 have hm0:Mod (fun _=>False) w w1:=by rw [hw1];exact ((((Mod.refl _ _).alloc _).alloc _).alloc _).alloc _
 have e1:w1.heap[w.heap.size+1]? = some (.cells zq 121 (0,0)):=by rw [hw1];simp only [Nat.reduceEqDiff,Nat.reduceAdd,Zaa,Zaf,size_alloc,get_alloc,size_alloc,Zb,Nat.reduceAdd,Zbg,Zba,Nat.reduceEqDiff,Zaz]
 have e2:w1.heap[w.heap.size+2]? = some (.cells zq 121 (0,0)):=by rw [hw1];simp only [Nat.reduceEqDiff,Nat.reduceAdd,reduceCtorEq,Zaa,Zaf,size_alloc,get_alloc,size_alloc,Zb,Nat.reduceAdd,Zbg,Zba,Nat.reduceEqDiff]
 have e3:IsRd w1 (w.heap.size+3) (s,0):=by unfold IsRd;rw [hw1];simp only [Nat.reduceEqDiff,Nat.reduceAdd,reduceCtorEq,Zaa,Zaf,size_alloc,get_alloc,size_alloc,Zb,Nat.reduceAdd,Zbg,Zba,Nat.reduceEqDiff]
 have hszx:w1.heap.size=w.heap.size+4:=by rw [hw1];simp only [Nat.reduceAdd,size_alloc,size_alloc,Zb,Nat.reduceAdd]
 clear hw1
 refine qgetf_c (w.heap.size+3) b2 b3 name (s,0) w1 _ e3 (hm0.keep h2 id) (hm0.keep h3 id) (by omega) (by omega) (by simpa using (by omega:(s.size:Int)<2^63)) ?_
 intro w2 hm2 hb2
 have f1:=hm2.keep e1 (by omega)
 have f2:=hm2.keep e2 (by omega)
 have hm2':Mod (fun _=>False) w w2:=hm0.then hm2 (fun i hi hk=>by omega)
 have s2:=hm2.size
 have hr2:=lt_of_get hb2
 simp only [ZB,insVc,storeNK,setMany,isPlain,Value.cells,ne_eq,Nat.reduceEqDiff,Nat.reduceAdd,Nat.reduceLeDiff,Zae,Zab,Zai,Zak,Zaj,Zal,Zam,Zan,Zau,Zav,Zax,Zbl,Qu.val,Qu.cells]
 refine callK_gen ?_
 intro w3 hw3
 have hm3:Mod (fun _=>False) w2 w3:=by rw [hw3];exact ((Mod.refl _ _).alloc _).set (.inl (Nat.le_refl _))
 have g0:w3.heap[w2.heap.size]? = some (.cells (qget name (ver (s,0))).1.cells.toArray 121 (0,0)):=by rw [hw3];simp only [size_alloc,Zbb,Zay,size_alloc,Qu.cells]
 clear hw3
 have g1:=hm3.keep f1 id
 have g2:=hm3.keep f2 id
 have gb:IsRd w3 (w.heap.size+3) _:=hm3.keep hb2 id
 have hm3':=hm2'.trans hm3
 refine ende_c (w.heap.size+3) _ w3 _ gb ?_
 simp only [ZB,insVc,iopK,iopV,reduceCtorEq]
 refine condP_split ?_ ?_
 ·intro he
  have he':ende (qget name (ver (s,0))).2≠0:=by simpa using he
  have hq:qread name s=(q0,ende (qget name (ver (s,0))).2):=by unfold qread;simp only [];rw [if_pos he']
  rw [hq] at h
  simp only [ZB,endK,resK,resN,packed,insVc,loadNK,storeNK,setMany,isPlain,ne_eq,Nat.reduceEqDiff,Nat.reduceAdd,Nat.reduceLeDiff,Zai,Zak,Zaj,Zal,Zam,Zan,Zad,Zaw,Zar,Zap,Zaq,Zao,Zas,Zat,Zau,Zav,Zax,g2,g1,get_set_same _ _ _ (lt_of_get g1)]
  exact h _ (hm3'.set (.inl (by omega)))
 ·intro he
  have he':ende (qget name (ver (s,0))).2=0:=by simpa using he
  have hq:qread name s=((qget name (ver (s,0))).1,0):=by unfold qread;simp only [];rw [if_neg (by simpa using he')]
  rw [hq] at h
  simp only [ZB,endK,resK,resN,packed,insVc,loadNK,storeNK,setMany,isPlain,ne_eq,Nat.reduceEqDiff,Nat.reduceAdd,Nat.reduceLeDiff,Zai,Zak,Zaj,Zal,Zam,Zan,Zad,Zaw,Zar,Zap,Zaq,Zao,Zas,Zat,Zau,Zav,Zax,g0,g1,Qu.cells,get_set_same _ _ _ (lt_of_get g1)]
  exact h _ (hm3'.set (.inl (by omega)))
def cbytes (n:Nat):ByteArray:=big 1 1 ++ big n 8
def cread (s:ByteArray):Nat × Int :=
 let x:=number (ver (s,0)) 8
 if ende x.2≠0 then (0,ende x.2) else (x.1,0)
def IsC (w:World) (lo:Nat) (v:Value):Prop :=
 ∃b1 b2,v = .agg #[.func (.func 310) #[] #[ptr b1],.func (.func 311) #[] #[ptr b2]]∧lo≤b1∧lo≤b2 ∧
  w.heap[b1]? = some (.cells #[.func (.func 160) #[] #[]] 251 (0,0)) ∧
  w.heap[b2]? = some (.cells #[.func (.func 225) #[] #[]] 370 (0,0))
theorem counters_c (w:World) (K:Value→World→Prop) (h:∀w' v,Mod (fun _=>False) w w'→IsC w' w.heap.size v→K v w') :
  Ok prog 282 #[] w K:=by
 refine F282.enter (args:=[]) (by simp) ?_
 unfold c282 r282
 simp only [ZB,insVc,Value.cells,Zae,Zab]
 refine F301.enter (args:=[_,_]) (by simp) ?_
 unfold c301 r301
 simp only [ZB,endK,resK,resN,packed,insVc,storeNK,setMany,buildK,fillL,isPlain,Value.cells,ne_eq,Nat.reduceEqDiff,Nat.reduceAdd,Nat.reduceLT,Nat.reduceLeDiff,reduceCtorEq,Zac,Zae,Zab,Za,Zag,Zai,Zak,Zaj,Zbe,Zbf,Zbd,Zbc,Zal,Zam,Zan,Zad,Zbh,Zaa,Zaf,Zar,Zap,Zaq,Zao,Zas,Zat,Zau,Zav,Zax,Zbb,Zay,get_alloc,get_set,Zb,Nat.reduceAdd,Zbg,Zba,Zbi,Nat.reduceEqDiff,Zcc,Nat.reduceLT,Zaz]
 refine h _ _ ?_ ⟨w.heap.size+1,w.heap.size+2,rfl, ?_, ?_, ?_, ?_⟩
 ·exact ((((((Mod.refl _ _).alloc _).alloc _).alloc _).alloc _).set (.inl (by omega))).set (.inl (by omega))
 ·omega
 ·omega
 ·simp only [Nat.reduceEqDiff,Nat.reduceAdd,Nat.reduceLT,and_true,Zaa,Zaf,size_set,size_alloc,Zay,get_alloc,get_set,size_alloc,size_set,Zb,Nat.reduceAdd,Zbg,Zba,Nat.reduceEqDiff,Zcc,Nat.reduceLT,Zaz]
 ·simp only [Nat.reduceEqDiff,Nat.reduceAdd,Nat.reduceLT,reduceCtorEq,and_true,Zaa,Zaf,size_set,size_alloc,Zay,get_alloc,get_set,size_alloc,size_set,Zb,Nat.reduceAdd,Zbg,Zba,Nat.reduceEqDiff,Zcc,Nat.reduceLT]
theorem cbytes_c (v:Value) (lo:Nat) (n:Nat) (w:World) (K:Value→World→Prop) (hv:IsC w lo v) (hn:n<2^64)
  (h:∀w',Mod (fun _=>False) w w'→K (.string (cbytes n)) w') :
  Ok prog 284 #[v,.int .u64 n] w K:=by
 obtain ⟨b1,b2,rfl,_,_,h1,h2⟩:=hv
 refine F284.enter (args:=[_,.int .u64 n]) (by simp) ?_
 unfold c284 r284
 simp only [ZB,insVc,load1K,nilOf,pnilK,faddrK,callvK,Value.cells,ne_eq,Nat.reduceEqDiff,Zac,Zae,Zab,Za,Zag,Zah,Zad,Zaw,Zaa,Zaf,get_alloc,Nat.reduceEqDiff]
 refine callK_gen ?_
 intro w1 hw1
 have hm0:Mod (fun _=>False) w w1:=by rw [hw1];exact (Mod.refl _ _).alloc _
 clear hw1
 have h1':=hm0.keep h1 id
 refine F310.enter (args:=[.int .u64 n,ptr b1]) (by simp) ?_
 unfold c310 r310
 simp only [ZB,insVc]
 refine draw_d (fun w'=>w'.heap[b1]? = some (.cells #[.func (.func 160) #[] #[]] 251 (0,0))) (by kernel_rfl) (by kernel_rfl) (by kernel_rfl) (by kernel_rfl) h1' ?_
 simp only [ZB,endK,resK,packed,insVc,sopK,sopV,callvK,ne_eq,Nat.reduceEqDiff,reduceCtorEq,Zac,Zae,Zab,Za,Zad,Zaa,Zaf,pureI,vcD_nil,vcD_cons,stepD_pure,stepD_load,stepD_step,kindI,loadI]
 refine wone_c 1 _ _ (by decide) ?_
 intro w2 hm2
 refine ⟨hm2.keep h1' id, ?_⟩
 refine loadD1 (b:=b1) (o:=0) (v:=.func (.func 160) #[] #[]) rfl (fun w' hw'=>⟨_,_,_,hw',rfl⟩) ?_
 simp only [Zad,Zbu]
 refine weight_c n w2 _ hn ?_
 intro w3 hm3
 refine ⟨hm3.keep (hm2.keep h1' id) id, ?_⟩
 have x1:¬(((big 1 1).size+(big n 8).size:Nat):Int) > IntKind.i64.max:=by simp only [big_size,imax];omega
 simp only [loadV_some,Zaf,x1]
 exact h w3 ((hm0.drew.trans hm2).trans hm3)
theorem cread_c (v:Value) (lo:Nat) (s:ByteArray) (w:World) (K:Value→World→Prop) (hv:IsC w lo v) (hs:s.size<2^60)
  (h:∀w',Mod (fun _=>False) w w'→K (.tuple #[.int .u64 ((cread s).1:Nat),.int .i64 (cread s).2]) w') :
  Ok prog 283 #[v,.string s] w K:=by
 obtain ⟨b1,b2,rfl,_,_,h1,h2⟩:=hv
 refine F283.enter (args:=[_,.string s]) (by simp) ?_
 unfold c283 r283
 simp only [ZB,insVc,load1K,nilOf,pnilK,faddrK,Value.cells,ne_eq,Nat.reduceEqDiff,Zac,Zae,Zab,Za,Zag,Zah,Zaa,Zaf,get_alloc,Nat.reduceEqDiff]
 refine over_c s _ _ ?_
 simp only [ZB,insVc,load1K,faddrK,callvK,ne_eq,Nat.reduceEqDiff,Zae,Zab,Za,Zag,Zah,Zad,Zaw,Zaa,Zaf,get_alloc,Zbi,Nat.reduceEqDiff,Zaz]
 have l2:=lt_of_get h2
 refine callK_gen ?_
 intro w1 hw1
 have hm0:Mod (fun _=>False) w w1:=by rw [hw1];exact ((Mod.refl _ _).alloc _).alloc _
 have e3:IsRd w1 (w.heap.size+1) (s,0):=by unfold IsRd;rw [hw1];simp only [Zaa,Zaf,size_alloc,get_alloc,size_alloc,Zba,Zaz]
 clear hw1
 have h2':=hm0.keep h2 id
 have hsI:(s.size:Int)<2^63:=by omega
 have hver:=ver_size (s,0)
 refine F311.enter (args:=[ptr (w.heap.size+1),ptr b2]) (by simp) ?_
 unfold c311 r311
 simp only [ZB,insVc,ne_eq,reduceCtorEq,Zac,Zae,Zab,Za]
 refine one_c (w.heap.size+1) (s,0) w1 _ e3 hsI ?_
 intro w2 hm2 hb2
 simp only [ZB,insVc,iopK,iopV,reduceCtorEq]
 have main:∀w3,Mod (fun k=>k=w.heap.size+1) w2 w3→IsRd w3 (w.heap.size+1) (ver (s,0))→∀G:Value→World→Prop,
   (∀w4,Mod (fun _=>False) w w4→IsRd w4 (w.heap.size+1) (number (ver (s,0)) 8).2→G (.int .u64 ((number (ver (s,0)) 8).1:Nat)) w4)→Ok prog 225 #[ptr (w.heap.size+1)] w3 G:=by
  intro w3 hm3 hb3 G hG
  refine eight_c (w.heap.size+1) _ w3 G hb3 (by simp only [] at hver;omega) ?_
  intro w4 hm4 hb4
  exact hG w4 (((hm0.then hm2 (fun i hi hk=>by omega)).then hm3 (fun i hi hk=>by omega)).then hm4 (fun i hi hk=>by omega)) hb4
 refine condP_split ?_ ?_
 ·intro hc
  have hv:ver (s,0)=fail (number (s,0) 1).2 4:=by
   unfold ver;rw [if_pos];simp at hc;omega
  simp only [ZB,insVc,ne_eq,reduceCtorEq,Zac,Zae,Zab,Za]
  refine fail_c (w.heap.size+1) _ 4 w2 _ hb2 ?_
  intro w3 v hm3 hb3
  simp only [ZB,insVc,load1K,callvK,ne_eq,Nat.reduceEqDiff,reduceCtorEq,Zac,Zae,Zab,Za,Zag,Zah,Zad,Zbu,hm3.keep (hm2.keep h2' (by omega)) (by omega)]
  refine main w3 hm3 (hv ▸ hb3) _ ?_
  intro w4 hm4 hb4
  simp only [ZB,endK,resK,packed,insVc,ne_eq,Nat.reduceEqDiff,Zae,Zab,Zad]
  refine ende_c (w.heap.size+1) _ w4 _ hb4 ?_
  simp only [ZB,insVc,iopK,iopV,reduceCtorEq]
  refine condP_split ?_ ?_
  ·intro he
   have he':ende (number (ver (s,0)) 8).2≠0:=by simpa using he
   have hq:cread s=(0,ende (number (ver (s,0)) 8).2):=by unfold cread;simp only [];rw [if_pos he']
   rw [hq] at h
   simp only [ZB,endK,resK,packed,insVc,ne_eq,Nat.reduceEqDiff,Zad,Zaw]
   exact h w4 hm4
  ·intro he
   have he':ende (number (ver (s,0)) 8).2=0:=by simpa using he
   have hq:cread s=((number (ver (s,0)) 8).1,0):=by unfold cread;simp only [];rw [if_neg (by simpa using he')]
   rw [hq] at h
   simp only [ZB,endK,resK,packed,insVc,ne_eq,Nat.reduceEqDiff,Zad,Zaw]
   exact h w4 hm4
 ·intro hc
  have hv:ver (s,0)=(number (s,0) 1).2:=by
   unfold ver;rw [if_neg];simp at hc;omega
  simp only [ZB,insVc,load1K,callvK,ne_eq,Nat.reduceEqDiff,reduceCtorEq,Zac,Zae,Zab,Za,Zag,Zah,Zad,Zbu,hm2.keep h2' (by omega)]
  refine main w2 (Mod.refl _ _) (hv ▸ hb2) _ ?_
  intro w4 hm4 hb4
  simp only [ZB,endK,resK,packed,insVc,ne_eq,Nat.reduceEqDiff,Zae,Zab,Zad]
  refine ende_c (w.heap.size+1) _ w4 _ hb4 ?_
  simp only [ZB,insVc,iopK,iopV,reduceCtorEq]
  refine condP_split ?_ ?_
  ·intro he
   have he':ende (number (ver (s,0)) 8).2≠0:=by simpa using he
   have hq:cread s=(0,ende (number (ver (s,0)) 8).2):=by unfold cread;simp only [];rw [if_pos he']
   rw [hq] at h
   simp only [ZB,endK,resK,packed,insVc,ne_eq,Nat.reduceEqDiff,Zad,Zaw]
   exact h w4 hm4
  ·intro he
   have he':ende (number (ver (s,0)) 8).2=0:=by simpa using he
   have hq:cread s=((number (ver (s,0)) 8).1,0):=by unfold cread;simp only [];rw [if_neg (by simpa using he')]
   rw [hq] at h
   simp only [ZB,endK,resK,packed,insVc,ne_eq,Nat.reduceEqDiff,Zad,Zaw]
   exact h w4 hm4
end Go.Oct
namespace Go.Oct
open Go Go.Vc
abbrev M:=List (List UInt8 × List UInt8)
def encM (m:M):List (Lit × DataW Unit):=m.map fun p=>(.string p.1,.lit (.string p.2))
def DM (m:M):DataW Unit:=.map (encM m)
def insM (x:List UInt8 × List UInt8):M→M
 | []=>[x]
 | y :: r=>if bytesBefore x.1 y.1 then x :: y :: r else y :: insM x r
def putM (k v:List UInt8) (m:M):M:=insM (k,v) (m.filter fun p => !(p.1 == k))
def delM (k:List UInt8) (m:M):M:=m.filter fun p => !(p.1 == k)
def lookM (k:List UInt8):M→Option (List UInt8)
 | []=>none
 | p :: r=>if p.1 == k then some p.2 else lookM k r
theorem enc_ins (x:List UInt8 × List UInt8) (m:M):encM (insM x m)=DataW.insert (.string x.1,.lit (.string x.2)) (encM m):=by
 induction m with
 | nil=>rfl
 | cons y r ih =>
  have hb:∀(a b:List UInt8 × List UInt8),((Lit.string a.1,DataW.lit (Lit.string a.2)):Lit × DataW Unit).1.before ((Lit.string b.1,DataW.lit (Lit.string b.2)):Lit × DataW Unit).1=bytesBefore a.1 b.1:=fun _ _=>rfl
  show encM (if bytesBefore x.1 y.1 then x :: y :: r else y :: insM x r)=DataW.insert _ ((Lit.string y.1,DataW.lit (Lit.string y.2)) :: encM r)
  by_cases h:bytesBefore x.1 y.1=true
  ·rw [if_pos h,DataW.insert,if_pos (by rw [hb];exact h)];rfl
  ·rw [if_neg h,DataW.insert,if_neg (by rw [hb];exact h),← ih];rfl
theorem enc_filter (k:List UInt8) (m:M):encM (m.filter fun p => !(p.1 == k))=(encM m).filter fun p => !p.1.sameKey (.string k):=by
 induction m with
 | nil=>rfl
 | cons y r ih =>
  simp only [encM,Zae,List.filter_cons,Lit.sameKey] at ih ⊢
  split
  ·simp only [Zae];congr 1
  ·exact ih
theorem DM_put (k v:List UInt8) (m:M):(DM m).put (.string k) (.lit (.string v))=DM (putM k v m):=by
 simp only [DM,DataW.put,putM,enc_ins,enc_filter]
theorem DM_del (k:List UInt8) (m:M):(DM m).del (.string k)=DM (delM k m):=by
 simp only [DM,DataW.del,delM,enc_filter]
theorem DM_has (k:List UInt8) (m:M):Maps.has (DM m) (.string k)=(lookM k m).isSome:=by
 induction m with
 | nil=>rfl
 | cons y r ih =>
  simp only [DM,encM,Maps.has,Zae,List.any_cons,Lit.sameKey,lookM] at ih ⊢
  by_cases h:y.1 == k
  ·simp [h]
  ·simp only [h,Zbz];simpa using ih
theorem DM_at (k z:List UInt8) (m:M):(DM m).atKey (.string k) (.lit (.string z)) = .lit (.string ((lookM k m).getD z)):=by
 induction m with
 | nil=>rfl
 | cons y r ih =>
  simp only [DM,encM,DataW.atKey,Zae,List.find?_cons,Lit.sameKey,lookM] at ih ⊢
  by_cases h:y.1 == k
  ·simp [h]
  ·simp only [h] at ih ⊢; simpa using ih
end Go.Oct
namespace Go.Oct
open Go Go.Vc Go.VrA Go.Proofs.Tryz
set_option maxRecDepth 100000
section
variable {P:Program} {n:Nat} {go:Value→World→Prop} {ρ:Env} {ds:List Deferred} {w:World} {o:Oper}
theorem rawK_lookup {x i:Operand} {t:TypeId} {ok:Bool} {v:Value} {w':World} (ho:o.op = .lookup t x i ok) (hx:inB n x=true) (hi:inB n i=true)
  (hr:(Instr.lookup t (ev ρ x) (ev ρ i) ok).run P w = .ok v w') (h:go v w'):RawK P go ρ ds n o w:=by
 unfold RawK
 simp only [execOp,ho,Sem.run_bind,mkA_eval n ρ ds x hx,mkA_eval n ρ ds i hi,hr,Result.andThen,pure,Sem.run]
 exact h
theorem rawK_mapUpdate {m k x:Operand} {t:TypeId} {w':World} (ho:o.op = .mapUpdate t m k x) (hm:inB n m=true) (hk:inB n k=true) (hx:inB n x=true)
  (hr:(Instr.mapUpdate t (ev ρ m) (ev ρ k) (ev ρ x)).run P w = .ok () w') (h:go undef w'):RawK P go ρ ds n o w:=by
 unfold RawK
 simp only [execOp,ho,Sem.run_bind,mkA_eval n ρ ds m hm,mkA_eval n ρ ds k hk,mkA_eval n ρ ds x hx,hr,Result.andThen,pure,Sem.run]
 exact h
theorem rawK_makeMap {t:TypeId} (ho:o.op = .makeMap t none) (h:go (.map (some w.heap.size)) (w.alloc (.map #[] 0))):RawK P go ρ ds n o w:=by
 unfold RawK
 simp only [execOp,ho,Sem.run_bind,Zbv,run_makeMap_plain,Result.andThen,pure,Sem.run]
 exact h
end
def IsM (w:World) (mb n:Nat) (m:M):Prop:=w.ownsMap prog 9 (plainElem prog 9) mb n (DM m)
def IsShelf (w:World) (sb mb n:Nat) (m:M):Prop:=w.heap[sb]? = some (.cells #[.map (some mb)] 174 (0,0))∧IsM w mb n m∧sb≠mb
theorem tStr:(prog).underlying 9=some .string:=by kernel_rfl
theorem tMap:(prog).underlying 172=some (.map 9 9):=by kernel_rfl
theorem zStr (w:World):(zeroValue 9).run prog w = .ok (.string ⟨#[]⟩) w:=by kernel_rfl
theorem IsM.keep {w w':World} {S:Nat→Prop} {mb n:Nat} {m:M} (h:IsM w mb n m) (hm:Mod S w w') (hs:¬S mb):IsM w' mb n m:=by
 have hlt:=World.ownsMap.lt h
 obtain ⟨es,clock,hb,F,hsz,hD⟩:=h
 exact ⟨es,clock,hm.keep hb hs,F,hsz,hD⟩
theorem IsShelf.keep {w w':World} {S:Nat→Prop} {sb mb n:Nat} {m:M} (h:IsShelf w sb mb n m) (hm:Mod S w w') (hs:¬S sb) (hs':¬S mb):IsShelf w' sb mb n m :=
 ⟨hm.keep h.1 hs,h.2.1.keep hm hs',h.2.2⟩
theorem IsM.look {w:World} {mb n:Nat} {m:M} (h:IsM w mb n m) (k:ByteArray) (hk:k.size≤maxLen) (ok:Bool) :
  (Instr.lookup 172 (.map (some mb)) (.string k) ok).run prog w = .ok (if ok then .tuple #[.string ⟨((lookM k.data.toList m).getD []).toArray⟩,.bool (lookM k.data.toList m).isSome] else .string ⟨((lookM k.data.toList m).getD []).toArray⟩) w:=by
 have inv:∀v ps,plainElem (H:=Unit) prog 9 v=some ((DM m).atKey (.string k.data.toList) (.lit (.string [])),ps)→v = .string ⟨((lookM k.data.toList m).getD []).toArray⟩:=by
  intro v ps hv
  rw [DM_at] at hv
  unfold plainElem at hv
  rw [tStr] at hv
  cases v <;> simp at hv
  rename_i s
  obtain ⟨_,h1,_⟩:=hv
  rw [← h1]
 cases ok with
 | true =>
  obtain ⟨v,ps,hr,hv⟩:=World.ownsMap.look_ok h (Maps.string_keyed tStr) tMap (zStr w) (plainElem_string tStr (by simp [ByteArray.size,maxLen])) (WideMaps.keyOf_string_mk tStr hk)
  rw [hr,inv v ps hv,DM_has];rfl
 | false =>
  obtain ⟨v,ps,hr,hv⟩:=World.ownsMap.lookup h (Maps.string_keyed tStr) tMap (zStr w) (plainElem_string tStr (by simp [ByteArray.size,maxLen])) (WideMaps.keyOf_string_mk tStr hk)
  rw [hr,inv v ps hv];rfl
theorem IsM.store {w:World} {mb n:Nat} {m:M} (h:IsM w mb n m) (k v:ByteArray) (hk:k.size≤maxLen) (hv:v.size≤maxLen) (hn:n<maxLen) :
  ∃w',(Instr.mapUpdate 172 (.map (some mb)) (.string k) (.string v)).run prog w = .ok () w'∧IsM w' mb (n+1) (putM k.data.toList v.data.toList m)∧Mod (fun i=>i=mb) w w':=by
 obtain ⟨w',hr,ho,hg⟩:=World.ownsMap.update h (Maps.string_keyed tStr) tMap hn (WideMaps.keyOf_string_mk tStr hk) (plainElem_string (H:=Unit) tStr hv)
 refine ⟨w',hr, ?_,⟨hg.os,hg.tape,hg.output,hg.size,fun i hi hs=>hg.block i hi (fun e=>hs (Option.some.inj e))⟩⟩
 unfold IsM
 rw [← DM_put]
 exact ho
theorem sget_c (sb mb n:Nat) (m:M) (k:ByteArray) (w:World) (K:Value→World→Prop) (hs:IsShelf w sb mb n m) (hk:k.size≤maxLen)
  (h:K (.tuple #[.string ⟨((lookM k.data.toList m).getD []).toArray⟩,.bool (lookM k.data.toList m).isSome,.int .i64 0]) w) :
  Ok prog 350 #[ptr sb,.string k] w K:=by
 refine F350.enter (args:=[ptr sb,.string k]) (by simp) ?_
 unfold c350 r350
 simp only [ZB,insVc,load1K,nilK,faddrK,ne_eq,Nat.reduceEqDiff,reduceCtorEq,Zac,Za,Zag,Zah,hs.1]
 refine rawK_lookup rfl rfl rfl (by simpa only [vc_skip,vc_seq,vc_cond,vc_block,vc_exit,vc_ret,vc_ops,vcOps_nil,vcOps_cons,vcOps_gate,gateK_true,gateK_false,gate_true,gate_false,gate_undef,goL_apply,thenQ_normal,thenQ_ret,thenQ_exit,blockQ_normal,blockQ_ret,blockQ_same,blockQ_exit,condP_true,condP_false,upd_same,upd_other,updO_some,updO_none,ev_tmp,ev_const,ev_global,ev_func,endQ_ret,endQ_normal,endK,resK,resN,res1,resO_cells,resNO_cells,packed,initE_at,insVc,pickK,load1K,loadO_cells,loadV_some,loadV_none,loadNK,loadNO_cells,storeK,storeO_cells,storeNK,storeNO_cells,setMany,nilK,nilM,iopK,iopV,sopK,sopV,bopK,nilOf,pnilK,notK,convK,sameK,faddrK,fld1K,fldNK,iaddrK,iaddrAK,sidxK,extK,lenSK,lenLK,callvK,invK,buildK,fillL,buildSK,boundOf,slSK,slLK,slAK,isPlain,Value.cells,ne_eq,not_false_eq_true,not_true_eq_false,Nat.reduceEqDiff,Nat.reduceAdd,Nat.reduceLT,Nat.reduceLeDiff,reduceCtorEq,Bool.not_true,Bool.not_false,Option.map_some,Option.map_none,Option.getD_some,Option.getD_none,List.map_cons,List.map_nil,List.getElem?_cons_zero,List.getElem?_cons_succ,List.getElem?_nil,List.getElem?_toArray,List.size_toArray,List.length_cons,List.length_nil,List.zipIdx_cons,List.zipIdx_nil,List.foldl_cons,List.foldl_nil,List.setIfInBounds_toArray,List.set_cons_zero,List.set_cons_succ,List.append_eq,List.nil_append,List.cons_append,List.append_nil,List.toList_toArray,true_and,and_true,true_or,or_true,or_false,false_or,and_self,if_true,if_false,ite_true,ite_false,Bool.false_eq_true,Nat.zero_add,Nat.add_zero,decide_true,decide_false,Bool.and_true,Bool.and_false,Bool.true_and,Bool.false_and,Option.isNone_some,Option.isNone_none,Int.reduceLT,Int.reduceLE,Int.reduceToNat,Int.toNat_natCast,Int.reduceAdd,Int.reduceSub,Int.reduceMul,Int.reduceNeg,Int.reduceEq,Int.reduceNe,Int.reduceBEq,Int.reduceBNe,Nat.mul_one,List.extract_toArray,List.extract_eq_take_drop,List.drop_zero,List.drop_succ_cons,List.take_zero,List.take_succ_cons,Nat.sub_zero,Nat.add_sub_cancel,Nat.add_sub_cancel_left,vcS_nil,vcS_cons,vcS_gate,gateS_true,gateS_false,stepB_true,stepB_false,pureI,Nat.zero_mul,Nat.one_mul,Nat.reduceMul,Nat.reduceSub,List.all_toArray',List.all_cons,List.all_nil,size_set,size_alloc,size_drew,get_alloc_new,get_set_same,get_drew,Nat.lt_add_one,vcD_nil,vcD_cons,vcD_gate,gateD_true,gateD_false,stepD_pure,stepD_load,stepD_step,kindI,loadI] using hs.2.1.look k hk true) ?_
 simp only [ZB,endK,resK,packed,insVc,extK,ne_eq,Nat.reduceEqDiff,Za,Zag,Zah,Zad,Zaw]
 exact h
theorem sput_c (sb mb n:Nat) (m:M) (k v:ByteArray) (w:World) (K:Value→World→Prop) (hs:IsShelf w sb mb n m) (hn:n<maxLen)
  (h1:k.size > 255∨v.size > 65536→K (.int .i64 5) w)
  (h2:¬(k.size > 255∨v.size > 65536)→∀w',Mod (fun i=>i=mb) w w'→IsShelf w' sb mb (n+1) (putM k.data.toList v.data.toList m)→K (.int .i64 0) w') :
  Ok prog 351 #[ptr sb,.string k,.string v] w K:=by
 refine F351.enter (args:=[ptr sb,.string k,.string v]) (by simp) ?_
 unfold c351 r351
 simp only [ZB,insVc,iopK,iopV,lenSK,ne_eq,Nat.reduceEqDiff,reduceCtorEq,Zac,Za,Zag]
 have fin:¬(k.size > 255∨v.size > 65536)→∃w',(Instr.mapUpdate 172 (.map (some mb)) (.string k) (.string v)).run prog w = .ok () w'∧K (.int .i64 0) w':=by
  intro hc
  obtain ⟨w',hr,hm,hmod⟩:=hs.2.1.store k v (by simp [maxLen];omega) (by simp [maxLen];omega) hn
  exact ⟨w',hr,h2 hc w' hmod ⟨hmod.keep hs.1 hs.2.2,hm,hs.2.2⟩⟩
 by_cases c1:(k.size:Int) > 255
 ·simp only [ZB,endK,resK,packed,insVc,pickK,ne_eq,Nat.reduceEqDiff,Zad,Zaa,c1]
  exact h1 (.inl (by omega))
 ·simp only [ZB,insVc,pickK,iopK,iopV,lenSK,ne_eq,Nat.reduceEqDiff,reduceCtorEq,Zac,Za,Zag,Zaf,c1]
  by_cases c2:(v.size:Int) > 65536
  ·simp only [ZB,endK,resK,packed,insVc,Zad,c2]
   exact h1 (.inr (by omega))
  ·simp only [ZB,insVc,load1K,nilK,faddrK,ne_eq,Nat.reduceEqDiff,reduceCtorEq,Zac,Za,Zag,Zah,c2,hs.1]
   obtain ⟨w',hr,hk⟩:=fin (by omega)
   refine rawK_mapUpdate rfl rfl rfl rfl (by simpa only [vc_skip,vc_seq,vc_cond,vc_block,vc_exit,vc_ret,vc_ops,vcOps_nil,vcOps_cons,vcOps_gate,gateK_true,gateK_false,gate_true,gate_false,gate_undef,goL_apply,thenQ_normal,thenQ_ret,thenQ_exit,blockQ_normal,blockQ_ret,blockQ_same,blockQ_exit,condP_true,condP_false,upd_same,upd_other,updO_some,updO_none,ev_tmp,ev_const,ev_global,ev_func,endQ_ret,endQ_normal,endK,resK,resN,res1,resO_cells,resNO_cells,packed,initE_at,insVc,pickK,load1K,loadO_cells,loadV_some,loadV_none,loadNK,loadNO_cells,storeK,storeO_cells,storeNK,storeNO_cells,setMany,nilK,nilM,iopK,iopV,sopK,sopV,bopK,nilOf,pnilK,notK,convK,sameK,faddrK,fld1K,fldNK,iaddrK,iaddrAK,sidxK,extK,lenSK,lenLK,callvK,invK,buildK,fillL,buildSK,boundOf,slSK,slLK,slAK,isPlain,Value.cells,ne_eq,not_false_eq_true,not_true_eq_false,Nat.reduceEqDiff,Nat.reduceAdd,Nat.reduceLT,Nat.reduceLeDiff,reduceCtorEq,Bool.not_true,Bool.not_false,Option.map_some,Option.map_none,Option.getD_some,Option.getD_none,List.map_cons,List.map_nil,List.getElem?_cons_zero,List.getElem?_cons_succ,List.getElem?_nil,List.getElem?_toArray,List.size_toArray,List.length_cons,List.length_nil,List.zipIdx_cons,List.zipIdx_nil,List.foldl_cons,List.foldl_nil,List.setIfInBounds_toArray,List.set_cons_zero,List.set_cons_succ,List.append_eq,List.nil_append,List.cons_append,List.append_nil,List.toList_toArray,true_and,and_true,true_or,or_true,or_false,false_or,and_self,if_true,if_false,ite_true,ite_false,Bool.false_eq_true,Nat.zero_add,Nat.add_zero,decide_true,decide_false,Bool.and_true,Bool.and_false,Bool.true_and,Bool.false_and,Option.isNone_some,Option.isNone_none,Int.reduceLT,Int.reduceLE,Int.reduceToNat,Int.toNat_natCast,Int.reduceAdd,Int.reduceSub,Int.reduceMul,Int.reduceNeg,Int.reduceEq,Int.reduceNe,Int.reduceBEq,Int.reduceBNe,Nat.mul_one,List.extract_toArray,List.extract_eq_take_drop,List.drop_zero,List.drop_succ_cons,List.take_zero,List.take_succ_cons,Nat.sub_zero,Nat.add_sub_cancel,Nat.add_sub_cancel_left,vcS_nil,vcS_cons,vcS_gate,gateS_true,gateS_false,stepB_true,stepB_false,pureI,Nat.zero_mul,Nat.one_mul,Nat.reduceMul,Nat.reduceSub,List.all_toArray',List.all_cons,List.all_nil,size_set,size_alloc,size_drew,get_alloc_new,get_set_same,get_drew,Nat.lt_add_one,vcD_nil,vcD_cons,vcD_gate,gateD_true,gateD_false,stepD_pure,stepD_load,stepD_step,kindI,loadI] using hr) ?_
   simp only [ZB,endK,resK,packed,insVc,Zad]
   exact hk
def RowAt {α:Type} (w:World) (v:Value) (e:TypeId) (s:Nat) (cells:α→List Value) (l:List α):Prop :=
 ∃g off cap cur,v = .slice (some ⟨g,off,none⟩) l.length cap∧w.heap[g]? = some (.cells cur e (0,0))∧(cur.toList.drop off).take (l.length * s)=l.flatMap cells
theorem row_len {α:Type} {s:Nat} {cells:α→List Value} (hc:∀a,(cells a).length=s) (l:List α):(l.flatMap cells).length=l.length * s:=by
 induction l with
 | nil=>simp
 | cons p l ih=>rw [List.flatMap_cons,List.length_append,hc,ih,List.length_cons,Nat.add_mul];omega
theorem row_drop {α:Type} {s:Nat} {cells:α→List Value} (hc:∀a,(cells a).length=s):∀(l:List α) (j:Nat),(l.flatMap cells).drop (j * s)=(l.drop j).flatMap cells:=by
 intro l
 induction l with
 | nil=>intro j;simp
 | cons p l ih =>
  intro j
  cases j with
  | zero=>simp
  | succ j =>
   have:(j+1)*s=s+j * s:=by rw [Nat.add_mul];omega
   rw [this,← List.drop_drop,List.flatMap_cons,List.drop_left' (hc p),ih,List.drop_succ_cons]
theorem row_at {α:Type} {s off:Nat} {cells:α→List Value} (hc:∀a,(cells a).length=s) {cur:Array Value} {l:List α} (h:(cur.toList.drop off).take (l.length * s)=l.flatMap cells) {j:Nat} {p:α} (hj:l[j]? = some p) (h0:0<s) :
  off+j * s+s≤cur.size∧cur.extract (off+j * s) (off+j * s+s)=(cells p).toArray:=by
 obtain ⟨hlt,he⟩:=List.getElem?_eq_some_iff.1 hj
 have hlen:=row_len hc l
 have hs:cur.toList.length=cur.size:=Array.length_toList
 have hle:l.length * s≤cur.size-off:=by
  have:=congrArg List.length h
  rw [hlen,List.length_take,List.length_drop] at this
  omega
 have hjs:j * s+s≤l.length * s:=by rw [← Nat.succ_mul];exact Nat.mul_le_mul_right _ hlt
 refine ⟨by omega, ?_⟩
 apply Array.ext'
 have e:(cur.extract (off+j * s) (off+j * s+s)).toList=((cur.toList.drop off).drop (j * s)).take s:=by
  rw [List.drop_drop]
  simp [List.take_drop,Nat.add_comm]
 rw [e]
 have e2:((cur.toList.drop off).drop (j * s)).take s=(((cur.toList.drop off).take (l.length * s)).drop (j * s)).take s:=by
  rw [List.drop_take,List.take_take]
  congr 1;omega
 rw [e2,h,row_drop hc,List.drop_eq_getElem_cons hlt,he,List.flatMap_cons,List.take_left' (hc p)]
theorem vc_gen {P:Program} {ro:Option Nat} {n:Nat} {c:CC} {Q:QT} {ρ:Env} {ds:List Deferred} {w:World} (h:∀W,W=w→vc P ro n c Q ρ ds W):vc P ro n c Q ρ ds w:=h w rfl
theorem rawK_gen {P:Program} {go:Value→World→Prop} {n:Nat} {o:Oper} {ρ:Env} {ds:List Deferred} {w:World} (h:∀W,W=w→RawK P go ρ ds n o W):RawK P go ρ ds n o w:=h w rfl
def pairC (p:ByteArray × ByteArray):List Value:=[.string p.1,.string p.2]
theorem new_c (l:List (ByteArray × ByteArray)) (v:Value) (w:World) (K:Value→World→Prop) (hv:(l=[]∧∃c,v = .slice none 0 c)∨RowAt w v 176 2 pairC l) (hl:l.length<2^20) (hk:∀p∈l,p.1.size≤maxLen∧p.2.size≤maxLen)
  (h:∀w' sb mb,Mod (fun _=>False) w w'→w.heap.size≤sb→w.heap.size≤mb→IsShelf w' sb mb l.length (l.foldl (fun m p=>putM p.1.data.toList p.2.data.toList m) [])→K (ptr sb) w') :
  Ok prog 72 #[v] w K:=by
 have hv':∃a,v = .slice a l.length (match v with | .slice _ _ c=>c|_=>0):=by
  rcases hv with ⟨rfl,c,rfl⟩|⟨g,off,cap,cur,rfl,_⟩ <;> exact ⟨_,rfl⟩
 obtain ⟨a,ha⟩:=hv'
 refine F72.enter (args:=[v]) (by simp) ?_
 unfold c72 r72
 simp only [ZB,insVc]
 refine rawK_makeMap rfl ?_
 simp only [ZB,insVc,lenLK,buildK,fillL,Value.cells,ne_eq,Nat.reduceLeDiff,reduceCtorEq,Zac,Za,Zai,Zak,Zaj,Zbe,Zbf,Zbd,Zbc,Zal,Zam,Zbh,Zaa,ha,Zak]
 refine vc_loop (fun m ρ ds w'=>ds=[]∧ρ 3=ptr (w.heap.size+1)∧ρ 9=v∧ρ 10 = .int .i64 l.length∧Mod (fun _=>False) w w' ∧
  ∃i:Nat,i+m=l.length∧ρ 11 = .int .i64 i∧IsShelf w' (w.heap.size+1) w.heap.size i ((l.take i).foldl (fun m p=>putM p.1.data.toList p.2.data.toList m) [])) l.length ?_ ?_
 ·refine ⟨rfl,by simp only [upd_same,upd_other,ne_eq,not_false_eq_true,Nat.reduceEqDiff,Nat.reduceEqDiff],by simp only [upd_same,upd_other,ne_eq,not_false_eq_true,Nat.reduceEqDiff];rw [← ha],by simp only [upd_same,upd_other,ne_eq,not_false_eq_true,Nat.reduceEqDiff],((Mod.refl _ _).alloc _).alloc _,0,by simp,by simp only [upd_same];rfl, ?_, ?_,by omega⟩
  ·simp only [Zaa,Zaf,size_alloc,get_alloc,size_alloc,Zba,Zaz]
  ·exact (World.ownsMap_made w prog 9 _).alloc _
 ·rintro k ρ ds w' ⟨rfl,h3,h9,h10,hm,i,him,h11,hsh⟩
  simp only [ZB,insVc,iopK,iopV,reduceCtorEq,h10,h11]
  by_cases hi:(i:Int)<l.length
  ·obtain ⟨p,hp1⟩:∃p,l[i]? = some p:=⟨_,List.getElem?_eq_getElem (by omega)⟩
   have hpk:=hk p (List.mem_of_getElem? hp1)
   rcases hv with ⟨rfl,c,rfl⟩|⟨g,off,cap,cur,rfl,hg,hcur⟩
   ·simp at him;simp at hi;omega
   ·obtain ⟨hsz,hex⟩:=row_at (s:=2) (cells:=pairC) (fun _=>rfl) hcur hp1 (by decide)
    simp only [ZB,insVc,loadNK,storeNK,setMany,iaddrK,isPlain,Value.cells,ne_eq,Nat.reduceEqDiff,Nat.reduceAdd,Nat.reduceLeDiff,Zai,Zak,Zaj,Zal,Zam,Zan,Zbj,Zau,Zav,Zax,Zbl,hi,h9,h11,hm.keep hg id,hex,pairC]
    refine ⟨by omega,hsz, ?_⟩
    refine vc_gen ?_
    intro w1 hw1
    have hm1:Mod (fun _=>False) w' w1:=by rw [hw1];exact ((Mod.refl _ _).alloc _).set (.inl (Nat.le_refl _))
    have e1:w1.heap[w'.heap.size]? = some (.cells #[.string p.1,.string p.2] 176 (0,0)):=by rw [hw1];simp only [size_alloc,Zbb,Zay,size_alloc]
    clear hw1
    have hsh1:=hsh.keep hm1 id id
    have hwl:=hm.size
    have hne1:w'.heap.size≠w.heap.size:=by have:=World.ownsMap.lt hsh.2.1;omega
    have hne2:w'.heap.size≠w.heap.size+1:=by have:=lt_of_get hsh.1;omega
    refine draw_d (fun W=>W.heap[w'.heap.size]? = some (.cells #[.string p.1,.string p.2] 176 (0,0))∧W.heap[w.heap.size+1]? = some (.cells #[.map (some w.heap.size)] 174 (0,0))) (by kernel_rfl) (by kernel_rfl) (by kernel_rfl) (by kernel_rfl) ⟨e1,hsh1.1⟩ ?_
    simp only [ZB,insVc,nilK,nilM,iopK,iopV,faddrK,ne_eq,Nat.reduceEqDiff,reduceCtorEq,Zaa,Zaf,pureI,vcD_nil,vcD_cons,stepD_pure,stepD_load,stepD_step,kindI,loadI,h3]
    refine loadD1 (b:=w.heap.size+1) (o:=0) (v:=.map (some w.heap.size)) rfl (fun W hW=>⟨_,_,_,hW.2,rfl⟩) ?_
    refine loadD1 (b:=w'.heap.size) (o:=0) (v:=.string p.1) rfl (fun W hW=>⟨_,_,_,hW.1,rfl⟩) ?_
    refine loadD1 (b:=w'.heap.size) (o:=1) (v:=.string p.2) rfl (fun W hW=>⟨_,_,_,hW.1,rfl⟩) ?_
    obtain ⟨w2,hr,hM2,hmod2⟩:=IsM.store (w:=w1.drew) hsh1.2.1 p.1 p.2 hpk.1 hpk.2 (by simp [maxLen];omega)
    refine rawK_mapUpdate rfl rfl rfl rfl (by simpa only [vc_skip,vc_seq,vc_cond,vc_block,vc_exit,vc_ret,vc_ops,vcOps_nil,vcOps_cons,vcOps_gate,gateK_true,gateK_false,gate_true,gate_false,gate_undef,goL_apply,thenQ_normal,thenQ_ret,thenQ_exit,blockQ_normal,blockQ_ret,blockQ_same,blockQ_exit,condP_true,condP_false,upd_same,upd_other,updO_some,updO_none,ev_tmp,ev_const,ev_global,ev_func,endQ_ret,endQ_normal,endK,resK,resN,res1,resO_cells,resNO_cells,packed,initE_at,insVc,pickK,load1K,loadO_cells,loadV_some,loadV_none,loadNK,loadNO_cells,storeK,storeO_cells,storeNK,storeNO_cells,setMany,nilK,nilM,iopK,iopV,sopK,sopV,bopK,nilOf,pnilK,notK,convK,sameK,faddrK,fld1K,fldNK,iaddrK,iaddrAK,sidxK,extK,lenSK,lenLK,callvK,invK,buildK,fillL,buildSK,boundOf,slSK,slLK,slAK,isPlain,Value.cells,ne_eq,not_false_eq_true,not_true_eq_false,Nat.reduceEqDiff,Nat.reduceAdd,Nat.reduceLT,Nat.reduceLeDiff,reduceCtorEq,Bool.not_true,Bool.not_false,Option.map_some,Option.map_none,Option.getD_some,Option.getD_none,List.map_cons,List.map_nil,List.getElem?_cons_zero,List.getElem?_cons_succ,List.getElem?_nil,List.getElem?_toArray,List.size_toArray,List.length_cons,List.length_nil,List.zipIdx_cons,List.zipIdx_nil,List.foldl_cons,List.foldl_nil,List.setIfInBounds_toArray,List.set_cons_zero,List.set_cons_succ,List.append_eq,List.nil_append,List.cons_append,List.append_nil,List.toList_toArray,true_and,and_true,true_or,or_true,or_false,false_or,and_self,if_true,if_false,ite_true,ite_false,Bool.false_eq_true,Nat.zero_add,Nat.add_zero,decide_true,decide_false,Bool.and_true,Bool.and_false,Bool.true_and,Bool.false_and,Option.isNone_some,Option.isNone_none,Int.reduceLT,Int.reduceLE,Int.reduceToNat,Int.toNat_natCast,Int.reduceAdd,Int.reduceSub,Int.reduceMul,Int.reduceNeg,Int.reduceEq,Int.reduceNe,Int.reduceBEq,Int.reduceBNe,Nat.mul_one,List.extract_toArray,List.extract_eq_take_drop,List.drop_zero,List.drop_succ_cons,List.take_zero,List.take_succ_cons,Nat.sub_zero,Nat.add_sub_cancel,Nat.add_sub_cancel_left,vcS_nil,vcS_cons,vcS_gate,gateS_true,gateS_false,stepB_true,stepB_false,pureI,Nat.zero_mul,Nat.one_mul,Nat.reduceMul,Nat.reduceSub,List.all_toArray',List.all_cons,List.all_nil,size_set,size_alloc,size_drew,get_alloc_new,get_set_same,get_drew,Nat.lt_add_one,vcD_nil,vcD_cons,vcD_gate,gateD_true,gateD_false,stepD_pure,stepD_load,stepD_step,kindI,loadI] using hr) ?_
    have f1:=hmod2.keep (show w1.drew.heap[w'.heap.size]? = _ from e1) hne1
    have f2:=hmod2.keep (show w1.drew.heap[w.heap.size+1]? = _ from hsh1.1) (by omega)
    refine ⟨⟨f1,f2⟩, ?_⟩
    simp only [true_and,h9,h10,h11]
    refine ⟨k-1,by omega, ?_,i+1,by omega,by rw [wrap_i64 _ (by omega)];rfl,f2, ?_,by omega⟩
    ·exact (hm.trans hm1).drew.then hmod2 (fun i hi hk=>by omega)
    ·have e:l.take (i+1)=l.take i ++ [p]:=by rw [List.take_add_one,hp1];rfl
     rw [e,List.foldl_append]
     exact hM2
  ·have hil:i=l.length:=by omega
   subst hil
   simp only [ZB,endK,resK,packed,insVc,ne_eq,Nat.reduceEqDiff,Zad,hi,h3]
   rw [List.take_length] at hsh
   exact h w' _ _ hm (by omega) (Nat.le_refl _) hsh
def plainI (x:Int):Bool:=(decide (x ≥ 97) && decide (x≤122)) || (decide (x ≥ 65) && decide (x≤90)) || (decide (x ≥ 48) && decide (x≤57)) || x == 45 || x == 95
theorem plain_c (x:Int) (w:World) (K:Value→World→Prop) (h:K (.bool (plainI x)) w):Ok prog 219 #[.int .i32 x] w K:=by
 refine F219.enter (args:=[.int .i32 x]) (by simp) ?_
 unfold c219 r219
 by_cases a1:x ≥ 97
 ·have n2:¬x≤90:=by omega
  have n3:¬x≤57:=by omega
  have n4:(x == 45)=false:=by rw [beq_eq_false_iff_ne];omega
  have m1:x ≥ 65:=by omega
  have m2:x ≥ 48:=by omega
  have n5:(x == 95)=false:=by rw [beq_eq_false_iff_ne];omega
  by_cases a2:x≤122
  ·simp only [plainI,a1,a2,decide_true,Zbw,Bool.and_self] at h
   simp only [ZB,endK,resK,packed,insVc,pickK,iopK,iopV,ne_eq,Nat.reduceEqDiff,reduceCtorEq,Zac,Za,Zad,Zaa,a1,a2];exact h
  ·simp only [plainI,a1,a2,n2,n3,n4,n5,m1,m2,decide_true,decide_false,Bool.and_false,Bool.or_self] at h
   simp only [ZB,endK,resK,packed,insVc,pickK,iopK,iopV,ne_eq,Nat.reduceEqDiff,reduceCtorEq,Zac,Za,Zad,Zaa,Zaf,a1,a2,n2,n3,n4,n5,m1,m2];exact h
 ·by_cases b1:x ≥ 65
  ·have m2:x ≥ 48:=by omega
   have n3:¬x≤57:=by omega
   have n4:(x == 45)=false:=by rw [beq_eq_false_iff_ne];omega
   by_cases b2:x≤90
   ·simp only [plainI,a1,b1,b2,decide_true,decide_false,Bool.false_and,Zbz,Zbw,Bool.and_self] at h
    simp only [ZB,endK,resK,packed,insVc,pickK,iopK,iopV,ne_eq,Nat.reduceEqDiff,reduceCtorEq,Zac,Za,Zad,Zaa,Zaf,a1,b1,b2];exact h
   ·simp only [plainI,a1,b1,b2,n3,n4,m2,decide_true,decide_false,Bool.false_and,Bool.and_false,Zbz,Bool.or_self] at h
    simp only [ZB,endK,resK,packed,insVc,pickK,iopK,iopV,ne_eq,Nat.reduceEqDiff,reduceCtorEq,Zac,Za,Zad,Zaa,Zaf,a1,b1,b2,n3,n4,m2];exact h
  ·have n5:(x == 95)=false:=by rw [beq_eq_false_iff_ne];omega
   by_cases c1:x ≥ 48
   ·have n4:(x == 45)=false:=by rw [beq_eq_false_iff_ne];omega
    by_cases c2:x≤57
    ·simp only [plainI,a1,b1,c1,c2,decide_true,decide_false,Bool.false_and,Zbz,Zbw,Bool.and_self] at h
     simp only [ZB,endK,resK,packed,insVc,pickK,iopK,iopV,ne_eq,Nat.reduceEqDiff,reduceCtorEq,Zac,Za,Zad,Zaa,Zaf,a1,b1,c1,c2];exact h
    ·simp only [plainI,a1,b1,c1,c2,n4,n5,decide_true,decide_false,Bool.false_and,Bool.and_false,Bool.or_self] at h
     simp only [ZB,endK,resK,packed,insVc,pickK,iopK,iopV,ne_eq,Nat.reduceEqDiff,reduceCtorEq,Zac,Za,Zad,Zaa,Zaf,a1,b1,c1,c2,n4,n5];exact h
   ·simp only [plainI,a1,b1,c1,n5,decide_false,Bool.false_and,Zbz,Zc] at h
    simp only [ZB,insVc,pickK,iopK,iopV,ne_eq,Nat.reduceEqDiff,reduceCtorEq,Zac,Za,Zaf,a1,b1,c1]
    by_cases d:(x == 45)=true
    ·simp only [d] at h
     simp only [ZB,endK,resK,packed,insVc,pickK,ne_eq,Nat.reduceEqDiff,Zad,Zaa,d];exact h
    ·have d':(x == 45)=false:=by simpa using d
     simp only [d'] at h
     simp only [ZB,endK,resK,packed,insVc,pickK,iopK,iopV,ne_eq,Nat.reduceEqDiff,reduceCtorEq,Zac,Za,Zad,Zaf,d',n5];exact h
theorem notPlain_c (x:Int) (w:World) (K:Value→World→Prop) (h:K (.bool !(plainI x)) w):Ok prog 218 #[.int .i32 x] w K:=by
 refine F218.enter (args:=[.int .i32 x]) (by simp) ?_
 unfold c218 r218
 simp only [ZB,insVc,ne_eq,reduceCtorEq,Zac,Zae,Zab,Za]
 refine plain_c x w _ ?_
 simp only [ZB,endK,resK,packed,insVc,notK,Zad]
 exact h
def nameB (s:ByteArray):Bool:=!(s.toList == (⟨#[]⟩:ByteArray).toList) && decide (s.size≤32) && !decide (0≤Lib.idxFunc (fun x => !(plainI x)) true s)
theorem containsFunc_c (s:ByteArray) (w:World) (K:Value→World→Prop) (h:∀w',Mod (fun _=>False) w w'→K (.bool (decide (0≤Lib.idxFunc (fun x => !(plainI x)) true s))) w') :
  Ok prog 217 #[.string s,.func (.func 218) #[] #[]] w K:=by
 refine ok_of_calls (by kernel_rfl) (Proofs.Tryz.strings_ContainsFunc 218 #[] (Go.Proofs.enters_of func218 (by kernel_rfl) rfl) (fun x => !(plainI x)) s w ?_) ?_
 ·intro W x _
  have hk:Ok prog 218 #[.int .i32 (x:Int)] W (fun v w'=>v = .bool (!(plainI x))∧w'=W):=notPlain_c x W _ ⟨rfl,rfl⟩
  refine (callsIn_wide.1 hk.2).mono ?_
  rintro e w' ⟨v,rfl,rfl,rfl⟩
  exact ⟨rfl,0,rfl⟩
 ·rintro e w' ⟨rfl,hlo⟩
  exact ⟨_,rfl,h w' (Mod.of_below hlo)⟩
theorem name_c (s:ByteArray) (w:World) (K:Value→World→Prop) (h:∀w',Mod (fun _=>False) w w'→K (.bool (nameB s)) w'):Ok prog 161 #[.string s] w K:=by
 refine F161.enter (args:=[.string s]) (by simp) ?_
 unfold c161 r161
 simp only [ZB,insVc,sopK,sopV,ne_eq,reduceCtorEq,Zac,Za]
 refine gateK_split ?_ ?_
 ·intro h1
  simp only [ZB,insVc,pickK,iopK,iopV,lenSK,ne_eq,Nat.reduceEqDiff,reduceCtorEq,Zac,Za,Zaa,h1]
  by_cases h2:(s.size:Int)≤32
  ·simp only [ZB,insVc,ne_eq,Nat.reduceEqDiff,reduceCtorEq,Zac,Zae,Zab,Za,h2]
   refine containsFunc_c s w _ ?_
   intro w1 hm
   simp only [ZB,endK,resK,packed,insVc,pickK,notK,ne_eq,Nat.reduceEqDiff,Zad,Zaa]
   have e:nameB s = !decide (0≤Lib.idxFunc (fun x => !(plainI x)) true s):=by
    have e1:(!(s.toList == (⟨#[]⟩:ByteArray).toList))=true:=h1
    have e2:decide (s.size≤32)=true:=by simpa using (by omega:s.size≤32)
    simp only [nameB,e1,e2,Bool.true_and]
   rw [e] at h
   exact h w1 hm
  ·simp only [ZB,endK,resK,packed,insVc,pickK,ne_eq,Nat.reduceEqDiff,Zad,Zaf,h2]
   have e:nameB s=false:=by
    have e2:decide (s.size≤32)=false:=by simpa using (by omega:32<s.size)
    simp only [nameB,e2,Bool.and_false,Bool.false_and]
   rw [e] at h
   exact h w (Mod.refl _ _)
 ·intro h1
  simp only [ZB,endK,resK,packed,insVc,pickK,ne_eq,Nat.reduceEqDiff,Zad,Zaf,h1]
  have e:nameB s=false:=by
   have e1:(!(s.toList == (⟨#[]⟩:ByteArray).toList))=false:=h1
   simp only [nameB,e1,Bool.false_and]
  rw [e] at h
  exact h w (Mod.refl _ _)
end Go.Oct
namespace Go.Oct
open Go Go.Vc
theorem before_less:∀a b:List UInt8,bytesBefore a b=Op.bytesLess a b
 | [],[]=>rfl
 | [],_ :: _=>rfl
 | _ :: _,[]=>rfl
 | a :: r,b :: s=>by simp only [bytesBefore,Op.bytesLess,before_less r s]
def SortedM (m:M):Prop:=m.Pairwise fun p q=>p.1<q.1
def inR (a b:List UInt8) (p:List UInt8 × List UInt8):Bool:=!(Op.bytesLess p.1 a || (!(b == []) && !(Op.bytesLess p.1 b)))
def rngM (a b:List UInt8) (m:M):M:=m.filter (inR a b)
theorem sort_keys {m:M} (h:SortedM m) {ss:List (List UInt8)} (hp:ss.Perm (m.map (·.1))):ss.mergeSort (fun x y=>decide (x≤y))=m.map (·.1):=by
 have h1:=mergeSort_of_perm hp
 have h2:(m.map (·.1)).Pairwise (fun a b=>leB a b=true):=by
  rw [List.pairwise_map]
  exact h.imp fun hab=>by simp only [leB,decide_eq_true_eq];exact List.le_of_lt hab
 have h3:=List.mergeSort_of_pairwise h2
 exact h1.trans h3
theorem look_mem:∀ {m:M},SortedM m→∀ {p},p∈m→lookM p.1 m=some p.2:=by
 intro m
 induction m with
 | nil=>intro _ p hp;cases hp
 | cons y r ih =>
  intro h p hp
  have h':=List.pairwise_cons.1 h
  unfold lookM
  rcases List.mem_cons.1 hp with rfl|hp
  ·simp
  ·have hlt:=h'.1 p hp
   have hne:¬y.1=p.1:=fun e=>by rw [e] at hlt;exact List.lt_irrefl _ hlt
   rw [if_neg (by simpa using hne)]
   exact ih h'.2 hp
theorem sorted_of_canon {m:M} (h:Maps.Canon (DM m)):SortedM m:=by
 obtain ⟨es,he,hp,_⟩:=h
 have e:encM m=es:=by injection he
 subst e
 unfold encM at hp
 rw [List.pairwise_map] at hp
 refine hp.imp fun {p q} hpq => ?_
 have:bytesBefore p.1 q.1=true:=hpq
 rw [before_less,Go.Proofs.bytesLess_eq] at this
 exact of_decide_eq_true this
end Go.Oct
namespace Go.Vc
open Go Go.Proofs.Tryz
variable {P:Program}
theorem callK_mono {K K':Value→World→Prop} {f:FuncId} {args:List Value} {w:World} (h:CallK P K f args w) (hk:∀v w',K v w'→K' v w'):CallK P K' f args w:=Ok.mono h hk
theorem callvK_mono {K K':Value→World→Prop} {w:World} {args:List Value} {y:Value} (h:callvK P K w args y) (hk:∀v w',K v w'→K' v w'):callvK P K' w args y:=by
 cases y with
 | func f first cap =>
  cases f with
  | func f=>exact callK_mono h hk
  | yield l=>exact upon_mono hk h
  | _=>exact False.elim h
 | _=>exact False.elim h
def Kept (lo:Nat) (w u:World):Prop:=w.heap.size≤u.heap.size∧∀k,lo≤k→k<w.heap.size→u.heap[k]? = w.heap[k]?
theorem Kept.refl (lo:Nat) (w:World):Kept lo w w:=⟨Nat.le_refl _,fun _ _ _=>rfl⟩
theorem Kept.keep {lo:Nat} {w a b:World} (h:Kept lo w a) {S:Nat→Prop} (hm:Mod S a b) (hS:∀k,lo≤k→k<w.heap.size→¬S k):Kept lo w b:=by
 have h1:=h.1
 exact ⟨Nat.le_trans h.1 hm.size,fun k h2 h3=>(hm.get k (by omega) (hS k h2 h3)).trans (h.2 k h2 h3)⟩
theorem Kept.at {lo:Nat} {w u:World} (h:Kept lo w u) {k:Nat} {o:Obj} (hk:w.heap[k]? = some o) (hlo:lo≤k):u.heap[k]? = some o:=(h.2 k hlo (lt_of_get hk)).trans hk
theorem Kept.trans {lo:Nat} {a b c:World} (h:Kept lo a b) (k:Kept lo b c):Kept lo a c:=by
 have h1:=h.1
 exact ⟨Nat.le_trans h.1 k.1,fun i h2 h3=>(k.2 i h2 (by omega)).trans (h.2 i h2 h3)⟩
end Go.Vc
