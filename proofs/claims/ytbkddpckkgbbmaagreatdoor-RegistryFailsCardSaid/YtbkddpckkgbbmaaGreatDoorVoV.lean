import Derived.Test.YtbkddpckkgbbmaaGreatDoorVoT
set_option linter.unusedSimpArgs false
set_option linter.unusedVariables false
set_option linter.unusedSectionVars false
set_option linter.unnecessarySimpa false
namespace Go.Oct
open Go Go.Vc Go.VrA
set_option maxRecDepth 100000
noncomputable def c32r : CC:=subC c32 [1,1]
theorem c32_s : c32 = .seq (subC c32 [0]) (.seq (subC c32 [1,0]) c32r):=rfl
theorem route0_c {σ : Type} (St : Sto σ) (s : σ) (key : ByteArray) (m : Int) (w : World) (K : Value→World→Prop) (hAt : St.At s w) (hg : Gl m w) (hs : key.size < 4294967281)
    (hv : (St.get s (queueK key).1).1.1.size < 2 ^ 60)
    (h1 : (St.find s key).1.2≠0→∀ w',Mod St.own w w'→St.At (St.find s key).2 w'→K (.tuple #[.slice none 0 0,.int .i64 (St.find s key).1.2]) w')
    (h2 : (St.find s key).1.2 = 0→∀ w' g,Mod St.own w w'→St.At (St.find s key).2 w'→w'.heap[g]? = some (.cells #[.string key] 9 (0,0))→K (.tuple #[.slice (some ⟨g,0,none⟩) 1 1,.int .i64 0]) w') :
    Ok Proofs.Tryz.prog 32 #[.iface St.t St.v,.string ⟨#[]⟩,.string key] w K:=by
  refine F32.enter (args:=[.iface St.t St.v,.string ⟨#[]⟩,.string key]) (by simp) ?_
  rw [c32_s]
  unfold r32
  have hee : ((⟨#[]⟩ : ByteArray).toList == (⟨#[]⟩ : ByteArray).toList) = true:=by simp
  simp only [ZB,subC,c32,insVc,load1K,sopK,sopV,Value.cells,ne_eq,Nat.reduceEqDiff,Nat.reduceAdd,reduceCtorEq,Zab,Zad,Zae,Za,Zaf,Zah,Zac,Zag,get_alloc,Zaq,Nat.reduceAdd,Zbl,Nat.reduceEqDiff,Zbi,hee]
  refine callK_gen ?_
  intro w1 hw1
  have hm1 : Mod (fun _=>False) w w1:=by rw [hw1]; exact (((Mod.refl _ _).alloc _).alloc _).alloc _
  have k1 : w1.heap[w.heap.size]? = some (.cells #[.string key] 9 (0,0)):=by rw [hw1]; simp only [Nat.reduceAdd,reduceCtorEq,Zac,Zag,size_alloc,get_alloc,size_alloc,Zaq,Nat.reduceAdd,Zbl,Zbi]
  have a1 : w1.heap[w.heap.size + 1]? = some (.cells #[.slice none 0 0] 80 (0,0)):=by rw [hw1]; simp only [Nat.reduceEqDiff,Nat.reduceAdd,Zac,Zag,size_alloc,get_alloc,size_alloc,Zaq,Nat.reduceAdd,Zbm,Zbj,Nat.reduceEqDiff,Zbi]
  have b1 : w1.heap[w.heap.size + 2]? = some (.cells #[.int .i64 0] 23 (0,0)):=by rw [hw1]; simp only [Nat.reduceEqDiff,Nat.reduceAdd,reduceCtorEq,Zac,Zag,size_alloc,get_alloc,size_alloc,Zaq,Nat.reduceAdd,Zbm,Zbj,Nat.reduceEqDiff]
  clear hw1
  refine find_c St s key m w1 _ (St.keep0 hAt hm1) (hg.mod hm1 id) hs hv ?_
  intro w2 hm2 hA2
  have hno : ∀ k,w.heap.size≤k→¬ St.own k:=fun k hk x=>by have:=St.footLt s w _ hAt (St.ownFoot _ x); omega
  have k2:=hm2.keep k1 (hno _ (by omega))
  have a2:=hm2.keep a1 (hno _ (by omega))
  have b2:=hm2.keep b1 (hno _ (by omega))
  have hm12 : Mod St.own w w2:=(hm1.mono (fun _ _ x=>x.elim)).trans hm2
  have l1:=lt_of_get k2
  have l2:=lt_of_get a2
  have l3:=lt_of_get b2
  have fin : ∀ w4,Mod (fun k=>w.heap.size≤k) w2 w4→Mod St.own w w4∧St.At (St.find s key).2 w4:=by
    intro w4 hm4
    exact ⟨hm12.then hm4 (fun i hi hk=>by omega),St.keep _ _ w2 w4 hA2 hm4 (fun k _ hk hf=>by have:=St.footLt s w k hAt hf; omega)⟩
  revert h1 h2
  generalize (St.find s key).1 = F at *
  intro h1 h2
  have f12 : ¬ w.heap.size + 1 = w2.heap.size:=by omega
  have f22 : ¬ w.heap.size + 2 = w2.heap.size:=by omega
  have f02 : ¬ w.heap.size = w2.heap.size:=by omega
  simp only [ZB,insVc,storeNK,setMany,iopK,iopV,extK,isPlain,Value.cells,ne_eq,Nat.reduceEqDiff,Nat.reduceAdd,Nat.reduceLeDiff,reduceCtorEq,Za,Zaf,Zah,Zak,Zai,Zaj,Zal,Zam,Zan,Zas,Zat,Zau,Zbg,Qu.val,Qu.cells]
  refine condP_gen ?_
  intro w3 hw3
  have hm3 : Mod (fun k=>w.heap.size≤k) w2 w3:=by rw [hw3]; exact ((Mod.refl _ _).alloc _).set (.inr (by omega))
  have hz3:=hm3.size
  have k3 : w3.heap[w.heap.size]? = some (.cells #[.string key] 9 (0,0)):=by rw [hw3]; simp only [and_true,Zag,size_alloc,Zao,get_alloc,get_set,size_alloc,f02,k2]
  have a3 : w3.heap[w.heap.size + 1]? = some (.cells #[.slice none 0 0] 80 (0,0)):=by rw [hw3]; simp only [and_true,Zag,size_alloc,Zao,get_alloc,get_set,size_alloc,f12,a2]
  have b3 : w3.heap[w.heap.size + 2]? = some (.cells #[.int .i64 0] 23 (0,0)):=by rw [hw3]; simp only [and_true,Zag,size_alloc,Zao,get_alloc,get_set,size_alloc,f22,b2]
  clear hw3
  have l4:=lt_of_get k3
  have l5:=lt_of_get a3
  have l6:=lt_of_get b3
  have g1 : ¬ w.heap.size + 1 = w3.heap.size:=by omega
  have g2 : ¬ w.heap.size + 2 = w3.heap.size:=by omega
  refine condP_split ?_ ?_
  · intro hc
    have hc' : F.2≠0:=by simpa using hc
    simp only [ZB,endK,resK,res1,packed,insVc,storeK,isPlain,ne_eq,Nat.reduceEqDiff,Nat.reduceLT,Nat.reduceLeDiff,Zak,Zai,Zaj,Zal,Zam,Zaa,Zap,Zag,Zbe,Zao,get_set,Zbm,Nat.reduceEqDiff,Nat.reduceLT,a3,b3,l5,l6]
    obtain ⟨x1,x2⟩:=fin _ ((hm3.set (b:=w.heap.size + 1) (o:=.cells #[.slice none 0 0] 80 (0,0)) (.inr (by omega))).set (b:=w.heap.size + 2) (o:=.cells #[.int .i64 F.2] 23 (0,0)) (.inr (by omega)))
    exact h1 hc' _ x1 x2
  · intro hc
    have hc' : F.2 = 0:=by simpa using hc
    have g3 : w.heap.size + 1 < w3.heap.size + 1:=by omega
    have g4 : w.heap.size + 2 < w3.heap.size + 1:=by omega
    simp only [ZB,endK,resK,res1,packed,insVc,load1K,storeK,fillL,buildSK,isPlain,Value.cells,ne_eq,Nat.reduceEqDiff,Nat.reduceLT,Nat.reduceLeDiff,Za,Zah,Zak,Zai,Zaj,Zbc,Zbd,Zba,Zbb,Zal,Zam,Zaa,Zap,Zbf,Zac,Zag,Zbe,Zao,get_alloc,get_set,Zbm,Nat.reduceEqDiff,Nat.reduceLT,k3,a3,b3,g1,g2,g3,g4]
    obtain ⟨x1,x2⟩:=fin _ (((hm3.alloc (.cells #[.string key] 9)).set (b:=w.heap.size + 1) (o:=.cells #[.slice (some ⟨w3.heap.size,0,none⟩) 1 1] 80 (0,0)) (.inr (by omega))).set (b:=w.heap.size + 2) (o:=.cells #[.int .i64 0] 23 (0,0)) (.inr (by omega)))
    refine h2 hc' _ w3.heap.size x1 x2 ?_
    have y1 : ¬ w3.heap.size = w.heap.size + 1:=by omega
    have y2 : ¬ w3.heap.size = w.heap.size + 2:=by omega
    simp only [Zac,Zag,size_set,size_alloc,get_alloc,get_set,size_alloc,size_set,false_and,y1,y2]
end Go.Oct
namespace Go.Oct
open Go Go.Vc Go.VrA
set_option maxRecDepth 100000
def aB : ByteArray:=⟨#[97]⟩
def qkL : List UInt8:=[2,113,0,0,2,97,0,0]
def ckL : List UInt8:=[2,99,0,0,2,97,0,0]
theorem queueK_a : queueK aB = (⟨qkL.toArray⟩,0):=by decide
theorem nameB_a : nameB aB = true:=by
  unfold nameB
  have h : Lib.idxFunc (fun x => !(plainI x)) true aB = -1:=by decide
  rw [h]
  simp [aB,ByteArray.toList_eq,ByteArray.size]
def qa : Qu:=⟨aB,0,0,0,e0⟩
theorem find_shelf (sb mb : Nat) (h0 : 0≠mb) (n : Nat) (M0 : M) : (shelf sb mb h0).find (n,M0) aB = (findR aB (⟨((lookM qkL M0).getD []).toArray⟩,(lookM qkL M0).isSome,0),(n,M0)):=by
  unfold Sto.find
  rw [queueK_a,if_neg (by simp)]
  rfl
theorem declare_shelf (sb mb : Nat) (h0 : 0≠mb) (n : Nat) (M0 : M) : (shelf sb mb h0).declare (n,M0) qa =
    (let f:=findR aB (⟨((lookM qkL M0).getD []).toArray⟩,(lookM qkL M0).isSome,0)
     if f.2 = 0 then (22,(n,M0)) else if f.2≠21 then (f.2,(n,M0)) else (0,(n + 1,putM qkL (qbytes qa).data.toList M0))):=by
  have hd : emptyB e0 = true:=by simp [emptyB,e0,ByteArray.toList_eq]
  have hn : (e0.toList == aB.toList) = false:=by simp [e0,aB,ByteArray.toList_eq]
  unfold Sto.declare
  simp only [show qa.name = aB from rfl,show qa.dead = e0 from rfl,show qa.ttl = 0 from rfl,nameB_a,hd,hn,find_shelf]
  rw [if_neg (by simp),if_neg (by simp),if_neg (by simp),queueK_a]
  by_cases h1 : (findR aB (⟨((lookM qkL M0).getD []).toArray⟩,(lookM qkL M0).isSome,0)).2 = 0
  · rw [if_pos h1,if_pos h1]
  · rw [if_neg h1,if_neg h1]
    by_cases h2 : (findR aB (⟨((lookM qkL M0).getD []).toArray⟩,(lookM qkL M0).isSome,0)).2≠21
    · rw [if_pos h2,if_pos h2]
    · rw [if_neg h2,if_neg h2]
      rfl
theorem find_new : findR aB (⟨((lookM qkL ([] : M)).getD []).toArray⟩,(lookM qkL ([] : M)).isSome,0) = (q0,21):=by rfl
theorem find_put : findR aB (⟨((lookM qkL (putM qkL (qbytes qa).data.toList [])).getD []).toArray⟩,(lookM qkL (putM qkL (qbytes qa).data.toList [])).isSome,0) = (qa,0):=by rfl
theorem find_state (sb mb : Nat) (h0 : 0≠mb) (s : Nat × M) (name : ByteArray) : ((shelf sb mb h0).find s name).2 = s:=by
  unfold Sto.find
  split
  · rfl
  · rfl
theorem get_size (sb mb : Nat) (h0 : 0≠mb) (s : Nat × M) (N : Nat) (hN : 0 < N) (h : ∀ p ∈ s.2,p.2.length < N) (k : ByteArray) : ((shelf sb mb h0).get s k).1.1.size < N:=by
  show (ByteArray.mk ((lookM k.data.toList s.2).getD []).toArray).size < N
  have : ∀ (M0 : M),(∀ p ∈ M0,p.2.length < N)→((lookM k.data.toList M0).getD []).length < N:=by
    intro M0
    induction M0 with
    | nil=>intro _; simpa [lookM] using hN
    | cons y r ih =>
      intro h
      unfold lookM
      split
      · exact h y (by simp)
      · exact ih (fun p hp=>h p (by simp [hp]))
  simpa [ByteArray.size] using this s.2 h
theorem awake_c (m : Int) (w : World) (K : Value→World→Prop) (hg : Gl m w) (h : ∀ w',Mod (fun _=>False) w w'→K (.bool true) w') : Ok Proofs.Tryz.prog 9 #[] w K:=by
  refine F9.enter (args:=[]) (by simp) ?_
  unfold c9 r9
  simp only [ZB,insVc,Zad,Zae]
  have h0w : 0 < w.heap.size:=World.block_lt_of_cell? w _ hg
  refine new_c [] _ w _ (.inl ⟨rfl,_,rfl⟩) (by simp) (fun _ h=>by cases h) ?_
  intro w1 sb mb hm1 hsb hmb hs1
  have h0 : 0≠mb:=by omega
  simp only [ZB,insVc,nilOf,pnilK,buildK,fillL,Value.cells,ne_eq,Nat.reduceEqDiff,Nat.reduceAdd,Nat.reduceLeDiff,Zad,Zae,Zak,Zai,Zaj,Zbc,Zbd,Zba,Zbb,Zal,Zam,Zbf,Zac,Zag,Zbq]
  have hs1' : (shelf sb mb h0).At (0,[]) w1:=hs1
  refine declare_c (shelf sb mb h0) (0,[]) qa m w1 _ hs1' (hg.mod hm1 id) (by decide) ⟨by decide,by decide,by decide,by decide⟩ (by decide) ?_ ?_ ?_ ?_ ?_
  · exact get_size _ _ _ _ _ (by decide) (fun p hp=>by cases hp)
  · rw [find_state]; exact get_size _ _ _ _ _ (by decide) (fun p hp=>by cases hp)
  · rw [find_state]; show (0 : Nat) < maxLen; decide
  · rw [find_state,find_state]; show (0 : Nat) < maxLen; decide
  intro w2 hm2 hs2
  have hd : (shelf sb mb h0).declare (0,[]) qa = (0,(1,putM qkL (qbytes qa).data.toList [])):=by
    rw [declare_shelf,find_new]
    simp
  rw [hd] at hs2
  have hm12 : Mod (fun _=>False) w w2:=hm1.then hm2 (fun i hi hk=>by have hk' : i = mb:=hk; omega)
  simp only [ZB,insVc,ne_eq,Nat.reduceEqDiff,Zad,Zae,hd]
  have hf : (shelf sb mb h0).find (1,putM qkL (qbytes qa).data.toList []) aB = ((qa,0),(1,putM qkL (qbytes qa).data.toList [])):=by
    rw [find_shelf,find_put]
  refine route0_c (shelf sb mb h0) (1,putM qkL (qbytes qa).data.toList []) aB m w2 _ hs2 (hg.mod hm12 id) (by decide) ?_ ?_ ?_
  · rw [queueK_a]
    exact get_size _ _ _ _ _ (by decide) (by decide) _
  · intro hx; rw [hf] at hx; exact (hx rfl).elim
  intro _ w3 g hm3 hs3 hg3
  have e1 : ((((1 : Nat) : Int)) == 1) = true:=rfl
  have e2 : (aB.toList == (⟨#[97]⟩ : ByteArray).toList) = true:=by simp [aB]
  have e3 : (0 : Int) < ((1 : Nat) : Int):=by decide
  have e4 : (0 : Int)≤0:=by decide
  simp only [ZB,endK,resK,packed,insVc,pickK,load1K,iopK,iopV,sopK,sopV,iaddrK,extK,lenLK,ne_eq,Nat.reduceEqDiff,reduceCtorEq,Za,Zaf,Zah,Zaa,Zac,Int.reduceToNat,Int.reduceBEq,Zbh,hg3,e1,e2,e3,e4]
  refine h _ (hm12.then hm3 (fun i hi hk=>by have hk' : i = mb:=hk; omega))
end Go.Oct
