import Derived.Test.YtcbacomljnjacaaGreatDoorVpC
import Derived.Test.YtcbacomljnjacaaGreatDoorProg
import Derived.Test.YtcbacomljnjacaaGreatDoorVcI
set_option linter.unusedSimpArgs false
set_option linter.unusedVariables false
set_option linter.unusedSectionVars false
set_option linter.unnecessarySimpa false
namespace Go.Oct
open Go Go.Vc Go.VrA Go.VrB
set_option maxRecDepth 100000
def keysR (m : Ms) : ByteArray × ByteArray × Int :=
  if (messageK m.queue m.id).2≠0∨m.expiry = 0 then ((messageK m.queue m.id).1,e0,(messageK m.queue m.id).2) else ((messageK m.queue m.id).1,(termK m.expiry m.queue m.id).1,(termK m.expiry m.queue m.id).2)
theorem keys_c (q : Ms) (m : Int) (w : World) (K : Value→World→Prop) (hg : Gl m w) (hs : q.queue.size < 4294967281) (hi : q.id < 2 ^ 64) (he : q.expiry < 2 ^ 64)
    (h : ∀ w',Mod (fun _=>False) w w'→K (.tuple #[.string (keysR q).1,.string (keysR q).2.1,.int .i64 (keysR q).2.2]) w') :
    Ok Proofs.Tryz.prog 139 #[q.val] w K:=by
  refine F139.enter (args:=[q.val]) (by simp) ?_
  unfold c139 r139
  simp only [ZB,insVc,load1K,faddrK,Value.cells,ne_eq,Nat.reduceEqDiff,Zaf,Zad,Zac,Za,Zag,Zah,Zbk,Ms.val,Ms.cells]
  refine callK_gen ?_
  intro w1 hw1
  have hm1 : Mod (fun _=>False) w w1:=by rw [hw1]; exact (Mod.refl _ _).alloc _
  have e1 : w1.heap[w.heap.size]? = some (.cells #[.string q.queue,.int .u64 q.id,.int .u32 q.tries,.int .u64 q.expiry,.string q.body] 128 (0,0)):=by rw [hw1]; exact get_alloc_new _ _
  clear hw1
  refine message_c q.queue q.id m w1 _ (hg.mod hm1 id) hs hi ?_
  intro w2 hm2
  have e2:=hm2.keep e1 id
  have hm12:=hm1.trans hm2
  have tail : ∀ (G : Value→World→Prop),(messageK q.queue q.id).2 = 0→q.expiry≠0→(∀ w',Mod (fun _=>False) w w'→G (.tuple #[.string (termK q.expiry q.queue q.id).1,.int .i64 (termK q.expiry q.queue q.id).2]) w')→Ok Proofs.Tryz.prog 199 #[.int .u64 q.expiry,.string q.queue,.int .u64 q.id] w2 G:=by
    intro G _ _ hG
    exact term_c q.expiry q.queue q.id m w2 G (hg.mod hm12 id) he hs hi (fun w' hm'=>hG w' (hm12.trans hm'))
  unfold keysR at h
  by_cases h1 : (messageK q.queue q.id).2 = 0
  · have b1 : ((messageK q.queue q.id).2 != 0) = false:=by simpa using h1
    by_cases h2 : q.expiry = 0
    · have b2 : (((0 : Nat) : Int) == 0) = true:=rfl
      rw [if_pos (.inr h2)] at h
      simp only [ZB,endK,resK,packed,insVc,pickK,load1K,iopK,iopV,faddrK,extK,ne_eq,Nat.reduceEqDiff,reduceCtorEq,Za,Zag,Zah,Zaa,Zav,Zae,b1,e2,h2,b2]
      exact h w2 hm12
    · have b2 : ((q.expiry : Int) == 0) = false:=by rw [beq_eq_false_iff_ne]; omega
      rw [if_neg (by simp [h1,h2])] at h
      simp only [ZB,insVc,pickK,load1K,iopK,iopV,faddrK,extK,ne_eq,Nat.reduceEqDiff,reduceCtorEq,Zad,Zac,Za,Zag,Zah,Zae,b1,e2,b2]
      refine tail _ h1 h2 ?_
      intro w' hm'
      simp only [ZB,endK,resK,packed,insVc,extK,ne_eq,Nat.reduceEqDiff,Za,Zag,Zah,Zaa,Zav]
      exact h w' hm'
  · have b1 : ((messageK q.queue q.id).2 != 0) = true:=by simpa using h1
    rw [if_pos (.inl h1)] at h
    simp only [ZB,endK,resK,packed,insVc,pickK,iopK,iopV,extK,ne_eq,Nat.reduceEqDiff,reduceCtorEq,Za,Zag,Zah,Zaa,Zav,Zab,b1]
    exact h w2 hm12
def Sto.mput {σ : Type} (St : Sto σ) (s : σ) (q : Ms) : Int × σ :=
  if (keysR q).2.2≠0 then ((keysR q).2.2,s) else
  if (St.put s (keysR q).1 (mbytes q)).1≠0∨emptyB (keysR q).2.1 = true then St.put s (keysR q).1 (mbytes q) else
  St.put (St.put s (keysR q).1 (mbytes q)).2 (keysR q).2.1 ⟨#[]⟩
theorem mput66_c {σ : Type} (St : Sto σ) (s : σ) (q : Ms) (m : Int) (w : World) (K : Value→World→Prop) (hAt : St.At s w) (hg : Gl m w) (hs : q.queue.size < 4294967281) (hi : q.id < 2 ^ 64) (hq : q.good)
    (hf : St.fit s) (hf2 : St.fit (St.put s (keysR q).1 (mbytes q)).2)
    (h : ∀ w',Mod St.own w w'→St.At (St.mput s q).2 w'→K (.int .i64 (St.mput s q).1) w') :
    Ok Proofs.Tryz.prog 140 #[.iface St.t St.v,q.val] w K:=by
  refine F140.enter (args:=[.iface St.t St.v,q.val]) (by simp) ?_
  unfold c140 r140
  simp only [ZB,insVc,loadNK,Value.cells,ne_eq,Nat.reduceEqDiff,Nat.reduceAdd,Nat.reduceLeDiff,Zaf,Zad,Zac,Za,Zag,Zai,Zaj,Zak,Zaq,Zap,Zar,Zao,Zas,Zat,Zbk,Ms.val,Ms.cells]
  refine callK_gen ?_
  intro w1 hw1
  have hm1 : Mod (fun _=>False) w w1:=by rw [hw1]; exact (Mod.refl _ _).alloc _
  have e1 : w1.heap[w.heap.size]? = some (.cells #[.string q.queue,.int .u64 q.id,.int .u32 q.tries,.int .u64 q.expiry,.string q.body] 128 (0,0)):=by rw [hw1]; exact get_alloc_new _ _
  clear hw1
  refine keys_c q m w1 _ (hg.mod hm1 id) hs hi hq.2.1 ?_
  intro w2 hm2
  have e2:=hm2.keep e1 id
  have hm12:=hm1.trans hm2
  have hA2:=St.keep0 hAt hm12
  unfold Sto.mput at h
  have hfoot : ¬ St.foot w.heap.size:=fun x=>by have:=St.footLt s w _ hAt x; omega
  have hno : ¬ St.own w.heap.size:=fun x=>hfoot (St.ownFoot _ x)
  simp only [ZB,insVc,iopK,iopV,extK,ne_eq,Nat.reduceEqDiff,reduceCtorEq,Za,Zag,Zah]
  refine condP_split ?_ ?_
  · intro hc
    have hc' : (keysR q).2.2≠0:=by simpa using hc
    rw [if_pos hc'] at h
    simp only [ZB,endK,resK,packed,insVc,ne_eq,Nat.reduceEqDiff,Zaa]
    exact h w2 (hm12.mono fun _ _ x=>x.elim) hA2
  intro hc
  have hc' : (keysR q).2.2 = 0:=by simpa using hc
  rw [if_neg (by simpa using hc')] at h
  simp only [ZB]
  refine draw_d (fun W=>W.heap[w.heap.size]? = some (.cells #[.string q.queue,.int .u64 q.id,.int .u32 q.tries,.int .u64 q.expiry,.string q.body] 128 (0,0))) (by kernel_rfl) (by kernel_rfl) (by kernel_rfl) (by kernel_rfl) e2 ?_
  simp only [ZB,insVc,nilK,nilM,iopK,iopV,faddrK,invK,ne_eq,Nat.reduceEqDiff,reduceCtorEq,Zaf,Zad,Zac,Za,Zah,Zab,Zae,pureI,vcD_nil,vcD_cons,stepD_pure,stepD_load,stepD_step,kindI,loadI,St.putNil,implies_true]
  refine loadD1 (b:=w.heap.size) (o:=0) (v:=.string q.queue) rfl (fun W hW=>⟨_,_,_,hW,rfl⟩) ?_
  refine loadD1 (b:=w.heap.size) (o:=1) (v:=.int .u64 q.id) rfl (fun W hW=>⟨_,_,_,hW,rfl⟩) ?_
  refine messages_c q.queue q.id _ _ ?_
  intro w3 mv hm3 hM3
  have e3:=hm3.keep (show w2.drew.heap[w.heap.size]? = _ from e2) id
  refine ⟨e3, ?_⟩
  refine loadDN (b:=w.heap.size) (o:=0) (v:=q.val) (by simp only [ZB,ne_eq,Nat.reduceEqDiff]) (fun W hW=>⟨_,_,_,hW,by simp,rfl⟩) ?_
  refine mbytes_c mv _ q.queue q.id q w3 _ hM3 hq ?_
  intro w4 hm4
  have e4:=hm4.keep e3 id
  refine ⟨e4, ?_⟩
  have hm14 : Mod (fun _=>False) w w4:=(hm12.drew.trans hm3).trans hm4
  refine St.putOk s (keysR q).1 (mbytes q) w4 _ (St.keep0 hAt hm14) hf ?_
  intro w5 hm5 hA5
  refine ⟨hm5.keep e4 hno, ?_⟩
  have hm15 : Mod St.own w w5:=(hm14.mono fun _ _ x=>x.elim).trans hm5
  revert h hf2 hA5
  generalize St.put s (keysR q).1 (mbytes q) = P
  intro hf2 h hA5
  simp only [true_and]
  have hfin : (P.1≠0∨emptyB (keysR q).2.1 = true)→K (.int .i64 P.1) w5:=by
    intro hx
    rw [if_pos hx] at h
    exact h w5 hm15 hA5
  by_cases h1 : P.1 = 0
  · have b1 : (P.1 != 0) = false:=by simpa using h1
    cases h2 : emptyB (keysR q).2.1 with
    | true =>
      have h2' : ((keysR q).2.1.toList == (⟨#[]⟩ : ByteArray).toList) = true:=h2
      simp only [ZB,endK,resK,packed,insVc,pickK,sopK,sopV,ne_eq,Nat.reduceEqDiff,Zaa,Zae,b1,h2']
      exact hfin (.inr h2)
    | false =>
      have h2' : ((keysR q).2.1.toList == (⟨#[]⟩ : ByteArray).toList) = false:=h2
      rw [if_neg (by simp [h1,h2])] at h
      simp only [ZB,insVc,pickK,sopK,sopV,invK,ne_eq,Nat.reduceEqDiff,reduceCtorEq,Zaf,Zad,Zac,Za,Zae,b1,h2']
      refine St.putOk P.2 (keysR q).2.1 ⟨#[]⟩ w5 _ hA5 hf2 ?_
      intro w6 hm6 hA6
      simp only [ZB,endK,resK,packed,insVc,Zaa]
      exact h w6 (hm15.trans hm6) hA6
  · have b1 : (P.1 != 0) = true:=by simpa using h1
    simp only [ZB,endK,resK,packed,insVc,pickK,ne_eq,Nat.reduceEqDiff,Zaa,Zab,b1]
    exact hfin (.inl h1)
def Sto.madd {σ : Type} (St : Sto σ) (s : σ) (q : Ms) : Int × σ :=
  if (keysR q).2.2≠0 then ((keysR q).2.2,s) else
  if (St.get s (keysR q).1).1.2.2≠0 then ((St.get s (keysR q).1).1.2.2,(St.get s (keysR q).1).2) else
  if (St.get s (keysR q).1).1.2.1 = true then (22,(St.get s (keysR q).1).2) else St.mput (St.get s (keysR q).1).2 q
theorem keysR_size (q : Ms) : (keysR q).1.size≤255:=by
  unfold keysR
  split
  · exact keyL_size _ _ (by simp)
  · exact keyL_size _ _ (by simp)
theorem madd_c {σ : Type} (St : Sto σ) (s : σ) (q : Ms) (m : Int) (w : World) (K : Value→World→Prop) (hAt : St.At s w) (hg : Gl m w) (hs : q.queue.size < 4294967281) (hi : q.id < 2 ^ 64) (hq : q.good)
    (hf : St.fit (St.get s (keysR q).1).2) (hf2 : St.fit (St.put (St.get s (keysR q).1).2 (keysR q).1 (mbytes q)).2) (h0 : 3 < w.heap.size)
    (h : ∀ w',Mod St.own w w'→St.At (St.madd s q).2 w'→K (.int .i64 (St.madd s q).1) w') :
    Ok Proofs.Tryz.prog 84 #[.iface St.t St.v,q.val] w K:=by
  refine F84.enter (args:=[.iface St.t St.v,q.val]) (by simp) ?_
  unfold c84 r84
  simp only [ZB,insVc,loadNK,Value.cells,ne_eq,Nat.reduceEqDiff,Nat.reduceAdd,Nat.reduceLeDiff,Zaf,Zad,Zac,Za,Zag,Zai,Zaj,Zak,Zaq,Zap,Zar,Zao,Zas,Zat,Zbk,Ms.val,Ms.cells]
  refine callK_gen ?_
  intro w1 hw1
  have hm1 : Mod (fun _=>False) w w1:=by rw [hw1]; exact (Mod.refl _ _).alloc _
  have e1 : w1.heap[w.heap.size]? = some (.cells #[.string q.queue,.int .u64 q.id,.int .u32 q.tries,.int .u64 q.expiry,.string q.body] 128 (0,0)):=by rw [hw1]; exact get_alloc_new _ _
  clear hw1
  refine keys_c q m w1 _ (hg.mod hm1 id) hs hi hq.2.1 ?_
  intro w2 hm2
  have e2:=hm2.keep e1 id
  have hm12:=hm1.trans hm2
  have hA2:=St.keep0 hAt hm12
  unfold Sto.madd at h
  have hfoot : ¬ St.foot w.heap.size:=fun x=>by have:=St.footLt s w _ hAt x; omega
  have hno : ¬ St.own w.heap.size:=fun x=>hfoot (St.ownFoot _ x)
  simp only [ZB,insVc,iopK,iopV,extK,ne_eq,Nat.reduceEqDiff,reduceCtorEq,Za,Zag,Zah]
  refine condP_split ?_ ?_
  · intro hc
    have hc' : (keysR q).2.2≠0:=by simpa using hc
    rw [if_pos hc'] at h
    simp only [ZB,endK,resK,packed,insVc,ne_eq,Nat.reduceEqDiff,Zaa]
    exact h w2 (hm12.mono fun _ _ x=>x.elim) hA2
  intro hc
  have hc' : (keysR q).2.2 = 0:=by simpa using hc
  rw [if_neg (by simpa using hc')] at h
  simp only [ZB,insVc,invK,ne_eq,Nat.reduceEqDiff,reduceCtorEq,Zaf,Zad,Zac,Za]
  refine St.getOk s (keysR q).1 w2 _ hA2 (keysR_size q) ?_
  intro w3 hm3 hA3
  have e3:=hm3.keep e2 hno
  have hm13 : Mod St.own w w3:=(hm12.mono fun _ _ x=>x.elim).trans hm3
  revert h hf hf2 hA3
  generalize St.get s (keysR q).1 = G
  intro hf hf2 h hA3
  simp only [ZB,insVc,iopK,iopV,extK,ne_eq,Nat.reduceEqDiff,reduceCtorEq,Za,Zag,Zah]
  refine condP_split ?_ ?_
  · intro hc
    have hc1 : G.1.2.2≠0:=by simpa using hc
    rw [if_pos hc1] at h
    simp only [ZB,endK,resK,packed,insVc,ne_eq,Nat.reduceEqDiff,Zaa]
    exact h w3 hm13 hA3
  intro hc
  have hc1 : G.1.2.2 = 0:=by simpa using hc
  rw [if_neg (by simpa using hc1)] at h
  simp only [ZB,insVc,ne_eq,Nat.reduceEqDiff]
  refine condP_split ?_ ?_
  · intro hk
    rw [if_pos hk] at h
    simp only [ZB,endK,resK,packed,insVc,Zaa]
    exact h w3 hm13 hA3
  intro hk
  rw [if_neg (by simp [hk])] at h
  simp only [ZB,insVc,loadNK,ne_eq,Nat.reduceEqDiff,Nat.reduceAdd,Nat.reduceLeDiff,reduceCtorEq,Zaf,Zad,Zac,Za,Zai,Zaj,Zak,Zaq,Zap,Zar,Zao,Zas,Zat,e3]
  refine mput66_c St G.2 q m w3 _ hA3 (hg.mod hm13 (fun x=>St.own0 x)) hs hi hq hf hf2 ?_
  intro w4 hm4 hA4
  simp only [ZB,endK,resK,packed,insVc,Zaa]
  exact h w4 (hm13.trans hm4) hA4
end Go.Oct
namespace Go.Oct
open Go Go.Vc Go.VrA Go.VrB
set_option maxRecDepth 100000
def PureGet {σ : Type} (St : Sto σ) (s : σ) : Prop:=∀ k w (G : Value→World→Prop),St.At s w→k.size≤255 →
  (∀ w',Mod (fun _=>False) w w'→G (.tuple #[.string (St.get s k).1.1,.bool (St.get s k).1.2.1,.int .i64 (St.get s k).1.2.2]) w')→InvK Proofs.Tryz.prog G St.t St.v "Get" [.string k] w
theorem pureGet_shelf (sb mb : Nat) (h0 : 3≠mb) (s : Nat × M) : PureGet (shelf sb mb h0) s :=
  fun k w G h hk hG=>⟨350,ptr sb,by kernel_rfl,sget_c sb mb s.1 s.2 k w G h (by simp [maxLen]; omega) (hG w (Mod.refl _ _))⟩
def mfound (queue : ByteArray) (n : Nat) (g : ByteArray × Bool × Int) : Ms × Int :=
  if g.2.2≠0 then (ms0,g.2.2) else if g.2.1 = false then (ms0,21) else mread queue n g.1
def Sto.mgetR {σ : Type} (St : Sto σ) (s : σ) (queue : ByteArray) (n : Nat) : Ms × Int :=
  if (messageK queue n).2≠0 then (ms0,21) else mfound queue n (St.get s (messageK queue n).1).1
theorem msget_c {σ : Type} (St : Sto σ) (s : σ) (hp : PureGet St s) (queue : ByteArray) (n : Nat) (m : Int) (w : World) (K : Value→World→Prop) (hAt : St.At s w) (hg : Gl m w) (hs : queue.size < 4294967281) (hn : n < 2 ^ 64)
    (hv : (St.get s (messageK queue n).1).1.1.size < 2 ^ 60)
    (h : ∀ w',Mod (fun _=>False) w w'→K (.tuple #[(St.mgetR s queue n).1.val,.int .i64 (St.mgetR s queue n).2]) w') :
    Ok Proofs.Tryz.prog 145 #[.iface St.t St.v,.string queue,.int .u64 n] w K:=by
  refine F145.enter (args:=[.iface St.t St.v,.string queue,.int .u64 n]) (by simp) ?_
  unfold c145 r145
  simp only [ZB,insVc,Value.cells,ne_eq,Nat.reduceEqDiff,Zaf,Zad,Zac,Za,Zag]
  refine callK_gen ?_
  intro w1 hw1
  have hm1 : Mod (fun _=>False) w w1:=by rw [hw1]; exact (Mod.refl _ _).alloc _
  have e1 : w1.heap[w.heap.size]? = some (.cells zms 128 (0,0)):=by rw [hw1]; exact get_alloc_new _ _
  clear hw1
  refine message_c queue n m w1 _ (hg.mod hm1 id) hs hn ?_
  intro w2 hm2
  have e2:=hm2.keep e1 id
  have hm12:=hm1.trans hm2
  have hA2:=St.keep0 hAt hm12
  unfold Sto.mgetR at h
  simp only [ZB,insVc,iopK,iopV,extK,ne_eq,Nat.reduceEqDiff,reduceCtorEq,Za,Zag,Zah]
  refine condP_split ?_ ?_
  · intro hc
    have hc' : (messageK queue n).2≠0:=by simpa using hc
    rw [if_pos hc'] at h
    simp only [ZB,endK,resK,resN,packed,insVc,storeNK,setMany,buildK,fillL,isPlain,ne_eq,Nat.reduceEqDiff,Nat.reduceAdd,Nat.reduceLeDiff,Zai,Zaj,Zak,Zal,Zam,Zan,Zaa,Zav,Zaq,Zap,Zar,Zao,Zas,Zat,Zau,Zaw,Zax,e2,get_set_same _ _ _ (lt_of_get e2)]
    exact h _ (hm12.set (.inl (Nat.le_refl _)))
  intro hc
  have hc' : (messageK queue n).2 = 0:=by simpa using hc
  rw [if_neg (by simpa using hc')] at h
  simp only [ZB,insVc,invK,ne_eq,Nat.reduceEqDiff,reduceCtorEq,Zaf,Zad,Zac,Za]
  refine hp (messageK queue n).1 w2 _ hA2 (keyL_size _ _ (by simp)) ?_
  intro w3 hm3
  have e3:=hm3.keep e2 id
  have hm13:=hm12.trans hm3
  revert hv h
  generalize (St.get s (messageK queue n).1).1 = g
  intro hv h
  unfold mfound at h
  simp only [ZB,insVc,iopK,iopV,extK,ne_eq,Nat.reduceEqDiff,reduceCtorEq,Za,Zag,Zah]
  refine condP_split ?_ ?_
  · intro hk
    have hk' : g.2.2≠0:=by simpa using hk
    rw [if_pos hk'] at h
    simp only [ZB,endK,resK,resN,packed,insVc,storeNK,setMany,buildK,fillL,isPlain,ne_eq,Nat.reduceEqDiff,Nat.reduceAdd,Nat.reduceLeDiff,Zai,Zaj,Zak,Zal,Zam,Zan,Zaa,Zav,Zaq,Zap,Zar,Zao,Zas,Zat,Zau,Zaw,Zax,e3,get_set_same _ _ _ (lt_of_get e3)]
    exact h _ (hm13.set (.inl (Nat.le_refl _)))
  intro hk
  have hk' : g.2.2 = 0:=by simpa using hk
  rw [if_neg (by simpa using hk')] at h
  simp only [ZB,insVc,notK,ne_eq,Nat.reduceEqDiff]
  refine condP_split ?_ ?_
  · intro hb
    have hb' : g.2.1 = false:=by simpa using hb
    rw [if_pos hb'] at h
    simp only [ZB,endK,resK,resN,packed,insVc,storeNK,setMany,buildK,fillL,isPlain,ne_eq,Nat.reduceEqDiff,Nat.reduceAdd,Nat.reduceLeDiff,Zai,Zaj,Zak,Zal,Zam,Zan,Zaa,Zav,Zaq,Zap,Zar,Zao,Zas,Zat,Zau,Zaw,Zax,e3,get_set_same _ _ _ (lt_of_get e3)]
    exact h _ (hm13.set (.inl (Nat.le_refl _)))
  intro hb
  have hb' : g.2.1 = true:=by simpa using hb
  rw [if_neg (by simp [hb'])] at h
  simp only [ZB,insVc,ne_eq,Nat.reduceEqDiff,Zaf,Zad,Zac,Za,Zag]
  refine messages_c queue n w3 _ ?_
  intro w4 mv hm4 hM4
  simp only [ZB,insVc,ne_eq,Nat.reduceEqDiff,Zad,Zac]
  refine mread_c mv _ queue n g.1 w4 _ hM4 hv ?_
  intro w5 hm5
  have e5:=(hm4.trans hm5).keep e3 id
  simp only [ZB,endK,resK,resN,packed,insVc,storeNK,setMany,extK,isPlain,ne_eq,Nat.reduceEqDiff,Nat.reduceAdd,Nat.reduceLeDiff,Za,Zag,Zah,Zai,Zaj,Zak,Zal,Zam,Zan,Zaa,Zav,Zaq,Zap,Zar,Zao,Zas,Zat,Zau,Zaw,Zax,Ms.val,Ms.cells,e5,get_set_same _ _ _ (lt_of_get e5)]
  exact h _ (((hm13.trans hm4).trans hm5).set (.inl (Nat.le_refl _)))
def dueG {σ : Type} (St : Sto σ) (s : σ) (t : Th) : Ms × Int :=
  if (St.mgetR s t.queue t.id).2 = 21∨((St.mgetR s t.queue t.id).2 = 0∧(St.mgetR s t.queue t.id).1.expiry≠t.at_) then (ms0,31) else St.mgetR s t.queue t.id
theorem due1_c {σ : Type} (St : Sto σ) (s : σ) (hp : PureGet St s) (t : Th) (v : ByteArray) (cb : Nat) (m : Int) (w : World) (K : Value→World→Prop) (hAt : St.At s w) (hg : Gl m w) (hs : t.queue.size < 4294967281) (hn : t.id < 2 ^ 64)
    (hv : (St.get s (messageK t.queue t.id).1).1.1.size < 2 ^ 60) (hcb : w.heap[cb]? = some (.cells #[.iface St.t St.v] 216 (0,0)))
    (h : ∀ w',Mod (fun _=>False) w w'→K (.tuple #[(dueG St s t).1.val,.int .i64 (dueG St s t).2]) w') :
    Ok Proofs.Tryz.prog 144 #[t.val,.string v,ptr cb] w K:=by
  refine F144.enter (args:=[t.val,.string v,ptr cb]) (by simp) ?_
  unfold c144 r144
  have hcl:=lt_of_get hcb
  have f1 : ¬ cb = w.heap.size + 1:=by omega
  simp only [ZB,insVc,load1K,faddrK,Value.cells,ne_eq,Nat.reduceEqDiff,Zaf,Zad,Zac,Za,Zag,Zah,Zab,Zae,get_alloc,Zbi,Nat.reduceEqDiff,Zay,Th.val,Th.cells,hcb,Nat.ne_of_lt hcl,f1]
  refine callK_gen ?_
  intro w1 hw1
  have hm1 : Mod (fun _=>False) w w1:=by rw [hw1]; exact ((Mod.refl _ _).alloc _).alloc _
  have t1 : w1.heap[w.heap.size]? = some (.cells #[.string t.sort,.string t.queue,.int .u64 t.id,.int .u64 t.at_,.string t.bx,.int .i64 t.bkind,.string t.bkey,.string t.bq,.string t.name] 227 (0,0)):=by rw [hw1]; simp only [Zab,Zae,size_alloc,get_alloc,size_alloc,Zbi,Zay]
  have r1 : w1.heap[w.heap.size + 1]? = some (.cells zms 128 (0,0)):=by rw [hw1]; simp only [Zab,Zae,size_alloc,get_alloc,size_alloc,Zba,Zay]
  clear hw1
  refine msget_c St s hp t.queue t.id m w1 _ (St.keep0 hAt hm1) (hg.mod hm1 id) hs hn hv ?_
  intro w2 hm2
  have t2:=hm2.keep t1 id
  have r2:=hm2.keep r1 id
  have hm12:=hm1.trans hm2
  unfold dueG at h
  revert h
  generalize St.mgetR s t.queue t.id = G
  intro h
  have lt:=lt_of_get t2
  have lr:=lt_of_get r2
  have f2:=Nat.ne_of_lt lt
  have f3:=Nat.ne_of_lt lr
  have hbad : (G.2 = 21∨(G.2 = 0∧G.1.expiry≠t.at_))→∀ w',Mod (fun _=>False) w w'→K (.tuple #[.agg zms,.int .i64 31]) w':=by
    intro hx w' hm'
    rw [if_pos hx] at h
    exact h w' hm'
  have hgood : ¬ (G.2 = 21∨(G.2 = 0∧G.1.expiry≠t.at_))→∀ w',Mod (fun _=>False) w w'→K (.tuple #[G.1.val,.int .i64 G.2]) w':=by
    intro hx w' hm'
    rw [if_neg hx] at h
    exact h w' hm'
  have hmA : ∀ cs,Mod (fun _=>False) w (Vc.set (w2.alloc cs) w2.heap.size cs):=fun cs=>(hm12.alloc _).set (.inl (by have:=hm12.size; omega))
  have g3 : w.heap.size + 1 < w2.heap.size + 1:=by omega
  have g4 : ¬ w.heap.size + 1 = w2.heap.size:=by omega
  have g5 : ¬ w2.heap.size = w.heap.size + 1:=by omega
  by_cases h21 : G.2 = 21
  · have b1 : (G.2 == 21) = true:=by simpa using h21
    simp only [ZB,endK,resK,resN,packed,insVc,pickK,storeNK,setMany,iopK,iopV,extK,buildK,fillL,isPlain,Value.cells,ne_eq,Nat.reduceEqDiff,Nat.reduceAdd,Nat.reduceLeDiff,reduceCtorEq,Za,Zag,Zah,Zai,Zaj,Zak,Zal,Zam,Zan,Zaa,Zav,Zab,Zae,Zaq,Zap,Zar,Zao,Zas,Zat,Zau,Zaw,Zax,Zbf,Zb,get_alloc,get_set,Nat.reduceAdd,Nat.reduceEqDiff,Ms.val,Ms.cells,b1,r2,g3,g4]
    exact hbad (.inl h21) _ (((hm12.alloc _).set (.inl (by have:=hm12.size; omega))).set (.inl (by omega)))
  · have b1 : (G.2 == 21) = false:=by simpa using h21
    by_cases h00 : G.2 = 0
    · have b2 : (((0 : Int)) == 0) = true:=rfl
      have b3 : (((0 : Int)) == 21) = false:=rfl
      by_cases hx : G.1.expiry = t.at_
      · have b4 : ((G.1.expiry : Int) != (t.at_ : Int)) = false:=by rw [hx]; simp
        have hh:=hgood (by rw [h00]; simp [hx])
        rw [h00] at hh
        simp only [ZB,endK,resK,resN,packed,insVc,pickK,load1K,loadNK,storeNK,setMany,iopK,iopV,faddrK,extK,isPlain,Value.cells,ne_eq,Nat.reduceEqDiff,Nat.reduceAdd,Nat.reduceLeDiff,reduceCtorEq,Za,Zag,Zah,Zai,Zaj,Zak,Zal,Zam,Zan,Zaa,Zav,Zab,Zae,Zaq,Zap,Zar,Zao,Zas,Zat,Zau,Zaw,Zax,Zbf,Zb,get_alloc,get_set,Nat.reduceAdd,Nat.reduceEqDiff,Ms.val,Ms.cells,h00,b2,b3,b4,t2,f2,r2,g3,g4]
        exact hh _ (((hm12.alloc _).set (.inl (by have:=hm12.size; omega))).set (.inl (by omega)))
      · have b4 : ((G.1.expiry : Int) != (t.at_ : Int)) = true:=by rw [bne_iff_ne]; omega
        simp only [ZB,endK,resK,resN,packed,insVc,pickK,load1K,storeNK,setMany,iopK,iopV,faddrK,extK,buildK,fillL,isPlain,Value.cells,ne_eq,Nat.reduceEqDiff,Nat.reduceAdd,Nat.reduceLeDiff,reduceCtorEq,Za,Zag,Zah,Zai,Zaj,Zak,Zal,Zam,Zan,Zaa,Zav,Zab,Zae,Zaq,Zap,Zar,Zao,Zas,Zat,Zau,Zaw,Zax,Zbf,Zb,get_alloc,get_set,Nat.reduceAdd,Nat.reduceEqDiff,Ms.val,Ms.cells,h00,b2,b3,b4,t2,f2,r2,g3,g4]
        exact hbad (.inr ⟨h00,hx⟩) _ (((hm12.alloc _).set (.inl (by have:=hm12.size; omega))).set (.inl (by omega)))
    · have b2 : (G.2 == 0) = false:=by simpa using h00
      simp only [ZB,endK,resK,resN,packed,insVc,pickK,loadNK,storeNK,setMany,iopK,iopV,extK,isPlain,Value.cells,ne_eq,Nat.reduceEqDiff,Nat.reduceAdd,Nat.reduceLeDiff,reduceCtorEq,Za,Zag,Zah,Zai,Zaj,Zak,Zal,Zam,Zan,Zaa,Zav,Zab,Zae,Zaq,Zap,Zar,Zao,Zas,Zat,Zau,Zaw,Zax,Zbf,Zb,get_alloc,get_set,Nat.reduceAdd,Nat.reduceEqDiff,Ms.val,Ms.cells,b1,b2,r2,g3,g4]
      exact hgood (by simp [h21,h00]) _ (((hm12.alloc _).set (.inl (by have:=hm12.size; omega))).set (.inl (by omega)))
end Go.Oct
namespace Go.VrE
open Go Go.Vc
set_option maxRecDepth 100000
noncomputable def c178 : CC:=(.seq (.ops [⟨none,some 6,.mv (.const .nilFunc)⟩])
 (.seq (.ops [⟨none,some 10,.mv (.tmp 1)⟩,⟨none,some 11,.mv (.tmp 2)⟩,⟨none,some 12,.call 242 [.tmp 10,.tmp 11]⟩,⟨none,some 9,.mv (.tmp 12)⟩,⟨none,some 13,.ext (.tmp 9) 0⟩,⟨none,some 14,.ext (.tmp 9) 1⟩,⟨none,some 7,.mv (.tmp 13)⟩,⟨none,some 8,.mv (.tmp 14)⟩])
 (.seq (.seq (.ops [⟨none,some 15,.mv (.tmp 7)⟩,⟨none,some 16,.sop .eql (.tmp 15) (.const (.string (.mk #[])))⟩])
 (.cond (.tmp 16)
 (.seq (.ops [⟨none,some 6,(.mv (.func 243))⟩])
 .ret)
 .skip))
 (.seq (.ops [⟨none,some 17,.mv (.tmp 0)⟩,⟨none,some 18,.mv (.tmp 7)⟩,⟨none,some 19,.mv (.tmp 8)⟩,⟨none,some 20,.inv (.tmp 17) "Range" [.tmp 18,.tmp 19]⟩,⟨none,some 21,(.call 143 [.tmp 20,(.func 244)])⟩,⟨none,some 6,.mv (.tmp 21)⟩])
 .ret))))
abbrev r178 : List RV:=[(.tmp 6)]
theorem F178 : FnOk Go.Proofs.Tryz.prog 178 22 c178 r178:=⟨_,Go.Proofs.Tryz.func178,by kernel_rfl,by kernel_rfl,by kernel_rfl,by kernel_rfl,by kernel_rfl⟩
noncomputable def c243 : CC:=.skip
abbrev r243 : List RV:=[]
theorem F243 : FnOk Go.Proofs.Tryz.prog 243 2 c243 r243:=⟨_,Go.Proofs.Tryz.func243,by kernel_rfl,by kernel_rfl,by kernel_rfl,by kernel_rfl,by kernel_rfl⟩
noncomputable def c244 : CC:=(.seq (.ops [⟨none,some 2,.box 227 (.tmp 0)⟩,⟨none,some 4,.alloc 128 (.agg #[.string (.mk #[]),.int .u64 0,.int .u32 0,.int .u64 0,.string (.mk #[])])⟩,⟨none,some 5,.mv (.const (.int .i64 0))⟩])
 (.seq (.ops [⟨none,some 6,.faddr 1 (.tmp 2)⟩,⟨none,some 7,.load1 (.tmp 6)⟩,⟨none,some 8,.faddr 2 (.tmp 2)⟩,⟨none,some 9,.load1 (.tmp 8)⟩,⟨none,some 10,.call 200 [.tmp 7,.tmp 9]⟩,⟨none,some 11,.mv (.tmp 1)⟩,⟨none,some 12,.call 206 [.tmp 10,.tmp 11]⟩,⟨none,some 13,.ext (.tmp 12) 0⟩,⟨none,some 14,.ext (.tmp 12) 1⟩,⟨none,none,.storeN 5 (.tmp 4) (.tmp 13)⟩,⟨none,some 5,.mv (.tmp 14)⟩])
 .ret))
abbrev r244 : List RV:=[(.cN 4 5),(.tmp 5)]
theorem F244 : FnOk Go.Proofs.Tryz.prog 244 15 c244 r244:=⟨_,Go.Proofs.Tryz.func244,by kernel_rfl,by kernel_rfl,by kernel_rfl,by kernel_rfl,by kernel_rfl⟩
noncomputable def c242 : CC:=(.seq (.ops [⟨none,some 4,.mv (.const (.string (.mk #[])))⟩,⟨none,some 5,.mv (.const (.string (.mk #[])))⟩])
 (.seq (.ops [⟨none,some 11,.mv (.tmp 0)⟩,⟨none,some 12,.call 220 [.tmp 11]⟩,⟨none,some 13,.buildS 220 1 [.bool false,.int .u64 0,.string (.mk #[])] [(0,(3,.tmp 12))]⟩,⟨none,some 14,.call 141 [.const (.string (.mk #[109])),.tmp 13]⟩,⟨none,some 10,.mv (.tmp 14)⟩,⟨none,some 15,.ext (.tmp 10) 0⟩,⟨none,some 16,.ext (.tmp 10) 1⟩,⟨none,some 6,.mv (.tmp 15)⟩,⟨none,some 7,.mv (.tmp 16)⟩])
 (.seq (.ops [⟨none,some 18,.mv (.tmp 0)⟩,⟨none,some 19,.mv (.tmp 1)⟩,⟨none,some 20,.call 198 [.tmp 18,.tmp 19]⟩,⟨none,some 17,.mv (.tmp 20)⟩,⟨none,some 21,.ext (.tmp 17) 0⟩,⟨none,some 22,.ext (.tmp 17) 1⟩,⟨none,some 8,.mv (.tmp 21)⟩,⟨none,some 9,.mv (.tmp 22)⟩])
 (.seq (.ops [⟨none,some 23,.mv (.tmp 8)⟩,⟨none,some 24,.mv (.tmp 7)⟩,⟨none,some 4,.mv (.tmp 23)⟩,⟨none,some 5,.mv (.tmp 24)⟩])
 .ret))))
abbrev r242 : List RV:=[(.tmp 4),(.tmp 5)]
theorem F242 : FnOk Go.Proofs.Tryz.prog 242 25 c242 r242:=⟨_,Go.Proofs.Tryz.func242,by kernel_rfl,by kernel_rfl,by kernel_rfl,by kernel_rfl,by kernel_rfl⟩
noncomputable def c241 : CC:=(.seq (.ops [⟨none,some 3,.box 128 (.tmp 1)⟩,⟨none,some 4,.mv (.const (.int .i64 0))⟩])
 (.seq (.ops [⟨none,some 12,.mv (.tmp 0)⟩,⟨none,some 13,.faddr 0 (.tmp 3)⟩,⟨none,some 14,.load1 (.tmp 13)⟩,⟨none,some 15,.faddr 1 (.tmp 3)⟩,⟨none,some 16,.load1 (.tmp 15)⟩,⟨none,some 17,.call 145 [.tmp 12,.tmp 14,.tmp 16]⟩,⟨none,some 11,.mv (.tmp 17)⟩,⟨none,some 18,.ext (.tmp 11) 0⟩,⟨none,some 19,.ext (.tmp 11) 1⟩,⟨none,some 5,.alloc 128 (.agg #[.string (.mk #[]),.int .u64 0,.int .u32 0,.int .u64 0,.string (.mk #[])])⟩,⟨none,none,.storeN 5 (.tmp 5) (.tmp 18)⟩,⟨none,some 6,.mv (.tmp 19)⟩])
 (.seq (.seq (.ops [⟨none,some 20,.mv (.tmp 6)⟩,⟨none,some 21,.iop .neq (.tmp 20) (.const (.int .i64 0))⟩])
 (.cond (.tmp 21)
 (.seq (.ops [⟨none,some 22,.mv (.tmp 6)⟩,⟨none,some 4,.mv (.tmp 22)⟩])
 .ret)
 .skip))
 (.seq (.seq (.ops [⟨none,some 24,.loadN 5 (.tmp 3)⟩,⟨none,some 25,.call 139 [.tmp 24]⟩,⟨none,some 23,.mv (.tmp 25)⟩,⟨none,some 26,.ext (.tmp 23) 0⟩,⟨none,some 27,.ext (.tmp 23) 1⟩,⟨none,some 28,.ext (.tmp 23) 2⟩,⟨none,some 7,.mv (.tmp 26)⟩,⟨none,some 8,.mv (.tmp 27)⟩,⟨none,some 9,.mv (.tmp 28)⟩])
 (.seq (.ops [⟨none,some 29,.mv (.tmp 9)⟩,⟨none,some 30,.iop .neq (.tmp 29) (.const (.int .i64 0))⟩])
 (.cond (.tmp 30)
 (.seq (.ops [⟨none,some 31,.mv (.tmp 9)⟩,⟨none,some 4,.mv (.tmp 31)⟩])
 .ret)
 .skip)))
 (.seq (.seq (.ops [⟨none,some 32,.faddr 3 (.tmp 5)⟩,⟨none,some 33,.load1 (.tmp 32)⟩,⟨none,some 34,.faddr 3 (.tmp 3)⟩,⟨none,some 35,.load1 (.tmp 34)⟩,⟨none,some 36,.iop .neq (.tmp 33) (.tmp 35)⟩])
 (.cond (.tmp 36)
 (.seq (.ops [⟨none,some 37,.mv (.tmp 0)⟩,⟨none,some 38,.loadN 5 (.tmp 5)⟩,⟨none,some 39,.call 240 [.tmp 37,.tmp 38]⟩,⟨none,some 10,.mv (.tmp 39)⟩])
 (.seq (.ops [⟨none,some 40,.mv (.tmp 10)⟩,⟨none,some 41,.iop .neq (.tmp 40) (.const (.int .i64 0))⟩])
 (.cond (.tmp 41)
 (.seq (.ops [⟨none,some 42,.mv (.tmp 10)⟩,⟨none,some 4,.mv (.tmp 42)⟩])
 .ret)
 .skip)))
 .skip))
 (.seq (.ops [⟨none,some 43,.mv (.tmp 0)⟩,⟨none,some 44,.loadN 5 (.tmp 3)⟩,⟨none,some 45,.call 140 [.tmp 43,.tmp 44]⟩,⟨none,some 4,.mv (.tmp 45)⟩])
 .ret))))))
abbrev r241 : List RV:=[(.tmp 4)]
theorem F241 : FnOk Go.Proofs.Tryz.prog 241 46 c241 r241:=⟨_,Go.Proofs.Tryz.func241,by kernel_rfl,by kernel_rfl,by kernel_rfl,by kernel_rfl,by kernel_rfl⟩
noncomputable def c174 : CC:=(.seq (.ops [⟨none,some 6,.alloc 128 (.agg #[.string (.mk #[]),.int .u64 0,.int .u32 0,.int .u64 0,.string (.mk #[])])⟩,⟨none,some 7,.mv (.const (.int .i64 0))⟩])
 (.seq (.ops [⟨none,some 11,.mv (.tmp 0)⟩,⟨none,some 12,.mv (.tmp 1)⟩,⟨none,some 13,.mv (.tmp 2)⟩,⟨none,some 14,.call 145 [.tmp 11,.tmp 12,.tmp 13]⟩,⟨none,some 10,.mv (.tmp 14)⟩,⟨none,some 15,.ext (.tmp 10) 0⟩,⟨none,some 16,.ext (.tmp 10) 1⟩,⟨none,some 8,.alloc 128 (.agg #[.string (.mk #[]),.int .u64 0,.int .u32 0,.int .u64 0,.string (.mk #[])])⟩,⟨none,none,.storeN 5 (.tmp 8) (.tmp 15)⟩,⟨none,some 9,.mv (.tmp 16)⟩])
 (.seq (.seq (.ops [⟨none,some 17,.mv (.tmp 9)⟩,⟨none,some 18,.iop .eql (.tmp 17) (.const (.int .i64 0))⟩])
 (.cond (.tmp 18)
 (.ops [⟨none,some 19,.mv (.tmp 0)⟩,⟨none,some 20,.loadN 5 (.tmp 8)⟩,⟨none,some 21,.call 240 [.tmp 19,.tmp 20]⟩,⟨none,some 9,.mv (.tmp 21)⟩])
 .skip))
 (.seq (.seq (.ops [⟨none,some 22,.mv (.tmp 9)⟩,⟨none,some 23,.iop .neq (.tmp 22) (.const (.int .i64 0))⟩])
 (.cond (.tmp 23)
 (.seq (.ops [⟨none,some 24,.build [.string (.mk #[]),.int .u64 0,.int .u32 0,.int .u64 0,.string (.mk #[])] []⟩,⟨none,some 25,.mv (.tmp 9)⟩,⟨none,none,.storeN 5 (.tmp 6) (.tmp 24)⟩,⟨none,some 7,.mv (.tmp 25)⟩])
 .ret)
 .skip))
 (.seq (.ops [⟨none,some 26,.loadN 5 (.tmp 8)⟩,⟨none,none,.storeN 5 (.tmp 6) (.tmp 26)⟩,⟨none,some 7,.mv (.const (.int .i64 0))⟩])
 .ret)))))
abbrev r174 : List RV:=[(.cN 6 5),(.tmp 7)]
theorem F174 : FnOk Go.Proofs.Tryz.prog 174 27 c174 r174:=⟨_,Go.Proofs.Tryz.func174,by kernel_rfl,by kernel_rfl,by kernel_rfl,by kernel_rfl,by kernel_rfl⟩
noncomputable def c240 : CC:=(.seq (.ops [⟨none,some 3,.box 128 (.tmp 1)⟩,⟨none,some 4,.mv (.const (.int .i64 0))⟩])
 (.seq (.ops [⟨none,some 11,.loadN 5 (.tmp 3)⟩,⟨none,some 12,.call 139 [.tmp 11]⟩,⟨none,some 10,.mv (.tmp 12)⟩,⟨none,some 13,.ext (.tmp 10) 0⟩,⟨none,some 14,.ext (.tmp 10) 1⟩,⟨none,some 15,.ext (.tmp 10) 2⟩,⟨none,some 5,.mv (.tmp 13)⟩,⟨none,some 6,.mv (.tmp 14)⟩,⟨none,some 7,.mv (.tmp 15)⟩])
 (.seq (.seq (.ops [⟨none,some 16,.mv (.tmp 7)⟩,⟨none,some 17,.iop .neq (.tmp 16) (.const (.int .i64 0))⟩])
 (.cond (.tmp 17)
 (.seq (.ops [⟨none,some 18,.mv (.tmp 7)⟩,⟨none,some 4,.mv (.tmp 18)⟩])
 .ret)
 .skip))
 (.seq (.seq (.ops [⟨none,some 20,.mv (.tmp 0)⟩,⟨none,some 21,.mv (.tmp 5)⟩,⟨none,some 22,.inv (.tmp 20) "Cut" [.tmp 21]⟩,⟨none,some 19,.mv (.tmp 22)⟩,⟨none,some 23,.ext (.tmp 19) 0⟩,⟨none,some 24,.ext (.tmp 19) 1⟩,⟨none,some 8,.mv (.tmp 23)⟩,⟨none,some 9,.mv (.tmp 24)⟩])
 (.seq (.ops [⟨none,some 25,.mv (.tmp 9)⟩,⟨none,some 26,.iop .neq (.tmp 25) (.const (.int .i64 0))⟩,⟨none,some 27,.mv (.tmp 26)⟩,⟨some (27,false),some 28,.mv (.tmp 6)⟩,⟨some (27,false),some 29,.sop .eql (.tmp 28) (.const (.string (.mk #[])))⟩,⟨none,some 30,.pick (.tmp 27) (.const (.bool true)) (.tmp 29)⟩])
 (.cond (.tmp 30)
 (.seq (.ops [⟨none,some 31,.mv (.tmp 9)⟩,⟨none,some 4,.mv (.tmp 31)⟩])
 .ret)
 .skip)))
 (.seq (.ops [⟨none,some 33,.mv (.tmp 0)⟩,⟨none,some 34,.mv (.tmp 6)⟩,⟨none,some 35,.inv (.tmp 33) "Cut" [.tmp 34]⟩,⟨none,some 32,.mv (.tmp 35)⟩,⟨none,some 36,.ext (.tmp 32) 0⟩,⟨none,some 37,.ext (.tmp 32) 1⟩,⟨none,some 7,.mv (.tmp 37)⟩])
 (.seq (.ops [⟨none,some 38,.mv (.tmp 7)⟩,⟨none,some 4,.mv (.tmp 38)⟩])
 .ret))))))
abbrev r240 : List RV:=[(.tmp 4)]
theorem F240 : FnOk Go.Proofs.Tryz.prog 240 39 c240 r240:=⟨_,Go.Proofs.Tryz.func240,by kernel_rfl,by kernel_rfl,by kernel_rfl,by kernel_rfl,by kernel_rfl⟩
noncomputable def c349 : CC:=(.seq (.ops [⟨none,some 4,.mv (.const (.bool false))⟩,⟨none,some 5,.mv (.const (.int .i64 0))⟩])
 (.seq (.ops [⟨none,some 9,.mv (.tmp 0)⟩,⟨none,some 10,.nilc (.tmp 9)⟩,⟨none,some 11,.faddr 0 (.tmp 10)⟩,⟨none,some 12,.load1 (.tmp 11)⟩,⟨none,some 13,.mv (.tmp 1)⟩,⟨none,some 14,.raw 23 (.mk (some 14) (.lookup 172 (.tmp 12) (.tmp 13) true) 303 "registry.go:74" #[.mk 3 .data,.mk 4 .data] none)⟩,⟨none,some 8,.mv (.tmp 14)⟩,⟨none,some 15,.ext (.tmp 8) 0⟩,⟨none,some 16,.ext (.tmp 8) 1⟩,⟨none,some 6,.mv (.tmp 15)⟩,⟨none,some 7,.mv (.tmp 16)⟩])
 (.seq (.ops [⟨none,some 17,.mv (.tmp 0)⟩,⟨none,some 18,.nilc (.tmp 17)⟩,⟨none,some 19,.faddr 0 (.tmp 18)⟩,⟨none,some 20,.load1 (.tmp 19)⟩,⟨none,some 21,.mv (.tmp 1)⟩,⟨none,none,.raw 23 (.mk none (.call (.mk (.builtin .delete) #[.tmp 20,.tmp 21] #[172,9])) 0 "registry.go:75" #[.mk 3 .data,.mk 4 .data] none)⟩])
 (.seq (.ops [⟨none,some 22,.mv (.tmp 7)⟩,⟨none,some 4,.mv (.tmp 22)⟩,⟨none,some 5,.mv (.const (.int .i64 0))⟩])
 .ret))))
abbrev r349 : List RV:=[(.tmp 4),(.tmp 5)]
theorem F349 : FnOk Go.Proofs.Tryz.prog 349 23 c349 r349:=⟨_,Go.Proofs.Tryz.func349,by kernel_rfl,by kernel_rfl,by kernel_rfl,by kernel_rfl,by kernel_rfl⟩
end Go.VrE
