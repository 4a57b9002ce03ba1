import Derived.Test.YtbkddpckkgbbmaaGreatDoorVoS
set_option linter.unusedSimpArgs false
set_option linter.unusedVariables false
set_option linter.unusedSectionVars false
set_option linter.unnecessarySimpa false
namespace Go.Oct
open Go Go.Vc Go.VrA
set_option maxRecDepth 100000
structure Sto (σ : Type) where
  t : TypeId
  v : Value
  At : σ→World→Prop
  own : Nat→Prop
  foot : Nat→Prop
  fit : σ→Prop
  ownFoot : ∀ k,own k→foot k
  footLt : ∀ s w k,At s w→foot k→k < w.heap.size
  own0 : ¬ own 0
  keep : ∀ (S : Nat→Prop) s w w',At s w→Mod S w w'→(∀ k,k < w.heap.size→S k→¬ foot k)→At s w'
  get : σ→ByteArray→(ByteArray × Bool × Int) × σ
  getOk : ∀ s k w (G : Value→World→Prop),At s w→k.size≤255 →
    (∀ w',Mod own w w'→At (get s k).2 w'→G (.tuple #[.string (get s k).1.1,.bool (get s k).1.2.1,.int .i64 (get s k).1.2.2]) w')→InvK Proofs.Tryz.prog G t v "Get" [.string k] w
  put : σ→ByteArray→ByteArray→Int × σ
  putOk : ∀ s k x w (G : Value→World→Prop),At s w→fit s →
    (∀ w',Mod own w w'→At (put s k x).2 w'→G (.int .i64 (put s k x).1) w')→InvK Proofs.Tryz.prog G t v "Put" [.string k,.string x] w
  rfit : σ→Prop
  rng : σ→ByteArray→ByteArray→List Pr × σ
  rngOk : ∀ s a b w (G : Value→World→Prop),At s w→rfit s →
    (∀ w' gf cap,Mod own w w'→At (rng s a b).2 w'→IterP Proofs.Tryz.prog gf cap (rowsV (rng s a b).1) (fun u=>At (rng s a b).2 u∧Kept w.heap.size w' u)→G (.func (.func gf) #[] cap.toArray) w') →
    InvK Proofs.Tryz.prog G t v "Range" [.string a,.string b] w
  putNil : ∀ w,(nilAhead ((Proofs.Tryz.prog).types.size + Made.depth) t v "Put").run Proofs.Tryz.prog w = .ok (some false) w
theorem Sto.keep0 {σ : Type} (St : Sto σ) {s : σ} {w w' : World} (h : St.At s w) (hm : Mod (fun _=>False) w w') : St.At s w':=St.keep _ s w w' h hm (fun _ _ x=>x.elim)
def shelf (sb mb : Nat) (h0 : 0≠mb) : Sto (Nat × M) where
  t:=26
  v:=ptr sb
  At s w:=IsShelf w sb mb s.1 s.2
  own k:=k = mb
  foot k:=k = sb∨k = mb
  fit s:=s.1 < maxLen
  ownFoot _ h:=.inr h
  footLt s w k h hk:=by
    rcases hk with rfl | rfl
    · exact lt_of_get h.1
    · exact World.ownsMap.lt h.2.1
  own0 h:=h0 h
  keep S s w w' h hm hS:=h.keep hm (fun x=>hS _ (lt_of_get h.1) x (.inl rfl)) (fun x=>hS _ (World.ownsMap.lt h.2.1) x (.inr rfl))
  get s k:=((⟨((lookM k.data.toList s.2).getD []).toArray⟩,(lookM k.data.toList s.2).isSome,0),s)
  getOk s k w G h hk hG:=⟨286,ptr sb,by kernel_rfl,sget_c sb mb s.1 s.2 k w G h (by simp [maxLen]; omega) (hG w (Mod.refl _ _) h)⟩
  put s k x:=if k.size > 255∨x.size > 65536 then (5,s) else (0,(s.1 + 1,putM k.data.toList x.data.toList s.2))
  putOk s k x w G h hf hG:=⟨25,ptr sb,by kernel_rfl,by
    refine sput_c sb mb s.1 s.2 k x w G h hf (fun hc => ?_) (fun hc w' hm hs => ?_)
    · rw [if_pos hc] at hG; exact hG w (Mod.refl _ _) h
    · rw [if_neg hc] at hG; exact hG w' hm hs⟩
  rfit s:=s.2.length * 16≤140737488355328
  rng s a b:=(okRows (rngM a.data.toList b.data.toList s.2),s)
  rngOk s a b w G h hf hG:=⟨37,ptr sb,by kernel_rfl,rng_c sb mb s.1 s.2 a b w G h hf (fun w' gf cap hm it=>hG w' gf cap (hm.mono fun _ _ x=>x.elim) (h.keep hm id id) it)⟩
  putNil w:=by kernel_rfl
def findR (name : ByteArray) (g : ByteArray × Bool × Int) : Qu × Int :=
  if g.2.2≠0 then (q0,g.2.2) else if g.2.1 = false then (q0,21) else qread name g.1
def Sto.find {σ : Type} (St : Sto σ) (s : σ) (name : ByteArray) : (Qu × Int) × σ :=
  if (queueK name).2≠0 then ((q0,21),s) else (findR name (St.get s (queueK name).1).1,(St.get s (queueK name).1).2)
theorem find_c {σ : Type} (St : Sto σ) (s : σ) (name : ByteArray) (m : Int) (w : World) (K : Value→World→Prop) (hAt : St.At s w) (hg : Gl m w) (hs : name.size < 4294967281)
    (hv : (St.get s (queueK name).1).1.1.size < 2 ^ 60)
    (h : ∀ w',Mod St.own w w'→St.At (St.find s name).2 w'→K (.tuple #[(St.find s name).1.1.val,.int .i64 (St.find s name).1.2]) w') :
    Ok Proofs.Tryz.prog 13 #[.iface St.t St.v,.string name] w K:=by
  refine F13.enter (args:=[.iface St.t St.v,.string name]) (by simp) ?_
  unfold c13 r13
  simp only [ZB,insVc,Value.cells,ne_eq,Nat.reduceEqDiff,Zab,Zad,Zae,Za,Zaf]
  refine callK_gen ?_
  intro w1 hw1
  have hm1 : Mod (fun _=>False) w w1:=by rw [hw1]; exact (Mod.refl _ _).alloc _
  have e1 : w1.heap[w.heap.size]? = some (.cells zq 33 (0,0)):=by rw [hw1]; simp only [Zac,get_alloc]
  clear hw1
  refine queue_c name m w1 _ (hg.mod hm1 id) hs ?_
  intro w2 hm2
  have e2:=hm2.keep e1 id
  have hm12:=hm1.trans hm2
  have hsz:=hm12.size
  have hA2:=St.keep0 hAt hm12
  simp only [ZB,insVc,iopK,iopV,extK,ne_eq,Nat.reduceEqDiff,reduceCtorEq,Za,Zaf,Zah]
  refine condP_split ?_ ?_
  · intro he
    have he' : (queueK name).2≠0:=by simpa using he
    have hq : St.find s name = ((q0,21),s):=by unfold Sto.find; rw [if_pos he']
    rw [hq] at h
    simp only [ZB,endK,resK,resN,packed,insVc,storeNK,setMany,buildK,fillL,isPlain,ne_eq,Nat.reduceEqDiff,Nat.reduceAdd,Nat.reduceLeDiff,Zak,Zai,Zaj,Zal,Zam,Zan,Zaa,Zap,Zb,Zaz,Zav,Zar,Zay,Zaw,Zas,Zat,Zau,e2,get_set_same _ _ _ (lt_of_get e2)]
    have hm3:=hm12.set (b:=w.heap.size) (o:=.cells zq 33 (0,0)) (.inl (Nat.le_refl _))
    exact h _ (hm3.mono (fun _ _ x=>x.elim)) (St.keep0 hAt hm3)
  · intro he
    have he' : (queueK name).2 = 0:=by simpa using he
    have hq : St.find s name = (findR name (St.get s (queueK name).1).1,(St.get s (queueK name).1).2):=by unfold Sto.find; rw [if_neg (by simpa using he')]
    rw [hq] at h
    simp only [ZB,insVc,invK,ne_eq,Nat.reduceEqDiff,reduceCtorEq,Zab,Zad,Zae,Za]
    refine St.getOk s (queueK name).1 w2 _ hA2 (keyL_size _ _ (by simp)) ?_
    intro w3 hm3 hA3
    have hno : ¬ St.own w.heap.size:=fun x=>by have:=St.footLt s w _ hAt (St.ownFoot _ x); omega
    have e3:=hm3.keep e2 hno
    have hm13 : Mod St.own w w3:=(hm12.mono (fun _ _ x=>x.elim)).trans hm3
    revert h
    generalize (St.get s (queueK name).1) = got at *
    intro h
    simp only [ZB,insVc,iopK,iopV,extK,ne_eq,Nat.reduceEqDiff,reduceCtorEq,Za,Zaf,Zah]
    have fin : ∀ (q : Qu) (e : Int),findR name got.1 = (q,e)→∀ w4,Mod (fun k=>k = w.heap.size) w3 w4→K (.tuple #[q.val,.int .i64 e]) w4:=by
      intro q e hf w4 hm4
      simp only [hf] at h
      refine h w4 (hm13.then hm4 (fun i hi hk=>by omega)) (St.keep _ _ w3 w4 hA3 hm4 (fun k _ hk hf => ?_))
      subst hk
      have:=St.footLt s w _ hAt hf
      omega
    refine condP_split ?_ ?_
    · intro hc
      have hc' : got.1.2.2≠0:=by simpa using hc
      simp only [ZB,endK,resK,resN,packed,insVc,storeNK,setMany,buildK,fillL,isPlain,ne_eq,Nat.reduceEqDiff,Nat.reduceAdd,Nat.reduceLeDiff,Zak,Zai,Zaj,Zal,Zam,Zan,Zaa,Zap,Zb,Zaz,Zav,Zar,Zay,Zaw,Zas,Zat,Zau,e3,get_set_same _ _ _ (lt_of_get e3)]
      exact fin q0 got.1.2.2 (by unfold findR; rw [if_pos hc']) _ ((Mod.refl _ _).set (.inr rfl))
    · intro hc
      have hc' : got.1.2.2 = 0:=by simpa using hc
      simp only [ZB,insVc,notK,ne_eq,Nat.reduceEqDiff]
      refine condP_split ?_ ?_
      · intro hk
        have hk' : got.1.2.1 = false:=by simpa using hk
        simp only [ZB,endK,resK,resN,packed,insVc,storeNK,setMany,buildK,fillL,isPlain,ne_eq,Nat.reduceEqDiff,Nat.reduceAdd,Nat.reduceLeDiff,Zak,Zai,Zaj,Zal,Zam,Zan,Zaa,Zap,Zb,Zaz,Zav,Zar,Zay,Zaw,Zas,Zat,Zau,e3,get_set_same _ _ _ (lt_of_get e3)]
        exact fin q0 21 (by unfold findR; rw [if_neg (by simpa using hc'),if_pos hk']) _ ((Mod.refl _ _).set (.inr rfl))
      · intro hk
        have hk' : got.1.2.1 = true:=by simpa using hk
        simp only [ZB,insVc,ne_eq,Nat.reduceEqDiff,Zab,Zad,Zae,Za,Zaf]
        refine queues_c name w3 _ ?_
        intro w4 qv hm4 hq4
        simp only [ZB,insVc,ne_eq,Nat.reduceEqDiff,Zad,Zae]
        refine qread_c qv _ name got.1.1 w4 _ hq4 hv ?_
        intro w5 hm5
        have e5:=(hm4.trans hm5).keep e3 id
        simp only [ZB,endK,resK,resN,packed,insVc,storeNK,setMany,extK,isPlain,ne_eq,Nat.reduceEqDiff,Nat.reduceAdd,Nat.reduceLeDiff,Za,Zaf,Zah,Zak,Zai,Zaj,Zal,Zam,Zan,Zaa,Zap,Zb,Zaz,Zav,Zar,Zay,Zaw,Zas,Zat,Zau,Qu.val,Qu.cells,e5,get_set_same _ _ _ (lt_of_get e5)]
        exact fin _ _ (by unfold findR; rw [if_neg (by simpa using hc'),if_neg (by simp [hk'])]) _ (((hm4.trans hm5).mono (fun _ _ x=>x.elim)).set (.inr rfl))
end Go.Oct
namespace Go.Oct
open Go Go.Vc Go.VrA
set_option maxRecDepth 100000
def Sto.next {σ : Type} (St : Sto σ) (s : σ) (name : ByteArray) : (Nat × Int) × σ :=
  if (counterK name).2≠0 then ((0,(counterK name).2),s) else
  let g:=St.get s (counterK name).1
  if g.1.2.2≠0 then ((0,g.1.2.2),g.2) else
  let r:=if g.1.2.1 = true then cread g.1.1 else (0,0)
  if r.2≠0 then ((0,r.2),g.2) else
  if r.1 = 18446744073709551615 then ((0,8),g.2) else
  let p:=St.put g.2 (counterK name).1 (cbytes (r.1 + 1))
  if p.1≠0 then ((0,p.1),p.2) else ((r.1 + 1,0),p.2)
theorem cread_lt (s : ByteArray) : (cread s).1 < 2 ^ 64:=by
  unfold cread
  simp only []
  split
  · simp
  · exact num_lt _
theorem next_c {σ : Type} (St : Sto σ) (s : σ) (name : ByteArray) (m : Int) (w : World) (K : Value→World→Prop) (hAt : St.At s w) (hg : Gl m w) (hs : name.size < 4294967281)
    (hv : (St.get s (counterK name).1).1.1.size < 2 ^ 60) (hf : St.fit (St.get s (counterK name).1).2)
    (h : ∀ w',Mod St.own w w'→St.At (St.next s name).2 w'→K (.tuple #[.int .u64 ((St.next s name).1.1 : Nat),.int .i64 (St.next s name).1.2]) w') :
    Ok Proofs.Tryz.prog 14 #[.iface St.t St.v,.string name] w K:=by
  refine F14.enter (args:=[.iface St.t St.v,.string name]) (by simp) ?_
  unfold c14 r14
  simp only [ZB,insVc,ne_eq,Nat.reduceEqDiff,Zab,Zad,Zae,Za,Zaf]
  refine counter_c name m w _ hg hs ?_
  intro w1 hm1
  have hA1:=St.keep0 hAt hm1
  simp only [ZB,insVc,iopK,iopV,extK,ne_eq,Nat.reduceEqDiff,reduceCtorEq,Za,Zaf,Zah]
  unfold Sto.next at h
  refine condP_split ?_ ?_
  · intro he
    have he' : (counterK name).2≠0:=by simpa using he
    rw [if_pos he'] at h
    simp only [ZB,endK,resK,packed,insVc,ne_eq,Nat.reduceEqDiff,Zaa,Zap]
    exact h w1 (hm1.mono (fun _ _ x=>x.elim)) hA1
  · intro he
    have he' : (counterK name).2 = 0:=by simpa using he
    rw [if_neg (by simpa using he')] at h
    simp only [ZB,insVc,invK,ne_eq,Nat.reduceEqDiff,reduceCtorEq,Zab,Zad,Zae,Za]
    refine St.getOk s (counterK name).1 w1 _ hA1 (keyL_size _ _ (by simp)) ?_
    intro w2 hm2 hA2
    have hm12 : Mod St.own w w2:=(hm1.mono (fun _ _ x=>x.elim)).trans hm2
    revert h hA2 hv hf
    generalize (St.get s (counterK name).1) = g
    intro hv hf h hA2
    simp only [ZB,insVc,iopK,iopV,extK,ne_eq,Nat.reduceEqDiff,reduceCtorEq,Za,Zaf,Zah]
    refine condP_split ?_ ?_
    · intro hc
      have hc' : g.1.2.2≠0:=by simpa using hc
      simp only [if_pos hc'] at h
      simp only [ZB,endK,resK,packed,insVc,ne_eq,Nat.reduceEqDiff,Zaa,Zap]
      exact h w2 hm12 hA2
    · intro hc
      have hc' : g.1.2.2 = 0:=by simpa using hc
      simp only [if_neg (show ¬ g.1.2.2≠0 by simpa using hc')] at h
      simp only [ZB,insVc,ne_eq,Nat.reduceEqDiff]
      cases hk : g.1.2.1 with
      | false =>
        simp only [hk,Bool.false_eq_true,Zag,ne_eq,not_true_eq_false,Nat.reduceEqDiff] at h
        simp only [ZB,insVc,iopK,iopV,ne_eq,Nat.reduceEqDiff,reduceCtorEq,Int.reduceBEq]
        have e01 : IntKind.u64.wrap (0 + 1) = ((0 + 1 : Nat) : Int):=by decide
        have e02 : IntKind.u64.wrap 1 = ((0 + 1 : Nat) : Int):=by decide
        refine draw_d (fun _=>True) (by kernel_rfl) (by kernel_rfl) (by kernel_rfl) (by kernel_rfl) trivial ?_
        simp only [ZB,insVc,nilK,nilM,iopK,iopV,invK,ne_eq,Nat.reduceEqDiff,reduceCtorEq,Zab,Zad,Zae,Za,Zah,Zac,Zag,Int.reduceAdd,pureI,vcD_nil,vcD_cons,stepD_pure,stepD_step,kindI,loadI,St.putNil,implies_true]
        refine counters_c _ _ ?_
        intro w4 cv hm4 hC4
        simp only [Nat.zero_add,e02]
        refine cbytes_c cv _ (0 + 1) w4 _ hC4 (by omega) ?_
        intro w5 hm5
        have hm25 : Mod (fun _=>False) w2 w5:=((Mod.refl _ w2).drew.trans hm4).trans hm5
        refine St.putOk g.2 (counterK name).1 (cbytes (0 + 1)) w5 _ (St.keep0 hA2 hm25) hf ?_
        intro w6 hm6 hA6
        have hm6' : Mod St.own w w6:=(hm12.trans (hm25.mono (fun _ _ x=>x.elim))).trans hm6
        simp only [true_and,Nat.zero_add]
        refine condP_split ?_ ?_
        · intro hp
          have hp' : (St.put g.2 (counterK name).1 (cbytes (0 + 1))).1≠0:=by simpa using hp
          simp only [if_pos hp'] at h
          simp only [ZB,endK,resK,packed,insVc,ne_eq,Nat.reduceEqDiff,Zaa,Zap]
          exact h w6 hm6' hA6
        · intro hp
          have hp' : (St.put g.2 (counterK name).1 (cbytes (0 + 1))).1 = 0:=by simpa using hp
          simp only [if_neg (show ¬ (St.put g.2 (counterK name).1 (cbytes (0 + 1))).1≠0 by simpa using hp')] at h
          simp only [ZB,endK,resK,packed,insVc,iopK,iopV,ne_eq,Nat.reduceEqDiff,reduceCtorEq,Zaa,Zap,Int.reduceAdd,e02]
          exact h w6 hm6' hA6
      | true =>
        simp only [hk,Zac] at h
        simp only [ZB,insVc,Zae]
        refine counters_c _ _ ?_
        intro w7 cv7 hm7 hC7
        simp only [ZB,insVc,ne_eq,Nat.reduceEqDiff,Zad,Zae]
        refine cread_c cv7 _ g.1.1 w7 _ hC7 hv ?_
        intro w8 hm8
        have hm28:=hm7.trans hm8
        have hlt:=cread_lt g.1.1
        revert h hlt
        generalize cread g.1.1 = r
        intro h hlt
        simp only [ZB,insVc,iopK,iopV,extK,ne_eq,Nat.reduceEqDiff,reduceCtorEq,Za,Zaf,Zah]
        refine condP_split ?_ ?_
        · intro hr
          have hr' : r.2≠0:=by simpa using hr
          simp only [if_pos hr'] at h
          simp only [ZB,endK,resK,packed,insVc,ne_eq,Nat.reduceEqDiff,Zaa,Zap]
          exact h w8 (hm12.trans (hm28.mono (fun _ _ x=>x.elim))) (St.keep0 hA2 hm28)
        intro hr
        have hr' : r.2 = 0:=by simpa using hr
        simp only [if_neg (show ¬ r.2≠0 by simpa using hr')] at h
        simp only [ZB,insVc,iopK,iopV,ne_eq,Nat.reduceEqDiff,reduceCtorEq]
        refine condP_split ?_ ?_
        · intro hx
          have hx' : r.1 = 18446744073709551615:=by have:=eq_of_beq hx; omega
          simp only [if_pos hx'] at h
          simp only [ZB,endK,resK,packed,insVc,ne_eq,Nat.reduceEqDiff,Zaa,Zap]
          exact h w8 (hm12.trans (hm28.mono (fun _ _ x=>x.elim))) (St.keep0 hA2 hm28)
        intro hx
        have hx' : r.1≠18446744073709551615:=by
          intro e
          rw [e] at hx
          simp at hx
        simp only [if_neg hx'] at h
        simp only [ZB]
        have e01 : IntKind.u64.wrap ((r.1 : Int) + 1) = ((r.1 + 1 : Nat) : Int):=by rw [IntKind.wrap_u64]; omega
        refine draw_d (fun _=>True) (by kernel_rfl) (by kernel_rfl) (by kernel_rfl) (by kernel_rfl) trivial ?_
        simp only [ZB,insVc,nilK,nilM,iopK,iopV,invK,ne_eq,Nat.reduceEqDiff,reduceCtorEq,Zab,Zad,Zae,Za,Zah,Zac,Zag,pureI,vcD_nil,vcD_cons,stepD_pure,stepD_step,kindI,loadI,St.putNil,implies_true]
        refine counters_c _ _ ?_
        intro w4 cv hm4 hC4
        simp only [e01]
        refine cbytes_c cv _ (r.1 + 1) w4 _ hC4 (by omega) ?_
        intro w5 hm5
        have hm25 : Mod (fun _=>False) w2 w5:=((hm28).drew.trans hm4).trans hm5
        refine St.putOk g.2 (counterK name).1 (cbytes (r.1 + 1)) w5 _ (St.keep0 hA2 hm25) hf ?_
        intro w6 hm6 hA6
        have hm6' : Mod St.own w w6:=(hm12.trans (hm25.mono (fun _ _ x=>x.elim))).trans hm6
        simp only [true_and]
        refine condP_split ?_ ?_
        · intro hp
          have hp' : (St.put g.2 (counterK name).1 (cbytes (r.1 + 1))).1≠0:=by simpa using hp
          simp only [if_pos hp'] at h
          simp only [ZB,endK,resK,packed,insVc,ne_eq,Nat.reduceEqDiff,Zaa,Zap]
          exact h w6 hm6' hA6
        · intro hp
          have hp' : (St.put g.2 (counterK name).1 (cbytes (r.1 + 1))).1 = 0:=by simpa using hp
          simp only [if_neg (show ¬ (St.put g.2 (counterK name).1 (cbytes (r.1 + 1))).1≠0 by simpa using hp')] at h
          simp only [ZB,endK,resK,packed,insVc,iopK,iopV,ne_eq,Nat.reduceEqDiff,reduceCtorEq,Zaa,Zap,e01]
          exact h w6 hm6' hA6
end Go.Oct
