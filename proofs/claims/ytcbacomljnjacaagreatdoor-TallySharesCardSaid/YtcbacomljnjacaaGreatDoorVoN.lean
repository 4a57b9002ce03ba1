import Derived.Test.YtcbacomljnjacaaGreatDoorVoM
set_option linter.unusedSimpArgs false
set_option linter.unusedVariables false
set_option linter.unusedSectionVars false
set_option linter.unnecessarySimpa false
namespace Go.Oct
open Go Go.Vc Go.VrA
set_option maxRecDepth 100000
def subC : CC→List Nat→CC
  | .seq a _,0 :: p=>subC a p
  | .seq _ b,1 :: p=>subC b p
  | .block _ a,0 :: p=>subC a p
  | .cond _ a _,0 :: p=>subC a p
  | .cond _ _ a,1 :: p=>subC a p
  | .loop a,0 :: p=>subC a p
  | c,_=>c
theorem vc_gen2 {P : Program} {ro : Option Nat} {n : Nat} {c : CC} {Q : QT} {ρ : Env} {ds : List Deferred} {w : World} (h : ∀ W,W = w→vc P ro n c Q ρ ds W) : vc P ro n c Q ρ ds w:=h w rfl
def emptyB (s : ByteArray) : Bool:=s.toList == (⟨#[]⟩ : ByteArray).toList
def Sto.declare {σ : Type} (St : Sto σ) (s : σ) (q : Qu) : Int × σ :=
  if nameB q.name = false∨(emptyB q.dead = false∧nameB q.dead = false) then (23,s) else
  if (q.dead.toList == q.name.toList) = true then (2,s) else
  if q.ttl > 1099511627776 then (29,s) else
  let f:=St.find s q.name
  if f.1.2 = 0 then (22,f.2) else if f.1.2≠21 then (f.1.2,f.2) else
  let g:=if emptyB q.dead = true then ((q0,0),f.2) else St.find f.2 q.dead
  if g.1.2≠0 then (g.1.2,g.2) else St.put g.2 (queueK q.name).1 (qbytes q)
noncomputable def c16r : CC:=subC c98 [1,1]
noncomputable def c16e : CC:=subC c98 [1,1,1,1]
theorem c16_s : c98 = .seq (subC c98 [0]) (.seq (subC c98 [1,0]) c16r):=rfl
theorem c16r_s : c16r = .seq (subC c98 [1,1,0]) (.seq (subC c98 [1,1,1,0]) c16e):=rfl
theorem declareEnd {σ : Type} (St : Sto σ) (s : σ) (q : Qu) (m : Int) (qb : Nat) (w : World) (K : Value→World→Prop) (ρ : Env) (hAt : St.At s w) (hg : Gl m w) (hs : q.name.size < 4294967281) (hq : q.good)
    (hb : w.heap[qb]? = some (.cells q.cells.toArray 121 (0,0))) (hno : ¬ St.foot qb) (hf : St.fit s) (h0 : ρ 0 = .iface St.t St.v) (h3 : ρ 3 = ptr qb)
    (h : ∀ w',Mod St.own w w'→St.At (St.put s (queueK q.name).1 (qbytes q)).2 w'→K (.int .i64 (St.put s (queueK q.name).1 (qbytes q)).1) w') :
    vc Proofs.Tryz.prog none 80 c16e (endQ Proofs.Tryz.prog [RV.tmp 4] K) ρ [] w:=by
  unfold c16e
  unfold Qu.cells at hb
  simp only [ZB,subC,c98,insVc,load1K,faddrK,Zad,Zac,Za,Zah,h3,hb]
  refine queue_c q.name m w _ hg hs ?_
  intro w1 hm1
  have hb1:=hm1.keep hb id
  simp only [ZB,insVc,extK,ne_eq,Nat.reduceEqDiff,Za,Zag,Zah]
  refine draw_d (fun W=>W.heap[qb]? = some (.cells #[.string q.name,.int .u32 q.most,.int .u64 q.ttl,.int .u32 q.tries,.string q.dead] 121 (0,0))) (by kernel_rfl) (by kernel_rfl) (by kernel_rfl) (by kernel_rfl) hb1 ?_
  simp only [ZB,endK,resK,packed,insVc,nilK,nilM,faddrK,invK,ne_eq,Nat.reduceEqDiff,reduceCtorEq,Zad,Zac,Za,Zah,Zaa,Zab,Zae,pureI,vcD_nil,vcD_cons,stepD_pure,stepD_load,stepD_step,kindI,loadI,h0,h3,St.putNil,implies_true]
  refine loadD1 (b:=qb) (o:=0) (v:=.string q.name) rfl (fun W hW=>⟨_,_,_,hW,rfl⟩) ?_
  refine queues_c q.name _ _ ?_
  intro w2 qv hm2 hq2
  have hb2:=hm2.keep (show w1.drew.heap[qb]? = _ from hb1) id
  refine ⟨hb2, ?_⟩
  refine loadDN (b:=qb) (o:=0) (v:=q.val) (by simp only [ZB,ne_eq,Nat.reduceEqDiff,h3]) (fun W hW=>⟨_,_,_,hW,by simp,rfl⟩) ?_
  refine qbytes_c qv _ q.name q w2 _ hq2 hq ?_
  intro w3 hm3
  have hb3:=hm3.keep hb2 id
  refine ⟨hb3, ?_⟩
  have hm13 : Mod (fun _=>False) w w3:=(hm1.drew.trans hm2).trans hm3
  refine St.putOk s (queueK q.name).1 (qbytes q) w3 _ (St.keep0 hAt hm13) hf ?_
  intro w4 hm4 hA4
  refine ⟨hm4.keep hb3 (fun x=>hno (St.ownFoot _ x)), ?_⟩
  exact h w4 ((hm13.mono (fun _ _ x=>x.elim)).trans hm4) hA4
theorem declare_c {σ : Type} (St : Sto σ) (s : σ) (q : Qu) (m : Int) (w : World) (K : Value→World→Prop) (hAt : St.At s w) (hg : Gl m w) (hs : q.name.size < 4294967281) (hq : q.good) (hd : q.dead.size < 4294967281)
    (hv : ∀ k,(St.get s k).1.1.size < 2 ^ 60) (hv2 : ∀ k,(St.get (St.find s q.name).2 k).1.1.size < 2 ^ 60) (hf : St.fit (St.find s q.name).2) (hf2 : St.fit (St.find (St.find s q.name).2 q.dead).2)
    (h : ∀ w',Mod St.own w w'→St.At (St.declare s q).2 w'→K (.int .i64 (St.declare s q).1) w') :
    Ok Proofs.Tryz.prog 98 #[.iface St.t St.v,q.val] w K:=by
  refine F98.enter (args:=[.iface St.t St.v,q.val]) (by simp) ?_
  rw [c16_s]
  have hfoot : ¬ St.foot w.heap.size:=fun x=>by have:=St.footLt s w _ hAt x; omega
  have hown : ¬ St.own w.heap.size:=fun x=>hfoot (St.ownFoot _ x)
  have rest : nameB q.name = true→(emptyB q.dead = true∨nameB q.dead = true)→(q.dead.toList == q.name.toList) = false→¬ (q.ttl > 1099511627776)→∀ w2 ρ,Mod (fun _=>False) w w2→w2.heap[w.heap.size]? = some (.cells #[.string q.name,.int .u32 q.most,.int .u64 q.ttl,.int .u32 q.tries,.string q.dead] 121 (0,0))→ρ 0 = .iface St.t St.v→ρ 3 = ptr w.heap.size →
      vc Proofs.Tryz.prog none 80 c16r (endQ Proofs.Tryz.prog [RV.tmp 4] K) ρ [] w2:=by
    intro n1 n2 n3 n4 w2 ρ hm2 hb2 h0 h3
    unfold Sto.declare at h
    rw [if_neg (by rintro (x | ⟨x,y⟩); (rw [n1] at x; cases x); (rcases n2 with z | z; (rw [z] at x; cases x); (rw [z] at y; cases y))),if_neg (by simp [n3]),if_neg n4] at h
    rw [c16r_s]
    simp only [ZB,subC,c98,insVc,load1K,faddrK,ne_eq,Nat.reduceEqDiff,Zad,Zac,Za,Zah,h0,h3,hb2]
    refine find_c St s q.name m w2 _ (St.keep0 hAt hm2) (hg.mod hm2 id) hs (hv _) ?_
    intro w3 hm3 hA3
    have hm03 : Mod St.own w w3:=(hm2.mono (fun _ _ x=>x.elim)).trans hm3
    have hb3:=hm3.keep hb2 hown
    revert h hA3 hv2 hf hf2
    generalize St.find s q.name = f
    intro hv2 hf hf2 h hA3
    simp only [ZB,insVc,storeNK,setMany,iopK,iopV,extK,isPlain,Value.cells,ne_eq,Nat.reduceEqDiff,Nat.reduceAdd,Nat.reduceLeDiff,reduceCtorEq,Za,Zag,Zah,Zai,Zaj,Zak,Zal,Zam,Zan,Zau,Zaw,Zax,Zbk,Qu.val,Qu.cells]
    refine condP_split ?_ ?_
    · intro he
      have he' : f.1.2 = 0:=by simpa using he
      simp only [if_pos he'] at h
      simp only [ZB,endK,resK,packed,insVc,Zaa]
      exact h _ ((hm03.alloc _).set (.inl (by have:=hm03.size; omega))) (St.keep0 hA3 (((Mod.refl _ _).alloc _).set (.inl (Nat.le_refl _))))
    intro he
    have he' : f.1.2≠0:=by simpa using he
    simp only [if_neg he'] at h
    simp only [ZB,insVc,iopK,iopV,ne_eq,Nat.reduceEqDiff,reduceCtorEq]
    refine condP_split ?_ ?_
    rotate_left
    · intro he2
      have he2' : f.1.2≠21:=by simpa using he2
      simp only [if_pos he2'] at h
      simp only [ZB,endK,resK,packed,insVc,ne_eq,Nat.reduceEqDiff,Zaa]
      exact h _ ((hm03.alloc _).set (.inl (by have:=hm03.size; omega))) (St.keep0 hA3 (((Mod.refl _ _).alloc _).set (.inl (Nat.le_refl _))))
    intro he2
    have he2' : f.1.2 = 21:=by simpa using he2
    simp only [if_neg (show ¬ f.1.2≠21 by simpa using he2')] at h
    refine vc_gen2 ?_
    intro w4 hw4
    have hm4 : Mod (fun _=>False) w3 w4:=by rw [hw4]; exact ((Mod.refl _ _).alloc _).set (.inl (Nat.le_refl _))
    clear hw4
    have hb4:=hm4.keep hb3 id
    have hA4:=St.keep0 hA3 hm4
    have hm04 : Mod St.own w w4:=hm03.trans (hm4.mono (fun _ _ x=>x.elim))
    have hg4 : Gl m w4:=hg.mod hm04 St.own0
    simp only [ZB,insVc,load1K,sopK,sopV,faddrK,ne_eq,Nat.reduceEqDiff,Za,Zag,Zah,h3,hb4]
    by_cases hE : emptyB q.dead = true
    · have hE' : (q.dead.toList == (⟨#[]⟩ : ByteArray).toList) = true:=hE
      simp only [hE,Zab,ne_eq,not_true_eq_false,Zae] at h
      simp only [ZB,hE']
      refine declareEnd St f.2 q m w.heap.size w4 K _ hA4 hg4 hs hq hb4 hfoot hf (by simp only [ZB,ne_eq,reduceCtorEq,h0]) (by simp only [ZB,ne_eq,Nat.reduceEqDiff,h3]) ?_
      intro w5 hm5 hA5
      exact h w5 (hm04.trans hm5) hA5
    · have hE' : (q.dead.toList == (⟨#[]⟩ : ByteArray).toList) = false:=by simpa [emptyB] using hE
      simp only [hE,Bool.false_eq_true,Zae] at h
      simp only [ZB,insVc,load1K,faddrK,ne_eq,Nat.reduceEqDiff,reduceCtorEq,Zad,Zac,Za,Zag,Zah,hE',h0,h3,hb4]
      refine find_c St f.2 q.dead m w4 _ hA4 hg4 hd (hv2 _) ?_
      intro w5 hm5 hA5
      have hb5:=hm5.keep hb4 hown
      have hm05 : Mod St.own w w5:=hm04.trans hm5
      revert h hA5 hf2
      generalize St.find f.2 q.dead = g
      intro hf2 h hA5
      simp only [ZB,insVc,storeNK,setMany,iopK,iopV,extK,isPlain,Value.cells,ne_eq,Nat.reduceEqDiff,Nat.reduceAdd,Nat.reduceLeDiff,reduceCtorEq,Za,Zag,Zah,Zai,Zaj,Zak,Zal,Zam,Zan,Zau,Zaw,Zax,Zbk,Qu.val,Qu.cells]
      refine condP_split ?_ ?_
      · intro hr
        have hr' : g.1.2≠0:=by simpa using hr
        simp only [if_pos hr'] at h
        simp only [ZB,endK,resK,packed,insVc,ne_eq,Nat.reduceEqDiff,Zaa]
        exact h _ ((hm05.alloc _).set (.inl (by have:=hm05.size; omega))) (St.keep0 hA5 (((Mod.refl _ _).alloc _).set (.inl (Nat.le_refl _))))
      · intro hr
        have hr' : g.1.2 = 0:=by simpa using hr
        simp only [if_neg (show ¬ g.1.2≠0 by simpa using hr')] at h
        simp only [ZB]
        refine vc_gen2 ?_
        intro w6 hw6
        have hm6 : Mod (fun _=>False) w5 w6:=by rw [hw6]; exact ((Mod.refl _ _).alloc _).set (.inl (Nat.le_refl _))
        clear hw6
        have hm06 : Mod St.own w w6:=hm05.trans (hm6.mono (fun _ _ x=>x.elim))
        refine declareEnd St g.2 q m w.heap.size w6 K _ (St.keep0 hA5 hm6) (hg.mod hm06 St.own0) hs hq (hm6.keep hb5 id) hfoot hf2 (by simp only [ZB,ne_eq,reduceCtorEq,h0]) (by simp only [ZB,ne_eq,Nat.reduceEqDiff,h3]) ?_
        intro w7 hm7 hA7
        exact h w7 (hm06.trans hm7) hA7
  unfold r98
  simp only [ZB,subC,c98,insVc,load1K,faddrK,Value.cells,ne_eq,Nat.reduceEqDiff,Zaf,Zad,Zac,Za,Zag,Zah,Zbk,Qu.val,Qu.cells]
  refine callK_gen ?_
  intro w0 hw0
  have hm0 : Mod (fun _=>False) w w0:=by rw [hw0]; exact (Mod.refl _ _).alloc _
  have hb0 : w0.heap[w.heap.size]? = some (.cells #[.string q.name,.int .u32 q.most,.int .u64 q.ttl,.int .u32 q.tries,.string q.dead] 121 (0,0)):=by rw [hw0]; exact get_alloc_new _ _
  clear hw0
  have names : nameB q.name = true→(emptyB q.dead = true∨nameB q.dead = true)→∀ w2,Mod (fun _=>False) w w2 →
      ((q.dead.toList == q.name.toList) = true→K (.int .i64 2) w2)∧((q.dead.toList == q.name.toList) = false→q.ttl > 1099511627776→K (.int .i64 29) w2):=by
    intro n1 n2 w2 hm2
    unfold Sto.declare at h
    rw [if_neg (by rintro (x | ⟨x,y⟩); (rw [n1] at x; cases x); (rcases n2 with z | z; (rw [z] at x; cases x); (rw [z] at y; cases y)))] at h
    refine ⟨fun hx => ?_,fun hx hy => ?_⟩
    · rw [if_pos hx] at h
      exact h w2 (hm2.mono (fun _ _ x=>x.elim)) (St.keep0 hAt hm2)
    · rw [if_neg (by simp [hx]),if_pos hy] at h
      exact h w2 (hm2.mono (fun _ _ x=>x.elim)) (St.keep0 hAt hm2)
  have bad : (nameB q.name = false∨(emptyB q.dead = false∧nameB q.dead = false))→∀ w2,Mod (fun _=>False) w w2→K (.int .i64 23) w2:=by
    intro hx w2 hm2
    unfold Sto.declare at h
    rw [if_pos hx] at h
    exact h w2 (hm2.mono (fun _ _ x=>x.elim)) (St.keep0 hAt hm2)
  refine name_c q.name w0 _ ?_
  intro w1 hm1
  have hb1:=hm1.keep hb0 id
  have hm01:=hm0.trans hm1
  cases hn : nameB q.name with
  | false =>
    simp only [ZB,endK,resK,packed,insVc,pickK,notK,ne_eq,Nat.reduceEqDiff,Zaa,Zab]
    exact bad (.inl hn) w1 hm01
  | true =>
    simp only [ZB,insVc,load1K,sopK,sopV,notK,faddrK,ne_eq,Nat.reduceEqDiff,Za,Zag,Zah,hb1]
    cases hE : emptyB q.dead with
    | true =>
      have hE' : (q.dead.toList == (⟨#[]⟩ : ByteArray).toList) = true:=hE
      have hn2:=names hn (.inl hE) w1 hm01
      have hr2:=rest hn (.inl hE)
      simp only [ZB,insVc,pickK,load1K,sopK,sopV,faddrK,ne_eq,Nat.reduceEqDiff,Za,Zag,Zah,Zae,hE',hb1]
      refine condP_split ?_ ?_
      · intro hx
        exact hn2.1 hx
      · intro hx
        simp only [ZB,insVc,load1K,iopK,iopV,faddrK,ne_eq,Nat.reduceEqDiff,reduceCtorEq,Za,Zag,Zah,hb1]
        refine condP_split ?_ ?_
        · intro hy
          simp only [ZB,endK,resK,packed,insVc,Zaa]
          exact hn2.2 hx (by have:=of_decide_eq_true hy; omega)
        · intro hy
          simp only [ZB]
          exact hr2 hx (by have:=of_decide_eq_false hy; omega) w1 _ hm01 hb1 (by simp only [ZB,ne_eq,reduceCtorEq,Zaf,Za]) (by simp only [ZB,ne_eq,Nat.reduceEqDiff])
    | false =>
      have hE' : (q.dead.toList == (⟨#[]⟩ : ByteArray).toList) = false:=hE
      simp only [ZB,insVc,load1K,faddrK,ne_eq,Nat.reduceEqDiff,Zad,Zac,Za,Zag,Zah,hE',hb1]
      refine name_c q.dead w1 _ ?_
      intro w2 hm2
      have hb2:=hm2.keep hb1 id
      have hm02:=hm01.trans hm2
      cases hd2 : nameB q.dead with
      | false =>
        simp only [ZB,endK,resK,packed,insVc,pickK,notK,ne_eq,Nat.reduceEqDiff,Zaa,Zab,Zae]
        exact bad (.inr ⟨hE,hd2⟩) w2 hm02
      | true =>
        have hn2:=names hn (.inr hd2) w2 hm02
        have hr2:=rest hn (.inr hd2)
        simp only [ZB,insVc,pickK,load1K,sopK,sopV,notK,faddrK,ne_eq,Nat.reduceEqDiff,Za,Zag,Zah,Zab,Zae,hb2]
        refine condP_split ?_ ?_
        · intro hx
          simp only [ZB,endK,resK,packed,insVc,Zaa]
          exact hn2.1 hx
        · intro hx
          simp only [ZB,insVc,load1K,iopK,iopV,faddrK,ne_eq,Nat.reduceEqDiff,reduceCtorEq,Za,Zag,Zah,hb2]
          refine condP_split ?_ ?_
          · intro hy
            simp only [ZB,endK,resK,packed,insVc,Zaa]
            exact hn2.2 hx (by have:=of_decide_eq_true hy; omega)
          · intro hy
            simp only [ZB]
            exact hr2 hx (by have:=of_decide_eq_false hy; omega) w2 _ hm02 hb2 (by simp only [ZB,ne_eq,reduceCtorEq,Zaf,Za]) (by simp only [ZB,ne_eq,Nat.reduceEqDiff])
end Go.Oct
