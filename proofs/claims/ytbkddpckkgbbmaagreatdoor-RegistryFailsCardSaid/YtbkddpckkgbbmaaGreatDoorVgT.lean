import Derived.Test.YtbkddpckkgbbmaaGreatDoorVfM
import Derived.Test.YtbkddpckkgbbmaaGreatDoorVcY
import Derived.Test.YtbkddpckkgbbmaaGreatDoorVfQ
set_option linter.unusedSimpArgs false
set_option linter.unusedVariables false
set_option linter.unusedSectionVars false
set_option linter.unnecessarySimpa false
namespace Go.Oct
open Go Go.Vc Go.VrA Go.VrF
set_option maxRecDepth 100000
def FootS {σ : Type} (St : Sto σ) : Prop:=∀ s w w',St.At s w→w.heap.size≤w'.heap.size→(∀ k,St.foot k→w'.heap[k]? = w.heap[k]?)→St.At s w'
def Sto.underS {σ : Type} (St : Sto σ) (s : σ) (sort : ByteArray) (l : List Pt) : List Pr × σ :=
  if ((underK sort l).1.toList == (⟨#[]⟩ : ByteArray).toList) then ([],s) else St.rng s (underK sort l).1 (underK sort l).2
def AtR {σ : Type} (St : Sto σ) (wR : World) (s : σ) (w : World) : Prop:=St.At s w∧∀ k,St.foot k→¬ St.own k→w.heap[k]? = wR.heap[k]?
theorem AtR.mod {σ : Type} {St : Sto σ} {wR : World} {s : σ} {S : Nat→Prop} {w w' : World} (h : AtR St wR s w) (hm : Mod S w w') (hS : ∀ k,k < w.heap.size→S k→¬ St.foot k) : AtR St wR s w' :=
  ⟨St.keep _ _ _ _ h.1 hm hS,fun k hk hn=>(hm.get k (St.footLt _ _ _ h.1 hk) (fun x=>hS k (St.footLt _ _ _ h.1 hk) x hk)).trans (h.2 k hk hn)⟩
theorem thingsB1Z_c {σ : Type} (St : Sto σ) (s : σ) (hfs : FootS St) (hrf : St.rfit s) (wR : World) (sort : ByteArray) (l : List Pt) (vl : Value) (c1 c2 c3 c4 : Nat) (m : Int)
    (hl : l.length < 2 ^ 20) (hs : sort.size < 4294967281) (hp : ∀ p ∈ l,p.good) :
    IterZ Proofs.Tryz.prog 147 [ptr c1,ptr c2,ptr c3,ptr c4] (biV (thingsB (St.underS s sort l).1)) St.foot (AtR St wR s) (fun u=>Gl m u∧IsArg u vl l∧ThCellsB u c1 c2 c3 c4 sort vl St.t St.v) (AtR St wR (St.underS s sort l).2):=by
  rintro y ⟨fy,ya,yb,hyf⟩ J Jx w hJ hAR hX0 hF hS hSx hy
  refine F147.enter (args:=[y,ptr c1,ptr c2,ptr c3,ptr c4]) (by simp) ?_
  unfold c147 r147
  obtain ⟨hg,hvl,e1,e2,e3,e4⟩:=hF 0 _ _ hJ
  have hA:=hAR.1
  have hno : ∀ k,w.heap.size≤k→¬ St.foot k:=fun k hk x=>by have:=St.footLt s w k hA x; omega
  have hft : ∀ k,St.foot k→k < w.heap.size:=fun k x=>St.footLt s w k hA x
  have q1:=lt_of_get e1
  have q2:=lt_of_get e2
  have q1' : ¬ c1 = w.heap.size + 1:=by omega
  have q2' : ¬ c2 = w.heap.size + 1:=by omega
  simp only [ZB,insVc,load1K,Value.cells,ne_eq,Nat.reduceEqDiff,Zab,Zad,Zae,Za,Zaf,Zah,Zag,get_alloc,Nat.reduceEqDiff,e1,e2,Nat.ne_of_lt q1,Nat.ne_of_lt q2,q1',q2']
  refine callK_gen ?_
  intro w1 hw1
  have hm1 : Mod (fun _=>False) w w1:=by rw [hw1]; exact ((Mod.refl _ _).alloc _).alloc _
  have b1 : w1.heap[w.heap.size]? = some (.cells #[y] 243 (0,0)):=by rw [hw1]; simp only [Zac,Zag,size_alloc,get_alloc,size_alloc,Zbl,Zbi,hyf]
  have n1 : w1.heap[w.heap.size + 1]? = some (.cells zb 64 (0,0)):=by rw [hw1]; simp only [Zac,Zag,size_alloc,get_alloc,size_alloc,Zbj,Zbi]
  clear hw1
  have hvl1 : IsArg w1 vl l:=by
    rcases hvl with h | ⟨g,cap,cur,h1,h2,h3⟩
    · exact .inl h
    · exact .inr ⟨g,cap,cur,h1,hm1.keep h2 id,h3⟩
  refine under_c sort l vl m w1 _ (hg.mod hm1 id) hvl1 hl hs hp ?_
  intro w2 hm2
  have hm12:=hm1.trans hm2
  have hz:=hm12.size
  simp only [ZB,insVc,sopK,sopV,extK,ne_eq,Nat.reduceEqDiff,Za,Zaf,Zah]
  unfold Sto.underS at hy ⊢
  refine condP_split ?_ ?_
  · intro hc
    simp only [ZB,endK,resK]
    rw [if_pos hc]
    exact ⟨hz,hAR.mod hm12 (fun _ _ x=>x.elim),fun k=>St.foot k∨w.heap.size≤k∧k < w2.heap.size,fun k hk=>by (rcases hk with hk | hk; exact ⟨.inl hk,by have:=hft k hk; omega⟩; exact ⟨.inr hk.1,hk.2⟩),.inl (hS 0 _ _ w w2 hJ (hm12.mono fun _ _ x=>x.elim) (fun k hk=>hk))⟩
  intro hc
  rw [if_neg (by rw [hc]; exact Bool.false_ne_true)] at hy ⊢
  have e3':=hm12.keep e3 id
  simp only [ZB,insVc,load1K,invK,ne_eq,Nat.reduceEqDiff,Zab,Zad,Zae,Za,Zaf,Zah,e3']
  generalize (underK sort l).1 = from' at *
  generalize (underK sort l).2 = to' at *
  refine St.rngOk s _ _ w2 _ (St.keep0 hA hm12) hrf ?_
  intro w4 gf cap hm4 hA4 it
  have hm14 : Mod St.own w w4:=(hm12.mono fun _ _ x=>x.elim).trans hm4
  have hm24 : Mod St.own w1 w4:=(hm2.mono fun _ _ x=>x.elim).trans hm4
  have hz4:=hm4.size
  have b4:=hm24.keep b1 (fun x=>hno _ (Nat.le_refl _) (St.ownFoot _ x))
  have n4:=hm24.keep n1 (fun x=>hno _ (by omega) (St.ownFoot _ x))
  revert it hy hA4
  generalize (St.rng s from' to').1 = R
  generalize (St.rng s from' to').2 = s2
  intro hy hA4 it
  simp only [ZB]
  let XO : (Nat→Prop)→Nat→Prop:=fun X k=>(St.foot k∨w.heap.size≤k∧k < w4.heap.size + 2)∨X k
  have hXO : ∀ (X X' : Nat→Prop) (a b : World),(∀ k,X' k→X k∨a.heap.size≤k∧k < b.heap.size)→∀ k,XO X' k→XO X k∨a.heap.size≤k∧k < b.heap.size:=by
    rintro X X' a b h k (hk | hk)
    · exact .inl (.inl hk)
    · exact (h k hk).elim (fun x=>.inl (.inr x)) .inr
  have hfin : ∀ (u : World) (X : Nat→Prop) (u' : World),AtR St wR s2 u→w4.heap.size + 2≤u.heap.size→(∀ k,X k→w4.heap.size≤k∧k < u.heap.size)→J (biV (thingsB R)).length (XO X) u∨Jx (XO X) u→Mod (fun k=>k = w4.heap.size) u u' →
      w.heap.size≤u'.heap.size∧AtR St wR s2 u'∧∃ X,(∀ k,X k→(St.foot k∨w.heap.size≤k)∧k < u'.heap.size)∧(J (biV (thingsB R)).length X u'∨Jx X u'):=by
    intro u X u' h0 h1 h2 h3 h4
    have h5:=h4.size
    have hb : ∀ k,XO X k→(St.foot k∨w.heap.size≤k)∧k < u'.heap.size:=by
      rintro k ((hk | hk) | hk)
      · exact ⟨.inl hk,by have:=hft k hk; omega⟩
      · exact ⟨.inr hk.1,by omega⟩
      · have:=h2 k hk; exact ⟨.inr (by omega),by omega⟩
    have hm : Mod (XO X) u u':=h4.mono fun k _ hk=>.inl (.inr (by omega))
    exact ⟨by omega,h0.mod h4 (fun k _ hk hf=>hno k (by omega) hf),XO X,hb,h3.imp (fun h=>hS _ _ _ u u' h hm (fun k hk=>.inl hk)) (fun h=>hSx _ _ u u' h hm (fun k hk=>.inl hk))⟩
  refine range_iter (by kernel_rfl) (by kernel_rfl) (by kernel_rfl) (gf:=gf) (cap:=cap) (by simp only [ZB]) it
    (fun i X u=>(∃ pre : List (Bi × Int),pre.length = i∧thingsB R = pre ++ thingsB (R.drop i))∧J i (XO X) u∧Kept w.heap.size w4 u∧∀ k,St.foot k→u.heap[k]? = w4.heap[k]?)
    (fun c X u=>c = .ret∧(J (biV (thingsB R)).length (XO X) u∨Jx (XO X) u)∧w4.heap.size≤u.heap.size∧∀ k,St.foot k→u.heap[k]? = w4.heap[k]?) ?_ ?_ ?_ ?_ ?_ ?_ ?_ ?_
  · intro X w' hm hsz hX
    refine ⟨⟨[],rfl,by simp⟩,hS 0 _ _ w w' hJ ((hm14.trans (hm.mono fun _ _ x=>x.elim)).mono fun k _ x=>St.ownFoot k x) ?_,(Kept.refl _ _).keep hm (fun _ _ _=>id),fun k hk=>hm.get k (by have:=hft k hk; omega) id⟩
    rintro k ((hk | hk) | hk)
    · exact .inl hk
    · exact .inr ⟨hk.1,by omega⟩
    · have:=hX k hk
      exact .inr (by omega)
  · rintro i X u ⟨_,h1,h2,h3⟩
    exact ⟨hfs s2 w4 u hA4 h2.1 h3,h2.1,fun k hk hk'=>h2.2 k (by omega) hk'⟩
  · rintro i X X' a b ⟨h0,h1,h2,h3⟩ hX ha hm hx
    exact ⟨h0,hS i _ _ a b h1 (hm.mono fun _ _ x=>.inr x) (hXO X X' a b hx),h2.keep hm (fun k _ hk x=>by have:=hX k x; omega),fun k hk=>(hm.get k (by have:=hft k hk; omega) (fun x=>by have:=hX k x; have:=hft k hk; omega)).trans (h3 k hk)⟩
  · rintro c X X' a b ⟨rfl,h,h2,h3⟩ hX ha hm hx
    refine ⟨rfl, ?_,Nat.le_trans h2 hm.size,fun k hk=>(hm.get k (by have:=hft k hk; omega) (fun x=>by have:=hX k x; have:=hft k hk; omega)).trans (h3 k hk)⟩
    exact h.imp (fun h=>hS _ _ _ a b h (hm.mono fun _ _ x=>.inr x) (hXO X X' a b hx)) (fun h=>hSx _ _ a b h (hm.mono fun _ _ x=>.inr x) (hXO X X' a b hx))
  · intro i hi
    rw [List.getElem?_eq_getElem hi]
    simp [rowsV]
  · intro i hi X a ⟨⟨pre,p1,p2⟩,hJa,hKa,hQa⟩ hX ha
    obtain ⟨r,hr⟩ : ∃ r,R[i]? = some r:=⟨R[i]'(by simpa [rowsV] using hi),List.getElem?_eq_getElem _⟩
    have hrow : ((rowsV R)[i]?.getD []) = [.agg #[.string ⟨r.1.1.toArray⟩,.string ⟨r.1.2.toArray⟩],.int .i64 r.2]:=by simp [rowsV,hr]
    have hdrop : R.drop i = r :: R.drop (i + 1):=List.drop_eq_getElem?_toList_append.trans (by rw [hr]; rfl)
    rw [hrow]
    simp only [ZB,insVc,loadNK,storeNK,setMany,isPlain,Value.cells,ne_eq,Nat.reduceEqDiff,Nat.reduceAdd,Nat.reduceLeDiff,Zak,Zai,Zaj,Zal,Zam,Zan,Zas,Zat,Zau,Zbg,updMany]
    refine ⟨((Mod.refl _ _).alloc _).set (.inl (Nat.le_refl _)), ?_⟩
    rintro c hmc ⟨_,hJc,hKc,hQc⟩
    have hxa : ¬ X a.heap.size:=fun x=>by have:=(hX _ x).2; omega
    have pC:=hmc.keep (get_set_same _ _ (.cells #[.string ⟨r.1.1.toArray⟩,.string ⟨r.1.2.toArray⟩] 29 (0,0)) (by rw [size_alloc]; omega)) hxa
    have bC:=hKc.at b4 (Nat.le_refl _)
    have nC:=hKc.at n4 (by omega)
    obtain ⟨hgc,_,_,_,_,e4c⟩:=hF _ _ _ hJc
    have l1:=lt_of_get pC
    have l2:=lt_of_get bC
    have l3:=lt_of_get nC
    have l4:=lt_of_get e4c
    have f3:=Nat.ne_of_lt l3
    simp only [ZB,insVc,storeNK,setMany,iopK,iopV,isPlain,Value.cells,ne_eq,Nat.reduceEqDiff,Nat.reduceAdd,Nat.reduceLeDiff,reduceCtorEq,Zak,Zai,Zaj,Zal,Zam,Zan,Zac,Zag,Zb,Zaz,Zav,Zar,Zay,Zaw,Zas,Zat,Zau,get_alloc,Nat.reduceAdd,Zbj,Nat.reduceEqDiff,Zbi,nC,f3]
    have hpre : ∃ pre : List (Bi × Int),pre.length = i∧thingsB R = pre ++ thingsB (r :: R.drop (i + 1)):=⟨pre,p1,by rw [p2,hdrop]⟩
    have hyieldAny : ∀ (u : World) (o : Bi × Int) (tl : List (Bi × Int)) (G : Value→World→Prop),thingsB (r :: R.drop (i + 1)) = o :: tl→Mod (fun _=>False) c u →
        (∀ d v,c.heap.size≤d.heap.size→(∀ k,XO X k→d.heap[k]? = u.heap[k]?)→(v = .bool true∧J (i + 1) (XO X) d)∨(v = .bool false∧Jx (XO X) d)→G v d)→callvK Proofs.Tryz.prog G u [o.1.val,.int .i64 o.2] y:=by
      intro u o tl G ho hmu hG
      obtain ⟨pre,h1,h2⟩:=hpre
      have hi' : (biV (thingsB R))[i]? = some [o.1.val,.int .i64 o.2]:=by rw [h2,ho]; simp [biV,h1]
      have hlt : i < (biV (thingsB R)).length:=by
        rcases Nat.lt_or_ge i (biV (thingsB R)).length with h | h
        · exact h
        · rw [List.getElem?_eq_none h] at hi'; cases hi'
      have hmus:=hmu.size
      have hbd : ∀ k,XO X k→(St.foot k∨w.heap.size≤k)∧k < u.heap.size:=by
        have:=hKc.1
        have:=hmc.size
        rintro k ((hk | hk) | hk)
        · exact ⟨.inl hk,by have:=hft k hk; omega⟩
        · simp only [size_set,size_alloc] at this; exact ⟨.inr hk.1,by omega⟩
        · have:=hX k hk; simp only [size_set,size_alloc] at *; exact ⟨.inr (by omega),by omega⟩
      have hJu:=hS i _ (XO X) c u hJc (hmu.mono fun _ _ x=>x.elim) (fun k hk=>.inl hk)
      have hyy:=hy i hlt (XO X) u hJu hbd (by have:=hKc.1; omega)
      rw [hi'] at hyy
      refine callvK_mono hyy ?_
      rintro v d ⟨⟨k1,k2⟩,k3⟩
      exact hG d v (by omega) k2 k3
    have hkeepX : ∀ (u d : World),Mod (fun _=>False) c u→(∀ k,XO X k→d.heap[k]? = u.heap[k]?)→∀ k,X k→d.heap[k]? = c.heap[k]?:=by
      intro u d hmu hd k hk
      have:=(hX k hk).2
      have:=hmc.size
      simp only [size_set,size_alloc] at this
      rw [hd k (.inr hk),hmu.get k (by omega) id]
    have hkeepK : ∀ (u d : World),Mod (fun _=>False) c u→c.heap.size≤d.heap.size→(∀ k,XO X k→d.heap[k]? = u.heap[k]?)→Kept w.heap.size w4 d:=by
      intro u d hmu hs hd
      have:=hKc.1
      refine ⟨by omega,fun k h1 h2 => ?_⟩
      rw [hd k (.inl (.inr ⟨h1,by omega⟩)),hmu.get k (by omega) id,hKc.2 k h1 h2]
    have hkeepQ : ∀ (u d : World),Mod (fun _=>False) c u→(∀ k,XO X k→d.heap[k]? = u.heap[k]?)→∀ k,St.foot k→d.heap[k]? = w4.heap[k]?:=by
      intro u d hmu hd k hk
      have:=hKc.1
      rw [hd k (.inl (.inl hk)),hmu.get k (by have:=hft k hk; omega) id,hQc k hk]
    have hbad : ∀ (o : Bi × Int),thingsB (r :: R.drop (i + 1)) = [o]→∀ (u d : World) (v : Value),Mod (fun _=>False) c u→c.heap.size≤d.heap.size→(∀ k,XO X k→d.heap[k]? = u.heap[k]?)→(v = .bool true∧J (i + 1) (XO X) d)∨(v = .bool false∧Jx (XO X) d) →
        (c.heap.size≤d.heap.size∧∀ k,X k→d.heap[k]? = c.heap[k]?)∧(False∧(∃ pre : List (Bi × Int),pre.length = i + 1∧thingsB R = pre ++ thingsB (R.drop (i + 1)))∧J (i + 1) (XO X) d∧Kept w.heap.size w4 d∧(∀ k,St.foot k→d.heap[k]? = w4.heap[k]?) ∨
          ∃ cc,(cc = Code.ret∨∃ id,cc = Code.exit id∧False)∧cc = Code.ret∧(J (biV (thingsB R)).length (XO X) d∨Jx (XO X) d)∧w4.heap.size≤d.heap.size∧∀ k,St.foot k→d.heap[k]? = w4.heap[k]?):=by
      intro o ho u d v hmu k1 k2 k3
      refine ⟨⟨k1,hkeepX u d hmu k2⟩,.inr ⟨.ret,.inl rfl,rfl, ?_,by have:=hKc.1; omega,hkeepQ u d hmu k2⟩⟩
      obtain ⟨pre,h1,h2⟩:=hpre
      have hlen : (biV (thingsB R)).length = i + 1:=by rw [h2,ho]; simp [biV,h1]
      rw [hlen]
      exact k3.imp (·.2) (·.2)
    refine condP_gen ?_
    intro w5 hw5
    have hm5 : Mod (fun _=>False) c w5:=by rw [hw5]; exact (((Mod.refl _ _).alloc _).alloc _).set (.inl (by omega))
    have t5 : w5.heap[c.heap.size]? = some (.cells th0.cells.toArray 98 (0,0)):=by rw [hw5]; simp only [Nat.reduceAdd,and_true,Zac,Zag,size_alloc,Zao,get_alloc,get_set,size_alloc,Zaq,Nat.reduceAdd,Zbl,Zbi]; rfl
    have x5 : w5.heap[c.heap.size + 1]? = some (.cells b0.cells.toArray 64 (0,0)):=by rw [hw5]; simp only [Nat.reduceAdd,size_alloc,Zbe,Zao,size_alloc,Zaq,Nat.reduceAdd]; rfl
    clear hw5
    have p5:=hm5.keep pC id
    have b5:=hm5.keep bC id
    have n5:=hm5.keep nC id
    have e5:=hm5.keep e4c id
    by_cases he : r.2 = 0
    · rw [he]
      simp only [ZB,insVc,load1K,faddrK,ne_eq,Nat.reduceEqDiff,Zad,Zae,Za,Zah,Int.reduceBEq,p5]
      refine parse_c _ w5 _ ?_
      intro w6 hm6
      have t6:=hm6.keep t5 id
      have p6:=hm6.keep p5 id
      have b6:=hm6.keep b5 id
      have n6:=hm6.keep n5 id
      have e6:=hm6.keep e5 id
      have x6:=hm6.keep x5 id
      have hm56:=hm5.trans hm6
      simp only [ZB,insVc,storeNK,extK,ne_eq,Nat.reduceEqDiff,Za,Zaf,Zah,Th.val]
      have hth0 : th0.cells.toArray = #[.string ⟨#[]⟩,.string ⟨#[]⟩,.int .u64 0,.int .u64 0,.string ⟨#[]⟩,.int .i64 0,.string ⟨#[]⟩,.string ⟨#[]⟩,.string ⟨#[]⟩]:=rfl
      rw [hth0] at t6
      have hqz : b0.cells.toArray = zb:=rfl
      rw [hqz] at x6
      have hq1 : ∀ (q : Bi × Int),bgot r = q→r.2 = 0→True:=fun _ _ _=>trivial
      have hgot : bgot r = if (parseR ⟨r.1.1.toArray⟩).2≠0 then (b0,(parseR ⟨r.1.1.toArray⟩).2) else ((parseR ⟨r.1.1.toArray⟩).1.binding,0):=by unfold bgot; rw [if_neg (by simpa using he)]
      revert hgot
      generalize parseR ⟨r.1.1.toArray⟩ = T
      intro hgot
      simp only [ZB,insVc,setMany,iopK,iopV,isPlain,Nat.reduceAdd,Nat.reduceLeDiff,reduceCtorEq,Zak,Zai,Zaj,Zal,Zam,Zan,Zas,Zat,Zau,Th.cells,t6]
      refine condP_gen ?_
      intro w7 hw7
      have hm7' : Mod (fun k=>k = c.heap.size) w6 w7:=by rw [hw7]; exact (Mod.refl _ _).set (.inr rfl)
      have hm7 : Mod (fun _=>False) c w7:=by rw [hw7]; exact hm56.set (.inl (Nat.le_refl _))
      have t7 : w7.heap[c.heap.size]? = some (.cells T.1.cells.toArray 98 (0,0)):=by rw [hw7]; exact get_set_same _ _ _ (lt_of_get t6)
      have p7:=hm7'.keep p6 (by omega)
      have b7:=hm7'.keep b6 (by omega)
      have n7:=hm7'.keep n6 (by omega)
      have e7:=hm7'.keep e6 (by omega)
      have x7:=hm7'.keep x6 (by omega)
      clear hw7
      by_cases hT : T.2 = 0
      · rw [if_neg (by simpa using hT)] at hgot
        rw [hT]
        simp only [Th.cells] at t7
        simp only [ZB,insVc,load1K,loadNK,faddrK,callvK,ne_eq,Nat.reduceEqDiff,Nat.reduceAdd,Nat.reduceLeDiff,Zab,Zad,Zae,Za,Zaf,Zah,Zak,Zai,Zaj,Zaa,Zbr,Int.reduceBEq,Zb,Zaz,Zav,Zar,Zay,Zaw,e7,t7,p7]
        obtain ⟨z,hz⟩ : ∃ z : Int,z = 0:=⟨0,rfl⟩
        refine bound_c T.1 _ z hz w7 _ ?_
        intro w8 hm8
        have hm78:=hm7.trans hm8
        have x8:=hm8.keep x7 id
        have b8:=hm8.keep b7 id
        have n8:=hm8.keep n7 id
        simp only [ZB,insVc,storeNK,setMany,iopK,iopV,extK,isPlain,ne_eq,Nat.reduceEqDiff,Nat.reduceAdd,Nat.reduceLeDiff,reduceCtorEq,Za,Zaf,Zah,Zak,Zai,Zaj,Zal,Zam,Zan,Zas,Zat,Zau,Bi.val,Bi.cells,x8]
        refine condP_gen ?_
        intro w9 hw9
        have hm9' : Mod (fun k=>k = c.heap.size + 1) w8 w9:=by rw [hw9]; exact (Mod.refl _ _).set (.inr rfl)
        have hm9 : Mod (fun _=>False) c w9:=by rw [hw9]; exact hm78.set (.inl (by omega))
        have x9 : w9.heap[c.heap.size + 1]? = some (.cells T.1.binding.cells.toArray 64 (0,0)):=by rw [hw9]; exact get_set_same _ _ _ (lt_of_get x8)
        have b9:=hm9'.keep b8 (by omega)
        clear hw9
        subst hz
        simp only [Bi.cells] at x9
        simp only [ZB,insVc,load1K,loadNK,callvK,ne_eq,Nat.reduceEqDiff,Nat.reduceAdd,Nat.reduceLeDiff,Zad,Zae,Za,Zah,Zak,Zai,Zaj,Int.reduceBNe,Zb,Zaz,Zav,Zar,Zay,Zaw,b9,x9]
        refine hyieldAny w9 (T.1.binding,0) (thingsB (R.drop (i + 1))) _ (by simp [thingsB,hgot]) hm9 ?_
        rintro d v k1 k2 k3
        rcases k3 with ⟨rfl,k3⟩ | ⟨rfl,k3⟩
        · simp only [ZB,insVc,notK,reduceCtorEq]
          refine ⟨⟨k1,hkeepX w9 d hm9 k2⟩,.inl ⟨?_,k3,hkeepK w9 d hm9 k1 k2,hkeepQ w9 d hm9 k2⟩⟩
          obtain ⟨pre,h1,h2⟩:=hpre
          exact ⟨pre ++ [(T.1.binding,0)],by simp [h1],by rw [h2]; simp [thingsB,hgot]⟩
        · simp only [ZB,insVc,notK,reduceCtorEq]
          exact ⟨⟨k1,hkeepX w9 d hm9 k2⟩,.inr ⟨.ret,.inl rfl,rfl,.inr k3,by have:=hKc.1; omega,hkeepQ w9 d hm9 k2⟩⟩
      · rw [if_pos hT] at hgot
        have hne : (T.2 == 0) = false:=by simpa using hT
        have hne' : (T.2 != 0) = true:=by simpa using hT
        simp only [ZB,insVc,load1K,loadNK,iopK,iopV,callvK,ne_eq,Nat.reduceEqDiff,Nat.reduceAdd,Nat.reduceLeDiff,reduceCtorEq,Zad,Zae,Za,Zah,Zak,Zai,Zaj,Zb,Zaz,Zav,Zar,Zay,Zaw,hne,hne',b7,n7]
        refine hyieldAny w7 (b0,T.2) [] _ (by simp [thingsB,hgot,hT]) hm7 ?_
        rintro d v k1 k2 k3
        simp only [ZB,reduceCtorEq]
        exact hbad (b0,T.2) (by simp [thingsB,hgot,hT]) w7 d v hm7 k1 k2 k3
    · have hne : (r.2 == 0) = false:=by simpa using he
      have hne' : (r.2 != 0) = true:=by simpa using he
      simp only [ZB,insVc,load1K,loadNK,iopK,iopV,callvK,ne_eq,Nat.reduceEqDiff,Nat.reduceAdd,Nat.reduceLeDiff,reduceCtorEq,Zad,Zae,Za,Zah,Zak,Zai,Zaj,Zb,Zaz,Zav,Zar,Zay,Zaw,hne,hne',b5,n5]
      refine hyieldAny w5 (b0,r.2) [] _ (by simp [thingsB,bgot,he]) hm5 ?_
      rintro d v k1 k2 k3
      simp only [ZB,reduceCtorEq]
      exact hbad (b0,r.2) (by simp [thingsB,bgot,he]) w5 d v hm5 k1 k2 k3
  · rintro X u ⟨⟨pre,h1,h2⟩,h3,h4,h5⟩ ⟨a1,a2,a3⟩
    simp only [ZB,endK,resK,markO,a1]
    have hfin':=fun h=>hfin u X (Vc.set u w4.heap.size (.deferred none)) ⟨hfs s2 w4 u hA4 h4.1 h5,fun k hk hn=>(h5 k hk).trans ((hm14.get k (hft k hk) hn).trans (hAR.2 k hk hn))⟩ a2 a3 h ((Mod.refl _ _).set (.inr rfl))
    simp only [size_set] at hfin'
    refine hfin' (.inl ?_)
    have hlen : (rowsV R).length = R.length:=by simp [rowsV]
    rw [hlen,List.drop_length] at h2
    have : (rowsV R).length = (biV (thingsB R)).length:=by rw [h2,hlen]; simp [biV,thingsB,h1,hlen]
    rw [← this]; exact h3
  · rintro c X u ⟨rfl,h,h4,h5⟩ ⟨a1,a2,a3⟩
    have hfin':=hfin u X (Vc.set u w4.heap.size (.deferred none)) ⟨hfs s2 w4 u hA4 h4 h5,fun k hk hn=>(h5 k hk).trans ((hm14.get k (hft k hk) hn).trans (hAR.2 k hk hn))⟩ a2 a3 h ((Mod.refl _ _).set (.inr rfl))
    simp only [size_set] at hfin'
    simp only [ZB,exitOf,endK,resK,markO,a1]
    exact hfin'
end Go.Oct
namespace Go.Oct
open Go Go.Vc Go.VrA Go.VrF
set_option maxRecDepth 100000
theorem iterZ_mono {P : Program} {gf : FuncId} {cap : List Value} {xs : List (List Value)} {X0 : Nat→Prop} {Pre Pre' F F' Post : World→Prop} (h : IterZ P gf cap xs X0 Pre F Post) (hP : ∀ w,Pre' w→Pre w) (hF : ∀ w,F' w→F w) : IterZ P gf cap xs X0 Pre' F' Post :=
  fun y hy J Jx w h0 hp hX hf hS hSx hr=>h y hy J Jx w h0 (hP w hp) hX (fun i X u hj=>hF u (hf i X u hj)) hS hSx hr
theorem AtR.mod_own {σ : Type} {St : Sto σ} {w u : World} {s : σ} (h : AtR St w s u) (hm : Mod St.foot w u) : Mod St.own w u :=
  ⟨hm.os,hm.tape,hm.output,hm.size,fun k hk hn=>by
    by_cases hf : St.foot k
    · exact h.2 k hf hn
    · exact hm.get k hk hf⟩
theorem thingsBZ_c {σ : Type} (St : Sto σ) (s : σ) (hfs : FootS St) (hrf : St.rfit s) (wR : World) (sort : ByteArray) (l : List Pt) (vl : Value) (m : Int) (w : World) (K : Value→World→Prop)
    (hvl : ∃ a n c,vl = .slice a n c) (hl : l.length < 2 ^ 20) (hs : sort.size < 4294967281) (hp : ∀ p ∈ l,p.good)
    (h : ∀ w' gf cap,Mod (fun _=>False) w w'→IterZ Proofs.Tryz.prog gf cap (biV (thingsB (St.underS s sort l).1)) St.foot (AtR St wR s) (fun u=>Gl m u∧IsArg u vl l∧Kept w.heap.size w' u) (AtR St wR (St.underS s sort l).2)→K (.func (.func gf) #[] cap.toArray) w') :
    Ok Proofs.Tryz.prog 80 #[.iface St.t St.v,.func (.func 81) #[] #[],.string sort,vl] w K:=by
  obtain ⟨va,vn,vcap,rfl⟩:=hvl
  refine F80.enter (args:=[_,_,_,_]) (by simp) ?_
  unfold c80 r80
  simp only [ZB,endK,resK,packed,insVc,Value.cells,ne_eq,Nat.reduceEqDiff,Nat.reduceAdd,Zab,Zad,Zae,Za,Zaf,Zaa,Zaq,Nat.reduceAdd,Nat.reduceEqDiff]
  refine h _ _ [ptr (w.heap.size + 2),ptr (w.heap.size + 3),ptr w.heap.size,ptr (w.heap.size + 1)] (((((Mod.refl _ _).alloc _).alloc _).alloc _).alloc _) (iterZ_mono (thingsB1Z_c St s hfs hrf wR sort l (.slice va vn vcap) _ _ _ _ m hl hs hp) (fun _ h=>h) ?_)
  rintro u ⟨h2,h4,h3⟩
  refine ⟨h2,h4,h3.at ?_ (by omega),h3.at ?_ (by omega),h3.at ?_ (by omega),h3.at ?_ (by omega)⟩ <;> simp only [Nat.reduceEqDiff,Nat.reduceAdd,reduceCtorEq,Zac,Zag,size_alloc,get_alloc,size_alloc,Zaq,Nat.reduceAdd,Zbm,Zbj,Zbl,Nat.reduceEqDiff,Zbi]
theorem bindingsZ_c {σ : Type} (St : Sto σ) (s : σ) (hfs : FootS St) (hrf : St.rfit s) (wR : World) (ex : ByteArray) (m : Int) (w : World) (K : Value→World→Prop) (hex : ex.size < 4294967281)
    (h : ∀ w' gf cap,Mod (fun _=>False) w w'→IterZ Proofs.Tryz.prog gf cap (biV (thingsB (St.underS s ⟨#[98]⟩ [str ex]).1)) St.foot (AtR St wR s) (fun u=>Gl m u∧Kept w.heap.size w' u) (AtR St wR (St.underS s ⟨#[98]⟩ [str ex]).2)→K (.func (.func gf) #[] cap.toArray) w') :
    Ok Proofs.Tryz.prog 87 #[.iface St.t St.v,.string ex] w K:=by
  refine F87.enter (args:=[.iface St.t St.v,.string ex]) (by simp) ?_
  unfold c87 r87
  simp only [ZB,insVc,ne_eq,Nat.reduceEqDiff,reduceCtorEq,Zab,Zad,Zae,Za,Zaf]
  refine str_c ex w _ ?_
  intro w1 hm1
  simp only [ZB,insVc,fillL,buildSK,Value.cells,ne_eq,Nat.reduceEqDiff,Nat.reduceAdd,Nat.reduceLeDiff,Zad,Zae,Zak,Zai,Zaj,Zbc,Zbd,Zba,Zbb,Zal,Zam,Zan,Zbf,Zac,Pt.val,Pt.cells,str]
  have hm2 : Mod (fun _=>False) w (w1.alloc (.cells #[.bool true,.int .u64 0,.string ex] 118)):=hm1.alloc _
  have hpts:=pts_lit w1 [str ex] _ rfl
  have hz1:=hm1.size
  refine thingsBZ_c St s hfs hrf wR ⟨#[98]⟩ [str ex] _ m _ _ ⟨_,_,_,rfl⟩ (by simp) (by decide) (by simp [Pt.good,str]; exact hex) ?_
  intro w' gf cap hm' it
  simp only [ZB,endK,resK,packed,insVc,Zaa]
  have hms':=hm'.size
  rw [size_alloc] at hms'
  refine h w' gf cap (hm2.trans hm') (iterZ_mono it (fun _ h=>h) ?_)
  rintro u ⟨h2,h3⟩
  refine ⟨h2,.inr ?_,h3.1,fun k hk hk'=>h3.2 k (by rw [size_alloc] at hk; omega) hk'⟩
  obtain ⟨g,cap',cur,e1,e2,e3⟩:=hpts
  have hgz : w1.heap.size = g:=by
    have:=congrArg (fun v=>v.ownBlock) e1
    exact Option.some.inj this
  have e2':=hm'.keep e2 id
  exact ⟨g,cap',cur,e1,h3.at e2' (by omega),e3⟩
theorem mixedZ_c {σ : Type} (St : Sto σ) (s : σ) (hfs : FootS St) (hrf : St.rfit s) (hf0 : ¬ St.foot 0) (b : Bi) (m : Int) (w : World) (K : Value→World→Prop) (hAt : St.At s w) (hg : Gl m w) (h0 : 0 < w.heap.size) (hb : b.good)
    (h : ∀ w',Mod St.own w w'→St.At (St.underS s ⟨#[98]⟩ [str b.ex]).2 w'→K (.int .i64 (mixE b.kind (thingsB (St.underS s ⟨#[98]⟩ [str b.ex]).1))) w') :
    Ok Proofs.Tryz.prog 84 #[.iface St.t St.v,b.val] w K:=by
  refine F84.enter (args:=[.iface St.t St.v,b.val]) (by simp) ?_
  unfold c84 r84
  simp only [ZB,insVc,load1K,faddrK,Value.cells,ne_eq,Nat.reduceEqDiff,reduceCtorEq,Zab,Zad,Zae,Za,Zaf,Zah,Zac,Zag,get_alloc,Zbl,Nat.reduceEqDiff,Zbi,Bi.val,Bi.cells]
  refine callK_gen ?_
  intro w1 hw1
  have hm1 : Mod (fun _=>False) w w1:=by rw [hw1]; exact ((Mod.refl _ _).alloc _).alloc _
  have o1 : w1.heap[w.heap.size]? = some (.cells #[.string b.ex,.int .i64 b.kind,.string b.key,.string b.q] 64 (0,0)):=by rw [hw1]; simp only [Zac,Zag,size_alloc,get_alloc,size_alloc,Zbl,Zbi]
  have b1 : w1.heap[w.heap.size + 1]? = some (.cells #[.int .i64 0] 23 (0,0)):=by rw [hw1]; simp only [Zac,Zag,size_alloc,get_alloc,size_alloc,Zbj,Zbi]
  have hz1 : w1.heap.size = w.heap.size + 2:=by rw [hw1]; simp only [Nat.reduceAdd,size_alloc,size_alloc,Zaq,Nat.reduceAdd]
  clear hw1
  refine bindingsZ_c St s hfs hrf w b.ex m w1 _ hb.1 ?_
  intro w2 gf cap hm2 it
  revert h it
  generalize thingsB (St.underS s ⟨#[98]⟩ [str b.ex]).1 = L
  generalize (St.underS s ⟨#[98]⟩ [str b.ex]).2 = s2
  intro h it
  have hm12:=hm1.trans hm2
  have o2:=hm2.keep o1 id
  have b2:=hm2.keep b1 id
  have z2:=hm2.size
  have hfoot : ∀ k,w.heap.size≤k→¬ St.foot k:=fun k hk x=>by have:=St.footLt s w _ hAt x; omega
  obtain ⟨F,hFe⟩ : ∃ F : World→Prop,F = fun u=>Gl m u∧Kept w1.heap.size w2 u:=⟨_,rfl⟩
  rw [← hFe] at it
  have hF0 : F w2:=by rw [hFe]; exact ⟨hg.mod hm12 id,Kept.refl _ _⟩
  have hFs : ∀ (S : Nat→Prop) (a b : World),F a→Mod S a b→(∀ k,S k→St.foot k∨(w.heap.size≤k∧k < w.heap.size + 2)∨w2.heap.size≤k)→F b:=by
    rw [hFe]
    rintro S a b ⟨f2,f3⟩ hm hS
    exact ⟨f2.mod hm (fun x=>by rcases hS _ x with y | y; exact hf0 y; omega),f3.keep hm (fun k h1 h2 hk=>by rcases hS k hk with y | y; exact hfoot k (by omega) y; omega)⟩
  clear hFe
  simp only [ZB]
  have hft : ∀ k,St.foot k→k < w.heap.size:=fun k x=>St.footLt s w k hAt x
  refine range_iterZ (by kernel_rfl) (by kernel_rfl) (by kernel_rfl) (gf:=gf) (cap:=cap) (by simp only [ZB]) it (fun a k o hk hp=>hp.mod (S:=fun j=>j = k) ((Mod.refl _ _).set (.inr rfl)) (fun j _ e=>hfoot j (by omega))) (fun k hk=>by have:=hft k hk; omega) (fun w' hm=>⟨St.keep0 (St.keep0 hAt hm12) hm,fun k hk _=>((hm12.trans hm).get k (hft k hk) id)⟩)
    (fun i X u=>F u∧Mod St.foot w u∧u.heap[w.heap.size]? = some (.cells #[.string b.ex,.int .i64 b.kind,.string b.key,.string b.q] 64 (0,0))∧u.heap[w.heap.size + 1]? = some (.cells #[.int .i64 0] 23 (0,0))∧mixE b.kind L = mixE b.kind (L.drop i))
    (fun c X u=>c = .ret∧Mod St.foot w u∧u.heap[w.heap.size + 1]? = some (.cells #[.int .i64 (mixE b.kind L)] 23 (0,0))) ?_ ?_ ?_ ?_ ?_ ?_ ?_ ?_
  · intro X w' hm hsz hX
    exact ⟨hFs _ _ _ hF0 hm (fun _ x=>x.elim),(hm12.trans hm).mono fun _ _ x=>x.elim,hm.keep o2 id,hm.keep b2 id,rfl⟩
  · rintro i X u ⟨h1,_⟩
    exact h1
  · rintro i X X' a c ⟨h1,h2,h3,h4,h5⟩ hX ha hm hxx
    have hge : ∀ k,X k→St.foot k∨w2.heap.size≤k:=fun k hk=>hX k hk
    exact ⟨hFs X _ _ h1 hm (fun k hk=>(hge k hk).imp id .inr),h2.then hm (fun i hi hk=>(hge i hk).elim id (fun y=>by omega)),hm.keep h3 (fun x=>by rcases hge _ x with y | y; exact hfoot _ (Nat.le_refl _) y; omega),hm.keep h4 (fun x=>by rcases hge _ x with y | y; exact hfoot _ (by omega) y; omega),h5⟩
  · rintro c X X' a d ⟨rfl,h2,h4⟩ hX ha hm hxx
    have hge : ∀ k,X k→St.foot k∨w2.heap.size≤k:=fun k hk=>hX k hk
    exact ⟨rfl,h2.then hm (fun i hi hk=>(hge i hk).elim id (fun y=>by omega)),hm.keep h4 (fun x=>by rcases hge _ x with y | y; exact hfoot _ (by omega) y; omega)⟩
  · intro i hi
    rw [List.getElem?_eq_getElem hi]
    simp [biV]
  · intro i hi X a ⟨h1,h2,h3,h4,h5⟩ hX ha
    obtain ⟨r,hr⟩ : ∃ r,L[i]? = some r:=⟨L[i]'(by simpa [biV] using hi),List.getElem?_eq_getElem _⟩
    have hrow : ((biV L)[i]?.getD []) = [r.1.val,.int .i64 r.2]:=by simp [biV,hr]
    have hdrop : L.drop i = r :: L.drop (i + 1):=List.drop_eq_getElem?_toList_append.trans (by rw [hr]; rfl)
    rw [hdrop] at h5
    rw [hrow]
    simp only [ZB,insVc,storeNK,setMany,iopK,iopV,isPlain,Value.cells,ne_eq,Nat.reduceEqDiff,Nat.reduceAdd,Nat.reduceLeDiff,reduceCtorEq,Zak,Zai,Zaj,Zal,Zam,Zan,Zas,Zat,Zau,Zbg,updMany,Bi.val,Bi.cells]
    refine ⟨((Mod.refl _ _).alloc _).set (.inl (Nat.le_refl _)), ?_⟩
    rintro c hmc ⟨k1,k2,k3,k4,_⟩
    have hxa : ¬ X a.heap.size:=fun x=>by have:=(hX _ x).2; omega
    have pC:=hmc.keep (get_set_same _ _ (.cells #[.string r.1.ex,.int .i64 r.1.kind,.string r.1.key,.string r.1.q] 64 (0,0)) (by rw [size_alloc]; omega)) hxa
    have hge : ∀ k,X k→(St.foot k∨w2.heap.size≤k)∧k < c.heap.size:=fun k hk=>⟨(hX k hk).1,by have:=hX k hk; have:=hmc.size; simp only [size_set,size_alloc] at this; omega⟩
    have l4:=lt_of_get k4
    have stopE : ∀ e : Int,mixE b.kind (r :: L.drop (i + 1)) = e →
        (c.heap.size≤(Vc.set c (w.heap.size + 1) (.cells #[.int .i64 e] 23 (0,0))).heap.size∧∀ k,X k→(Vc.set c (w.heap.size + 1) (.cells #[.int .i64 e] 23 (0,0))).heap[k]? = c.heap[k]?) ∧
        (Mod St.foot w (Vc.set c (w.heap.size + 1) (.cells #[.int .i64 e] 23 (0,0)))∧(Vc.set c (w.heap.size + 1) (.cells #[.int .i64 e] 23 (0,0))).heap[w.heap.size + 1]? = some (.cells #[.int .i64 (mixE b.kind L)] 23 (0,0))):=by
      intro e he
      refine ⟨⟨by rw [size_set]; exact Nat.le_refl _,fun k hk => ?_⟩,k2.set (.inl (by omega)), ?_⟩
      · refine get_set_other _ _ _ _ (fun e => ?_)
        rcases (hge k hk).1 with y | y
        · exact hfoot k (by omega) y
        · omega
      · rw [h5,he]; exact get_set_same _ _ _ l4
    by_cases hr0 : r.2 = 0
    · have q0 : (r.2 != 0) = false:=by simpa using hr0
      simp only [ZB,insVc,load1K,iopK,iopV,faddrK,ne_eq,Nat.reduceEqDiff,reduceCtorEq,Za,Zaf,Zah,q0,pC,k3]
      by_cases hk : r.1.kind = b.kind
      · have q1 : (r.1.kind != b.kind) = false:=by simpa using hk
        simp only [ZB,reduceCtorEq,q1]
        refine ⟨⟨Nat.le_refl _,fun _ _=>trivial⟩,.inl ⟨k1,k2,k3,k4, ?_⟩⟩
        rw [h5,mixE,if_neg (by simpa using hr0),if_neg (by simpa using hk)]
      · have q1 : (r.1.kind != b.kind) = true:=by simpa using hk
        obtain ⟨x1,x2,x3⟩:=stopE 11 (by rw [mixE,if_neg (by simpa using hr0),if_pos hk])
        simp only [ZB,insVc,storeK,isPlain,ne_eq,Nat.reduceEqDiff,Nat.reduceLT,Nat.reduceLeDiff,reduceCtorEq,Zak,Zai,Zaj,Zal,Zam,Zao,q1,k4]
        exact ⟨⟨Nat.le_refl _,x1.2⟩,.inr ⟨.ret,.inl rfl,rfl,x2,x3⟩⟩
    · have q0 : (r.2 != 0) = true:=by simpa using hr0
      obtain ⟨x1,x2,x3⟩:=stopE r.2 (by rw [mixE,if_pos hr0])
      simp only [ZB,insVc,storeK,isPlain,ne_eq,Nat.reduceEqDiff,Nat.reduceLT,Nat.reduceLeDiff,reduceCtorEq,Zak,Zai,Zaj,Zal,Zam,Zao,q0,k4]
      exact ⟨⟨Nat.le_refl _,x1.2⟩,.inr ⟨.ret,.inl rfl,rfl,x2,x3⟩⟩
  · rintro X u ⟨h1,h2,h3,h4,h5⟩ hP ⟨d1,d2,d3⟩
    have hlen : (biV L).length = L.length:=by simp [biV]
    rw [hlen,List.drop_length] at h5
    have hA : Mod (fun k=>k = w.heap.size + 1) u (Vc.set u (w.heap.size + 1) (.cells #[.int .i64 0] 23 (0,0))):=(Mod.refl _ _).set (.inr rfl)
    have d1':=hA.keep d1 (by omega)
    have hm3:=(h2.set (b:=w.heap.size + 1) (o:=.cells #[.int .i64 0] 23 (0,0)) (.inl (by omega))).set (b:=w2.heap.size) (o:=.deferred none) (.inl (by omega))
    have hB : Mod (fun k=>k = w2.heap.size) (Vc.set u (w.heap.size + 1) (.cells #[.int .i64 0] 23 (0,0))) (Vc.set (Vc.set u (w.heap.size + 1) (.cells #[.int .i64 0] 23 (0,0))) w2.heap.size (.deferred none)):=(Mod.refl _ _).set (.inr rfl)
    have h4':=hB.keep (get_set_same _ _ (.cells #[.int .i64 0] 23 (0,0)) (lt_of_get h4)) (by omega)
    simp only [ZB,endK,resK,res1,packed,insVc,storeK,isPlain,ne_eq,Nat.reduceEqDiff,Nat.reduceLT,Nat.reduceLeDiff,Zak,Zai,Zaj,Zal,Zam,Zaa,Zao,h4,markO,d1',h4']
    have e0 : mixE b.kind L = 0:=h5
    rw [e0] at h
    have hP':=(hP.mod hA (fun k _ e=>hfoot k (by omega))).mod hB (fun k _ e=>hfoot k (by omega))
    exact h _ (hP'.mod_own hm3) hP'.1
  · rintro c X u ⟨rfl,h2,h4⟩ hP ⟨d1,d2,d3⟩
    have hm3:=h2.set (b:=w2.heap.size) (o:=.deferred none) (.inl (by omega))
    have hB : Mod (fun k=>k = w2.heap.size) u (Vc.set u w2.heap.size (.deferred none)):=(Mod.refl _ _).set (.inr rfl)
    have h4':=hB.keep h4 (by omega)
    simp only [ZB,exitOf,endK,resK,res1,packed,ne_eq,Nat.reduceEqDiff,Zaa,markO,d1,h4']
    have hP':=hP.mod hB (fun k _ e=>hfoot k (by omega))
    exact h _ (hP'.mod_own hm3) hP'.1
end Go.Oct
namespace Go.Oct
open Go Go.Vc Go.VrA Go.VrF
set_option maxRecDepth 100000
def Sto.mixZ {σ : Type} (St : Sto σ) (s : σ) (b : Bi) : Int × σ:=(mixE b.kind (thingsB (St.underS s ⟨#[98]⟩ [str b.ex]).1),(St.underS s ⟨#[98]⟩ [str b.ex]).2)
def Sto.bindZ {σ : Type} (St : Sto σ) (s : σ) (b : Bi) : Int × σ :=
  if nameB b.ex = false∨nameB b.q = false then (23,s) else
  if b.kind < 1∨3 < b.kind then (11,s) else
  if rightB b.kind b.key = false then (24,s) else
  if (St.find s b.q).1.2≠0 then ((St.find s b.q).1.2,(St.find s b.q).2) else
  if (St.mixZ (St.find s b.q).2 b).1≠0 then (St.mixZ (St.find s b.q).2 b) else
  if (bindK b).2≠0 then ((bindK b).2,(St.mixZ (St.find s b.q).2 b).2) else
  if (St.get (St.mixZ (St.find s b.q).2 b).2 (bindK b).1).1.2.2≠0 then ((St.get (St.mixZ (St.find s b.q).2 b).2 (bindK b).1).1.2.2,(St.get (St.mixZ (St.find s b.q).2 b).2 (bindK b).1).2) else
  if (St.get (St.mixZ (St.find s b.q).2 b).2 (bindK b).1).1.2.1 = true then (22,(St.get (St.mixZ (St.find s b.q).2 b).2 (bindK b).1).2) else
  St.put (St.get (St.mixZ (St.find s b.q).2 b).2 (bindK b).1).2 (bindK b).1 e0
theorem bindZ_c {σ : Type} (St : Sto σ) (s : σ) (b : Bi) (hfs : FootS St) (hrf : St.rfit (St.find s b.q).2) (hf0 : ¬ St.foot 0) (m : Int) (w : World) (K : Value→World→Prop) (hAt : St.At s w) (hg : Gl m w) (h0 : 0 < w.heap.size) (hb : b.good) (hk40 : b.key.size < 2 ^ 40)
    (hv : (St.get s (queueK b.q).1).1.1.size < 2 ^ 60) (hf : St.fit (St.get (St.mixZ (St.find s b.q).2 b).2 (bindK b).1).2)
    (h : ∀ w',Mod St.own w w'→St.At (St.bindZ s b).2 w'→K (.int .i64 (St.bindZ s b).1) w') :
    Ok Proofs.Tryz.prog 31 #[.iface St.t St.v,b.val] w K:=by
  refine F31.enter (args:=[.iface St.t St.v,b.val]) (by simp) ?_
  rw [c31_s]
  have hbv : b.val = .agg #[.string b.ex,.int .i64 b.kind,.string b.key,.string b.q]:=rfl
  have hfoot : ¬ St.foot w.heap.size:=fun x=>by have:=St.footLt s w _ hAt x; omega
  have hown : ¬ St.own w.heap.size:=fun x=>hfoot (St.ownFoot _ x)
  have rest : nameB b.ex = true→nameB b.q = true→1≤b.kind→b.kind≤3→rightB b.kind b.key = true→∀ w2 ρ,Mod (fun _=>False) w w2→w2.heap[w.heap.size]? = some (.cells #[.string b.ex,.int .i64 b.kind,.string b.key,.string b.q] 64 (0,0))→ρ 0 = .iface St.t St.v→ρ 3 = ptr w.heap.size →
      vc Proofs.Tryz.prog none 80 c31r (endQ Proofs.Tryz.prog [RV.tmp 4] K) ρ [] w2:=by
    intro n1 n2 n3 n4 n5 w2 ρ hm2 hb2 r0' r3'
    unfold Sto.bindZ at h
    rw [if_neg (by rw [n1,n2]; simp),if_neg (by omega),if_neg (by rw [n5]; simp)] at h
    unfold c31r
    simp only [ZB,subC,c31,insVc,load1K,faddrK,ne_eq,Nat.reduceEqDiff,Zad,Zae,Za,Zaf,Zah,r0',r3',hb2]
    refine find_c St s b.q m w2 _ (St.keep0 hAt hm2) (hg.mod hm2 id) hb.2.2 hv ?_
    intro w3 hm3 hA3
    have hm03 : Mod St.own w w3:=(hm2.mono (fun _ _ x=>x.elim)).trans hm3
    have hb3:=hm3.keep hb2 hown
    revert h hA3 hf hrf
    generalize St.find s b.q = f
    intro hrf hf h hA3
    simp only [ZB,insVc,storeNK,setMany,iopK,iopV,extK,isPlain,Value.cells,ne_eq,Nat.reduceEqDiff,Nat.reduceAdd,Nat.reduceLeDiff,reduceCtorEq,Za,Zaf,Zah,Zak,Zai,Zaj,Zal,Zam,Zan,Zas,Zat,Zau,Zbg,Qu.val,Qu.cells]
    refine condP_gen ?_
    intro w4 hw4
    have hm4 : Mod (fun _=>False) w3 w4:=by rw [hw4]; exact ((Mod.refl _ _).alloc _).set (.inl (Nat.le_refl _))
    clear hw4
    have hb4:=hm4.keep hb3 id
    have hm04 : Mod St.own w w4:=hm03.trans (hm4.mono fun _ _ x=>x.elim)
    have hA4:=St.keep0 hA3 hm4
    refine condP_split ?_ ?_
    · intro he
      have he' : f.1.2≠0:=by simpa using he
      simp only [if_pos he'] at h
      simp only [ZB,endK,resK,packed,insVc,ne_eq,Nat.reduceEqDiff,Zaa]
      exact h w4 hm04 hA4
    intro he
    have he' : ¬ f.1.2≠0:=by simpa using he
    simp only [if_neg he'] at h
    have hms4:=hm04.size
    simp only [ZB,insVc,loadNK,ne_eq,Nat.reduceEqDiff,Nat.reduceAdd,Nat.reduceLeDiff,reduceCtorEq,Zad,Zae,Zak,Zai,Zaj,Zb,Zaz,Zav,Zar,Zay,Zaw,r0',r3',hb4]
    rw [← hbv]
    refine mixedZ_c St f.2 hfs hrf hf0 b m w4 _ hA4 (hg.mod hm04 St.own0) (by omega) hb ?_
    intro w5 hm5 hA5'
    have hb5:=hm5.keep hb4 hown
    have hm05 : Mod St.own w w5:=hm04.trans hm5
    have hA5 : St.At (St.mixZ f.2 b).2 w5:=hA5'
    have hz : mixE b.kind (thingsB (St.underS f.2 ⟨#[98]⟩ [str b.ex]).1) = (St.mixZ f.2 b).1:=rfl
    rw [hz]
    clear hz hA5'
    revert h hA5 hf
    generalize St.mixZ f.2 b = g5
    intro hf h hA5
    simp only [ZB,insVc,iopK,iopV,reduceCtorEq]
    refine condP_split ?_ ?_
    · intro he
      have he' : g5.1≠0:=by simpa using he
      simp only [if_pos he'] at h
      simp only [ZB,endK,resK,packed,insVc,ne_eq,Nat.reduceEqDiff,Zaa]
      exact h w5 hm05 hA5
    intro he
    have he' : ¬ g5.1≠0:=by simpa using he
    simp only [if_neg he'] at h
    simp only [ZB,insVc,loadNK,ne_eq,Nat.reduceEqDiff,Nat.reduceAdd,Nat.reduceLeDiff,Zad,Zae,Zak,Zai,Zaj,Zb,Zaz,Zav,Zar,Zay,Zaw,r3',hb5]
    rw [← hbv]
    refine bind_c b m w5 _ (hg.mod hm05 St.own0) hb ?_
    intro w6 hm6
    have hm06 : Mod St.own w w6:=hm05.trans (hm6.mono fun _ _ x=>x.elim)
    have hA6:=St.keep0 hA5 hm6
    simp only [ZB,insVc,iopK,iopV,extK,ne_eq,Nat.reduceEqDiff,reduceCtorEq,Za,Zaf,Zah]
    refine condP_split ?_ ?_
    · intro he
      have he' : (bindK b).2≠0:=by simpa using he
      simp only [if_pos he'] at h
      simp only [ZB,endK,resK,packed,insVc,ne_eq,Nat.reduceEqDiff,Zaa]
      exact h w6 hm06 hA6
    intro he
    have he' : ¬ (bindK b).2≠0:=by simpa using he
    simp only [if_neg he'] at h
    simp only [ZB,insVc,invK,ne_eq,Nat.reduceEqDiff,reduceCtorEq,Zad,Zae,r0']
    refine St.getOk g5.2 (bindK b).1 w6 _ hA6 (keyL_size _ _ (by simp)) ?_
    intro w7 hm7 hA7
    have hm07 : Mod St.own w w7:=hm06.trans hm7
    revert h hA7 hf
    generalize St.get g5.2 (bindK b).1 = g
    intro hf h hA7
    simp only [ZB,insVc,iopK,iopV,extK,ne_eq,Nat.reduceEqDiff,reduceCtorEq,Za,Zaf,Zah]
    refine condP_split ?_ ?_
    · intro he
      have he' : g.1.2.2≠0:=by simpa using he
      simp only [if_pos he'] at h
      simp only [ZB,endK,resK,packed,insVc,ne_eq,Nat.reduceEqDiff,Zaa]
      exact h w7 hm07 hA7
    intro he
    have he' : ¬ g.1.2.2≠0:=by simpa using he
    simp only [if_neg he'] at h
    simp only [ZB,insVc,ne_eq,Nat.reduceEqDiff]
    refine condP_split ?_ ?_
    · intro he
      have he' : g.1.2.1 = true:=by simpa using he
      simp only [if_pos he'] at h
      simp only [ZB,endK,resK,packed,insVc,Zaa]
      exact h w7 hm07 hA7
    intro he
    have he' : ¬ g.1.2.1 = true:=by simpa using he
    simp only [if_neg he'] at h
    simp only [ZB,insVc,invK,ne_eq,Nat.reduceEqDiff,reduceCtorEq,Zad,Zae,r0']
    refine St.putOk g.2 (bindK b).1 e0 w7 _ hA7 hf ?_
    intro w8 hm8 hA8
    exact h w8 (hm07.trans hm8) hA8
  have bad : ∀ e : Int,St.bindZ s b = (e,s)→∀ w2,Mod (fun _=>False) w w2→K (.int .i64 e) w2:=by
    intro e he w2 hm2
    rw [he] at h
    exact h w2 (hm2.mono fun _ _ x=>x.elim) (St.keep0 hAt hm2)
  clear h
  unfold r31
  simp only [ZB,subC,c31,insVc,load1K,faddrK,Value.cells,ne_eq,Nat.reduceEqDiff,Zab,Zad,Zae,Za,Zaf,Zah,Zbg,hbv]
  refine callK_gen ?_
  intro w0 hw0
  have hm0 : Mod (fun _=>False) w w0:=by rw [hw0]; exact (Mod.refl _ _).alloc _
  have hb0 : w0.heap[w.heap.size]? = some (.cells #[.string b.ex,.int .i64 b.kind,.string b.key,.string b.q] 64 (0,0)):=by rw [hw0]; exact get_alloc_new _ _
  clear hw0
  refine name_c b.ex w0 _ ?_
  intro w1 hm1
  have hb1:=hm1.keep hb0 id
  have hm01:=hm0.trans hm1
  cases hn : nameB b.ex with
  | false =>
    simp only [ZB,endK,resK,packed,insVc,pickK,notK,ne_eq,Nat.reduceEqDiff,Zaa,Zac]
    exact bad 23 (by unfold Sto.bindZ; rw [if_pos (.inl hn)]) w1 hm01
  | true =>
    simp only [ZB,insVc,load1K,notK,faddrK,ne_eq,Nat.reduceEqDiff,Zad,Zae,Za,Zaf,Zah,hb1]
    refine name_c b.q w1 _ ?_
    intro w2 hm2
    have hb2:=hm2.keep hb1 id
    have hm02:=hm01.trans hm2
    cases hq : nameB b.q with
    | false =>
      simp only [ZB,endK,resK,packed,insVc,pickK,notK,ne_eq,Nat.reduceEqDiff,Zaa,Zag]
      exact bad 23 (by unfold Sto.bindZ; rw [if_pos (.inr hq)]) w2 hm02
    | true =>
      have hun : St.bindZ s b = if b.kind < 1∨3 < b.kind then (11,s) else
          if rightB b.kind b.key = false then (24,s) else
          if (St.find s b.q).1.2≠0 then ((St.find s b.q).1.2,(St.find s b.q).2) else
          if (St.mixZ (St.find s b.q).2 b).1≠0 then (St.mixZ (St.find s b.q).2 b) else
          if (bindK b).2≠0 then ((bindK b).2,(St.mixZ (St.find s b.q).2 b).2) else
          if (St.get (St.mixZ (St.find s b.q).2 b).2 (bindK b).1).1.2.2≠0 then ((St.get (St.mixZ (St.find s b.q).2 b).2 (bindK b).1).1.2.2,(St.get (St.mixZ (St.find s b.q).2 b).2 (bindK b).1).2) else
          if (St.get (St.mixZ (St.find s b.q).2 b).2 (bindK b).1).1.2.1 = true then (22,(St.get (St.mixZ (St.find s b.q).2 b).2 (bindK b).1).2) else
          St.put (St.get (St.mixZ (St.find s b.q).2 b).2 (bindK b).1).2 (bindK b).1 e0:=by
        unfold Sto.bindZ; rw [if_neg (by rw [hn,hq]; simp)]
      by_cases k1 : b.kind < 1
      · simp only [ZB,endK,resK,packed,insVc,pickK,load1K,iopK,iopV,notK,faddrK,ne_eq,Nat.reduceEqDiff,reduceCtorEq,Za,Zaf,Zah,Zaa,Zac,Zag,hb2,k1]
        exact bad 11 (by rw [hun,if_pos (.inl k1)]) w2 hm02
      by_cases k3 : (3 : Int) < b.kind
      · simp only [ZB,endK,resK,packed,insVc,pickK,load1K,iopK,iopV,notK,faddrK,ne_eq,Nat.reduceEqDiff,reduceCtorEq,Za,Zaf,Zah,Zaa,Zag,k1,hb2,k3]
        exact bad 11 (by rw [hun,if_pos (.inr k3)]) w2 hm02
      simp only [ZB,insVc,pickK,load1K,iopK,iopV,notK,faddrK,ne_eq,Nat.reduceEqDiff,reduceCtorEq,Zad,Zae,Za,Zaf,Zah,Zag,k1,k3,hb2]
      refine right_c b.kind b.key hk40 w2 _ ?_
      intro w3 hm3
      have hm03:=hm02.trans hm3
      have hb3:=hm3.keep hb2 id
      cases hr : rightB b.kind b.key with
      | false =>
        simp only [ZB,endK,resK,packed,insVc,notK,Zaa]
        exact bad 24 (by rw [hun,if_neg (by omega),if_pos hr]) w3 hm03
      | true =>
        simp only [ZB,insVc,notK]
        exact rest hn hq (by omega) (by omega) hr w3 _ hm03 hb3 (by simp only [ZB,ne_eq,reduceCtorEq,Zab,Za]) (by simp only [ZB,ne_eq,Nat.reduceEqDiff])
end Go.Oct
namespace Go.Oct
open Go Go.Vc Go.VrA Go.VrF
set_option maxRecDepth 100000
def Sto.routeZ {σ : Type} (St : Sto σ) (s : σ) (ex key : ByteArray) : (List (List UInt8) × Int) × σ :=
  if nameB ex = false then (([],23),s) else if keyW key = false then (([],4),s) else (routeL key [] 0 (thingsB (St.underS s ⟨#[98]⟩ [str ex]).1),(St.underS s ⟨#[98]⟩ [str ex]).2)
theorem routeZ_c {σ : Type} (St : Sto σ) (s : σ) (hfs : FootS St) (hrf : St.rfit s) (hf0 : ¬ St.foot 0) (ex key : ByteArray) (m : Int) (w : World) (K : Value→World→Prop) (hAt : St.At s w) (hg : Gl m w) (h0 : 0 < w.heap.size) (hne : emptyB ex = false) (hex : ex.size < 4294967281) (hk : key.size < 2 ^ 19)
    (hL : (thingsB (St.underS s ⟨#[98]⟩ [str ex]).1).length < 2 ^ 20) (hx : ∀ r ∈ thingsB (St.underS s ⟨#[98]⟩ [str ex]).1,r.1.key.size < 2 ^ 19)
    (h : ∀ w' v,Mod St.own w w'→St.At (St.routeZ s ex key).2 w'→K (.tuple #[v,.int .i64 (St.routeZ s ex key).1.2]) w') :
    Ok Proofs.Tryz.prog 32 #[.iface St.t St.v,.string ex,.string key] w K:=by
  have hfoot : ∀ k,w.heap.size≤k→¬ St.foot k:=fun k hk x=>by have:=St.footLt s w _ hAt x; omega
  have hpair : ∀ {ww : World} {e : Int},Mod (fun _=>False) w ww→St.routeZ s ex key = (([],e),s)→K (.tuple #[.slice none 0 0,.int .i64 e]) ww:=by
    intro ww e hm he
    have:=h ww (.slice none 0 0) (hm.mono fun _ _ x=>x.elim)
    rw [he] at this; exact this (St.keep0 hAt hm)
  refine VrA.F32.enter (args:=[.iface St.t St.v,.string ex,.string key]) (by simp) ?_
  rw [c32_s1]
  unfold VrA.r32
  have hee : (ex.toList == (⟨#[]⟩ : ByteArray).toList) = false:=hne
  simp only [ZB,subC,VrA.c32,insVc,sopK,sopV,Value.cells,ne_eq,Nat.reduceEqDiff,Nat.reduceAdd,Zab,Zad,Zae,Za,Zaf,Zaq,Nat.reduceAdd,Nat.reduceEqDiff,hee]
  refine callK_gen ?_
  intro w1 hw1
  have hm1 : Mod (fun _=>False) w w1:=by rw [hw1]; exact (((Mod.refl _ _).alloc _).alloc _).alloc _
  have kc1 : w1.heap[w.heap.size]? = some (.cells #[.string key] 9 (0,0)):=by rw [hw1]; simp only [Nat.reduceAdd,reduceCtorEq,Zac,Zag,size_alloc,get_alloc,size_alloc,Zaq,Nat.reduceAdd,Zbl,Zbi]
  have rc1 : w1.heap[w.heap.size + 1]? = some (.cells #[.slice none 0 0] 80 (0,0)):=by rw [hw1]; simp only [Nat.reduceEqDiff,Nat.reduceAdd,Zac,Zag,size_alloc,get_alloc,size_alloc,Zaq,Nat.reduceAdd,Zbm,Zbj,Nat.reduceEqDiff,Zbi]
  have ec1 : w1.heap[w.heap.size + 2]? = some (.cells #[.int .i64 0] 23 (0,0)):=by rw [hw1]; simp only [Nat.reduceEqDiff,Nat.reduceAdd,reduceCtorEq,Zac,Zag,size_alloc,get_alloc,size_alloc,Zaq,Nat.reduceAdd,Zbm,Zbj,Nat.reduceEqDiff]
  have hz1 : w1.heap.size = w.heap.size + 3:=by rw [hw1]; simp only [Nat.reduceAdd,size_alloc,size_alloc,Zaq,Nat.reduceAdd]
  clear hw1
  have early : ∀ (S : Nat→Prop) (u : World) (e : Int),Mod S w u→u.heap[w.heap.size + 1]? = some (.cells #[.slice none 0 0] 80 (0,0))→u.heap[w.heap.size + 2]? = some (.cells #[.int .i64 0] 23 (0,0)) →
      ∃ u',u' = Vc.set (Vc.set u (w.heap.size + 1) (.cells #[.slice none 0 0] 80 (0,0))) (w.heap.size + 2) (.cells #[.int .i64 e] 23 (0,0))∧Mod S w u'∧(Vc.set u (w.heap.size + 1) (.cells #[.slice none 0 0] 80 (0,0))).heap[w.heap.size + 2]? = some (.cells #[.int .i64 0] 23 (0,0))∧u'.heap[w.heap.size + 1]? = some (.cells #[.slice none 0 0] 80 (0,0))∧u'.heap[w.heap.size + 2]? = some (.cells #[.int .i64 e] 23 (0,0)):=by
    intro S u e hm k1 k2
    have hA : Mod (fun k=>k = w.heap.size + 1) u (Vc.set u (w.heap.size + 1) (.cells #[.slice none 0 0] 80 (0,0))):=(Mod.refl _ _).set (.inr rfl)
    have k2':=hA.keep k2 (by omega)
    have hm':=(hm.set (b:=w.heap.size + 1) (o:=.cells #[.slice none 0 0] 80 (0,0)) (.inl (by omega))).set (b:=w.heap.size + 2) (o:=.cells #[.int .i64 e] 23 (0,0)) (.inl (by omega))
    have hB : Mod (fun k=>k = w.heap.size + 2) (Vc.set u (w.heap.size + 1) (.cells #[.slice none 0 0] 80 (0,0))) (Vc.set (Vc.set u (w.heap.size + 1) (.cells #[.slice none 0 0] 80 (0,0))) (w.heap.size + 2) (.cells #[.int .i64 e] 23 (0,0))):=(Mod.refl _ _).set (.inr rfl)
    exact ⟨_,rfl,hm',k2',hB.keep (get_set_same _ _ _ (lt_of_get k1)) (by omega),get_set_same _ _ _ (lt_of_get k2')⟩
  refine name_c ex w1 _ ?_
  intro w2 hm2
  have hm02:=hm1.trans hm2
  have kc2:=hm2.keep kc1 id
  have rc2:=hm2.keep rc1 id
  have ec2:=hm2.keep ec1 id
  cases hn : nameB ex with
  | false =>
    obtain ⟨u',hu',x1,x2,x3,x4⟩:=early _ w2 23 hm02 rc2 ec2
    have x5:=hpair x1 (e:=23) (by unfold Sto.routeZ; rw [if_pos hn])
    simp only [ZB,endK,resK,res1,packed,insVc,storeK,notK,isPlain,ne_eq,Nat.reduceEqDiff,Nat.reduceLT,Nat.reduceLeDiff,Zak,Zai,Zaj,Zal,Zam,Zaa,Zap,Zao,rc2,x2]
    rw [← hu']
    simp only [x3,x4]
    exact x5
  | true =>
  simp only [ZB,insVc,load1K,notK,ne_eq,Nat.reduceEqDiff,Zad,Zae,Za,Zah,kc2]
  refine tkey_c key (by omega) w2 _ ?_
  intro w3 hm3
  have hm03:=hm02.trans hm3
  have kc3:=hm3.keep kc2 id
  have rc3:=hm3.keep rc2 id
  have ec3:=hm3.keep ec2 id
  cases hkw : keyW key with
  | false =>
    obtain ⟨u',hu',x1,x2,x3,x4⟩:=early _ w3 4 hm03 rc3 ec3
    have x5:=hpair x1 (e:=4) (by unfold Sto.routeZ; rw [if_neg (by rw [hn]; simp),if_pos hkw])
    simp only [ZB,endK,resK,res1,packed,insVc,storeK,notK,isPlain,ne_eq,Nat.reduceEqDiff,Nat.reduceLT,Nat.reduceLeDiff,Zak,Zai,Zaj,Zal,Zam,Zaa,Zap,Zao,rc3,x2]
    rw [← hu']
    simp only [x3,x4]
    exact x5
  | true =>
  have hR : St.routeZ s ex key = (routeL key [] 0 (thingsB (St.underS s ⟨#[98]⟩ [str ex]).1),(St.underS s ⟨#[98]⟩ [str ex]).2):=by unfold Sto.routeZ; rw [if_neg (by rw [hn]; simp),if_neg (by rw [hkw]; simp)]
  rw [hR] at h
  clear hpair
  simp only [ZB,insVc,notK,Zad,Zae]
  refine poolof_c w3 _ ?_
  intro w4 hm4 hz4 hp4
  have hm04:=hm03.trans hm4
  have kc4:=hm4.keep kc3 id
  have rc4:=hm4.keep rc3 id
  have ec4:=hm4.keep ec3 id
  have hs2:=hm2.size
  have hs3:=hm3.size
  obtain ⟨pb,hpb⟩ : ∃ pb,pb = w3.heap.size:=⟨_,rfl⟩
  rw [← hpb] at hp4 hz4 ⊢
  simp only [ZB,insVc,storeK,isPlain,Value.cells,ne_eq,Nat.reduceEqDiff,Nat.reduceAdd,Nat.reduceLT,Nat.reduceLeDiff,reduceCtorEq,Zab,Zad,Zae,Za,Zaf,Zak,Zai,Zaj,Zal,Zam,Zac,Zag,Zao,get_alloc,get_set,Zaq,Nat.reduceAdd,Zbj,Zbl,Nat.reduceEqDiff,Zcg,Nat.reduceLT,Zbi]
  refine callK_gen ?_
  intro w5 hw5
  have hm5 : Mod (fun _=>False) w4 w5:=by rw [hw5]; exact ((((Mod.refl _ _).alloc _).alloc _).set (.inl (by omega))).set (.inl (by omega))
  have pc5 : w5.heap[w4.heap.size]? = some (.cells #[ptr pb] 174 (0,0)):=by rw [hw5]; simp only [Nat.reduceAdd,Nat.reduceLT,and_true,Zag,size_set,size_alloc,Zbe,Zao,get_set,size_alloc,size_set,Zaq,Nat.reduceAdd,Zbl,Zcg,Nat.reduceLT,Zbi]
  have nc5 : w5.heap[w4.heap.size + 1]? = some (.cells #[.int .i64 ((0 : Nat) : Int)] 3 (0,0)):=by rw [hw5]; simp only [Nat.reduceAdd,size_set,size_alloc,Zbe,Zao,size_alloc,size_set,Zaq,Nat.reduceAdd] <;> rfl
  have hz5 : w5.heap.size = w4.heap.size + 2:=by rw [hw5]; simp only [Nat.reduceAdd,size_set,size_alloc,size_alloc,size_set,Zaq,Nat.reduceAdd]
  clear hw5
  have hm05:=hm04.trans hm5
  refine bindingsZ_c St s hfs hrf w ex m w5 _ hex ?_
  intro w6 gf cap hm6 it
  revert h it hL hx
  generalize thingsB (St.underS s ⟨#[98]⟩ [str ex]).1 = L
  generalize (St.underS s ⟨#[98]⟩ [str ex]).2 = s2
  intro hL hx h it
  have hm06:=hm05.trans hm6
  have kc6:=hm6.keep (hm5.keep kc4 id) id
  have rc6:=hm6.keep (hm5.keep rc4 id) id
  have ec6:=hm6.keep (hm5.keep ec4 id) id
  have pc6:=hm6.keep pc5 id
  have nc6:=hm6.keep nc5 id
  have hp6:=(hp4.mod hm5 id (fun _ _=>id)).mod hm6 id (fun _ _=>id)
  have z6:=hm6.size
  obtain ⟨F,hFe⟩ : ∃ F : World→Prop,F = fun u=>Gl m u∧Kept w5.heap.size w6 u:=⟨_,rfl⟩
  rw [← hFe] at it
  have hF0 : F w6:=by rw [hFe]; exact ⟨hg.mod hm06 id,Kept.refl _ _⟩
  have hFs : ∀ (S : Nat→Prop) (a b : World),F a→Mod S a b→(∀ k,S k→St.foot k∨(w.heap.size≤k∧k < w5.heap.size)∨w6.heap.size≤k)→F b:=by
    rw [hFe]
    rintro S a b ⟨f2,f3⟩ hm hS
    exact ⟨f2.mod hm (fun x=>by rcases hS _ x with y | y; exact hf0 y; omega),f3.keep hm (fun k h1 h2 hk=>by rcases hS k hk with y | y; exact hfoot k (by omega) y; omega)⟩
  clear hFe
  generalize hB : w4.heap.size = B at *
  simp only [ZB]
  have hft : ∀ k,St.foot k→k < w.heap.size:=fun k x=>St.footLt s w k hAt x
  refine range_iterZ (by kernel_rfl) (by kernel_rfl) (by kernel_rfl) (gf:=gf) (cap:=cap) (by simp only [ZB]) it (fun a k o hk hp=>hp.mod (S:=fun j=>j = k) ((Mod.refl _ _).set (.inr rfl)) (fun j _ e=>hfoot j (by omega))) (fun k hk=>by have:=hft k hk; omega) (fun w' hm=>⟨St.keep0 (St.keep0 hAt hm06) hm,fun k hk _=>((hm06.trans hm).get k (hft k hk) id)⟩)
    (fun i X u=>F u∧Mod St.foot w u∧u.heap[w.heap.size]? = some (.cells #[.string key] 9 (0,0))∧u.heap[w.heap.size + 1]? = some (.cells #[.slice none 0 0] 80 (0,0))∧u.heap[w.heap.size + 2]? = some (.cells #[.int .i64 0] 23 (0,0)) ∧
      u.heap[B]? = some (.cells #[ptr pb] 174 (0,0))∧u.heap[B + 1]? = some (.cells #[.int .i64 (i : Nat)] 3 (0,0)) ∧
      ∃ v P,PoolAt u pb w6.heap.size v P∧(∀ k,v.ownBlock = some k→¬ X k)∧P.length≤i∧routeL key [] 0 L = routeL key P i (L.drop i))
    (fun c X u=>c = .ret∧Mod St.foot w u∧(routeL key [] 0 L).1 = []∧u.heap[w.heap.size + 1]? = some (.cells #[.slice none 0 0] 80 (0,0))∧u.heap[w.heap.size + 2]? = some (.cells #[.int .i64 (routeL key [] 0 L).2] 23 (0,0))) ?_ ?_ ?_ ?_ ?_ ?_ ?_ ?_
  · intro X w' hm hsz hX
    refine ⟨hFs _ _ _ hF0 hm (fun _ x=>x.elim),(hm06.trans hm).mono fun _ _ x=>x.elim,hm.keep kc6 id,hm.keep rc6 id,hm.keep ec6 id,hm.keep pc6 id,hm.keep nc6 id,.slice none 0 0,[], ?_,(fun k hk=>by cases hk),Nat.le_refl _,rfl⟩
    exact ⟨hm.keep hp6.1 id,World.ownsRow_nil _ _ _ 1,List.Pairwise.nil⟩
  · rintro i X u ⟨h1,_⟩
    exact h1
  · rintro i X X' a b ⟨h1,h2,h3,h4,h5,h6,h7,v,P,h8,h9,h10,h11⟩ hX ha hm hxx
    have hge0 : ∀ k,X k→St.foot k∨w6.heap.size≤k:=fun k hk=>hX k hk
    have hge : ∀ k,w.heap.size≤k→X k→w6.heap.size≤k:=fun k hk x=>(hge0 k x).elim (fun y=>(hfoot k hk y).elim) id
    refine ⟨hFs X _ _ h1 hm (fun k hk=>(hge0 k hk).imp id .inr),h2.then hm (fun i hi hk=>(hge0 i hk).elim id (fun y=>by omega)),hm.keep h3 (fun x=>by have:=hge _ (by omega) x; omega),hm.keep h4 (fun x=>by have:=hge _ (by omega) x; omega),hm.keep h5 (fun x=>by have:=hge _ (by omega) x; omega),hm.keep h6 (fun x=>by have:=hge _ (by omega) x; omega),hm.keep h7 (fun x=>by have:=hge _ (by omega) x; omega),v,P,h8.mod hm (fun x=>by have:=hge _ (by omega) x; omega) h9, ?_,h10,h11⟩
    intro k hk hx'
    rcases hxx k hx' with hx' | hx'
    · exact h9 k hk hx'
    · have:=(World.ownsRow.lt h8.2.1 k hk).2
      omega
  · rintro c X X' a b ⟨rfl,h1,h2,h3,h4⟩ hX ha hm hxx
    have hge0 : ∀ k,X k→St.foot k∨w6.heap.size≤k:=fun k hk=>hX k hk
    have hge : ∀ k,w.heap.size≤k→X k→w6.heap.size≤k:=fun k hk x=>(hge0 k x).elim (fun y=>(hfoot k hk y).elim) id
    exact ⟨rfl,h1.then hm (fun i hi hk=>(hge0 i hk).elim id (fun y=>by omega)),h2,hm.keep h3 (fun x=>by have:=hge _ (by omega) x; omega),hm.keep h4 (fun x=>by have:=hge _ (by omega) x; omega)⟩
  · intro i hi
    rw [List.getElem?_eq_getElem hi]
    simp [biV]
  · intro i hi X a ⟨h1,h2,h3,h4,h5,h6,h7,v,P,h8,h9,h10,h11⟩ hX ha
    obtain ⟨r,hr⟩ : ∃ r,L[i]? = some r:=⟨L[i]'(by simpa [biV] using hi),List.getElem?_eq_getElem _⟩
    have hrow : ((biV L)[i]?.getD []) = [r.1.val,.int .i64 r.2]:=by simp [biV,hr]
    have hli : i < L.length:=by simpa [biV] using hi
    have hdrop : L.drop i = r :: L.drop (i + 1):=List.drop_eq_getElem?_toList_append.trans (by rw [hr]; rfl)
    clear h8 h9 h10 h11 h1 h2 h3 h4 h5 h6 h7
    rw [hrow]
    simp only [ZB,insVc,storeNK,setMany,iopK,iopV,isPlain,Value.cells,ne_eq,Nat.reduceEqDiff,Nat.reduceAdd,Nat.reduceLeDiff,reduceCtorEq,Zak,Zai,Zaj,Zal,Zam,Zan,Zas,Zat,Zau,Zbg,updMany,Bi.val,Bi.cells]
    refine ⟨((Mod.refl _ _).alloc _).set (.inl (Nat.le_refl _)), ?_⟩
    rintro c hmc ⟨k1,k2,k3,k4,k5,k6,k7,v,P,k8,k9,k10,k11⟩
    rw [hdrop] at k11
    have hxa : ¬ X a.heap.size:=fun x=>by have:=(hX _ x).2; omega
    have pC:=hmc.keep (get_set_same _ _ (.cells #[.string r.1.ex,.int .i64 r.1.kind,.string r.1.key,.string r.1.q] 64 (0,0)) (by rw [size_alloc]; omega)) hxa
    have hge0 : ∀ k,X k→(St.foot k∨w6.heap.size≤k)∧k < c.heap.size:=fun k hk=>⟨(hX k hk).1,by have:=hX k hk; have:=hmc.size; simp only [size_set,size_alloc] at this; omega⟩
    have hge : ∀ k,X k→k < w.heap.size∨w6.heap.size≤k:=fun k hk=>(hge0 k hk).1.elim (fun y=>.inl (hft k y)) .inr
    have hzc : a.heap.size < c.heap.size:=lt_of_get pC
    by_cases hr0 : r.2 = 0
    · have q0 : (r.2 != 0) = false:=by simpa using hr0
      have hwi : IntKind.i64.wrap ((i : Int) + 1) = ((i + 1 : Nat) : Int):=by rw [wrap_i64 _ (by omega)]; omega
      rw [routeL,if_neg (by simpa using hr0)] at k11
      have hA7 : Mod (fun k=>k = B + 1) c (Vc.set c (B + 1) (.cells #[.int .i64 ((i + 1 : Nat) : Int)] 3 (0,0))):=(Mod.refl _ _).set (.inr rfl)
      have p7:=hA7.keep pC (by omega)
      have k37:=hA7.keep k3 (by omega)
      have n7:=get_set_same c (B + 1) (.cells #[.int .i64 ((i + 1 : Nat) : Int)] 3 (0,0)) (lt_of_get k7)
      simp only [ZB,insVc,load1K,storeK,iopK,iopV,faddrK,isPlain,ne_eq,Nat.reduceEqDiff,Nat.reduceLT,Nat.reduceLeDiff,reduceCtorEq,Zad,Zae,Za,Zaf,Zah,Zak,Zai,Zaj,Zal,Zam,Zao,q0,k7,hwi,p7,k37]
      refine callK_gen ?_
      intro w7 hw7
      rw [← hw7] at hA7 p7 n7
      have k1':=hFs _ _ _ k1 hA7 (fun k hk=>.inr (.inl (by omega)))
      have k2':=k2.then hA7 (fun k hk' hk=>by omega)
      have k3':=hA7.keep k3 (by omega)
      have k4':=hA7.keep k4 (by omega)
      have k5':=hA7.keep k5 (by omega)
      have k6':=hA7.keep k6 (by omega)
      have hvB : ∀ k,v.ownBlock = some k→w6.heap.size≤k∧k < c.heap.size:=fun k hk=>World.ownsRow.lt k8.2.1 k hk
      have k8':=k8.mod hA7 (by omega) (fun k hk x=>by have:=hvB k hk; omega)
      have hs7:=hA7.size
      clear hw7
      refine fits88_c _ _ _ (hx r (List.mem_of_getElem? hr)) hk w7 _ ?_
      intro w8 hm8
      have hs8:=hm8.size
      have k1'':=hFs _ _ _ k1' hm8 (fun k hk=>hk.elim)
      have k2'':=k2'.trans (hm8.mono fun _ _ x=>x.elim)
      have k3'':=hm8.keep k3' id
      have k4'':=hm8.keep k4' id
      have k5'':=hm8.keep k5' id
      have k6'':=hm8.keep k6' id
      have n8:=hm8.keep n7 id
      have p8:=hm8.keep p7 id
      have k8'':=k8'.mod hm8 id (fun _ _=>id)
      have hA8 : Mod (fun k=>k = B + 1) c w8:=hA7.then hm8 (fun _ _ x=>x.elim)
      cases hfit : fitsB r.1.kind r.1.key key with
      | false =>
        rw [hfit] at k11
        simp only [ZB,reduceCtorEq]
        refine ⟨⟨hA8.size,fun k hk=>hA8.get k (hge0 k hk).2 (by have:=hge k hk; omega)⟩,.inl ⟨k1'',k2'',k3'',k4'',k5'',k6'',n8,v,P,k8'',k9,by omega, ?_⟩⟩
        simpa using k11
      | true =>
        rw [hfit] at k11
        simp only [ZB,insVc,load1K,faddrK,ne_eq,Nat.reduceEqDiff,Zad,Zae,Za,Zaf,Zah,k6'',p8]
        refine pooladd_c P r.1.q pb w6.heap.size v w8 _ k8'' (by omega) (by omega) ?_
        intro w9 v9 bb hm9 hp9 hb9
        have hs9:=hm9.size
        have hA9 : Mod (fun k=>k = B + 1∨k = pb∨v.ownBlock = some k) c w9:=(hA8.mono fun _ _ x=>.inl x).then hm9 (fun k _ x=>.inr x)
        have hno9 : ∀ k,(w.heap.size≤k∧k < w6.heap.size)→k≠pb→¬ (k = pb∨v.ownBlock = some k):=by
          rintro k hk hkp (x | x)
          · exact hkp x
          · have:=hvB k x; omega
        simp only [ZB,reduceCtorEq]
        refine ⟨⟨hA9.size,fun k hk=>hA9.get k (hge0 k hk).2 ?_⟩,.inl ⟨hFs _ _ _ k1'' hm9 ?_,k2''.then hm9 ?_,hm9.keep k3'' (hno9 _ (by omega) (by omega)),hm9.keep k4'' (hno9 _ (by omega) (by omega)),hm9.keep k5'' (hno9 _ (by omega) (by omega)),hm9.keep k6'' (hno9 _ (by omega) (by omega)),hm9.keep n8 (hno9 _ (by omega) (by omega)),v9,insL r.1.q.data.toList P,hp9, ?_, ?_, ?_⟩⟩
        · have:=hge k hk
          rintro (x | x | x)
          · omega
          · omega
          · exact k9 k x hk
        · rintro k (x | x)
          · exact .inr (.inl (by omega))
          · exact .inr (.inr (hvB k x).1)
        · rintro k hk (x | x)
          · omega
          · have:=hvB k x; omega
        · intro k hk hxk
          rcases hb9 k hk with y | y
          · exact k9 k y hxk
          · have:=(hge0 k hxk).2; omega
        · have:=@insL_len r.1.q.data.toList P; omega
        · simpa using k11
    · have q0 : (r.2 != 0) = true:=by simpa using hr0
      rw [routeL,if_pos hr0] at k11
      have hA : Mod (fun k=>k = w.heap.size + 1) c (Vc.set c (w.heap.size + 1) (.cells #[.slice none 0 0] 80 (0,0))):=(Mod.refl _ _).set (.inr rfl)
      have k5':=hA.keep k5 (by omega)
      have hm':=(k2.set (b:=w.heap.size + 1) (o:=.cells #[.slice none 0 0] 80 (0,0)) (.inl (by omega))).set (b:=w.heap.size + 2) (o:=.cells #[.int .i64 r.2] 23 (0,0)) (.inl (by omega))
      have hB' : Mod (fun k=>k = w.heap.size + 2) (Vc.set c (w.heap.size + 1) (.cells #[.slice none 0 0] 80 (0,0))) (Vc.set (Vc.set c (w.heap.size + 1) (.cells #[.slice none 0 0] 80 (0,0))) (w.heap.size + 2) (.cells #[.int .i64 r.2] 23 (0,0))):=(Mod.refl _ _).set (.inr rfl)
      have hAB : Mod (fun k=>k = w.heap.size + 1∨k = w.heap.size + 2) c (Vc.set (Vc.set c (w.heap.size + 1) (.cells #[.slice none 0 0] 80 (0,0))) (w.heap.size + 2) (.cells #[.int .i64 r.2] 23 (0,0))):=(hA.mono fun _ _ x=>.inl x).trans (hB'.mono fun _ _ x=>.inr x)
      simp only [ZB,insVc,storeK,isPlain,ne_eq,Nat.reduceEqDiff,Nat.reduceLT,Nat.reduceLeDiff,reduceCtorEq,Zak,Zai,Zaj,Zal,Zam,Zao,q0,k4,k5']
      refine ⟨⟨Nat.le_refl _,fun k hk=>hAB.get k (hge0 k hk).2 (by have:=hge k hk; omega)⟩,.inr ⟨.ret,.inl rfl,rfl,hm',by rw [k11],hB'.keep (get_set_same _ _ _ (lt_of_get k4)) (by omega), ?_⟩⟩
      rw [k11]
      exact get_set_same _ _ _ (lt_of_get k5')
  · rintro X u ⟨h1,h2,h3,h4,h5,h6,h7,v,P,h8,h9,h10,h11⟩ hP ⟨d1,d2,d3⟩
    have hlen : (biV L).length = L.length:=by simp [biV]
    rw [hlen] at h7 h10 h11
    rw [List.drop_length,routeL] at h11
    by_cases hL0 : L.length = 0
    · rw [if_pos hL0] at h11
      have q0 : (((L.length : Nat) : Int) == 0) = true:=by rw [hL0]; rfl
      obtain ⟨u',hu',x1,x2,x3,x4⟩:=early _ u 21 h2 h4 h5
      have hAB : Mod (fun k=>k = w.heap.size + 1∨k = w.heap.size + 2) u u':=by rw [hu']; exact ((Mod.refl _ _).set (.inr (.inl rfl))).set (.inr (.inr rfl))
      have d1':=hAB.keep d1 (by omega)
      have hD : Mod (fun k=>k = w6.heap.size) u' (Vc.set u' w6.heap.size (.deferred none)):=(Mod.refl _ _).set (.inr rfl)
      have y3:=hD.keep x3 (by omega)
      have y4:=hD.keep x4 (by omega)
      simp only [ZB,endK,resK,res1,packed,insVc,load1K,storeK,iopK,iopV,isPlain,ne_eq,Nat.reduceEqDiff,Nat.reduceLT,Nat.reduceLeDiff,reduceCtorEq,Za,Zah,Zak,Zai,Zaj,Zal,Zam,Zaa,Zap,Zao,h7,q0,h4,x2]
      rw [← hu']
      simp only [markO,d1',y3,y4]
      have hP':=(hP.mod hAB (fun k _ e=>hfoot k (by omega))).mod hD (fun k _ e=>hfoot k (by omega))
      have hres:=h _ (.slice none 0 0) (hP'.mod_own (x1.set (.inl (by omega)))) hP'.1
      rw [h11] at hres
      exact hres
    · rw [if_neg hL0] at h11
      have q0 : (((L.length : Nat) : Int) == 0) = false:=by rw [beq_eq_false_iff_ne]; omega
      simp only [ZB,insVc,load1K,iopK,iopV,ne_eq,Nat.reduceEqDiff,reduceCtorEq,Zad,Zae,Za,Zah,h7,q0,h6]
      refine poolall_c pb w6.heap.size v P u _ h8 (by omega) ?_
      intro u1 c1 hm1' hp1 hc1 _
      simp only [ZB,insVc,Zad,Zae]
      refine poolcol_c pb w6.heap.size c1 v P u1 _ hp1 hc1 (by omega) ?_
      intro u2 v2 hm2' ho2
      have hmu:=hm1'.trans hm2'
      have k4:=hmu.keep h4 id
      have k5:=hmu.keep h5 id
      have kd:=hmu.keep d1 id
      have hsu:=hm1'.size
      have hpl:=own_plain ho2
      have hA : Mod (fun k=>k = w.heap.size + 1) u2 (Vc.set u2 (w.heap.size + 1) (.cells #[v2] 80 (0,0))):=(Mod.refl _ _).set (.inr rfl)
      have k5':=hA.keep k5 (by omega)
      obtain ⟨u3,hu3⟩ : ∃ u3,u3 = Vc.set (Vc.set u2 (w.heap.size + 1) (.cells #[v2] 80 (0,0))) (w.heap.size + 2) (.cells #[.int .i64 0] 23 (0,0)):=⟨_,rfl⟩
      have hAB : Mod (fun k=>k = w.heap.size + 1∨k = w.heap.size + 2) u2 u3:=by rw [hu3]; exact ((Mod.refl _ _).set (.inr (.inl rfl))).set (.inr (.inr rfl))
      have hB2 : Mod (fun k=>k = w.heap.size + 2) (Vc.set u2 (w.heap.size + 1) (.cells #[v2] 80 (0,0))) u3:=by rw [hu3]; exact (Mod.refl _ _).set (.inr rfl)
      have x4 : u3.heap[w.heap.size + 1]? = some (.cells #[v2] 80 (0,0)):=hB2.keep (get_set_same _ _ _ (lt_of_get k4)) (by omega)
      have x5 : u3.heap[w.heap.size + 2]? = some (.cells #[.int .i64 0] 23 (0,0)):=by rw [hu3]; exact get_set_same _ _ _ (lt_of_get k5')
      have d1':=hAB.keep kd (by omega)
      have hD : Mod (fun k=>k = w6.heap.size) u3 (Vc.set u3 w6.heap.size (.deferred none)):=(Mod.refl _ _).set (.inr rfl)
      have y4:=hD.keep x4 (by omega)
      have y5:=hD.keep x5 (by omega)
      have hall : Mod (fun k=>k = w.heap.size + 1∨k = w.heap.size + 2∨k = w6.heap.size) u2 (Vc.set u3 w6.heap.size (.deferred none)):=(hAB.mono fun _ _ x=>x.elim .inl (fun y=>.inr (.inl y))).trans (hD.mono fun _ _ x=>.inr (.inr x))
      simp only [ZB,endK,resK,res1,packed,insVc,storeK,isPlain,ne_eq,Nat.reduceEqDiff,Nat.reduceLT,Nat.reduceLeDiff,Zak,Zai,Zaj,Zal,Zam,Zaa,Zap,Zao,k4,k5']
      refine ⟨hpl, ?_⟩
      rw [← hu3]
      simp only [markO,d1',y4,y5]
      have hP':=(hP.mod hmu (fun k _ x=>x.elim)).mod hall (fun k _ e=>hfoot k (by omega))
      have hres:=h (Vc.set u3 w6.heap.size (.deferred none)) v2 (hP'.mod_own ((h2.trans (hmu.mono fun _ _ x=>x.elim)).then hall (fun k _ hk=>by omega))) hP'.1
      rw [h11] at hres
      exact hres
  · rintro c X u ⟨rfl,h2,h3,h4,h5⟩ hP ⟨d1,d2,d3⟩
    have hm3:=h2.set (b:=w6.heap.size) (o:=.deferred none) (.inl (by omega))
    have hB' : Mod (fun k=>k = w6.heap.size) u (Vc.set u w6.heap.size (.deferred none)):=(Mod.refl _ _).set (.inr rfl)
    have h4':=hB'.keep h4 (by omega)
    have h5':=hB'.keep h5 (by omega)
    simp only [ZB,exitOf,endK,resK,res1,packed,ne_eq,Nat.reduceEqDiff,Zaa,Zap,markO,d1,h4',h5']
    have hP':=hP.mod hB' (fun k _ e=>hfoot k (by omega))
    exact h _ _ (hP'.mod_own hm3) hP'.1
end Go.Oct
namespace Go.Oct
open Go Go.Vc Go.VrA Go.VrF
set_option maxRecDepth 100000
def StoC.dropZ {σ : Type} (St : StoC σ) (s : σ) (name : ByteArray) : Int × σ :=
  if (St.find s name).1.2≠0 then ((St.find s name).1.2,(St.find s name).2) else St.dropAt (St.underS (St.find s name).2 ⟨#[98]⟩ []).2 name (thingsB (St.underS (St.find s name).2 ⟨#[98]⟩ []).1)
theorem dropZ_c {σ : Type} (St : StoC σ) (s : σ) (name : ByteArray) (hfs : FootS St.toSto) (hrf : St.rfit (St.find s name).2) (hf0 : ¬ St.foot 0) (m : Int) (w : World) (K : Value→World→Prop) (hAt : St.At s w) (hg : Gl m w) (h0 : 0 < w.heap.size) (hs : name.size < 4294967281)
    (hv : (St.get s (queueK name).1).1.1.size < 2 ^ 60) (hL : (thingsB (St.underS (St.find s name).2 ⟨#[98]⟩ []).1).length < 2 ^ 19) (hx : ∀ r ∈ thingsB (St.underS (St.find s name).2 ⟨#[98]⟩ []).1,r.1.good)
    (h : ∀ w',Mod St.own w w'→St.At (St.dropZ s name).2 w'→K (.int .i64 (St.dropZ s name).1) w') :
    Ok Proofs.Tryz.prog 30 #[.iface St.t St.v,.string name] w K:=by
  have hfoot : ∀ k,w.heap.size≤k→¬ St.foot k:=fun k hk x=>by have:=St.footLt s w _ hAt x; omega
  have hno : ∀ k,w.heap.size≤k→¬ St.own k:=fun k hk x=>hfoot k hk (St.ownFoot _ x)
  refine F30.enter (args:=[.iface St.t St.v,.string name]) (by simp) ?_
  unfold c30 r30
  simp only [ZB,insVc,load1K,Value.cells,ne_eq,Nat.reduceEqDiff,reduceCtorEq,Zab,Zad,Zae,Za,Zaf,Zah,Zac,Zag,get_alloc,Zbl,Nat.reduceEqDiff,Zbi]
  refine callK_gen ?_
  intro w1 hw1
  have hm1 : Mod (fun _=>False) w w1:=by rw [hw1]; exact ((Mod.refl _ _).alloc _).alloc _
  have nc1 : w1.heap[w.heap.size]? = some (.cells #[.string name] 9 (0,0)):=by rw [hw1]; simp only [Zac,Zag,size_alloc,get_alloc,size_alloc,Zbl,Zbi]
  have ec1 : w1.heap[w.heap.size + 1]? = some (.cells #[.int .i64 0] 23 (0,0)):=by rw [hw1]; simp only [Zac,Zag,size_alloc,get_alloc,size_alloc,Zbj,Zbi]
  have hz1 : w1.heap.size = w.heap.size + 2:=by rw [hw1]; simp only [Nat.reduceAdd,size_alloc,size_alloc,Zaq,Nat.reduceAdd]
  clear hw1
  refine find_c St.toSto s name m w1 _ (St.keep0 hAt hm1) (hg.mod hm1 id) hs hv ?_
  intro w2 hm2 hA2
  have hm02 : Mod St.own w w2:=(hm1.mono fun _ _ x=>x.elim).trans hm2
  have nc2:=hm2.keep nc1 (hno _ (Nat.le_refl _))
  have ec2:=hm2.keep ec1 (hno _ (by omega))
  have hz2:=hm2.size
  unfold StoC.dropZ at h
  revert h hA2 hrf hL hx
  generalize St.find s name = f
  obtain ⟨⟨fq,fe⟩,s1⟩:=f
  intro hrf hL hx h hA2
  simp only at hrf hL hx hA2 h
  simp only [ZB,insVc,storeNK,setMany,iopK,iopV,extK,isPlain,Value.cells,ne_eq,Nat.reduceEqDiff,Nat.reduceAdd,Nat.reduceLeDiff,reduceCtorEq,Za,Zaf,Zah,Zak,Zai,Zaj,Zal,Zam,Zan,Zas,Zat,Zau,Zbg,Qu.val,Qu.cells]
  refine condP_gen ?_
  intro w3 hw3
  have hm3 : Mod (fun _=>False) w2 w3:=by rw [hw3]; exact ((Mod.refl _ _).alloc _).set (.inl (Nat.le_refl _))
  have hz3 : w3.heap.size = w2.heap.size + 1:=by rw [hw3]; simp only [size_set,size_alloc]
  clear hw3
  have nc3:=hm3.keep nc2 id
  have ec3:=hm3.keep ec2 id
  have hm03 : Mod St.own w w3:=hm02.trans (hm3.mono fun _ _ x=>x.elim)
  have hA3:=St.keep0 hA2 hm3
  have fin : ∀ (u : World) (e : Int) (t : σ),Mod St.own w u→St.At t u→u.heap[w.heap.size + 1]? = some (.cells #[.int .i64 0] 23 (0,0)) →
      ∃ u',u' = Vc.set u (w.heap.size + 1) (.cells #[.int .i64 e] 23 (0,0))∧Mod St.own w u'∧St.At t u'∧u'.heap[w.heap.size + 1]? = some (.cells #[.int .i64 e] 23 (0,0))∧Mod (fun k=>k = w.heap.size + 1) u u':=by
    intro u e t hm hA hc
    have hA' : Mod (fun k=>k = w.heap.size + 1) u (Vc.set u (w.heap.size + 1) (.cells #[.int .i64 e] 23 (0,0))):=(Mod.refl _ _).set (.inr rfl)
    exact ⟨_,rfl,hm.set (.inl (by omega)),St.keep _ _ _ _ hA hA' (fun k _ hk=>hfoot k (by omega)),get_set_same _ _ _ (lt_of_get hc),hA'⟩
  by_cases hfe : fe = 0
  rotate_left
  · have q0 : (fe != 0) = true:=by simpa using hfe
    rw [if_pos hfe] at h
    obtain ⟨u',hu',x1,x2,x3,_⟩:=fin w3 fe s1 hm03 hA3 ec3
    simp only [ZB,endK,resK,res1,packed,insVc,storeK,isPlain,ne_eq,Nat.reduceEqDiff,Nat.reduceLT,Nat.reduceLeDiff,Zak,Zai,Zaj,Zal,Zam,Zaa,Zao,q0,ec3]
    rw [← hu']
    simp only [x3]
    exact h u' x1 x2
  have q0 : (fe != 0) = false:=by simpa using hfe
  rw [if_neg (by simpa using hfe)] at h
  simp only [ZB,insVc,Value.cells,ne_eq,reduceCtorEq,Zab,Zad,Zae,Za,q0]
  refine callK_gen ?_
  intro w4 hw4
  have hm4 : Mod (fun _=>False) w3 w4:=by rw [hw4]; exact (Mod.refl _ _).alloc _
  have gc4 : w4.heap[w3.heap.size]? = some (.cells #[.slice none 0 0] 80 (0,0)):=by rw [hw4]; simp only [Zac,get_alloc]
  have hz4 : w4.heap.size = w3.heap.size + 1:=by rw [hw4]; simp only [size_alloc]
  clear hw4
  have nc4:=hm4.keep nc3 id
  have ec4:=hm4.keep ec3 id
  have hm04 : Mod St.own w w4:=hm03.trans (hm4.mono fun _ _ x=>x.elim)
  have hA4:=St.keep0 hA3 hm4
  refine thingsBZ_c St.toSto s1 hfs hrf w4 ⟨#[98]⟩ [] (.slice none 0 0) m w4 _ ⟨_,_,_,rfl⟩ (by simp) (by decide) (fun _ h=>by cases h) ?_
  intro w5 gf cap hm5 it
  revert h it hL hx
  generalize thingsB (St.underS s1 ⟨#[98]⟩ []).1 = L
  generalize (St.underS s1 ⟨#[98]⟩ []).2 = s2
  intro hL hx h it
  have nc5:=hm5.keep nc4 id
  have ec5:=hm5.keep ec4 id
  have gc5:=hm5.keep gc4 id
  have hm05 : Mod St.own w w5:=hm04.trans (hm5.mono fun _ _ x=>x.elim)
  have hA5:=St.keep0 hA4 hm5
  have z5:=hm5.size
  obtain ⟨F,hFe⟩ : ∃ F : World→Prop,F = fun u=>Gl m u∧IsArg u (.slice none 0 0) []∧Kept w4.heap.size w5 u:=⟨_,rfl⟩
  rw [← hFe] at it
  have hF0 : F w5:=by rw [hFe]; exact ⟨hg.mod hm05 St.own0,.inl ⟨rfl,_,rfl⟩,Kept.refl _ _⟩
  have hFs : ∀ (S : Nat→Prop) (a b : World),F a→Mod S a b→(∀ k,S k→St.foot k∨(w.heap.size≤k∧k < w4.heap.size)∨w5.heap.size≤k)→F b:=by
    rw [hFe]
    rintro S a b ⟨f2,f4,f3⟩ hm hS
    exact ⟨f2.mod hm (fun x=>by rcases hS _ x with y | y; exact hf0 y; omega),.inl ⟨rfl,_,rfl⟩,f3.keep hm (fun k h1 h2 hk=>by rcases hS k hk with y | y; exact hfoot k (by omega) y; omega)⟩
  clear hFe
  generalize hG : w3.heap.size = G at *
  simp only [ZB]
  have hft : ∀ k,St.foot k→k < w.heap.size:=fun k x=>St.footLt s w k hAt x
  have hz04:=hm04.size
  have back : ∀ (u : World) (t : σ),AtR St.toSto w4 t u→Mod St.foot w u→Mod St.own w u:=fun u t hp hm=>⟨hm.os,hm.tape,hm.output,hm.size,fun k hk hn=>by
    by_cases hf : St.foot k
    · exact (hp.2 k hf hn).trans (hm04.get k hk hn)
    · exact hm.get k hk hf⟩
  refine range_iterZ (by kernel_rfl) (by kernel_rfl) (by kernel_rfl) (gf:=gf) (cap:=cap) (by simp only [ZB]) it (fun a k o hk hp=>hp.mod (S:=fun j=>j = k) ((Mod.refl _ _).set (.inr rfl)) (fun j _ e=>hfoot j (by omega))) (fun k hk=>by have:=hft k hk; omega) (fun w' hm=>⟨St.keep0 hA5 hm,fun k hk _=>((hm5.trans hm).get k (by have:=hft k hk; omega) id)⟩)
    (fun i X u=>F u∧Mod St.foot w u∧u.heap[w.heap.size]? = some (.cells #[.string name] 9 (0,0))∧u.heap[w.heap.size + 1]? = some (.cells #[.int .i64 0] 23 (0,0))∧bErr L = bErr (L.drop i) ∧
      ∃ v,u.heap[G]? = some (.cells #[v] 80 (0,0))∧u.ownsRow w5.heap.size 9 1 v (goneL name (L.take i)).length (stV (goneL name (L.take i)))∧(∀ k,v.ownBlock = some k→¬ X k))
    (fun c X u=>c = .ret∧Mod St.foot w u∧u.heap[w.heap.size + 1]? = some (.cells #[.int .i64 (bErr L)] 23 (0,0))∧bErr L≠0) ?_ ?_ ?_ ?_ ?_ ?_ ?_ ?_
  · intro X w' hm hsz hX
    exact ⟨hFs _ _ _ hF0 hm (fun _ x=>x.elim),(hm05.mono fun k _ x=>St.ownFoot k x).trans (hm.mono fun _ _ x=>x.elim),hm.keep nc5 id,hm.keep ec5 id,rfl,.slice none 0 0,hm.keep gc5 id,World.ownsRow_nil _ _ _ 1,(fun k hk=>by cases hk)⟩
  · rintro i X u ⟨h1,_⟩
    exact h1
  · rintro i X X' a b ⟨h1,h2,h3,h4,h5,v,h6,h7,h8⟩ hX ha hm hxx
    have hge0 : ∀ k,X k→St.foot k∨w5.heap.size≤k:=fun k hk=>hX k hk
    have hge : ∀ k,w.heap.size≤k→X k→w5.heap.size≤k:=fun k hk x=>(hge0 k x).elim (fun y=>(hfoot k hk y).elim) id
    refine ⟨hFs X _ _ h1 hm (fun k hk=>(hge0 k hk).imp id .inr),h2.then hm (fun i hi hk=>(hge0 i hk).elim id (fun y=>by omega)),hm.keep h3 (fun x=>by have:=hge _ (by omega) x; omega),hm.keep h4 (fun x=>by have:=hge _ (by omega) x; omega),h5,v,hm.keep h6 (fun x=>by have:=hge _ (by omega) x; omega),own_mod h7 hm h8, ?_⟩
    intro k hk hx'
    rcases hxx k hx' with hx' | hx'
    · exact h8 k hk hx'
    · have:=(World.ownsRow.lt h7 k hk).2
      omega
  · rintro c X X' a b ⟨rfl,h2,h3,h4⟩ hX ha hm hxx
    have hge0 : ∀ k,X k→St.foot k∨w5.heap.size≤k:=fun k hk=>hX k hk
    exact ⟨rfl,h2.then hm (fun i hi hk=>(hge0 i hk).elim id (fun y=>by omega)),hm.keep h3 (fun x=>by rcases hge0 _ x with y | y; exact hfoot _ (by omega) y; omega),h4⟩
  · intro i hi
    rw [List.getElem?_eq_getElem hi]
    simp [biV]
  · intro i hi X a ⟨h1,h2,h3,h4,h5,v,h6,h7,h8⟩ hX ha
    obtain ⟨r,hr⟩ : ∃ r,L[i]? = some r:=⟨L[i]'(by simpa [biV] using hi),List.getElem?_eq_getElem _⟩
    have hrow : ((biV L)[i]?.getD []) = [r.1.val,.int .i64 r.2]:=by simp [biV,hr]
    have hli : i < L.length:=by simpa [biV] using hi
    have hdrop : L.drop i = r :: L.drop (i + 1):=List.drop_eq_getElem?_toList_append.trans (by rw [hr]; rfl)
    have htk : L.take (i + 1) = L.take i ++ [r]:=by rw [List.take_add_one,hr]; rfl
    have hgt : goneL name (L.take (i + 1)) = goneL name (L.take i) ++ goneL name [r]:=by rw [htk,goneL_app]
    clear h1 h2 h3 h4 h6 h7 h8
    rw [hdrop] at h5
    rw [hrow]
    simp only [ZB,insVc,storeNK,setMany,iopK,iopV,isPlain,Value.cells,ne_eq,Nat.reduceEqDiff,Nat.reduceAdd,Nat.reduceLeDiff,reduceCtorEq,Zak,Zai,Zaj,Zal,Zam,Zan,Zas,Zat,Zau,Zbg,updMany,Bi.val,Bi.cells]
    refine ⟨((Mod.refl _ _).alloc _).set (.inl (Nat.le_refl _)), ?_⟩
    rintro c hmc ⟨k1,k2,k3,k4,_,v',k6,k7,k8⟩
    have hxa : ¬ X a.heap.size:=fun x=>by have:=(hX _ x).2; omega
    have pC:=hmc.keep (get_set_same _ _ (.cells #[.string r.1.ex,.int .i64 r.1.kind,.string r.1.key,.string r.1.q] 64 (0,0)) (by rw [size_alloc]; omega)) hxa
    have hge0 : ∀ k,X k→(St.foot k∨w5.heap.size≤k)∧k < c.heap.size:=fun k hk=>⟨(hX k hk).1,by have:=hX k hk; have:=hmc.size; simp only [size_set,size_alloc] at this; omega⟩
    have hge : ∀ k,X k→k < w.heap.size∨w5.heap.size≤k:=fun k hk=>(hge0 k hk).1.elim (fun y=>.inl (hft k y)) .inr
    have hzc : a.heap.size < c.heap.size:=lt_of_get pC
    by_cases hr0 : r.2 = 0
    · have q0 : (r.2 != 0) = false:=by simpa using hr0
      rw [bErr,if_neg (by simpa using hr0)] at h5
      by_cases hq : (r.1.q.toList == name.toList) = true
      · have hgr : goneL name [r] = [(bindK r.1).1.data.toList]:=by rw [goneL,if_pos hq]; rfl
        simp only [ZB,insVc,load1K,loadNK,sopK,sopV,faddrK,ne_eq,Nat.reduceEqDiff,Nat.reduceAdd,Nat.reduceLeDiff,Zad,Zae,Za,Zaf,Zah,Zak,Zai,Zaj,Zb,Zaz,Zav,Zar,Zay,Zaw,q0,pC,k3,hq]
        have hbv : Value.agg #[.string r.1.ex,.int .i64 r.1.kind,.string r.1.key,.string r.1.q] = r.1.val:=rfl
        rw [hbv]
        refine bind_c r.1 m c _ (hg.mod k2 hf0) (hx r (List.mem_of_getElem? hr)) ?_
        intro c1 hmc1
        have hob : ∀ k,v'.ownBlock = some k→w5.heap.size≤k∧k < c.heap.size:=fun k hk=>World.ownsRow.lt k7 k hk
        have hgl:=goneL_len name (L.take i)
        rw [List.length_take] at hgl
        have hzc1:=hmc1.size
        obtain ⟨v5,w6,hr5,ho5,hm6,hb5⟩:=append_st w5.heap.size v' (goneL name (L.take i)).length _ (bindK r.1).1 c1 (own_mod k7 hmc1 (fun _ _=>id)) (by omega) (by omega) 80
        have k6':=hmc1.keep k6 id
        simp only [ZB,insVc,load1K,extK,fillL,buildSK,Value.cells,ne_eq,Nat.reduceEqDiff,Nat.reduceLeDiff,Za,Zaf,Zah,Zak,Zai,Zaj,Zbc,Zbd,Zba,Zbb,Zal,Zam,Zbf,Zac,k6']
        refine rawK_append rfl rfl rfl (by simp only [ZB,ne_eq,Nat.reduceEqDiff]; exact hr5) ?_
        have hmc6 : Mod (fun k=>v'.ownBlock = some k) c w6:=(hmc1.mono fun _ _ x=>x.elim).trans hm6
        have k3'':=hmc6.keep k3 (fun x=>by have:=hob _ x; omega)
        have k4'':=hmc6.keep k4 (fun x=>by have:=hob _ x; omega)
        have k6'':=hmc6.keep k6 (fun x=>by have:=hob _ x; omega)
        have hms:=hmc6.size
        have hm7 : Mod (fun k=>k = G) w6 (Vc.set w6 G (.cells #[v5] 80 (0,0))):=(Mod.refl _ _).set (.inr rfl)
        have hmc7 : Mod (fun k=>v'.ownBlock = some k∨k = G) c (Vc.set w6 G (.cells #[v5] 80 (0,0))):=(hmc6.mono fun _ _ x=>.inl x).then hm7 (fun k _ hk=>.inr hk)
        simp only [ZB,insVc,storeK,isPlain,ne_eq,Nat.reduceEqDiff,Nat.reduceLT,Nat.reduceLeDiff,reduceCtorEq,Zak,Zai,Zaj,Zal,Zam,Zao,k6'']
        refine ⟨own_plain ho5,⟨hms, ?_⟩,.inl ⟨hFs _ _ _ k1 hmc7 ?_,k2.then hmc7 ?_,hm7.keep k3'' (by omega),hm7.keep k4'' (by omega),h5,v5,get_set_same _ _ _ (lt_of_get k6''), ?_, ?_⟩⟩
        · intro k hk
          exact hmc7.get k (hge0 k hk).2 (by rintro (x | x); exact k8 k x hk; have:=hge k hk; omega)
        · rintro k (x | x)
          · have:=hob k x; exact .inr (.inr (by omega))
          · exact .inr (.inl (by omega))
        · rintro k hk (x | x)
          · have:=hob k x; omega
          · omega
        · rw [hgt,hgr]
          have e1 : stV (goneL name (L.take i) ++ [(bindK r.1).1.data.toList]) = stV (goneL name (L.take i)) ++ [.string (bindK r.1).1]:=by simp [stV]
          rw [e1,List.length_append]
          refine own_mod ho5 hm7 ?_
          intro k hk x
          rcases hb5 k hk with y | y
          · have:=hob k y; omega
          · omega
        · intro k hk hxk
          rcases hb5 k hk with y | y
          · exact k8 k y hxk
          · have:=(hge0 k hxk).2; omega
      · have q1 : (r.1.q.toList == name.toList) = false:=by simpa using hq
        have hgr : goneL name [r] = []:=by rw [goneL,if_neg hq]; rfl
        rw [hgr,List.append_nil] at hgt
        simp only [ZB,insVc,load1K,sopK,sopV,faddrK,ne_eq,Nat.reduceEqDiff,reduceCtorEq,Za,Zaf,Zah,q0,pC,k3,q1]
        refine ⟨⟨Nat.le_refl _,fun _ _=>trivial⟩,.inl ⟨k1,k2,k4,h5,v',k6, ?_,k8⟩⟩
        rw [hgt]; exact k7
    · have q0 : (r.2 != 0) = true:=by simpa using hr0
      rw [bErr,if_pos hr0] at h5
      obtain ⟨u',hu'⟩ : ∃ u',u' = Vc.set c (w.heap.size + 1) (.cells #[.int .i64 r.2] 23 (0,0)):=⟨_,rfl⟩
      have x4 : Mod (fun k=>k = w.heap.size + 1) c u':=by rw [hu']; exact (Mod.refl _ _).set (.inr rfl)
      have x3 : u'.heap[w.heap.size + 1]? = some (.cells #[.int .i64 r.2] 23 (0,0)):=by rw [hu']; exact get_set_same _ _ _ (lt_of_get k4)
      have x1 : Mod St.foot w u':=k2.then x4 (fun k hk e=>by omega)
      have hsz':=x4.size
      simp only [ZB,insVc,storeK,isPlain,ne_eq,Nat.reduceEqDiff,Nat.reduceLT,Nat.reduceLeDiff,reduceCtorEq,Zak,Zai,Zaj,Zal,Zam,Zao,q0,k4]
      rw [← hu']
      refine ⟨⟨Nat.le_refl _,fun k hk=>x4.get k (hge0 k hk).2 (by have:=hge k hk; omega)⟩,.inr ⟨.ret,.inl rfl,rfl,x1,by rw [h5]; exact x3,by rw [h5]; exact hr0⟩⟩
  · rintro X u ⟨h1,h2,h3,h4,h5,v,h6,h7,h8⟩ hP ⟨d1,d2,d3⟩
    have h2 : Mod St.own w u:=back u s2 hP h2
    have hlen : (biV L).length = L.length:=by simp [biV]
    rw [hlen,List.take_length] at h7
    rw [hlen,List.drop_length] at h5
    have h5' : bErr L = 0:=h5
    unfold StoC.dropAt at h
    rw [if_neg (by simpa using h5')] at h
    have hob : ∀ k,v.ownBlock = some k→w5.heap.size≤k∧k < u.heap.size:=fun k hk=>World.ownsRow.lt h7 k hk
    have hAu:=hP.1
    have hgl:=goneL_len name L
    simp only [ZB,insVc,load1K,ne_eq,Nat.reduceEqDiff,Zad,Zae,Za,Zah,h3]
    refine queue_c name m u _ (hg.mod h2 St.own0) hs ?_
    intro u1 hu1
    have hu1s:=hu1.size
    obtain ⟨v5,u2,hr5,ho5,hm6,hb5⟩:=append_st w5.heap.size v (goneL name L).length _ (queueK name).1 u1 (own_mod h7 hu1 (fun _ _=>id)) (by omega) (by omega) 80
    have h6':=hu1.keep h6 id
    simp only [ZB,insVc,load1K,extK,fillL,buildSK,Value.cells,ne_eq,Nat.reduceEqDiff,Nat.reduceLeDiff,Za,Zaf,Zah,Zak,Zai,Zaj,Zbc,Zbd,Zba,Zbb,Zal,Zam,Zbf,Zac,h6']
    refine rawK_append rfl rfl rfl (by simp only [ZB,ne_eq,Nat.reduceEqDiff]; exact hr5) ?_
    have hmu2 : Mod (fun k=>v.ownBlock = some k) u u2:=(hu1.mono fun _ _ x=>x.elim).trans hm6
    have e4:=hmu2.keep h4 (fun x=>by have:=hob _ x; omega)
    have hvD : ¬ v.ownBlock = some w5.heap.size:=by
      intro hk
      rcases h7.2 with ⟨rfl,_⟩ | ⟨g,cap,cur,rfl,_,hgg,_⟩
      · cases hk
      · have : g = w5.heap.size:=Option.some.inj hk
        rw [this,d1] at hgg; cases hgg
    have ed:=hmu2.keep d1 hvD
    have hmw2 : Mod St.own w u2:=h2.then hmu2 (fun k hk x=>by have:=hob _ x; omega)
    have hA2' : St.At s2 u2:=St.keep _ _ _ _ hAu hmu2 (fun k _ hk=>hfoot k (by have:=hob _ hk; omega))
    have e1 : stV (goneL name L) ++ [.string (queueK name).1] = stV (goneL name L ++ [(queueK name).1.data.toList]):=by simp [stV]
    rw [e1] at ho5
    have hQ255 : ∀ k,k ∈ goneL name L ++ [(queueK name).1.data.toList]→k.length≤255:=by
      intro k hk
      rcases List.mem_append.1 hk with hk | hk
      · exact goneL_255 name L k hk
      · rw [List.mem_singleton.1 hk,Array.length_toList]
        exact keyL_size _ _ (by simp)
    obtain ⟨Q,hQ⟩ : ∃ Q,Q = goneL name L ++ [(queueK name).1.data.toList]:=⟨_,rfl⟩
    have hQn : (goneL name L).length + 1 = Q.length:=by rw [hQ,List.length_append]; rfl
    rw [← hQ] at ho5 hQ255 h
    rw [hQn] at ho5
    have hQl : Q.length < 2 ^ 20:=by omega
    have hsl : IsSl u2 v5 (stV Q):=IsSl.own (by rw [stV_len]; exact ho5)
    have hob5 : ∀ k,v5.ownBlock = some k→w5.heap.size≤k:=fun k hk=>(World.ownsRow.lt ho5 k hk).1
    clear hQ hQn e1 hr5
    obtain ⟨⟨va,vc,rfl⟩,hat⟩:=hsl
    rw [stV_len] at hat ⊢
    simp only [ZB,insVc,lenLK]
    refine vc_loop (fun mm ρ ds z => ∃ i si,i≤Q.length∧mm = Q.length - i∧ds = [markD w5.heap.size]∧ρ 0 = .iface St.t St.v∧ρ 4 = .pointer (some ⟨w.heap.size + 1,0,none⟩) ∧
      ρ 55 = .slice va Q.length vc∧ρ 56 = .int .i64 Q.length∧ρ 57 = .int .i64 i∧Mod St.own u2 z∧St.At si z∧St.cuts s2 Q = St.cuts si (Q.drop i)) (Q.length - 0) ?_ ?_
    · exact ⟨0,s2,Nat.zero_le _,rfl,rfl,by simp only [ZB,ne_eq,reduceCtorEq,Zab,Za],by simp only [ZB,ne_eq,Nat.reduceEqDiff],by simp only [ZB,ne_eq,Nat.reduceEqDiff],by simp only [ZB,ne_eq,Nat.reduceEqDiff],by simp only [ZB] <;> rfl,Mod.refl _ _,hA2',by simp⟩
    · rintro mm ρ ds z ⟨i,si,hi,rfl,rfl,r0,r4,r55,r56,r57,hmz,hAz,hcut⟩
      have z4:=hmz.keep e4 (hno _ (by omega))
      have zd:=hmz.keep ed (hno _ (by omega))
      have hmwz : Mod St.own w z:=hmw2.trans hmz
      by_cases c1 : i < Q.length
      · have d1' : (i : Int) < ((Q.length : Nat) : Int):=by omega
        obtain ⟨q,hqi⟩ : ∃ q,Q[i]? = some q:=⟨Q[i],List.getElem?_eq_getElem c1⟩
        obtain ⟨b,o,c,cur,t,f',he,hb,hcu⟩:=hat i (.string ⟨q.toArray⟩) (by simp [stV,hqi])
        have ha' : va = some ⟨b,o,none⟩:=by simpa using congrArg (fun x=>match x with | .slice a _ _=>a | _=>none) he
        subst ha'
        have hbw:=hob5 b rfl
        have hbz:=hmz.keep hb (hno _ (by omega))
        have hi0 : (0 : Int)≤(i : Int):=by omega
        have hw1 : IntKind.i64.wrap ((i : Int) + 1) = ((i + 1 : Nat) : Int):=by rw [wrap_i64 _ (by omega)]; omega
        have hdrop : Q.drop i = q :: Q.drop (i + 1):=List.drop_eq_getElem?_toList_append.trans (by rw [hqi]; rfl)
        rw [hdrop,cuts_cons] at hcut
        simp only [ZB,insVc,load1K,iopK,iopV,iaddrK,invK,ne_eq,Nat.reduceEqDiff,reduceCtorEq,Zad,Zae,Zax,Zbh,r0,r55,r56,r57,d1',hi0,hbz,hcu]
        refine St.cutOk si ⟨q.toArray⟩ z _ hAz (by have:=hQ255 q (List.mem_of_getElem? hqi); simpa [ByteArray.size] using this) ?_
        intro z2 hmz2 hAz2
        have y4:=hmz2.keep z4 (hno _ (by omega))
        have yd:=hmz2.keep zd (hno _ (by omega))
        simp only [ZB,insVc,iopK,iopV,extK,ne_eq,Nat.reduceEqDiff,reduceCtorEq,Za,Zaf,Zah]
        by_cases hc0 : (St.cut si ⟨q.toArray⟩).1.2 = 0
        · have b0 : ((St.cut si ⟨q.toArray⟩).1.2 != 0) = false:=by simpa using hc0
          rw [if_neg (by simpa using hc0)] at hcut
          simp only [ZB,insVc,iopK,iopV,ne_eq,Nat.reduceEqDiff,reduceCtorEq,b0,r0,r4,r55,r56,r57,hw1]
          exact ⟨Q.length - (i + 1),by omega,i + 1,(St.cut si ⟨q.toArray⟩).2,by omega,rfl,rfl,hmz.trans hmz2,hAz2,hcut⟩
        · have b0 : ((St.cut si ⟨q.toArray⟩).1.2 != 0) = true:=by simpa using hc0
          rw [if_pos hc0] at hcut
          rw [hcut] at h
          obtain ⟨u',hu',x1,x2,x3,x4⟩:=fin z2 (St.cut si ⟨q.toArray⟩).1.2 _ (hmwz.trans hmz2) hAz2 y4
          have yd':=x4.keep yd (by omega)
          have hB' : Mod (fun k=>k = w5.heap.size) u' (Vc.set u' w5.heap.size (.deferred none)):=(Mod.refl _ _).set (.inr rfl)
          simp only [ZB,endK,resK,res1,packed,insVc,storeK,isPlain,ne_eq,Nat.reduceEqDiff,Nat.reduceLT,Nat.reduceLeDiff,Zak,Zai,Zaj,Zal,Zam,Zaa,Zao,b0,r4,y4]
          rw [← hu']
          simp only [markO,yd',hB'.keep x3 (by omega)]
          exact h _ (x1.set (.inl (by omega))) (St.keep _ _ _ _ x2 hB' (fun k _ hk=>hfoot k (by omega)))
      · have d1' : ¬ (i : Int) < ((Q.length : Nat) : Int):=by omega
        have hie : i = Q.length:=by omega
        rw [hie,List.drop_length] at hcut
        have hcut' : St.cuts s2 Q = (0,si):=hcut
        rw [hcut'] at h
        obtain ⟨u',hu',x1,x2,x3,x4⟩:=fin z 0 _ hmwz hAz z4
        have yd':=x4.keep zd (by omega)
        have hB' : Mod (fun k=>k = w5.heap.size) u' (Vc.set u' w5.heap.size (.deferred none)):=(Mod.refl _ _).set (.inr rfl)
        simp only [ZB,endK,resK,res1,packed,insVc,storeK,iopK,iopV,isPlain,ne_eq,Nat.reduceEqDiff,Nat.reduceLT,Nat.reduceLeDiff,reduceCtorEq,Zak,Zai,Zaj,Zal,Zam,Zaa,Zao,r4,r56,r57,d1',z4]
        rw [← hu']
        simp only [markO,yd',hB'.keep x3 (by omega)]
        exact h _ (x1.set (.inl (by omega))) (St.keep _ _ _ _ x2 hB' (fun k _ hk=>hfoot k (by omega)))
  · rintro c X u ⟨rfl,h2,h3,h4⟩ hP ⟨d1,d2,d3⟩
    have h1:=hP.1
    have h2 : Mod St.own w u:=back u s2 hP h2
    have hB' : Mod (fun k=>k = w5.heap.size) u (Vc.set u w5.heap.size (.deferred none)):=(Mod.refl _ _).set (.inr rfl)
    have h3':=hB'.keep h3 (by omega)
    unfold StoC.dropAt at h
    rw [if_pos h4] at h
    simp only [ZB,exitOf,endK,resK,res1,packed,ne_eq,Nat.reduceEqDiff,Zaa,markO,d1,h3']
    exact h _ (h2.set (.inl (by omega))) (St.keep _ _ _ _ h1 hB' (fun k _ hk=>hfoot k (by omega)))
end Go.Oct
