import Derived.Test.YtcbacomljnjacaaGreatDoorVrE
import Derived.Test.YtcbacomljnjacaaGreatDoorVzC
set_option linter.unusedSimpArgs false
set_option linter.unusedVariables false
set_option linter.unusedSectionVars false
set_option linter.unnecessarySimpa false
namespace Go.Oct
open Go Go.Vc Go.VrA Go.VrB
set_option maxRecDepth 100000
def dgot {σ : Type} (St : Sto σ) (s : σ) (r : Pr) : Ms × Int :=
  if r.2≠0 then (ms0,r.2) else
  if (parseR ⟨r.1.1.toArray⟩).2≠0 then (ms0,(parseR ⟨r.1.1.toArray⟩).2) else dueG St s (parseR ⟨r.1.1.toArray⟩).1
def dueL {σ : Type} (St : Sto σ) (s : σ) : List Pr→List (Ms × Int)
  | []=>[]
  | r :: l=>if (dgot St s r).2≠0 then [dgot St s r] else dgot St s r :: dueL St s l
theorem dueL_cons {σ : Type} (St : Sto σ) (s : σ) (r : Pr) (l : List Pr) : dueL St s (r :: l) = if (dgot St s r).2≠0 then [dgot St s r] else dgot St s r :: dueL St s l:=rfl
def msV (l : List (Ms × Int)) : List (List Value):=l.map fun r=>[r.1.val,.int .i64 r.2]
def RowCells (u : World) (c1 c2 cb : Nat) (gf : FuncId) (cap : List Value) (t : TypeId) (v : Value) : Prop :=
  u.heap[c1]? = some (.cells #[.func (.func gf) #[] cap.toArray] 224 (0,0)) ∧
  u.heap[c2]? = some (.cells #[.func (.func 144) #[] #[ptr cb]] 230 (0,0)) ∧
  u.heap[cb]? = some (.cells #[.iface t v] 216 (0,0))
theorem row1_c {σ : Type} (St : Sto σ) (s : σ) (hp : PureGet St s) (R : List Pr) (gf : FuncId) (cap : List Value) (lo : Nat) (wR : World) (it : IterP Proofs.Tryz.prog gf cap (rowsV R) (fun u=>St.At s u∧Kept lo wR u)) (c1 c2 cb : Nat) (m : Int)
    (hR : ∀ r ∈ R,(parseR ⟨r.1.1.toArray⟩).1.queue.size < 4294967281∧(parseR ⟨r.1.1.toArray⟩).1.id < 2 ^ 64∧(St.get s (messageK (parseR ⟨r.1.1.toArray⟩).1.queue (parseR ⟨r.1.1.toArray⟩).1.id).1).1.1.size < 2 ^ 60) :
    IterP Proofs.Tryz.prog 204 [ptr c1,ptr c2] (msV (dueL St s R)) (fun u=>St.At s u∧Gl m u∧Kept lo wR u∧RowCells u c1 c2 cb gf cap St.t St.v):=by
  rintro y ⟨fy,ya,yb,hyf⟩ J Jx w hJ hF hS hSx hy
  refine F204.enter (args:=[y,ptr c1,ptr c2]) (by simp) ?_
  unfold c204 r204
  obtain ⟨hA,hg,hkR,e1,e2,e3⟩:=hF 0 _ _ hJ
  have q1:=lt_of_get e1
  simp only [ZB,insVc,load1K,Value.cells,ne_eq,Nat.reduceEqDiff,Zaf,Za,Zag,Zah,Zae,get_alloc,Nat.reduceEqDiff,e1,Nat.ne_of_lt q1]
  refine vc_gen ?_
  intro w4 hw4
  have hm14 : Mod (fun _=>False) w w4:=by rw [hw4]; exact (Mod.refl _ _).alloc _
  have b4 : w4.heap[w.heap.size]? = some (.cells #[y] 305 (0,0)):=by rw [hw4]; simp only [Zab,get_alloc,hyf]
  have hz4 : w4.heap.size = w.heap.size + 1:=by rw [hw4,size_alloc]
  clear hw4
  let XO : (Nat→Prop)→Nat→Prop:=fun X k=>(w.heap.size≤k∧k < w4.heap.size + 2)∨X k
  have hXO : ∀ (X X' : Nat→Prop) (a b : World),(∀ k,X' k→X k∨a.heap.size≤k∧k < b.heap.size)→∀ k,XO X' k→XO X k∨a.heap.size≤k∧k < b.heap.size:=by
    rintro X X' a b h k (hk | hk)
    · exact .inl (.inl hk)
    · exact (h k hk).elim (fun x=>.inl (.inr x)) .inr
  have hfin : ∀ (u : World) (X : Nat→Prop) (u' : World),w4.heap.size + 2≤u.heap.size→(∀ k,X k→w4.heap.size≤k∧k < u.heap.size)→J (msV (dueL St s R)).length (XO X) u∨Jx (XO X) u→Mod (fun k=>k = w4.heap.size) u u' →
      w.heap.size≤u'.heap.size∧∃ X,(∀ k,X k→w.heap.size≤k∧k < u'.heap.size)∧(J (msV (dueL St s R)).length X u'∨Jx X u'):=by
    intro u X u' h1 h2 h3 h4
    have h5:=h4.size
    have hb : ∀ k,XO X k→w.heap.size≤k∧k < u'.heap.size:=by
      rintro k (hk | hk)
      · omega
      · have:=h2 k hk; omega
    have hm : Mod (XO X) u u':=h4.mono fun k _ hk=>.inl (by omega)
    exact ⟨by omega,XO X,hb,h3.imp (fun h=>hS _ _ _ u u' h hm (fun k hk=>.inl hk)) (fun h=>hSx _ _ u u' h hm (fun k hk=>.inl hk))⟩
  refine range_iter (by kernel_rfl) (by kernel_rfl) (by kernel_rfl) (gf:=gf) (cap:=cap) (by simp only [ZB]) it
    (fun i X u=>(∃ pre : List (Ms × Int),pre.length = i∧dueL St s R = pre ++ dueL St s (R.drop i))∧J i (XO X) u∧Kept w.heap.size w4 u)
    (fun c X u=>c = .ret∧(J (msV (dueL St s R)).length (XO X) u∨Jx (XO X) u)) ?_ ?_ ?_ ?_ ?_ ?_ ?_ ?_
  · intro X w' hm hsz hX
    refine ⟨⟨[],rfl,by simp⟩,hS 0 _ _ w w' hJ ((hm14.trans hm).mono fun _ _ x=>x.elim) ?_,(Kept.refl _ _).keep hm (fun _ _ _=>id)⟩
    rintro k (hk | hk)
    · exact .inr ⟨hk.1,by omega⟩
    · have:=hX k hk
      exact .inr (by omega)
  · rintro i X u ⟨_,h1,h2⟩
    exact ⟨(hF _ _ _ h1).1,(hF _ _ _ h1).2.2.1⟩
  · rintro i X X' a b ⟨h0,h1,h2⟩ hX ha hm hx
    exact ⟨h0,hS i _ _ a b h1 (hm.mono fun _ _ x=>.inr x) (hXO X X' a b hx),h2.keep hm (fun k _ hk x=>by have:=hX k x; omega)⟩
  · rintro c X X' a b ⟨rfl,h⟩ hX ha hm hx
    exact ⟨rfl,h.imp (fun h=>hS _ _ _ a b h (hm.mono fun _ _ x=>.inr x) (hXO X X' a b hx)) (fun h=>hSx _ _ a b h (hm.mono fun _ _ x=>.inr x) (hXO X X' a b hx))⟩
  · intro i hi
    rw [List.getElem?_eq_getElem hi]
    simp [rowsV]
  · intro i hi X a ⟨⟨pre,p1,p2⟩,hJa,hKa⟩ hX ha
    obtain ⟨r,hr⟩ : ∃ r,R[i]? = some r:=⟨R[i]'(by simpa [rowsV] using hi),List.getElem?_eq_getElem _⟩
    have hrow : ((rowsV R)[i]?.getD []) = [.agg #[.string ⟨r.1.1.toArray⟩,.string ⟨r.1.2.toArray⟩],.int .i64 r.2]:=by simp [rowsV,hr]
    have hvr:=hR r (List.mem_of_getElem? hr)
    have hdrop : R.drop i = r :: R.drop (i + 1):=List.drop_eq_getElem?_toList_append.trans (by rw [hr]; rfl)
    rw [hrow]
    simp only [ZB,insVc,storeNK,setMany,iopK,iopV,isPlain,Value.cells,ne_eq,Nat.reduceEqDiff,Nat.reduceAdd,Nat.reduceLeDiff,reduceCtorEq,Zai,Zaj,Zak,Zal,Zam,Zan,Zau,Zaw,Zax,Zbk,updMany]
    refine ⟨((Mod.refl _ _).alloc _).set (.inl (Nat.le_refl _)), ?_⟩
    rintro c hmc ⟨_,hJc,hKc⟩
    have hxa : ¬ X a.heap.size:=fun x=>by have:=(hX _ x).2; omega
    have pC:=hmc.keep (get_set_same _ _ (.cells #[.string ⟨r.1.1.toArray⟩,.string ⟨r.1.2.toArray⟩] 176 (0,0)) (by rw [size_alloc]; omega)) hxa
    have bC:=hKc.at b4 (Nat.le_refl _)
    obtain ⟨hAc,hgc,_,_,e2c,e3c⟩:=hF _ _ _ hJc
    have hpre : ∃ pre : List (Ms × Int),pre.length = i∧dueL St s R = pre ++ dueL St s (r :: R.drop (i + 1)):=⟨pre,p1,by rw [p2,hdrop]⟩
    have hhead : ∃ tl,dueL St s (r :: R.drop (i + 1)) = dgot St s r :: tl∧((dgot St s r).2≠0→tl = [])∧((dgot St s r).2 = 0→tl = dueL St s (R.drop (i + 1))):=by
      rw [dueL_cons]
      by_cases hx : (dgot St s r).2≠0
      · rw [if_pos hx]; exact ⟨[],rfl,fun _=>rfl,fun h=>(hx h).elim⟩
      · rw [if_neg hx]; exact ⟨_,rfl,fun h=>(hx h).elim,fun _=>rfl⟩
    obtain ⟨tl,htl,htl1,htl2⟩:=hhead
    have hszc : w4.heap.size + 2≤c.heap.size:=by have:=hmc.size; simp only [size_set,size_alloc] at this; omega
    have hyield : ∀ (u : World) (o : Ms × Int) (G : Value→World→Prop),dgot St s r = o→Mod (fun _=>False) c u →
        (∀ d,c.heap.size≤d.heap.size→(∀ k,XO X k→d.heap[k]? = u.heap[k]?)→J (i + 1) (XO X) d→G (.bool true) d)→(∀ d,c.heap.size≤d.heap.size→(∀ k,XO X k→d.heap[k]? = u.heap[k]?)→Jx (XO X) d→G (.bool false) d) →
        callvK Proofs.Tryz.prog G u [o.1.val,.int .i64 o.2] y:=by
      intro u o G ho hmu hG1 hG2
      obtain ⟨pre,h1,h2⟩:=hpre
      have hi' : (msV (dueL St s R))[i]? = some [o.1.val,.int .i64 o.2]:=by rw [h2,htl,ho]; simp [msV,h1]
      have hlt : i < (msV (dueL St s R)).length:=by
        rcases Nat.lt_or_ge i (msV (dueL St s R)).length with h | h
        · exact h
        · rw [List.getElem?_eq_none h] at hi'; cases hi'
      have hmus:=hmu.size
      have hbd : ∀ k,XO X k→w.heap.size≤k∧k < u.heap.size:=by
        have:=hmc.size
        rintro k (hk | hk)
        · omega
        · have:=hX k hk; simp only [size_set,size_alloc] at *; omega
      have hJu:=hS i _ (XO X) c u hJc (hmu.mono fun _ _ x=>x.elim) (fun k hk=>.inl hk)
      have hyy:=hy i hlt (XO X) u hJu hbd (by omega)
      rw [hi'] at hyy
      refine callvK_mono hyy ?_
      rintro v d ⟨⟨k1,k2⟩,⟨rfl,k3⟩ | ⟨rfl,k3⟩⟩
      · exact hG1 d (by omega) k2 k3
      · exact hG2 d (by omega) k2 k3
    have hkeepX : ∀ (u d : World),Mod (fun _=>False) c u→(∀ k,XO X k→d.heap[k]? = u.heap[k]?)→∀ k,X k→d.heap[k]? = c.heap[k]?:=by
      intro u d hmu hd k hk
      have:=(hX k hk).2
      have:=hmc.size
      simp only [size_set,size_alloc] at this
      rw [hd k (.inr hk),hmu.get k (by omega) id]
    have hkeepK : ∀ (u d : World),Mod (fun _=>False) c u→c.heap.size≤d.heap.size→(∀ k,XO X k→d.heap[k]? = u.heap[k]?)→Kept w.heap.size w4 d:=by
      intro u d hmu hs hd
      refine ⟨by omega,fun k h1 h2 => ?_⟩
      rw [hd k (.inl ⟨h1,by omega⟩),hmu.get k (by omega) id,hKc.2 k h1 h2]
    have hout : ∀ (u d : World),Mod (fun _=>False) c u→c.heap.size≤d.heap.size→(∀ k,XO X k→d.heap[k]? = u.heap[k]?)→Jx (XO X) d∨((dgot St s r).2≠0∧J (i + 1) (XO X) d) →
        (c.heap.size≤d.heap.size∧∀ k,X k→d.heap[k]? = c.heap[k]?)∧(False∧(∃ pre : List (Ms × Int),pre.length = i + 1∧dueL St s R = pre ++ dueL St s (R.drop (i + 1)))∧J (i + 1) (XO X) d∧Kept w.heap.size w4 d ∨
          ∃ cc,(cc = Code.ret∨∃ id,cc = Code.exit id∧False)∧cc = Code.ret∧(J (msV (dueL St s R)).length (XO X) d∨Jx (XO X) d)):=by
      intro u d hmu k1 k2 k3
      refine ⟨⟨k1,hkeepX u d hmu k2⟩,.inr ⟨.ret,.inl rfl,rfl, ?_⟩⟩
      rcases k3 with k3 | ⟨k4,k3⟩
      · exact .inr k3
      · obtain ⟨pre,h1,h2⟩:=hpre
        have hlen : (msV (dueL St s R)).length = i + 1:=by rw [h2,htl,htl1 k4]; simp [msV,h1]
        rw [hlen]
        exact .inl k3
    have hin : ∀ (u d : World),Mod (fun _=>False) c u→c.heap.size≤d.heap.size→(∀ k,XO X k→d.heap[k]? = u.heap[k]?)→(dgot St s r).2 = 0→J (i + 1) (XO X) d →
        (∃ pre : List (Ms × Int),pre.length = i + 1∧dueL St s R = pre ++ dueL St s (R.drop (i + 1)))∧J (i + 1) (XO X) d∧Kept w.heap.size w4 d:=by
      intro u d hmu k1 k2 h00 k3
      refine ⟨?_,k3,hkeepK u d hmu k1 k2⟩
      obtain ⟨pre,h1,h2⟩:=hpre
      exact ⟨pre ++ [dgot St s r],by simp [h1],by rw [h2,htl,htl2 h00]; simp⟩
    refine condP_gen ?_
    intro w5 hw5
    have hm5 : Mod (fun _=>False) c w5:=by rw [hw5]; exact ((Mod.refl _ _).alloc _).alloc _
    have t5 : w5.heap[c.heap.size]? = some (.cells #[.string ⟨#[]⟩,.string ⟨#[]⟩,.int .u64 0,.int .u64 0,.string ⟨#[]⟩,.int .i64 0,.string ⟨#[]⟩,.string ⟨#[]⟩,.string ⟨#[]⟩] 227 (0,0)):=by rw [hw5]; simp only [Zab,Zae,size_alloc,get_alloc,size_alloc,Zbi,Zay]
    have x5 : w5.heap[c.heap.size + 1]? = some (.cells zms 128 (0,0)):=by rw [hw5]; simp only [Zab,Zae,size_alloc,get_alloc,size_alloc,Zba,Zay]
    clear hw5
    have p5:=hm5.keep pC id
    have b5:=hm5.keep bC id
    have e5:=hm5.keep e2c id
    have l1:=lt_of_get pC
    have l2:=lt_of_get bC
    have l4:=lt_of_get e2c
    by_cases he : r.2 = 0
    · have hgot : dgot St s r = if (parseR ⟨r.1.1.toArray⟩).2≠0 then (ms0,(parseR ⟨r.1.1.toArray⟩).2) else dueG St s (parseR ⟨r.1.1.toArray⟩).1:=by unfold dgot; rw [if_neg (by simpa using he)]
      rw [he]
      have b00 : ((0 : Int) == 0) = true:=rfl
      simp only [ZB,insVc,load1K,faddrK,ne_eq,Nat.reduceEqDiff,Zad,Zac,Za,Zah,p5,b00]
      refine parse_c _ w5 _ ?_
      intro w6 hm6
      have t6:=hm6.keep t5 id
      have p6:=hm6.keep p5 id
      have b6:=hm6.keep b5 id
      have e6:=hm6.keep e5 id
      have x6:=hm6.keep x5 id
      have hm56:=hm5.trans hm6
      revert hgot hvr
      generalize parseR ⟨r.1.1.toArray⟩ = T
      intro hvr hgot
      simp only [ZB,insVc,storeNK,setMany,iopK,iopV,extK,isPlain,ne_eq,Nat.reduceEqDiff,Nat.reduceAdd,Nat.reduceLeDiff,reduceCtorEq,Za,Zag,Zah,Zai,Zaj,Zak,Zal,Zam,Zan,Zau,Zaw,Zax,Th.val,Th.cells,t6]
      refine condP_gen ?_
      intro w7 hw7
      have hm7' : Mod (fun k=>k = c.heap.size) w6 w7:=by rw [hw7]; exact (Mod.refl _ _).set (.inr rfl)
      have hm7 : Mod (fun _=>False) c w7:=by rw [hw7]; exact hm56.set (.inl (Nat.le_refl _))
      have t7 : w7.heap[c.heap.size]? = some (.cells T.1.cells.toArray 227 (0,0)):=by rw [hw7]; exact get_set_same _ _ _ (lt_of_get t6)
      have p7:=hm7'.keep p6 (by omega)
      have b7:=hm7'.keep b6 (by omega)
      have e7:=hm7'.keep e6 (by omega)
      have x7:=hm7'.keep x6 (by omega)
      clear hw7
      by_cases hT : T.2 = 0
      · rw [if_neg (by simpa using hT)] at hgot
        rw [hT]
        simp only [Th.cells] at t7
        simp only [ZB,insVc,load1K,loadNK,faddrK,callvK,ne_eq,Nat.reduceEqDiff,Nat.reduceAdd,Nat.reduceLeDiff,Zaf,Zad,Zac,Za,Zag,Zah,Zai,Zaj,Zak,Zaa,Zav,Zaq,Zap,Zar,Zao,Zas,Zat,b00,e7,t7,p7]
        refine due1_c St s hp T.1 _ cb m w7 _ (St.keep0 hAc hm7) (hgc.mod hm7 id) hvr.1 hvr.2.1 hvr.2.2 (hm7.keep e3c id) ?_
        intro w8 hm8
        have hm78:=hm7.trans hm8
        have x8:=hm8.keep x7 id
        have b8:=hm8.keep b7 id
        revert hgot
        generalize dueG St s T.1 = Z
        intro hgot
        have y1 : ¬ w.heap.size = c.heap.size + 1:=by omega
        have lx:=lt_of_get x8
        have hm9 : Mod (fun _=>False) c (Vc.set w8 (c.heap.size + 1) (.cells #[.string Z.1.queue,.int .u64 Z.1.id,.int .u32 Z.1.tries,.int .u64 Z.1.expiry,.string Z.1.body] 128 (0,0))):=hm78.set (.inl (by omega))
        simp only [ZB,insVc,load1K,loadNK,storeNK,setMany,extK,callvK,isPlain,ne_eq,Nat.reduceEqDiff,Nat.reduceAdd,Nat.reduceLeDiff,Zad,Zac,Za,Zag,Zah,Zai,Zaj,Zak,Zal,Zam,Zan,Zae,Zaq,Zap,Zar,Zao,Zas,Zat,Zau,Zaw,Zax,Zbf,get_set,Nat.reduceAdd,Nat.reduceEqDiff,Ms.val,Ms.cells,x8,b8,y1,lx]
        refine hyield _ Z _ hgot hm9 ?_ ?_
        · intro d k1 k2 k3
          by_cases hZ : Z.2 = 0
          · have hne' : (Z.2 != 0) = false:=by simpa using hZ
            simp only [ZB,insVc,pickK,iopK,iopV,notK,ne_eq,Nat.reduceEqDiff,reduceCtorEq,Zae,hne']
            exact ⟨⟨k1,hkeepX _ d hm9 k2⟩,.inl (hin _ d hm9 k1 k2 (by rw [hgot]; exact hZ) k3)⟩
          · have hne' : (Z.2 != 0) = true:=by simpa using hZ
            simp only [ZB,insVc,pickK,iopK,iopV,notK,ne_eq,Nat.reduceEqDiff,reduceCtorEq,Zae,hne']
            exact hout _ d hm9 k1 k2 (.inr ⟨by rw [hgot]; exact hZ,k3⟩)
        · intro d k1 k2 k3
          simp only [ZB,insVc,pickK,notK,ne_eq,Nat.reduceEqDiff,reduceCtorEq,Zab]
          exact hout _ d hm9 k1 k2 (.inl k3)
      · rw [if_pos hT] at hgot
        have hne : (T.2 == 0) = false:=by simpa using hT
        have hne' : (T.2 != 0) = true:=by simpa using hT
        simp only [ZB,insVc,load1K,loadNK,callvK,ne_eq,Nat.reduceEqDiff,Nat.reduceAdd,Nat.reduceLeDiff,Zad,Zac,Za,Zah,Zai,Zaj,Zak,Zaq,Zap,Zar,Zao,Zas,Zat,hne,b7,x7]
        refine hyield w7 (ms0,T.2) _ hgot hm7 ?_ ?_
        · intro d k1 k2 k3
          simp only [ZB,insVc,pickK,iopK,iopV,notK,ne_eq,Nat.reduceEqDiff,reduceCtorEq,Zae,hne']
          exact hout w7 d hm7 k1 k2 (.inr ⟨by rw [hgot]; exact hT,k3⟩)
        · intro d k1 k2 k3
          simp only [ZB,insVc,pickK,notK,ne_eq,Nat.reduceEqDiff,reduceCtorEq,Zab]
          exact hout w7 d hm7 k1 k2 (.inl k3)
    · have hgot : dgot St s r = (ms0,r.2):=by unfold dgot; rw [if_pos he]
      have hne : (r.2 == 0) = false:=by simpa using he
      have hne' : (r.2 != 0) = true:=by simpa using he
      simp only [ZB,insVc,load1K,loadNK,iopK,iopV,callvK,ne_eq,Nat.reduceEqDiff,Nat.reduceAdd,Nat.reduceLeDiff,reduceCtorEq,Zad,Zac,Za,Zah,Zai,Zaj,Zak,Zaq,Zap,Zar,Zao,Zas,Zat,hne,b5,x5]
      refine hyield w5 (ms0,r.2) _ hgot hm5 ?_ ?_
      · intro d k1 k2 k3
        simp only [ZB,insVc,pickK,iopK,iopV,notK,ne_eq,Nat.reduceEqDiff,reduceCtorEq,Zae,hne']
        exact hout w5 d hm5 k1 k2 (.inr ⟨by rw [hgot]; exact he,k3⟩)
      · intro d k1 k2 k3
        simp only [ZB,insVc,pickK,notK,ne_eq,Nat.reduceEqDiff,reduceCtorEq,Zab]
        exact hout w5 d hm5 k1 k2 (.inl k3)
  · rintro X u ⟨⟨pre,h1,h2⟩,h3,h4⟩ ⟨a1,a2,a3⟩
    have hfin':=fun h=>hfin u X (Vc.set u w4.heap.size (.deferred none)) a2 a3 h ((Mod.refl _ _).set (.inr rfl))
    simp only [size_set] at hfin'
    have hlen : (rowsV R).length = R.length:=by simp [rowsV]
    rw [hlen,List.drop_length] at h2
    have hl : (rowsV R).length = (msV (dueL St s R)).length:=by rw [h2,hlen]; simp [msV,dueL,h1,hlen]
    simp only [ZB,endK,resK,markO,a1]
    refine hfin' (.inl ?_)
    rw [← hl]; exact h3
  · rintro c X u ⟨rfl,h⟩ ⟨a1,a2,a3⟩
    have hfin':=hfin u X (Vc.set u w4.heap.size (.deferred none)) a2 a3 h ((Mod.refl _ _).set (.inr rfl))
    simp only [size_set] at hfin'
    simp only [ZB,exitOf,endK,resK,markO,a1]
    exact hfin'
end Go.Oct
namespace Go.Oct
open Go Go.Vc Go.VrA Go.VrB
set_option maxRecDepth 100000
def dueTo (now : Nat) : ByteArray:=if now < 18446744073709551615 then (underK ⟨#[101]⟩ [num' (now + 1)]).1 else (underK ⟨#[101]⟩ []).2
def Sto.dueRows {σ : Type} (St : Sto σ) (s : σ) (now : Nat) : List Pr:=(St.rng s (underK ⟨#[101]⟩ []).1 (dueTo now)).1
theorem due_c {σ : Type} (St : Sto σ) (s : σ) (hp : PureGet St s) (hpr : PureRng St s) (now : Nat) (m : Int) (w : World) (K : Value→World→Prop) (hAt : St.At s w) (hg : Gl m w) (hn : now < 2 ^ 64)
    (hR : ∀ r ∈ St.dueRows s now,(parseR ⟨r.1.1.toArray⟩).1.queue.size < 4294967281∧(parseR ⟨r.1.1.toArray⟩).1.id < 2 ^ 64∧(St.get s (messageK (parseR ⟨r.1.1.toArray⟩).1.queue (parseR ⟨r.1.1.toArray⟩).1.id).1).1.1.size < 2 ^ 60)
    (h : ∀ w' gf cap,Mod (fun _=>False) w w'→IterP Proofs.Tryz.prog gf cap (msV (dueL St s (St.dueRows s now))) (fun u=>St.At s u∧Gl m u∧Kept w.heap.size w' u)→K (.func (.func gf) #[] cap.toArray) w') :
    Ok Proofs.Tryz.prog 86 #[.iface St.t St.v,.int .u64 now] w K:=by
  refine F86.enter (args:=[.iface St.t St.v,.int .u64 now]) (by simp) ?_
  unfold c86 r86
  simp only [ZB,insVc,Value.cells,Zaf,Zad,Zac,Za]
  refine callK_gen ?_
  intro w1 hw1
  have hm1 : Mod (fun _=>False) w w1:=by rw [hw1]; exact (Mod.refl _ _).alloc _
  have e1 : w1.heap[w.heap.size]? = some (.cells #[.iface St.t St.v] 216 (0,0)):=by rw [hw1]; exact get_alloc_new _ _
  clear hw1
  refine under_c ⟨#[101]⟩ [] _ m w1 _ (hg.mod hm1 id) (.inl ⟨rfl,_,rfl⟩) (by simp) (by decide) (fun _ h=>by cases h) ?_
  intro w2 hm2
  have e2:=hm2.keep e1 id
  have hm12:=hm1.trans hm2
  have fin : ∀ (w3 : World) (G : Value→World→Prop),Mod (fun _=>False) w w3→w3.heap[w.heap.size]? = some (.cells #[.iface St.t St.v] 216 (0,0)) →
      (∀ w4 gf cap,Mod (fun _=>False) w3 w4→IterP Proofs.Tryz.prog gf cap (rowsV (St.dueRows s now)) (fun u=>St.At s u∧Kept w3.heap.size w4 u)→G (.func (.func gf) #[] cap.toArray) w4) →
      InvK Proofs.Tryz.prog G St.t St.v "Range" [.string (underK ⟨#[101]⟩ []).1,.string (dueTo now)] w3:=by
    intro w3 G hm3 _ hG
    exact hpr (underK ⟨#[101]⟩ []).1 (dueTo now) w3 G (St.keep0 hAt hm3) hG
  have last : ∀ (w3 w4 : World) (gf : FuncId) (cap : List Value) (G : Value→World→Prop),Mod (fun _=>False) w w3→w3.heap[w.heap.size]? = some (.cells #[.iface St.t St.v] 216 (0,0))→Mod (fun _=>False) w3 w4 →
      IterP Proofs.Tryz.prog gf cap (rowsV (St.dueRows s now)) (fun u=>St.At s u∧Kept w3.heap.size w4 u) →
      (∀ v w',K v w'→G v w')→CallK Proofs.Tryz.prog G 143 [.func (.func gf) #[] cap.toArray,.func (.func 144) #[] #[ptr w.heap.size]] w4:=by
    intro w3 w4 gf cap G hm3 e3 hm4 it hG
    refine F143.enter (args:=[_,_]) (by simp) ?_
    unfold c143 r143
    simp only [ZB,endK,resK,packed,insVc,Value.cells,ne_eq,Nat.reduceEqDiff,Zaf,Zad,Zac,Za,Zag,Zaa,Nat.reduceEqDiff]
    refine hG _ _ ?_
    have hmR : Mod (fun _=>False) w4 ((w4.alloc (.cells #[.func (.func gf) #[] cap.toArray] 224)).alloc (.cells #[.func (.func 144) #[] #[ptr w.heap.size]] 230)):=((Mod.refl _ _).alloc _).alloc _
    have z3:=hm3.size
    have z4:=hm4.size
    refine h _ _ [ptr w4.heap.size,ptr (w4.heap.size + 1)] ((hm3.trans hm4).trans hmR) (iterP_mono (row1_c St s hp (St.dueRows s now) gf cap w3.heap.size w4 it w4.heap.size (w4.heap.size + 1) w.heap.size m hR) ?_)
    rintro u ⟨k1,k2,k3⟩
    refine ⟨k1,k2, ?_,k3.at ?_ (by omega),k3.at ?_ (by omega),k3.at (hmR.keep (hm4.keep e3 id) id) (Nat.le_refl _)⟩
    · refine ⟨Nat.le_trans hmR.size k3.1,fun k h1 h2 => ?_⟩
      have:=hmR.size
      rw [k3.2 k (by omega) (by omega),hmR.get k h2 id]
    · simp only [Zab,Zae,size_alloc,get_alloc,size_alloc,Zbi,Zay]
    · simp only [Zab,Zae,size_alloc,get_alloc,size_alloc,Zba,Zay]
  by_cases hc : now < 18446744073709551615
  · have hc' : ((now : Nat) : Int) < 18446744073709551615:=by omega
    have hto : dueTo now = (underK ⟨#[101]⟩ [num' (now + 1)]).1:=by unfold dueTo; rw [if_pos hc]
    have hwr : IntKind.u64.wrap ((now : Int) + 1) = ((now + 1 : Nat) : Int):=by rw [IntKind.wrap_u64]; omega
    simp only [ZB,insVc,iopK,iopV,extK,ne_eq,Nat.reduceEqDiff,reduceCtorEq,Zaf,Zad,Zac,Za,Zag,Zah,hc',hwr]
    refine num_c (now + 1) w2 _ ?_
    intro w3 hm3
    simp only [ZB,insVc,fillL,buildSK,Value.cells,Nat.reduceAdd,Nat.reduceLeDiff,Zad,Zac,Zai,Zaj,Zak,Zbd,Zbe,Zbc,Zbb,Zal,Zam,Zan,Zbh,Zab,Pt.val,Pt.cells,num']
    have hm4 : Mod (fun _=>False) w3 (w3.alloc (.cells #[.bool false,.int .u64 (now + 1 : Nat),.string e0] 220)):=(Mod.refl _ _).alloc _
    have hm14:=(hm12.trans hm3).trans hm4
    refine under_c ⟨#[101]⟩ [num' (now + 1)] _ m _ _ (hg.mod hm14 id) (.inr (pts_lit w3 [num' (now + 1)] _ rfl)) (by simp) (by decide) ?_ ?_
    · intro p hp'
      rw [List.mem_singleton.1 hp']
      exact ⟨by show now + 1 < 2 ^ 64; omega,by simp [num',e0,ByteArray.size]⟩
    intro w5 hm5
    have e5:=(hm3.trans (hm4.trans hm5)).keep e2 id
    have hm15:=hm14.trans hm5
    rw [← hto]
    simp only [ZB,insVc,load1K,extK,invK,ne_eq,Nat.reduceEqDiff,Zad,Zac,Za,Zag,Zah,e5]
    refine fin w5 _ hm15 e5 ?_
    intro w6 gf cap hm6 it
    simp only [ZB,insVc,ne_eq,Nat.reduceEqDiff,Zad,Zac]
    refine last w5 w6 gf cap _ hm15 e5 hm6 it ?_
    intro v w' hv
    simp only [ZB,endK,resK,packed,insVc,Zaa]
    exact hv
  · have hc' : ¬ ((now : Nat) : Int) < 18446744073709551615:=by omega
    have hto : dueTo now = (underK ⟨#[101]⟩ []).2:=by unfold dueTo; rw [if_neg hc]
    rw [← hto]
    simp only [ZB,insVc,load1K,iopK,iopV,extK,invK,ne_eq,Nat.reduceEqDiff,reduceCtorEq,Zaf,Zad,Zac,Za,Zag,Zah,hc',e2]
    refine fin w2 _ hm12 e2 ?_
    intro w6 gf cap hm6 it
    simp only [ZB,insVc,ne_eq,Nat.reduceEqDiff,Zad,Zac]
    refine last w2 w6 gf cap _ hm12 e2 hm6 it ?_
    intro v w' hv
    simp only [ZB,endK,resK,packed,insVc,Zaa]
    exact hv
end Go.Oct
namespace Go.Oct
open Go Go.Vc Go.VrA Go.VrB Go.VrE
set_option maxRecDepth 100000
theorem list1_c (t : Th) (v : ByteArray) (w : World) (K : Value→World→Prop) (hv : v.size < 2 ^ 60)
    (h : ∀ w',Mod (fun _=>False) w w'→K (.tuple #[(mread t.queue t.id v).1.val,.int .i64 (mread t.queue t.id v).2]) w') :
    Ok Proofs.Tryz.prog 244 #[t.val,.string v] w K:=by
  refine F244.enter (args:=[t.val,.string v]) (by simp) ?_
  unfold c244 r244
  simp only [ZB,insVc,load1K,faddrK,Value.cells,ne_eq,Nat.reduceEqDiff,Zaf,Zad,Zac,Za,Zag,Zah,Zab,Zae,get_alloc,Zbi,Nat.reduceEqDiff,Zay,Th.val,Th.cells]
  refine callK_gen ?_
  intro w1 hw1
  have hm1 : Mod (fun _=>False) w w1:=by rw [hw1]; exact ((Mod.refl _ _).alloc _).alloc _
  have r1 : w1.heap[w.heap.size + 1]? = some (.cells zms 128 (0,0)):=by rw [hw1]; simp only [Zab,Zae,size_alloc,get_alloc,size_alloc,Zba,Zay]
  clear hw1
  refine messages_c t.queue t.id w1 _ ?_
  intro w2 mv hm2 hM2
  have r2:=hm2.keep r1 id
  simp only [ZB,insVc,ne_eq,Nat.reduceEqDiff,Zaf,Zad,Zac,Za,Zag]
  refine mread_c mv _ t.queue t.id v w2 _ hM2 hv ?_
  intro w3 hm3
  have r3':=hm3.keep r2 id
  simp only [ZB,endK,resK,resN,packed,insVc,storeNK,setMany,extK,isPlain,ne_eq,Nat.reduceEqDiff,Nat.reduceAdd,Nat.reduceLeDiff,Za,Zag,Zah,Zai,Zaj,Zak,Zal,Zam,Zan,Zaa,Zav,Zaq,Zap,Zar,Zao,Zas,Zat,Zau,Zaw,Zax,Ms.val,Ms.cells,r3',get_set_same _ _ _ (lt_of_get r3')]
  exact h _ (((hm1.trans hm2).trans hm3).set (.inl (by omega)))
def boundsL (queue : ByteArray) (n : Nat) : ByteArray × ByteArray:=((messageK queue n).1,(underK ⟨#[109]⟩ [str queue]).2)
theorem bounds_c (queue : ByteArray) (n : Nat) (m : Int) (w : World) (K : Value→World→Prop) (hg : Gl m w) (hs : queue.size < 4294967281) (hn : n < 2 ^ 64)
    (h : ∀ w',Mod (fun _=>False) w w'→K (.tuple #[.string (boundsL queue n).1,.string (boundsL queue n).2]) w') :
    Ok Proofs.Tryz.prog 242 #[.string queue,.int .u64 n] w K:=by
  refine F242.enter (args:=[.string queue,.int .u64 n]) (by simp) ?_
  unfold c242 r242
  simp only [ZB,insVc,ne_eq,reduceCtorEq,Zaf,Zad,Zac,Za]
  refine str_c queue w _ ?_
  intro w1 hm1
  simp only [ZB,insVc,fillL,buildSK,Value.cells,Nat.reduceAdd,Nat.reduceLeDiff,Zad,Zac,Zai,Zaj,Zak,Zbd,Zbe,Zbc,Zbb,Zal,Zam,Zan,Zbh,Zab,Pt.val,Pt.cells,str]
  have hm2 : Mod (fun _=>False) w1 (w1.alloc (.cells #[.bool true,.int .u64 (0 : Nat),.string queue] 220)):=(Mod.refl _ _).alloc _
  have hm12:=hm1.trans hm2
  refine under_c ⟨#[109]⟩ [str queue] _ m _ _ (hg.mod hm12 id) (.inr (pts_lit w1 [str queue] _ rfl)) (by simp) (by decide) ?_ ?_
  · intro p hp'
    rw [List.mem_singleton.1 hp']
    exact ⟨by show 0 < 2 ^ 64; decide,by simpa [str] using hs⟩
  intro w3 hm3
  have hm13:=hm12.trans hm3
  simp only [ZB,insVc,extK,ne_eq,Nat.reduceEqDiff,reduceCtorEq,Zaf,Zad,Zac,Za,Zag,Zah]
  refine message_c queue n m w3 _ (hg.mod hm13 id) hs hn ?_
  intro w4 hm4
  simp only [ZB,endK,resK,packed,insVc,extK,ne_eq,Nat.reduceEqDiff,Za,Zag,Zah,Zaa,Zav]
  exact h w4 (hm13.trans hm4)
end Go.Oct
