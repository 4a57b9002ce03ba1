import Derived.Test.YtbkddpckkgbbmaaGreatDoorVsA
set_option linter.unusedSimpArgs false
set_option linter.unusedVariables false
set_option linter.unusedSectionVars false
set_option linter.unnecessarySimpa false
namespace Go.Vc
open Go
variable {P : Program} {ro : Option Nat} {n : Nat}
def IterX (P : Program) (gf : FuncId) (cap : List Value) (xs : List (List Value)) (X0 : Nat→Prop) (Pre Facts : World→Prop) : Prop :=
  ∀ (y : Value) (_ : ∃ f a b,y = .func f a b) (J : Nat→(Nat→Prop)→World→Prop) (Jx : (Nat→Prop)→World→Prop) (w : World),J 0 X0 w→Pre w→(∀ k,X0 k→k < w.heap.size) →
    (∀ i X w,J i X w→Facts w)→(∀ i,Stab (J i))→Stab Jx →
    (∀ i (_ : i < xs.length) (X : Nat→Prop) a,J i X a→(∀ k,X k→(X0 k∨w.heap.size≤k)∧k < a.heap.size)→w.heap.size≤a.heap.size →
      callvK P (fun v b=>(a.heap.size≤b.heap.size∧∀ k,X k→b.heap[k]? = a.heap[k]?)∧((v = .bool true∧J (i + 1) X b)∨(v = .bool false∧Jx X b))) a (xs[i]?.getD []) y) →
    Ok P gf (y :: cap).toArray w (fun _ b=>w.heap.size≤b.heap.size∧∃ X : Nat→Prop,(∀ k,X k→(X0 k∨w.heap.size≤k)∧k < b.heap.size)∧(J xs.length X b∨Jx X b))
theorem IterX.of {gf : FuncId} {cap : List Value} {xs : List (List Value)} {Facts : World→Prop} (h : IterP P gf cap xs Facts) : IterX P gf cap xs (fun _=>False) (fun _=>True) Facts:=by
  intro y hy J Jx w h0 _ _ hF hS hSx hr
  refine Ok.mono (h y hy J Jx w h0 hF hS hSx ?_) ?_
  · intro i hi X a hJ hX ha
    exact hr i hi X a hJ (fun k hk=>⟨.inr (hX k hk).1,(hX k hk).2⟩) ha
  · rintro v b ⟨h1,X,h2,h3⟩
    exact ⟨h1,X,fun k hk=>⟨.inr (h2 k hk).1,(h2 k hk).2⟩,h3⟩
def AtEndX (w w' : World) (X0 X : Nat→Prop) : Prop :=
  w'.heap[w.heap.size]? = some (.deferred (some []))∧w.heap.size + 2≤w'.heap.size∧∀ k,X k→(X0 k∨w.heap.size≤k)∧k < w'.heap.size
theorem range_iterX {f : Operand} {params : Array Tmp} {asg body : Code} {casg cbody : CC} {Q : QT} {ρ : Env} {ds : List Deferred} {w : World}
    (hca : comp P n asg = casg) (hcb : comp P n body = cbody) (hfb : inB n f = true)
    {gf : FuncId} {cap : List Value} (hf : ev ρ f = .func (.func gf) #[] cap.toArray) {xs : List (List Value)} {X0 : Nat→Prop} {Pre Facts : World→Prop} (it : IterX P gf cap xs X0 Pre Facts) (hX0 : ∀ k,X0 k→k < w.heap.size) (hPre : ∀ w',Mod (fun _=>False) w w'→Pre w')
    (I : Nat→(Nat→Prop)→World→Prop) (Ix : Code→(Nat→Prop)→World→Prop)
    (h0 : ∀ X w',Mod (fun _=>False) w w'→w'.heap.size = w.heap.size + 2→(∀ k,X k→X0 k∨k = w.heap.size∨k = w.heap.size + 1)→I 0 X w')
    (hF : ∀ i X w',I i X w'→Facts w')
    (stab : ∀ i X X' a b,I i X a→(∀ k,X k→X0 k∨w.heap.size≤k)→w.heap.size≤a.heap.size→Mod X a b→(∀ k,X' k→X k∨a.heap.size≤k∧k < b.heap.size)→I i X' b)
    (stabx : ∀ c X X' a b,Ix c X a→(∀ k,X k→X0 k∨w.heap.size≤k)→w.heap.size≤a.heap.size→Mod X a b→(∀ k,X' k→X k∨a.heap.size≤k∧k < b.heap.size)→Ix c X' b)
    (hlen : ∀ i (_ : i < xs.length),(xs[i]?.getD []).length = params.size)
    (round : ∀ i (_ : i < xs.length) (X : Nat→Prop) a,I i X a→(∀ k,X k→(X0 k∨w.heap.size≤k)∧k < a.heap.size)→w.heap.size + 2≤a.heap.size →
      vc P (some (w.heap.size + 1)) n casg (fun e ρ1 ds1 b=>e = .normal∧ds1 = []∧Mod (fun _=>False) a b∧∀ c,Mod X b c→I i X c →
        vc P (some (w.heap.size + 1)) n cbody (fun e _ _ d=>(c.heap.size≤d.heap.size∧∀ k,X k→d.heap[k]? = c.heap[k]?) ∧
          ((e = .normal∧I (i + 1) X d)∨∃ cc,(cc = .ret∧e = .ret∨∃ id,cc = .exit id∧e = .exit id)∧Ix cc X d)) ρ1 [] c) (updMany ρ params.toList (xs[i]?.getD [])) [] a)
    (done : ∀ X w',I xs.length X w'→AtEndX w w' X0 X→Q .normal ρ (markD w.heap.size :: ds) w')
    (stop : ∀ c X w',Ix c X w'→AtEndX w w' X0 X→Q (exitOf c) ρ (markD w.heap.size :: ds) w') :
    vc P none n (.range f params asg body casg cbody) Q ρ ds w:=by
  subst hca hcb
  have hfE:=mkA_eval n ρ ds f hfb
  show (Code.rangeFunc f params asg body).wpIn Fence.wide 0 P (lift n Q) (mkA n ρ ds) w
  refine wpIn_rangeFunc (F:=Fence.wide) fun fn _ => ?_
  let D:=w.heap.size
  let L : Loop:={ state:=.ready,pending:=none,fn,tmps:=tm n ρ,params,assign:=asg,body,defers:=D }
  let w0:=w.alloc (.deferred (some []))
  let w1:=w0.alloc (.loop L)
  have hw0s : w0.heap.size = D + 1:=size_alloc _ _
  have hw1s : w1.heap.size = D + 2:=by show (w0.alloc _).heap.size = _; rw [size_alloc,hw0s]
  have hD1 : w1.heap[D]? = some (.deferred (some [])):=by
    show (w0.alloc _).heap[D]? = _
    rw [get_alloc_old _ _ _ (by rw [hw0s]; omega)]
    exact get_alloc_new _ _
  have hL1 : w1.heap[D + 1]? = some (.loop L):=get_alloc_new' _ _ _ hw0s.symm
  have hm1 : Mod (fun _=>False) w w1:=((Mod.refl _ _).alloc _).alloc _
  let y : Value:=.func (.yield (D + 1)) #[] #[]
  let XD : (Nat→Prop)→Nat→Prop:=fun X k=>k = D∨k = D + 1∨X k
  let J : Nat→(Nat→Prop)→World→Prop:=fun i X w'=>I i (XD X) w'∧w'.heap[D]? = some (.deferred (some []))∧LoopAt w' (D + 1) n ρ params asg body .ready none∧D + 2≤w'.heap.size∧∀ k,X k→X0 k∨D + 2≤k
  let Jx : (Nat→Prop)→World→Prop:=fun X w' => ∃ c,(c = .ret∨∃ id,c = .exit id)∧Ix c (XD X) w'∧w'.heap[D]? = some (.deferred (some []))∧LoopAt w' (D + 1) n ρ params asg body .done (some c)∧D + 2≤w'.heap.size∧∀ k,X k→X0 k∨D + 2≤k
  have hXD : ∀ X : Nat→Prop,(∀ k,X k→X0 k∨D + 2≤k)→∀ k,XD X k→X0 k∨w.heap.size≤k:=by
    rintro X hX k (rfl | rfl | h)
    · exact .inr (Nat.le_refl _)
    · exact .inr (show D≤D + 1 by omega)
    · exact (hX k h).imp id (fun h=>show D≤k by omega)
  have hD0 : ∀ k,X0 k→k < D:=hX0
  have hXX : ∀ (X X' : Nat→Prop) (a b : World),(∀ k,X' k→X k∨a.heap.size≤k∧k < b.heap.size)→∀ k,XD X' k→XD X k∨a.heap.size≤k∧k < b.heap.size:=by
    rintro X X' a b h k (rfl | rfl | hk)
    · exact .inl (.inl rfl)
    · exact .inl (.inr (.inl rfl))
    · exact (h k hk).elim (fun x=>.inl (.inr (.inr x))) .inr
  have hX2 : ∀ (X X' : Nat→Prop) (a b : World),(∀ k,X k→X0 k∨D + 2≤k)→D + 2≤a.heap.size→(∀ k,X' k→X k∨a.heap.size≤k∧k < b.heap.size)→∀ k,X' k→X0 k∨D + 2≤k:=by
    intro X X' a b hX ha h k hk
    rcases h k hk with h | h
    · exact hX k h
    · exact .inr (by omega)
  have hcall : Ok P gf (y :: cap).toArray w1 (fun _ b=>w1.heap.size≤b.heap.size∧∃ X : Nat→Prop,(∀ k,X k→(X0 k∨w1.heap.size≤k)∧k < b.heap.size)∧(J xs.length X b∨Jx X b)):=by
    refine it y ⟨_,_,_,rfl⟩ J Jx w1 ⟨h0 _ _ hm1 hw1s ?_,hD1,⟨fn,D,hL1⟩,by rw [hw1s]; exact Nat.le_refl _,fun _ x=>.inl x⟩ (hPre w1 hm1) (fun k hk=>by have:=hD0 k hk; omega) (fun i X w' h=>hF i _ w' h.1) ?_ ?_ ?_
    · rintro k (rfl | rfl | h)
      · exact .inr (.inl rfl)
      · exact .inr (.inr rfl)
      · exact .inl h
    · rintro i X X' a b ⟨h1,h2,h3,h4,h5⟩ hm hx
      have hn0 : ¬ X D:=fun x=>by rcases h5 _ x with h | h; (have:=hD0 _ h; omega); omega
      have hn1 : ¬ X (D + 1):=fun x=>by rcases h5 _ x with h | h; (have:=hD0 _ h; omega); omega
      refine ⟨stab i (XD X) (XD X') a b h1 (hXD X h5) (by show D≤_; omega) (hm.mono fun _ _ x=>.inr (.inr x)) (hXX X X' a b hx),(hm.get _ (by omega) hn0).trans h2,h3.of_eq (hm.get _ (by omega) hn1),Nat.le_trans h4 hm.size,hX2 X X' a b h5 h4 hx⟩
    · rintro X X' a b ⟨c,hc,h1,h2,h3,h4,h5⟩ hm hx
      have hn0 : ¬ X D:=fun x=>by rcases h5 _ x with h | h; (have:=hD0 _ h; omega); omega
      have hn1 : ¬ X (D + 1):=fun x=>by rcases h5 _ x with h | h; (have:=hD0 _ h; omega); omega
      refine ⟨c,hc,stabx c (XD X) (XD X') a b h1 (hXD X h5) (by show D≤_; omega) (hm.mono fun _ _ x=>.inr (.inr x)) (hXX X X' a b hx),(hm.get _ (by omega) hn0).trans h2,h3.of_eq (hm.get _ (by omega) hn1),Nat.le_trans h4 hm.size,hX2 X X' a b h5 h4 hx⟩
    · rintro i hi X a ⟨h1,h2,h3,h4,h5⟩ hXb _
      show callvK P _ a (xs[i]?.getD []) (.func (.yield (D + 1)) #[] #[])
      simp only [callvK,Zaa]
      refine yield_rule (n:=n) h3 (hlen i hi) ?_
      have hXDa : ∀ k,XD X k→(X0 k∨w.heap.size≤k)∧k < a.heap.size:=by
        intro k hk
        refine ⟨hXD X h5 k hk, ?_⟩
        rcases hk with rfl | rfl | hk
        · omega
        · omega
        · exact (hXb k hk).2
      refine wpIn_mono (vc_sound asg _ _ _ _ (round i hi (XD X) a h1 hXDa h4)) (lift_mono ?_)
      rintro e ρ1 ds1 b ⟨rfl,rfl,hm,hI'⟩
      refine ⟨rfl,rfl,hm.get _ (by omega) id,fun c hmc => ?_⟩
      have hms:=hm.size
      have hmcs:=hmc.size
      have hsz : D + 2≤c.heap.size:=Nat.le_trans (Nat.le_trans h4 hm.size) hmc.size
      have hcD : c.heap[D]? = some (.deferred (some [])):=(hmc.get _ (by omega) (by omega)).trans ((hm.get _ (by omega) id).trans h2)
      have hmX : Mod (XD X) b c:=hmc.mono fun k _ x=>.inr (.inl x)
      have hIc : I i (XD X) c:=stab i (XD X) (XD X) b c (stab i (XD X) (XD X) a b h1 (hXD X h5) (by show D≤_; omega) (hm.mono fun _ _ x=>x.elim) (fun k x=>.inl x)) (hXD X h5) (by show D≤_; omega) hmX (fun k x=>.inl x)
      refine wpIn_mono (vc_sound body _ _ _ _ (hI' c hmX hIc)) (lift_mono ?_)
      rintro e ρ2 ds2 d ⟨⟨k1,k2⟩,hq⟩
      have hsz' : D + 2≤d.heap.size:=Nat.le_trans hsz k1
      have kX : ∀ w4,Mod (fun k=>k = D + 1) d w4→a.heap.size≤w4.heap.size∧∀ k,X k→w4.heap[k]? = a.heap[k]?:=by
        intro w4 hm4
        have hm4s:=hm4.size
        refine ⟨by omega,fun k hk => ?_⟩
        have hk2 : k≠D∧k≠D + 1:=by rcases h5 k hk with h | h; (have:=hD0 _ h; omega); omega
        have hka:=(hXb k hk).2
        rw [hm4.get k (by omega) (by omega),k2 k (.inr (.inr hk)),hmc.get k (by omega) (by omega),hm.get k (by omega) id]
      have kS : ∀ w4,Mod (fun k=>k = D + 1) d w4→Mod (XD X) d w4:=fun w4 hm4=>hm4.mono fun k _ x=>.inr (.inl x)
      refine ⟨k2 _ (.inr (.inl rfl)), ?_⟩
      rcases hq with ⟨rfl,hI⟩ | ⟨cc,hc,hIx⟩
      · exact .inl ⟨rfl,fun w4 hm4 hl4=>⟨kX w4 hm4,.inl ⟨rfl,stab _ (XD X) (XD X) d w4 hI (hXD X h5) (by show D≤_; omega) (kS w4 hm4) (fun k x=>.inl x),(hm4.get _ (by omega) (by omega)).trans ((k2 _ (.inl rfl)).trans hcD),hl4,Nat.le_trans hsz' hm4.size,h5⟩⟩⟩
      · refine .inr ⟨cc,hc,fun w4 hm4 hl4=>⟨kX w4 hm4,.inr ⟨rfl,cc, ?_,stabx _ (XD X) (XD X) d w4 hIx (hXD X h5) (by show D≤_; omega) (kS w4 hm4) (fun k x=>.inl x),(hm4.get _ (by omega) (by omega)).trans ((k2 _ (.inl rfl)).trans hcD),hl4,Nat.le_trans hsz' hm4.size,h5⟩⟩⟩
        rcases hc with ⟨h,_⟩ | ⟨id,h,_⟩
        · exact .inl h
        · exact .inr ⟨id,h⟩
  refine ⟨D + 1,[markD D],w1,⟨.fn (.func gf) cap.toArray,#[y]⟩,w1,gf,(y :: cap).toArray,w1, ?_, ?_,fun _ _=>trivial, ?_,fun h=>by simp [Fence.wide] at h, ?_⟩
  · simp only [Instr.enterLoop,Fence.wide,Sem.run_bind,run_newObj,Result.andThen,pure,Sem.run]
    show Result.ok (w0.heap.size,_) _ = _
    rw [hw0s]; rfl
  · simp only [resolve,hfE,hf,Deferred.ofValue,pure]
    simp [Sem.run,y,Act.eval]
  · have e : #[y] ++ cap.toArray = (y :: cap).toArray:=by apply Array.ext'; simp
    simp only [invoke]
    rw [e]; exact callFunc_ok hcall.1
  · refine CallsIn.mono hcall.2 ?_
    rintro e w3 ⟨v,rfl,hs3,X,hXb,hj⟩
    have hend : ∀ (st : LoopState) (pend : Option Code),st≠.busy→LoopAt w3 (D + 1) n ρ params asg body st pend→∃ w4,(Instr.endLoop (D + 1)).run P w3 = .ok pend w4∧Mod (XD X) w3 w4∧w4.heap[D]? = w3.heap[D]?:=by
      rintro st pend hst ⟨fn',D',hl⟩
      refine ⟨set w3 (D + 1) (.loop { state:=.exhausted,pending:=pend,fn:=fn',tmps:=tm n ρ,params,assign:=asg,body,defers:=D' }), ?_,(Mod.refl _ _).set (.inr (.inr (.inl rfl))),get_set_other _ _ _ _ (by omega)⟩
      simp [Instr.endLoop,Instr.getLoop,getObj,setObj,Sem.run_bind,Sem.run,hl,Result.andThen,pure,hst,set]
    have ha : ({ mkA n ρ ds with defers:=[markD D] ++ (mkA n ρ ds).defers } : Act) = mkA n ρ (markD D :: ds):=rfl
    have hbd : ∀ w4,Mod (XD X) w3 w4→D + 2≤w3.heap.size→∀ k,XD X k→(X0 k∨w.heap.size≤k)∧k < w4.heap.size:=by
      rintro w4 m4 h4 k hk
      have:=m4.size
      refine ⟨?_, ?_⟩
      · rcases hk with rfl | rfl | hk
        · exact .inr (Nat.le_refl _)
        · exact .inr (show D≤D + 1 by omega)
        · exact (hXb k hk).1.imp id (fun h=>show D≤k by omega)
      · rcases hk with rfl | rfl | hk
        · omega
        · omega
        · have:=(hXb k hk).2; omega
    rcases hj with ⟨h1,h2,h3,h4,h5⟩ | ⟨c,hc,h1,h2,h3,h4,h5⟩
    · obtain ⟨w4,e4,m4,d4⟩:=hend _ _ (by simp) h3
      exact ⟨none,w4,e4,ρ,_,rfl,done (XD X) w4 (stab _ (XD X) (XD X) _ _ h1 (hXD X h5) (by show D≤_; omega) m4 (fun k x=>.inl x)) ⟨d4.trans h2,Nat.le_trans h4 m4.size,hbd w4 m4 h4⟩⟩
    · obtain ⟨w4,e4,m4,d4⟩:=hend _ _ (by simp) h3
      have hs:=stop c (XD X) w4 (stabx _ (XD X) (XD X) _ _ h1 (hXD X h5) (by show D≤_; omega) m4 (fun k x=>.inl x)) ⟨d4.trans h2,Nat.le_trans h4 m4.size,hbd w4 m4 h4⟩
      refine ⟨some c,w4,e4, ?_⟩
      rw [ha]
      rcases hc with rfl | ⟨id,rfl⟩
      · exact wpIn_ret ⟨ρ,_,rfl,hs⟩
      · exact wpIn_exit ⟨ρ,_,rfl,hs⟩
end Go.Vc
namespace Go.Vc
open Go
variable {P : Program} {ro : Option Nat} {n : Nat} {ops : Array Oper}
end Go.Vc
namespace Go.Vc
open Go
variable {P : Program} {go : Value→World→Prop} {w : World}
theorem mk_toList (a : List UInt8) : (⟨a.toArray⟩ : ByteArray).toList = a:=by rw [ByteArray.toList_eq]
theorem sopK_eql (a b : List UInt8) : sopK go w .eql (.string ⟨a.toArray⟩) (.string ⟨b.toArray⟩) = go (.bool (a == b)) w:=by
  simp only [sopK,sopV,mk_toList,loadV]
theorem sopK_neq (a b : List UInt8) : sopK go w .neq (.string ⟨a.toArray⟩) (.string ⟨b.toArray⟩) = go (.bool !(a == b)) w:=by
  simp only [sopK,sopV,mk_toList,loadV]
end Go.Vc
namespace Go.Vc
open Go
def IsT {α : Type} (cells : α→List Value) (s : Nat) (w : World) (v : Value) (l : List α) : Prop :=
  (∃ a c,v = .slice a l.length c)∧∀ (i : Nat) x,l[i]? = some x→∃ b o c cur t f,v = .slice (some ⟨b,o,none⟩) l.length c∧w.heap[b]? = some (.cells cur t f)∧o + i * s + s≤cur.size∧cur.extract (o + i * s) (o + i * s + s) = (cells x).toArray
variable {α : Type} {cells : α→List Value} {s : Nat} {w w' : World} {v : Value} {l : List α}
theorem IsT.mod {S : Nat→Prop} (h : IsT cells s w v l) (hm : Mod S w w') (hS : ∀ k,v.ownBlock = some k→¬ S k) : IsT cells s w' v l :=
  ⟨h.1,fun i x hx=>by obtain ⟨b,o,c,cur,t,f,h1,h2,h3⟩:=h.2 i x hx; exact ⟨b,o,c,cur,t,f,h1,hm.keep h2 (hS b (by rw [h1]; rfl)),h3⟩⟩
theorem IsT.keep (h : IsT cells s w v l) (hm : Mod (fun _=>False) w w') : IsT cells s w' v l:=h.mod hm (fun _ _ x=>x)
theorem IsT.nil (c : Nat) (a : Option Addr) : IsT cells s w (.slice a 0 c) ([] : List α):=⟨⟨a,c,rfl⟩,fun i x hx=>by simp at hx⟩
theorem IsT.at {a : Option Addr} {n c i : Nat} {x : α} (h : IsT cells s w (.slice a n c) l) (hx : l[i]? = some x) :
    ∃ b o cur t f,a = some ⟨b,o,none⟩∧w.heap[b]? = some (.cells cur t f)∧o + i * s + s≤cur.size∧cur.extract (o + i * s) (o + i * s + s) = (cells x).toArray:=by
  obtain ⟨b,o,c',cur,t,f,he,h1,h2,h3⟩:=h.2 i x hx
  exact ⟨b,o,cur,t,f,by simpa using congrArg (fun x=>match x with | .slice a _ _=>a | _=>none) he,h1,h2,h3⟩
theorem IsT.len {a : Option Addr} {n c : Nat} (h : IsT cells s w (.slice a n c) l) : n = l.length:=by
  obtain ⟨a',c',e⟩:=h.1
  exact congrArg (fun x=>match x with | .slice _ n _=>n | _=>0) e
end Go.Vc
namespace Go.Vc
open Go
variable {P : Program} {ro : Option Nat} {n : Nat} {ops : Array Oper}
def stepE (P : Program) (w0 : World) (ρ : Env) (ds : List Deferred) (w : World) (i : Ins) (k : Value→World→Prop) : Kind→Prop
  | .pure=>insVc P (fun v _=>k v w) ρ [] default i
  | .load=>insVc P (fun v _=>k v w) ρ [] w0 i
  | .step=>insVc P (fun v w'=>Mod (fun _=>False) w0 w'∧k v w') ρ ds w i
def gateE (P : Program) (w0 : World) (ρ : Env) (ds : List Deferred) (w : World) (i : Ins) (k : Value→World→Prop) : Bool→Prop
  | true=>stepE P w0 ρ ds w i k (kindI i)
  | false=>k undef w
def vcE (P : Program) (w0 : World) (ds : List Deferred) : List In→(Env→World→Prop)→Env→World→Prop
  | [],K,ρ,w=>K ρ w
  | ⟨none,d,i⟩ :: l,K,ρ,w=>stepE P w0 ρ ds w i (fun v w'=>vcE P w0 ds l K (updO ρ d v) w') (kindI i)
  | ⟨some (s,want),d,i⟩ :: l,K,ρ,w=>gateE P w0 ρ ds w i (fun v w'=>vcE P w0 ds l K (updO ρ d v) w') (gate (ρ s) want)
theorem loadV_mono {go go' : Value→World→Prop} {w : World} {o : Option Value} (h : loadV go w o) (hk : ∀ v,o = some v→go v w→go' v w) : loadV go' w o:=by
  cases o with
  | none=>exact h.elim
  | some v=>exact hk v rfl h
theorem load_look {w0 : World} {ρ : Env} {i : Ins} {k : Value→Prop} (hi : loadI i = true) (h : insVc P (fun v _=>k v) ρ [] w0 i) : LoadD (Mod (fun _=>False) w0) P ρ i k:=by
  cases i with
  | load1 x =>
    simp only [insVc] at h
    cases hx : ev ρ x with
    | pointer a =>
      rw [hx] at h
      cases a with
      | none=>exact h.elim
      | some a =>
        obtain ⟨b,o,sp⟩:=a
        cases sp with
        | some _=>exact h.elim
        | none =>
          simp only [load1K] at h
          cases hb : w0.heap[b]? with
          | none=>rw [hb] at h; exact h.elim
          | some ob =>
            rw [hb] at h
            cases ob with
            | cells c t f =>
              simp only [loadO] at h
              cases hc : c[o]? with
              | none=>rw [hc] at h; exact h.elim
              | some v=>rw [hc] at h; exact loadD1 hx (fun W hW=>⟨c,t,f,hW.keep hb id,hc⟩) h
            | _=>exact h.elim
    | _=>rw [hx] at h; exact h.elim
  | loadN m x =>
    simp only [insVc] at h
    cases hx : ev ρ x with
    | pointer a =>
      rw [hx] at h
      cases a with
      | none=>exact h.elim
      | some a =>
        obtain ⟨b,o,sp⟩:=a
        cases sp with
        | some _=>exact h.elim
        | none =>
          simp only [loadNK] at h
          cases hb : w0.heap[b]? with
          | none=>rw [hb] at h; exact h.elim
          | some ob =>
            rw [hb] at h
            cases ob with
            | cells c t f =>
              simp only [loadNO] at h
              exact loadDN hx (fun W hW=>⟨c,t,f,hW.keep hb id,h.1,rfl⟩) h.2
            | _=>exact h.elim
    | _=>rw [hx] at h; exact h.elim
  | _=>simp [loadI] at hi
theorem loadO_mono {go go' : Value→World→Prop} (hk : ∀ v w',go v w'→go' v w') {w : World} {o : Nat} {ob : Option Obj} (h : loadO go w o ob) : loadO go' w o ob:=by
  cases ob with
  | none=>exact h.elim
  | some ob =>
    cases ob with
    | cells c t f=>exact loadV_mono h (fun v _ hv=>hk _ _ hv)
    | _=>exact h.elim
theorem insVc_mono {go go' : Value→World→Prop} (hk : ∀ v w',go v w'→go' v w') {ρ : Env} {ds : List Deferred} {w : World} {i : Ins} (h : insVc P go ρ ds w i) : insVc P go' ρ ds w i:=by
  cases i <;> simp only [insVc] at h ⊢
  case mv=>exact hk _ _ h
  case pick c a b=>unfold pickK at h ⊢; split at h <;> first | exact hk _ _ h | exact h.elim
  case alloc=>exact hk _ _ h
  case box=>exact hk _ _ h
  case load1 x=>unfold load1K at h ⊢; split at h <;> first | exact loadO_mono hk h | exact h.elim
  case loadN m x =>
    unfold loadNK at h ⊢
    split at h
    · unfold loadNO at h ⊢; split at h <;> first | exact ⟨h.1,hk _ _ h.2⟩ | exact h.elim
    · exact h.elim
  case store1 x v =>
    unfold storeK at h ⊢
    split at h
    · unfold storeO at h ⊢; split at h <;> first | exact ⟨h.1,hk _ _ h.2⟩ | exact h.elim
    · exact h.elim
  case storeN m x v =>
    unfold storeNK at h ⊢
    split at h
    · unfold storeNO at h ⊢; split at h <;> first | exact ⟨h.1,hk _ _ h.2⟩ | exact h.elim
    · exact h.elim
  case nilc x=>unfold nilK at h ⊢; split at h <;> first | exact hk _ _ h | exact ⟨h.1,hk _ _ h.2⟩ | exact h.elim
  case iop op x y=>unfold iopK at h ⊢; split at h <;> first | exact ⟨h.1,loadV_mono h.2 (fun v _ hv=>hk _ _ hv)⟩ | exact h.elim
  case sop op x y=>unfold sopK at h ⊢; split at h <;> first | exact loadV_mono h (fun v _ hv=>hk _ _ hv) | exact h.elim
  case bop neq x y=>unfold bopK at h ⊢; split at h <;> first | exact hk _ _ h | exact h.elim
  case pnil k' neq x=>unfold pnilK at h ⊢; split at h <;> first | exact hk _ _ h | exact h.elim
  case not x=>unfold notK at h ⊢; split at h <;> first | exact hk _ _ h | exact h.elim
  case conv k' x=>unfold convK at h ⊢; split at h <;> first | exact hk _ _ h | exact h.elim
  case same x=>unfold sameK at h ⊢; split at h <;> first | exact hk _ _ h | exact h.elim
  case mkI t x=>exact hk _ _ h
  case mkF fn f c=>exact hk _ _ h
  case faddr off x=>unfold faddrK at h ⊢; split at h <;> first | exact hk _ _ h | exact h.elim
  case fld1 off x=>unfold fld1K at h ⊢; split at h <;> first | exact loadV_mono h (fun v _ hv=>hk _ _ hv) | exact h.elim
  case fldN off m x=>unfold fldNK at h ⊢; split at h <;> first | exact hk _ _ h | exact h.elim
  case iaddr sz x i=>unfold iaddrK at h ⊢; split at h <;> first | exact ⟨h.1,hk _ _ h.2⟩ | exact h.elim
  case iaddrA len sz x i=>unfold iaddrAK at h ⊢; split at h <;> first | exact ⟨h.1,hk _ _ h.2⟩ | exact h.elim
  case sidx x i=>unfold sidxK at h ⊢; split at h <;> first | exact ⟨h.1,loadV_mono h.2 (fun v _ hv=>hk _ _ hv)⟩ | exact h.elim
  case ext x i=>unfold extK at h ⊢; split at h <;> first | exact loadV_mono h (fun v _ hv=>hk _ _ hv) | exact h.elim
  case lenS x=>unfold lenSK at h ⊢; split at h <;> first | exact hk _ _ h | exact h.elim
  case lenL x=>unfold lenLK at h ⊢; split at h <;> first | exact hk _ _ h | exact h.elim
  case call f args=>exact callK_mono h hk
  case callv x args=>exact callvK_mono h hk
  case inv x name args =>
    unfold invK at h ⊢
    split at h
    · obtain ⟨f,y,h1,h2⟩:=h
      exact ⟨f,y,h1,callK_mono h2 hk⟩
    · exact h.elim
  case build zero parts=>unfold buildK at h ⊢; split at h <;> first | exact hk _ _ h | exact h.elim
  case buildS t len zero parts=>unfold buildSK at h ⊢; split at h <;> first | exact hk _ _ h | exact h.elim
  case slS x lo hi =>
    unfold slSK at h ⊢
    split at h
    · split at h
      · exact ⟨h.1,hk _ _ h.2⟩
      · exact h.elim
    · exact h.elim
  case slL sz x lo hi =>
    unfold slLK at h ⊢
    split at h
    · split at h
      · exact ⟨h.1,hk _ _ h.2⟩
      · exact h.elim
    · exact h.elim
  case slA m sz x lo hi =>
    unfold slAK at h ⊢
    split at h
    · split at h
      · exact ⟨h.1,hk _ _ h.2⟩
      · exact h.elim
    · exact h.elim
  case raw m o=>exact upon_mono hk h
theorem stepD_of_E {w0 : World} {ρ : Env} {ds : List Deferred} {w : World} {i : Ins} {k k' : Value→World→Prop} (h : stepE P w0 ρ ds w i k (kindI i)) (hi : ∀ v w',k v w'→k' v w') : stepD P (Mod (fun _=>False) w0) ρ ds w i k' (kindI i):=by
  unfold kindI at h ⊢
  split
  · rename_i hp
    rw [if_pos hp] at h
    exact insVc_mono (fun v _ hv=>hi v w hv) h
  · rename_i hp
    rw [if_neg hp] at h
    split
    · rename_i hl
      rw [if_pos hl] at h
      exact load_look hl (insVc_mono (fun v _ hv=>hi v w hv) h)
    · rename_i hl
      rw [if_neg hl] at h
      show insVc P (fun v w'=>Mod (fun _=>False) w0 w'∧k' v w') ρ ds w i
      refine insVc_mono (go:=fun v w'=>Mod (fun _=>False) w0 w'∧k v w') ?_ h
      intro v w' hv
      exact ⟨hv.1,hi v w' hv.2⟩
theorem vcD_of_vcE {w0 : World} {ds : List Deferred} {K : Env→World→Prop} : ∀ (l : List In) (ρ : Env) (w : World),vcE P w0 ds l K ρ w→vcD P (Mod (fun _=>False) w0) ds l K ρ w:=by
  intro l
  induction l with
  | nil=>intro ρ w h; exact h
  | cons x l ih =>
    intro ρ w h
    obtain ⟨g,d,i⟩:=x
    cases g with
    | none=>exact stepD_of_E h (fun v w' hv=>ih _ _ hv)
    | some p =>
      obtain ⟨s,want⟩:=p
      simp only [vcE] at h
      simp only [vcD]
      cases hg : gate (ρ s) want with
      | true=>rw [hg] at h; exact stepD_of_E h (fun v w' hv=>ih _ _ hv)
      | false=>rw [hg] at h; exact ih _ _ h
theorem draw_e {id : Nat} {l : List In} {Q : QT} {ρ : Env} {ds : List Deferred} {w : World} (hm : P.follows .mixedOrders = true) (hB : Region.lexB .any ops = true) (hl : compOps P n ops ops.toList = some l)
    (hS : chainB ops (stepsOf l) = true) (h : vcE P w ds l (fun ρ' w'=>Q .normal ρ' ds w') ρ w.drew) : vc P ro n (.draw id ops l) Q ρ ds w :=
  draw_d _ hm hB hl hS (Mod.refl _ _).drew (vcD_of_vcE _ _ _ h)
section
variable {w0 : World} {K : Env→World→Prop} {ρ : Env} {ds : List Deferred} {w : World} {d : Option Nat} {i : Ins} {l : List In} {k : Value→World→Prop}
theorem vcE_nil : vcE P w0 ds [] K ρ w = K ρ w:=nr rfl
theorem vcE_cons : vcE P w0 ds (⟨none,d,i⟩ :: l) K ρ w = stepE P w0 ρ ds w i (fun v w'=>vcE P w0 ds l K (updO ρ d v) w') (kindI i):=nr rfl
theorem vcE_gate {s : Nat} {want : Bool} : vcE P w0 ds (⟨some (s,want),d,i⟩ :: l) K ρ w = gateE P w0 ρ ds w i (fun v w'=>vcE P w0 ds l K (updO ρ d v) w') (gate (ρ s) want):=nr rfl
theorem gateE_true : gateE P w0 ρ ds w i k true = stepE P w0 ρ ds w i k (kindI i):=nr rfl
theorem gateE_false : gateE P w0 ρ ds w i k false = k undef w:=nr rfl
theorem stepE_pure : stepE P w0 ρ ds w i k .pure = insVc P (fun v _=>k v w) ρ [] default i:=nr rfl
theorem stepE_load : stepE P w0 ρ ds w i k .load = insVc P (fun v _=>k v w) ρ [] w0 i:=nr rfl
theorem stepE_step : stepE P w0 ρ ds w i k .step = insVc P (fun v w'=>Mod (fun _=>False) w0 w'∧k v w') ρ ds w i:=nr rfl
end
end Go.Vc
