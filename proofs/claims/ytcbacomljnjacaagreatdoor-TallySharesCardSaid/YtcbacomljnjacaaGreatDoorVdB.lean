import Derived.Test.YtcbacomljnjacaaGreatDoorVlK
import Derived.Test.YtcbacomljnjacaaGreatDoorVcP
import Derived.Test.YtcbacomljnjacaaGreatDoorVoF
import Derived.Test.YtcbacomljnjacaaGreatDoorVcL
import Derived.Laws.StructEq
import Derived.Lib.OthersKept
set_option linter.unusedSimpArgs false
set_option linter.unusedVariables false
set_option linter.unusedSectionVars false
set_option linter.unnecessarySimpa false
namespace Go.Oct
open Go Go.Vc Go.VrA Go.VrH
set_option maxRecDepth 100000
def lesV (l : List Le) : List (List Value):=l.map fun e=>[keyV e.q e.id,.int .u64 e.till]
theorem lall1_c (c1 : Nat) (v : Value) (l : List Le) (hl : l.length < 2 ^ 40) :
    IterP Proofs.Tryz.prog 211 [ptr c1] (lesV l) (fun u=>u.heap[c1]? = some (.cells #[.func (.func 92) #[] #[],v] 139 (0,0))∧IsLes u v l):=by
  intro y _ J Jx w hJ hF hS hSx hy
  refine F211.enter (args:=[y,ptr c1]) (by simp) ?_
  unfold c211 r211
  obtain ⟨e1,⟨⟨a,cp,rfl⟩,_⟩⟩:=hF 0 _ _ hJ
  simp only [ZB,insVc,load1K,faddrK,lenLK,Zaf,Za,Zag,Zah,e1]
  have hlen : (lesV l).length = l.length:=by simp [lesV]
  refine vc_loop (fun mm ρ ds u => ∃ (i : Nat) (X : Nat→Prop),mm = l.length - i∧i≤l.length∧ρ 0 = y∧ρ 6 = .slice a l.length cp∧ρ 7 = .int .i64 l.length∧ρ 8 = .int .i64 (i : Nat)∧ds = []∧J i X u∧(∀ k,X k→w.heap.size≤k∧k < u.heap.size)∧w.heap.size≤u.heap.size) (l.length - 0) ?_ ?_
  · refine ⟨0,fun _=>False,rfl,Nat.zero_le _, ?_⟩
    simp only [ZB,ne_eq,Nat.reduceEqDiff,reduceCtorEq,Zaf,Za]
    exact ⟨rfl,hJ,fun k hk=>hk.elim,Nat.le_refl _⟩
  · rintro mm ρ ds u ⟨i,X,rfl,hi,g0,g6,g7,g8,rfl,hJu,hX,hsu⟩
    by_cases hil : i < l.length
    · have d1 : (i : Int) < ((l.length : Nat) : Int):=by omega
      obtain ⟨x,hx⟩ : ∃ x,l[i]? = some x:=⟨_,List.getElem?_eq_getElem hil⟩
      obtain ⟨_,_,hat⟩:=hF i X u hJu
      obtain ⟨b,o,c,cur,t,f,he,hb,hsz,hex⟩:=hat i x hx
      have ha' : a = some ⟨b,o,none⟩:=by simpa using congrArg (fun x=>match x with | .slice a _ _=>a | _=>none) he
      subst ha'
      rw [Nat.add_assoc] at hsz hex
      have hi0 : (0 : Int)≤(i : Int)∧(i : Int) < ((l.length : Nat) : Int):=by omega
      have hr : (lesV l)[i]? = some [keyV x.q x.id,.int .u64 x.till]:=by simp [lesV,hx]
      have hw1 : IntKind.i64.wrap ((i : Int) + 1) = ((i + 1 : Nat) : Int):=by rw [wrap_i64 _ (by omega)]; omega
      obtain ⟨u1,hu1⟩ : ∃ u1,u1 = set (u.alloc (.cells #[.string ⟨#[]⟩,.int .u64 0,.int .u64 0] 233)) u.heap.size (.cells #[.string x.q,.int .u64 x.id,.int .u64 x.till] 233):=⟨_,rfl⟩
      have hm1 : Mod (fun _=>False) u u1:=by rw [hu1]; exact ((Mod.refl _ _).alloc _).set (.inl (Nat.le_refl _))
      have hz1 : u1.heap.size = u.heap.size + 1:=by rw [hu1,size_set,size_alloc]
      have hJ1:=hS i X X u u1 hJu (hm1.mono fun _ _ x=>x.elim) (fun k hk=>.inl hk)
      have hyy:=hy i (by omega) X u1 hJ1 (fun k hk=>⟨(hX k hk).1,by have:=(hX k hk).2; omega⟩) (by omega)
      rw [hr] at hyy
      simp only [ZB,insVc,load1K,loadNK,storeNK,setMany,iopK,iopV,faddrK,iaddrK,callvK,isPlain,Value.cells,ne_eq,Nat.reduceEqDiff,Nat.reduceAdd,Nat.reduceLeDiff,reduceCtorEq,Zad,Zac,Za,Zag,Zah,Zai,Zaj,Zak,Zal,Zam,Zan,Zab,Zbj,Zaq,Zap,Zar,Zao,Zas,Zat,Zau,Zaw,Zax,Zbf,Zb,get_alloc,Zaz,Nat.reduceAdd,Nat.reduceEqDiff,g0,g6,g7,g8,d1,hi0,hb,hsz,hex,Le.cells]
      rw [← hu1]
      refine callvK_mono hyy ?_
      rintro b2 u2 ⟨⟨q1,q2⟩,⟨rfl,q3⟩ | ⟨rfl,q3⟩⟩
      · simp only [ZB,insVc,iopK,iopV,notK,ne_eq,Nat.reduceEqDiff,reduceCtorEq,g0,g6,g7,g8,hw1]
        refine ⟨l.length - (i + 1),by omega,i + 1,X,rfl,by omega,rfl,q3,fun k hk=>⟨(hX k hk).1,by have:=(hX k hk).2; omega⟩,by omega⟩
      · simp only [ZB,endK,resK,insVc,notK]
        exact ⟨by omega,X,fun k hk=>⟨(hX k hk).1,by have:=(hX k hk).2; omega⟩,.inr q3⟩
    · have d1 : ¬ (i : Int) < ((l.length : Nat) : Int):=by omega
      simp only [ZB,endK,resK,insVc,iopK,iopV,reduceCtorEq,g7,g8,d1]
      have : i = l.length:=by omega
      rw [hlen,← this]
      exact ⟨hsu,X,hX,.inl hJu⟩
theorem lall_c (l : List Le) (v : Value) (w : World) (K : Value→World→Prop) (hv : IsLes w v l) (hl : l.length < 2 ^ 40)
    (h : ∀ w' c1,Mod (fun _=>False) w w'→w.heap.size≤c1→w'.heap[c1]? = some (.cells #[.func (.func 92) #[] #[],v] 139 (0,0)) →
      IterP Proofs.Tryz.prog 211 [ptr c1] (lesV l) (fun u=>u.heap[c1]? = some (.cells #[.func (.func 92) #[] #[],v] 139 (0,0))∧IsLes u v l)→K (.func (.func 211) #[] #[ptr c1]) w') :
    Ok Proofs.Tryz.prog 151 #[tabV v] w K:=by
  obtain ⟨⟨a,cp,rfl⟩,_⟩:=id hv
  refine F151.enter (args:=[tabV (.slice a l.length cp)]) (by simp) ?_
  unfold c151 r151
  simp only [ZB,endK,resK,packed,insVc,Value.cells,ne_eq,Nat.reduceEqDiff,Zaf,Zad,Zac,Za,Zaa,tabV]
  exact h _ w.heap.size ((Mod.refl _ _).alloc _) (Nat.le_refl _) (get_alloc_new _ _) (lall1_c _ _ l hl)
def flatK (l : List (ByteArray × Nat)) : List Value:=l.flatMap fun k=>[.string k.1,.int .u64 k.2]
def OwnK (w : World) (B : Nat) (v : Value) (l : List (ByteArray × Nat)) : Prop:=w.ownsRow B 164 2 v l.length (flatK l)
theorem OwnK.keep {w w' : World} {S : Nat→Prop} {B : Nat} {v : Value} {l : List (ByteArray × Nat)} (h : OwnK w B v l) (hm : Mod S w w') (hS : ∀ k,v.ownBlock = some k→¬ S k) : OwnK w' B v l:=by
  obtain ⟨h1,h2⟩:=h
  refine ⟨h1,h2.imp id ?_⟩
  rintro ⟨g,cap,cur,rfl,hB,hg,r⟩
  exact ⟨g,cap,cur,rfl,hB,hm.keep hg (hS g rfl),r⟩
theorem OwnK.form {w : World} {B : Nat} {v : Value} {l : List (ByteArray × Nat)} (h : OwnK w B v l) : ∃ a c,v = .slice a l.length c:=by
  rcases h.2 with ⟨rfl,h0⟩ | ⟨g,cap,cur,rfl,_⟩
  · exact ⟨none,0,by rw [h0]⟩
  · exact ⟨_,_,rfl⟩
theorem info_key : (Proofs.Tryz.prog.info? 164).map (fun i=>(i.zero,i.size,i.bytes)) = some (some (.agg #[.string ⟨#[]⟩,.int .u64 0]),2,24):=by kernel_rfl
theorem append_key (B : Nat) (v : Value) (l : List (ByteArray × Nat)) (q : ByteArray) (i : Nat) (w : World) (hown : OwnK w B v l) (hB : B≤w.heap.size) (hl : l.length < 2 ^ 40) (ty : TypeId) :
    ∃ v' w',(Builtin.append_ #[165,165] ty #[v,.slice (some ⟨w.heap.size,0,none⟩) 1 1]).run Proofs.Tryz.prog (w.alloc (.cells #[.string q,.int .u64 i] 164)) = .ok v' w' ∧
      OwnK w' B v' (l ++ [(q,i)])∧Mod (fun k=>v.ownBlock = some k) w w'∧(∀ k,v'.ownBlock = some k→v.ownBlock = some k∨w.heap.size≤k):=by
  obtain ⟨ti,hi,hi1,hi2⟩:=info_of info_key
  have hm1 : Mod (fun _=>False) w (w.alloc (.cells #[.string q,.int .u64 i] 164)):=(Mod.refl _ _).alloc _
  have hsrc : Src Proofs.Tryz.prog 2 165 (.slice (some ⟨w.heap.size,0,none⟩) 1 1) 1 [.string q,.int .u64 i] (w.alloc (.cells #[.string q,.int .u64 i] 164)):=by
    refine Src.ofSlice _ (e':=164) (by kernel_rfl) ⟨w.heap.size,0,none⟩ 1 1 _ (by simp) ?_ ?_
    · intro j u hj
      have hgn:=get_alloc_new w (.cells #[.string q,.int .u64 i] 164)
      simp only [World.cell?,Addr.add_lit,Nat.zero_add,hgn]
      simpa using hj
    · intro u hu
      simp only [Zbo,Zbp,or_false] at hu
      rcases hu with rfl | rfl <;> rfl
  obtain ⟨v',w',hr,ho,hm,hb⟩:=run_append_mine (P:=Proofs.Tryz.prog) B 165 165 ty 164 ti _ 2 (by kernel_rfl) hi hi1 hi2.1 rfl (by decide) v l.length _ (hown.keep hm1 (fun _ _=>id)) _ 1 _ hsrc (by simp [maxLen]; omega) (by rw [hi2.2]; omega) (Nat.le_trans hB hm1.size)
  refine ⟨v',w',hr, ?_,(hm1.mono fun _ _ x=>x.elim).then hm (fun k _ hk=>hk), ?_⟩
  · unfold OwnK
    have e : flatK (l ++ [(q,i)]) = flatK l ++ [.string q,.int .u64 i]:=by simp [flatK]
    rw [e,List.length_append,List.length_singleton]
    exact ho
  · intro k hk
    rcases hb with hb | hb
    · exact .inl (hb ▸ hk)
    · rw [hb] at hk
      have : (w.alloc (.cells #[.string q,.int .u64 i] 164)).heap.size = k:=Option.some.inj hk
      rw [size_alloc] at this
      exact .inr (by omega)
def dueE (now : Nat) (l : List Le) : List (ByteArray × Nat):=(l.filter fun e=>decide (e.till≤now)).map fun e=>(e.q,e.id)
theorem dueE_len (now : Nat) (l : List Le) : (dueE now l).length≤l.length:=by unfold dueE; rw [List.length_map]; exact List.length_filter_le _ _
theorem dueE_snoc (now : Nat) (l : List Le) (e : Le) : dueE now (l ++ [e]) = dueE now l ++ (if e.till≤now then [(e.q,e.id)] else []):=by
  unfold dueE
  rw [List.filter_append,List.map_append]
  by_cases h : e.till≤now <;> simp [h]
theorem ldue_c (l : List Le) (v : Value) (now : Nat) (w : World) (K : Value→World→Prop) (hv : OwnE w 0 v l) (hl : l.length < 2 ^ 40)
    (h : ∀ w' o' v',Mod (fun _=>False) w w'→OwnK w' w.heap.size o' (dueE now l)→OwnE w' 0 v' (l.drop (dueE now l).length)→K (.tuple #[o',tabV v']) w') :
    Ok Proofs.Tryz.prog 88 #[tabV v,.int .u64 now] w K:=by
  obtain ⟨⟨a,cp,rfl⟩,_⟩:=hv.is
  refine F88.enter (args:=[tabV (.slice a l.length cp),.int .u64 now]) (by simp) ?_
  unfold c88 r88
  simp only [ZB,insVc,loadNK,Value.cells,ne_eq,Nat.reduceEqDiff,Nat.reduceAdd,Nat.reduceLeDiff,reduceCtorEq,Zaf,Zad,Zac,Za,Zag,Zai,Zaj,Zak,Zab,Zae,Zaq,Zap,Zar,Zao,Zas,Zat,get_alloc,Zaz,Nat.reduceAdd,Zbi,Nat.reduceEqDiff,Zay,tabV]
  refine callK_gen ?_
  intro w1 hw1
  have hm1 : Mod (fun _=>False) w w1:=by rw [hw1]; exact ((((Mod.refl _ _).alloc _).alloc _).alloc _).alloc _
  have t1 : w1.heap[w.heap.size]? = some (.cells #[.func (.func 92) #[] #[],.slice a l.length cp] 139 (0,0)):=by rw [hw1]; simp only [Nat.reduceAdd,reduceCtorEq,Zab,Zae,size_alloc,get_alloc,size_alloc,Zaz,Nat.reduceAdd,Zbi,Zay]
  have n1 : w1.heap[w.heap.size + 1]? = some (.cells #[.int .u64 now] 27 (0,0)):=by rw [hw1]; simp only [Nat.reduceEqDiff,Nat.reduceAdd,Zab,Zae,size_alloc,get_alloc,size_alloc,Zaz,Nat.reduceAdd,Zbg,Zba,Nat.reduceEqDiff,Zay]
  have r1 : w1.heap[w.heap.size + 2]? = some (.cells #[.nilFunc,.slice none 0 0] 139 (0,0)):=by rw [hw1]; simp only [Nat.reduceEqDiff,Nat.reduceAdd,reduceCtorEq,Zab,Zae,size_alloc,get_alloc,size_alloc,Zaz,Nat.reduceAdd,Zbg,Zba,Nat.reduceEqDiff]
  have o1 : w1.heap[w.heap.size + 3]? = some (.cells #[.slice none 0 0] 165 (0,0)):=by rw [hw1]; simp only [Nat.reduceEqDiff,Nat.reduceAdd,reduceCtorEq,Zab,Zae,size_alloc,get_alloc,size_alloc,Zaz,Nat.reduceAdd,Zbg,Zba,Nat.reduceEqDiff]
  have hz1 : w1.heap.size = w.heap.size + 4:=by rw [hw1]; simp only [Nat.reduceAdd,size_alloc,size_alloc,Zaz,Nat.reduceAdd]
  clear hw1
  refine lall_c l _ w1 _ (hv.keep0 hm1).is hl ?_
  intro w2 c1 hm2 hc1b k2 it
  have hm12:=hm1.trans hm2
  have hz2:=hm2.size
  have hc1:=lt_of_get k2
  simp only [ZB]
  refine range_iter (by kernel_rfl) (by kernel_rfl) (by kernel_rfl) (gf:=211) (cap:=[ptr c1]) (by simp only [ZB]) it
    (fun i X u=>u.heap[c1]? = some (.cells #[.func (.func 92) #[] #[],.slice a l.length cp] 139 (0,0))∧OwnE u 0 (.slice a l.length cp) l∧Mod (fun _=>False) w u ∧
      u.heap[w.heap.size]? = some (.cells #[.func (.func 92) #[] #[],.slice a l.length cp] 139 (0,0))∧u.heap[w.heap.size + 1]? = some (.cells #[.int .u64 now] 27 (0,0))∧u.heap[w.heap.size + 2]? = some (.cells #[.nilFunc,.slice none 0 0] 139 (0,0)) ∧
      ∃ o,u.heap[w.heap.size + 3]? = some (.cells #[o] 165 (0,0))∧OwnK u w2.heap.size o (dueE now (l.take i))∧(∀ k,o.ownBlock = some k→¬ X k))
    (fun c X u=>False) ?_ ?_ ?_ ?_ ?_ ?_ ?_ ?_
  · intro X w' hm hsz hX
    have hmw:=hm12.trans hm
    exact ⟨hm.keep k2 id,hv.keep0 hmw,hmw,(hm2.trans hm).keep t1 id,(hm2.trans hm).keep n1 id,(hm2.trans hm).keep r1 id,_,(hm2.trans hm).keep o1 id,World.ownsRow_nil _ _ _ 2,fun k hk=>by cases hk⟩
  · rintro i X u ⟨h1,h2,_⟩
    exact ⟨h1,h2.is⟩
  · rintro i X X' x y ⟨h1,h2,h3,h4,h5,h6,o,h7,h8,h9⟩ hX ha hm hx
    have hno : ∀ k,k < w2.heap.size→¬ X k:=fun k hk hh=>by have:=hX k hh; omega
    have hob : ∀ k,(Value.slice a l.length cp).ownBlock = some k→k < w.heap.size:=fun k hk=>(World.ownsRow.lt hv k hk).2
    refine ⟨hm.keep h1 (hno _ (by omega)),h2.keep hm (fun k hk=>hno k (by have:=hob k hk; omega)),h3.then hm (fun i hi hk=>hno i (by omega) hk),hm.keep h4 (hno _ (by omega)),hm.keep h5 (hno _ (by omega)),hm.keep h6 (hno _ (by omega)),o,hm.keep h7 (hno _ (by omega)),h8.keep hm h9, ?_⟩
    intro k hk hx'
    rcases hx k hx' with hx' | hx'
    · exact h9 k hk hx'
    · have:=(World.ownsRow.lt h8 k hk).2
      omega
  · rintro c X X' x y hf
    exact hf.elim
  · intro i hi
    rw [List.getElem?_eq_getElem hi]
    simp [lesV]
  · intro i hi X x ⟨h1,h2,h3,h4,h5,h6,o,h7,h8,h9⟩ hX hx2
    have hil : i < l.length:=by simpa [lesV] using hi
    obtain ⟨e,he⟩ : ∃ e,l[i]? = some e:=⟨_,List.getElem?_eq_getElem hil⟩
    have hrow : ((lesV l)[i]?.getD []) = [keyV e.q e.id,.int .u64 e.till]:=by simp [lesV,he]
    have htk : l.take (i + 1) = l.take i ++ [e]:=by rw [List.take_add_one,he]; rfl
    rw [hrow]
    simp only [ZB,insVc,load1K,storeNK,setMany,isPlain,Value.cells,ne_eq,Nat.reduceEqDiff,Nat.reduceAdd,Nat.reduceLeDiff,Zai,Zaj,Zak,Zal,Zam,Zan,Zab,Zau,Zaw,Zax,get_alloc,Nat.reduceAdd,Nat.reduceEqDiff,updMany,keyV]
    refine ⟨((Mod.refl _ _).alloc _).set (.inl (Nat.le_refl _)), ?_⟩
    rintro c hmc ⟨k1,k2',k3,k4,k5,k6,o',k7,k8,k9⟩
    have hxa : ¬ X x.heap.size:=fun hh=>by have:=(hX _ hh).2; omega
    have pC:=hmc.keep (get_set_same _ _ (.cells #[.string e.q,.int .u64 e.id] 164 (0,0)) (by rw [size_alloc]; omega)) hxa
    have hge : ∀ k,X k→w2.heap.size≤k∧k < c.heap.size:=fun k hk=>by have:=hX k hk; have:=hmc.size; simp only [size_set,size_alloc] at this; omega
    rw [htk]
    rw [dueE_snoc]
    by_cases hd : e.till≤now
    · have d1 : (e.till : Int)≤(now : Int):=by omega
      rw [if_pos hd]
      have hcz : w2.heap.size≤c.heap.size:=by have:=hmc.size; simp only [size_set,size_alloc] at this; omega
      have hdl:=dueE_len now (l.take i)
      have htl : (l.take i).length≤l.length:=by rw [List.length_take]; omega
      obtain ⟨v5,w5,hr5,ho5,hm5,hb5⟩:=append_key w2.heap.size o' (dueE now (l.take i)) e.q e.id c k8 hcz (by omega) 165
      have hob : ∀ k,o'.ownBlock = some k→w2.heap.size≤k∧k < c.heap.size:=fun k hk=>World.ownsRow.lt k8 k hk
      obtain ⟨a5,c5,rfl⟩:=ho5.form
      simp only [ZB,insVc,load1K,loadNK,iopK,iopV,fillL,buildSK,Value.cells,ne_eq,Nat.reduceEqDiff,Nat.reduceAdd,Nat.reduceLeDiff,reduceCtorEq,Za,Zah,Zai,Zaj,Zak,Zbd,Zbe,Zbc,Zbb,Zal,Zam,Zan,Zbh,Zab,Zaq,Zap,Zar,Zao,Zas,Zat,d1,k5,k7,pC]
      refine rawK_append rfl rfl rfl (by simp only [ZB,ne_eq,Nat.reduceEqDiff]; exact hr5) ?_
      have k1':=hm5.keep k1 (fun z=>by have:=hob _ z; omega)
      have k4':=hm5.keep k4 (fun z=>by have:=hob _ z; omega)
      have k5':=hm5.keep k5 (fun z=>by have:=hob _ z; omega)
      have k6':=hm5.keep k6 (fun z=>by have:=hob _ z; omega)
      have k7':=hm5.keep k7 (fun z=>by have:=hob _ z; omega)
      have l7':=lt_of_get k7'
      have hms:=hm5.size
      have hvb : ∀ k,(Value.slice a l.length cp).ownBlock = some k→k < w.heap.size:=fun k hk=>(World.ownsRow.lt hv k hk).2
      have hm6 : Mod (fun k=>k = w.heap.size + 3) w5 (Vc.set w5 (w.heap.size + 3) (.cells #[.slice a5 (dueE now (l.take i) ++ [(e.q,e.id)]).length c5] 165 (0,0))):=(Mod.refl _ _).set (.inr rfl)
      have hm56 : Mod (fun k=>o'.ownBlock = some k∨k = w.heap.size + 3) c (Vc.set w5 (w.heap.size + 3) (.cells #[.slice a5 (dueE now (l.take i) ++ [(e.q,e.id)]).length c5] 165 (0,0))):=(hm5.mono fun _ _ x=>.inl x).then hm6 (fun k _ hk=>.inr hk)
      simp only [ZB,insVc,storeK,isPlain,ne_eq,Nat.reduceEqDiff,Nat.reduceLT,Nat.reduceLeDiff,reduceCtorEq,Zai,Zaj,Zak,Zal,Zam,Zb,k7']
      refine ⟨⟨hms, ?_⟩,.inl ⟨hm6.keep k1' (by omega), ?_,h3.then ((((Mod.refl (fun k=>X k∨o'.ownBlock = some k∨k = w.heap.size + 3) x).alloc _).set (.inl (Nat.le_refl _))).trans ((hmc.mono fun _ _ z=>.inl z).trans (hm56.mono fun _ _ z=>.inr z))) ?_,hm6.keep k4' (by omega),hm6.keep k5' (by omega),hm6.keep k6' (by omega),_,get_set_same _ _ _ l7',ho5.keep hm6 ?_, ?_⟩⟩
      · intro k hk
        exact hm56.get k (hge k hk).2 (by rintro (z | z); exact k9 k z hk; have:=hge k hk; omega)
      · exact k2'.keep hm56 (fun k hk=>by have:=hvb k hk; rintro (z | z); have:=hob k z; omega; omega)
      · rintro k hk (z | z | z)
        · have:=hge k z; omega
        · have:=hob k z; omega
        · omega
      · intro k hk hh
        rcases hb5 k hk with z | z
        · have:=hob k z; omega
        · omega
      · intro k hk hh
        rcases hb5 k hk with z | z
        · exact k9 k z hh
        · have:=hge k hh; omega
    · have d1 : ¬ (e.till : Int)≤(now : Int):=by omega
      rw [if_neg hd,List.append_nil]
      simp only [ZB,insVc,iopK,iopV,ne_eq,Nat.reduceEqDiff,reduceCtorEq,Za,Zah,d1,k5]
      refine ⟨⟨Nat.le_refl _,fun _ _=>trivial⟩,.inl ⟨k1,k2',k3,k4,k6,o',k7,k8,k9⟩⟩
  · rintro X u ⟨h1,h2,h3,h4,h5,h6,o,h7,h8,h9⟩ ⟨hend,hsz,hXr⟩
    rw [show (lesV l).length = l.length by simp [lesV],List.take_length] at h8
    obtain ⟨ao,co,rfl⟩:=h8.form
    have hdl:=dueE_len now l
    obtain ⟨a',n',c',e',rfl,hkc,hnc,hsub⟩:=h2.tail (dueE now l).length hdl
    simp only [Value.slice.injEq] at e'
    obtain ⟨rfl,-,rfl⟩:=e'
    have b1 : (0 : Int)≤((dueE now l).length : Int)∧((dueE now l).length : Int)≤(l.length : Int)∧(l.length : Int)≤(cp : Int):=by omega
    simp only [ZB,insVc,load1K,faddrK,lenLK,boundOf,slLK,ne_eq,Nat.reduceEqDiff,Zbn,Zbu,Zad,Zac,Za,Zag,Zah,Zbj,h4,h7,b1]
    refine lclone_c _ (l.drop (dueE now l).length) u _ hsub (by rw [List.length_drop]; omega) ?_
    intro w5 v5 hm5 hv5
    have hz5:=hm5.size
    have q4:=hm5.keep h4 id
    have q6:=hm5.keep h6 id
    have q7:=hm5.keep h7 id
    have qe:=hm5.keep hend id
    have lu:=lt_of_get hend
    have hd8 : ∀ k,(Value.slice ao (dueE now l).length co).ownBlock = some k→w2.heap.size≤k∧k < u.heap.size:=fun k hk=>World.ownsRow.lt h8 k hk
    have hd8m : ∀ k,(Value.slice ao (dueE now l).length co).ownBlock = some k→k≠w2.heap.size:=by
      intro k hk hh
      subst hh
      rcases h8.2 with ⟨hx,_⟩ | ⟨g,cap,cur,hx,_,hg,_⟩
      · rw [hx] at hk; cases hk
      · rw [hx] at hk
        have hgk : g = w2.heap.size:=Option.some.inj hk
        rw [hgk,hend] at hg
        cases hg
    have hv5b : ∀ k,v5.ownBlock = some k→u.heap.size≤k:=fun k hk=>(World.ownsRow.lt hv5 k hk).1
    obtain ⟨a5,c5,rfl,_⟩:=hv5.form
    obtain ⟨w6,hw6⟩ : ∃ w6,w6 = set w5 w.heap.size (.cells #[.func (.func 92) #[] #[],.slice a5 (l.drop (dueE now l).length).length c5] 139):=⟨_,rfl⟩
    have hm6 : Mod (fun k=>k = w.heap.size) w5 w6:=by rw [hw6]; exact (Mod.refl _ _).set (.inr rfl)
    have p4 : w6.heap[w.heap.size]? = some (.cells #[.func (.func 92) #[] #[],.slice a5 (l.drop (dueE now l).length).length c5] 139 (0,0)):=by rw [hw6]; exact get_set_same _ _ _ (lt_of_get q4)
    have p6:=hm6.keep q6 (by omega)
    have p7:=hm6.keep q7 (by omega)
    have pe:=hm6.keep qe (by omega)
    simp only [ZB,insVc,storeK,faddrK,isPlain,ne_eq,Nat.reduceEqDiff,Nat.reduceAdd,Nat.reduceLT,Nat.reduceLeDiff,Zai,Zaj,Zak,Zal,Zam,Zan,Zb,q4]
    rw [← hw6]
    clear hw6
    refine draw_d (fun u=>u.heap[w.heap.size]? = some (.cells #[.func (.func 92) #[] #[],.slice a5 (l.drop (dueE now l).length).length c5] 139 (0,0))∧u.heap[w.heap.size + 3]? = some (.cells #[.slice ao (dueE now l).length co] 165 (0,0))) (by kernel_rfl) (by kernel_rfl) (by kernel_rfl) (by kernel_rfl) ⟨p4,p7⟩ ?_
    simp only [ZB,endK,resK,resN,packed,insVc,storeNK,ne_eq,Nat.reduceEqDiff,Zaa,Zav,Zab,Zae,pureI,vcD_nil,vcD_cons,stepD_pure,stepD_load,stepD_step,kindI,loadI]
    refine loadD1 (b:=w.heap.size + 3) (o:=0) (v:=.slice ao (dueE now l).length co) (by simp only [ZB,ne_eq,Nat.reduceEqDiff]) (fun W hW=>⟨_,_,_,hW.2,rfl⟩) ?_
    refine loadDN (b:=w.heap.size) (o:=0) (v:=.agg #[.func (.func 92) #[] #[],.slice a5 (l.drop (dueE now l).length).length c5]) (by simp only [ZB,ne_eq,Nat.reduceEqDiff]) (fun W hW=>⟨_,_,_,hW.1,by simp,rfl⟩) ?_
    have p6d : w6.drew.heap[w.heap.size + 2]? = some (.cells #[.nilFunc,.slice none 0 0] 139 (0,0)):=p6
    have hm7 : Mod (fun k=>k = w.heap.size + 2) w6 (Vc.set w6.drew (w.heap.size + 2) (.cells #[.func (.func 92) #[] #[],.slice a5 (l.drop (dueE now l).length).length c5] 139)):=((Mod.refl _ w6).drew).set (.inr rfl)
    simp only [storeNO_cells,setMany,isPlain,Nat.reduceAdd,Nat.reduceLeDiff,Zai,Zaj,Zak,Zal,Zam,Zan,true_and,and_self,Nat.zero_add,Bool.and_true,Zau,Zaw,Zax,p6]
    refine ⟨⟨hm7.keep p4 (by omega),hm7.keep p7 (by omega)⟩, ?_⟩
    have s6:=get_set_same w6.drew (w.heap.size + 2) (.cells #[.func (.func 92) #[] #[],.slice a5 (l.drop (dueE now l).length).length c5] 139) (lt_of_get p6d)
    have se:=hm7.keep pe (by omega)
    have hm8 : Mod (fun k=>k = w2.heap.size) (Vc.set w6.drew (w.heap.size + 2) (.cells #[.func (.func 92) #[] #[],.slice a5 (l.drop (dueE now l).length).length c5] 139)) (Vc.set (Vc.set w6.drew (w.heap.size + 2) (.cells #[.func (.func 92) #[] #[],.slice a5 (l.drop (dueE now l).length).length c5] 139)) w2.heap.size (.deferred none)):=(Mod.refl _ _).set (.inr rfl)
    have s8:=hm8.keep s6 (by omega)
    simp only [resNO_cells,Nat.reduceAdd,Nat.reduceLeDiff,Zai,Zaj,Zak,true_and,Nat.zero_add,Zaq,Zap,Zar,Zao,Zas,Zat,markO,se,s8]
    refine h _ _ _ (((h3.trans hm5).then hm6 (fun i hi hk=>by omega)).then hm7 (fun i hi hk=>by omega) |>.then hm8 (fun i hi hk=>by omega)) ?_ ?_
    · refine OwnK.keep (OwnK.keep (OwnK.keep (OwnK.keep ?_ hm5 (fun _ _=>id)) hm6 (fun k hk hh=>by have:=hd8 k hk; omega)) hm7 (fun k hk hh=>by have:=hd8 k hk; omega)) hm8 (fun k hk hh=>hd8m k hk hh)
      exact ⟨h8.1,h8.2.imp id fun ⟨g,cap,cur,x1,x2,r⟩=>⟨g,cap,cur,x1,by omega,r⟩⟩
    · exact OwnE.keep (OwnE.keep (OwnE.keep (hv5.mono (Nat.zero_le _)) hm6 (fun k hk hh=>by have:=hv5b k hk; omega)) hm7 (fun k hk hh=>by have:=hv5b k hk; omega)) hm8 (fun k hk hh=>by have:=hv5b k hk; omega)
  · rintro c X w' hf
    exact hf.elim
end Go.Oct
namespace Go.Oct
open Go Go.Vc Go.VrA Go.VrH
set_option maxRecDepth 100000
theorem lkeys_c (w : World) (K : Value→World→Prop) (h : ∀ w',Mod (fun _=>False) w w'→K (tabV (.slice none 0 0)) w') : Ok Proofs.Tryz.prog 73 #[] w K:=by
  refine F73.enter (args:=[]) (by simp) ?_
  unfold c73 r73
  simp only [ZB,insVc,Value.cells,Zad,Zac]
  refine F91.enter (args:=[.func (.func 92) #[] #[]]) (by simp) ?_
  unfold c91 r91
  simp only [ZB,endK,resK,resN,packed,insVc,storeNK,setMany,buildK,fillL,isPlain,Value.cells,ne_eq,Nat.reduceEqDiff,Nat.reduceAdd,Nat.reduceLT,Nat.reduceLeDiff,reduceCtorEq,Zaf,Za,Zai,Zaj,Zak,Zbd,Zbe,Zbc,Zbb,Zal,Zam,Zan,Zaa,Zbh,Zab,Zae,Zaq,Zap,Zar,Zao,Zas,Zat,Zau,Zaw,Zax,Zbf,Zb,get_alloc,get_set,Zaz,Nat.reduceAdd,Zba,Zbi,Nat.reduceEqDiff,Zcb,Nat.reduceLT,Zay]
  exact h _ ((((Mod.refl _ _).alloc _).alloc _).set (.inl (by simp)) |>.set (.inl (by simp)))
def xL : Le:=⟨⟨#[120]⟩,0,5⟩
theorem lend_x : lendE ⟨#[120]⟩ 0 5 [] = [xL]:=by rfl
theorem free_x : freeE ⟨#[120]⟩ 0 [] = []:=by rfl
theorem due_x4 : dueE 4 [xL] = []:=by rfl
theorem due_x5 : dueE 5 [xL] = [(⟨#[120]⟩,0)]:=by rfl
theorem awake70_c (w : World) (K : Value→World→Prop) (h : ∀ w',Mod (fun _=>False) w w'→K (.bool true) w') : Ok Proofs.Tryz.prog 70 #[] w K:=by
  refine F70.enter (args:=[]) (by simp) ?_
  unfold c70 r70
  simp only [ZB,insVc,Zac]
  refine lkeys_c w _ ?_
  intro w1 hm1
  simp only [ZB,insVc,buildK,fillL,Value.cells,ne_eq,Nat.reduceEqDiff,Nat.reduceAdd,Nat.reduceLeDiff,Zad,Zac,Zai,Zaj,Zak,Zbd,Zbe,Zbc,Zbb,Zal,Zam,Zbh,Zab]
  refine llend_c [] (.slice none 0 0) ⟨#[120]⟩ 0 5 w1 _ (OwnE.nil _ _) (by decide) (by rw [free_x]; rfl) ?_
  intro w2 v2 hm2 hv2
  rw [lend_x] at hv2
  have hm12:=hm1.trans hm2
  obtain ⟨a2,c2,rfl,_⟩:=hv2.form
  obtain ⟨w3,hw3⟩ : ∃ w3,w3 = Vc.set (w2.alloc (.cells #[.nilFunc,.slice none 0 0] 139)) w2.heap.size (.cells #[.func (.func 92) #[] #[],.slice a2 1 c2] 139):=⟨_,rfl⟩
  have hm3 : Mod (fun _=>False) w2 w3:=by rw [hw3]; exact ((Mod.refl _ _).alloc _).set (.inl (Nat.le_refl _))
  have t3 : w3.heap[w2.heap.size]? = some (.cells #[.func (.func 92) #[] #[],.slice a2 1 c2] 139 (0,0)):=by rw [hw3]; exact get_set_same _ _ _ (by rw [size_alloc]; omega)
  have hm13:=hm12.trans hm3
  have hv3 : OwnE w3 0 (.slice a2 1 c2) [xL]:=hv2.keep0 hm3
  simp only [ZB,insVc,loadNK,storeNK,setMany,isPlain,Value.cells,ne_eq,Nat.reduceEqDiff,Nat.reduceAdd,Nat.reduceLeDiff,Zad,Zac,Zai,Zaj,Zak,Zal,Zam,Zan,Zab,Zaq,Zap,Zar,Zao,Zas,Zat,Zau,Zaw,Zax,Zbf,Zb,get_alloc,Nat.reduceAdd,Nat.reduceEqDiff,tabV]
  rw [← hw3]
  clear hw3
  refine ldue_c [xL] (.slice a2 1 c2) 4 w3 _ hv3 (by decide) ?_
  intro w4 o4 v4 hm4 ho4 hv4
  rw [due_x4] at ho4 hv4
  have hm14:=hm13.trans hm4
  have t4:=hm4.keep t3 id
  obtain ⟨ao4,co4,rfl⟩:=ho4.form
  have hv4' : OwnE w4 0 v4 [xL]:=hv4
  obtain ⟨a4,c4,e4,_⟩:=hv4'.form
  have e4' : v4 = .slice a4 1 c4:=e4
  subst e4'
  obtain ⟨w5,hw5⟩ : ∃ w5,w5 = Vc.set (w4.alloc (.cells #[.nilFunc,.slice none 0 0] 139)) w4.heap.size (.cells #[.func (.func 92) #[] #[],.slice a4 1 c4] 139):=⟨_,rfl⟩
  have hm5 : Mod (fun _=>False) w4 w5:=by rw [hw5]; exact ((Mod.refl _ _).alloc _).set (.inl (Nat.le_refl _))
  have t5:=hm5.keep t4 id
  have hm15:=hm14.trans hm5
  have hv5 : OwnE w5 0 (.slice a2 1 c2) [xL]:=hv3.keep0 (hm4.trans hm5)
  have hne5 : w2.heap.size≠w4.heap.size:=by have:=lt_of_get t4; omega
  simp only [ZB,insVc,loadNK,storeNK,setMany,extK,isPlain,Value.cells,ne_eq,Nat.reduceEqDiff,Nat.reduceAdd,Nat.reduceLeDiff,Zad,Zac,Za,Zag,Zah,Zai,Zaj,Zak,Zal,Zam,Zan,Zab,Zae,Zaq,Zap,Zar,Zao,Zas,Zat,Zau,Zaw,Zax,Zb,get_alloc,get_set,Nat.reduceAdd,Nat.reduceEqDiff,tabV,hne5,t4]
  rw [← hw5]
  clear hw5
  refine ldue_c [xL] (.slice a2 1 c2) 5 w5 _ hv5 (by decide) ?_
  intro w6 o6 v6 hm6 ho6 hv6
  rw [due_x5] at ho6 hv6
  have hm16:=hm15.trans hm6
  have t6:=hm6.keep t5 id
  obtain ⟨ao6,co6,rfl⟩:=ho6.form
  have hv6' : OwnE w6 0 v6 []:=hv6
  obtain ⟨a6,c6,e6,_⟩:=hv6'.form
  have e6' : v6 = .slice a6 0 c6:=e6
  subst e6'
  obtain ⟨w7,hw7⟩ : ∃ w7,w7 = Vc.set (w6.alloc (.cells #[.nilFunc,.slice none 0 0] 139)) w6.heap.size (.cells #[.func (.func 92) #[] #[],.slice a6 0 c6] 139):=⟨_,rfl⟩
  have hm7 : Mod (fun _=>False) w6 w7:=by rw [hw7]; exact ((Mod.refl _ _).alloc _).set (.inl (Nat.le_refl _))
  have t7:=hm7.keep t6 id
  have s7 : w7.heap[w6.heap.size]? = some (.cells #[.func (.func 92) #[] #[],.slice a6 0 c6] 139 (0,0)):=by rw [hw7]; exact get_set_same _ _ _ (by rw [size_alloc]; omega)
  have hm17:=hm16.trans hm7
  have hv7 : IsLes w7 (.slice a2 1 c2) [xL]:=(hv5.keep0 (hm6.trans hm7)).is
  have hu7 : IsLes w7 (.slice a6 0 c6) []:=(hv6'.keep0 hm7).is
  have z0 : (((0 : Nat) : Int) == 0) = true:=rfl
  have z1 : (((0 + 1 : Nat) : Int) == 1) = true:=rfl
  have z1' : (((1 : Nat) : Int) == 1) = true:=rfl
  simp only [ZB,insVc,pickK,loadNK,storeNK,setMany,iopK,iopV,extK,lenLK,isPlain,Value.cells,ne_eq,Nat.reduceEqDiff,Nat.reduceAdd,Nat.reduceLeDiff,reduceCtorEq,Zad,Zac,Za,Zag,Zah,Zai,Zaj,Zak,Zal,Zam,Zan,Zab,Zaq,Zap,Zar,Zao,Zas,Zat,Zau,Zaw,Zax,Zbf,Zb,get_alloc,Nat.reduceAdd,Nat.reduceEqDiff,tabV,z0,z1]
  rw [← hw7]
  clear hw7
  refine llen_c [] _ w7 _ hu7 ?_
  intro w8 hm8
  have t8:=hm8.keep t7 id
  simp only [ZB,insVc,pickK,loadNK,iopK,iopV,ne_eq,Nat.reduceEqDiff,Nat.reduceAdd,Nat.reduceLeDiff,reduceCtorEq,Zad,Zac,Zai,Zaj,Zak,Zab,Zaq,Zap,Zar,Zao,Zas,Zat,z0,t8]
  refine llen_c [xL] _ w8 _ (hv7.keep hm8) ?_
  intro w9 hm9
  simp only [ZB,endK,resK,packed,insVc,pickK,iopK,iopV,ne_eq,Nat.reduceEqDiff,reduceCtorEq,Zaj,Zak,Zaa,Zab,z1]
  exact h _ ((hm17.trans hm8).trans hm9)
theorem awake55_c (w : World) (K : Value→World→Prop) (h : ∀ w',Mod (fun _=>False) w w'→K (.bool true) w') : Ok Proofs.Tryz.prog 55 #[] w K:=by
  refine F55.enter (args:=[]) (by simp) ?_
  unfold c55 r55
  simp only [ZB,insVc,Zac]
  refine awake70_c w _ ?_
  intro w1 hm1
  simp only [ZB,endK,resK,packed,insVc,Zaa]
  exact h w1 hm1
end Go.Oct
namespace Go.Oct
open Go Go.Vc
structure Bi where
  ex : ByteArray
  kind : Int
  key : ByteArray
  q : ByteArray
def Bi.cells (b : Bi) : List Value:=[.string b.ex,.int .i64 b.kind,.string b.key,.string b.q]
def Bi.val (b : Bi) : Value:=.agg b.cells.toArray
def b0 : Bi:=⟨e0,0,e0,e0⟩
abbrev zb : Array Value:=#[.string ⟨#[]⟩,.int .i64 0,.string ⟨#[]⟩,.string ⟨#[]⟩]
def Bi.good (b : Bi) : Prop:=b.ex.size < 4294967281∧b.key.size < 4294967281∧b.q.size < 4294967281
end Go.Oct
namespace Go.Vc
open Go
variable {P : Program}
def EqR (P : Program) (d : Nat) (t : TypeId) (u v : Value) (b : Bool) : Prop:=∀ w,(Op.equalIn d t u v).run P w = .ok b w
theorem EqR.str {d : Nat} {t : TypeId} (h : P.underlying t = some .string) (a b : ByteArray) : EqR P (d + 1) t (.string a) (.string b) (a.toList == b.toList):=fun w=>run_equalIn_string w d t a b h
theorem EqR.int {d : Nat} {t : TypeId} {k : IntKind} (h : P.underlying t = some (.int k)) (a b : Int) : EqR P (d + 1) t (.int k a) (.int k b) (a == b):=fun w=>run_equalIn_int w d t k k a b h
theorem EqR.bool {d : Nat} {t : TypeId} (h : P.underlying t = some .bool) (a b : Bool) : EqR P (d + 1) t (.bool a) (.bool b) (a == b):=fun w=>run_equalIn_bool' w d t a b h
def PartAt (P : Program) (t : TypeId) (cs : Array Value) (o : Nat) (v : Value) : Prop:=∀ w,(part t cs o).run P w = .ok v w
theorem PartAt.one {t : TypeId} {cs : Array Value} {o : Nat} {v : Value} (ha : aggOf P t = some false) (hv : cs[o]? = some v) : PartAt P t cs o v:=by
  intro w
  unfold part
  rw [Sem.run_bind,run_isAgg ha w]
  simp only [Result.andThen,Bool.false_eq_true,Zae,hv]
  rfl
theorem PartAt.agg {t : TypeId} {cs : Array Value} {o s : Nat} (ha : aggOf P t = some true) (hs : csz P t = some s) (hle : o + s≤cs.size) : PartAt P t cs o (.agg (cs.extract o (o + s))):=by
  intro w
  unfold part
  rw [Sem.run_bind,run_isAgg ha w]
  simp [Result.andThen,Sem.run_bind,run_sizeOf hs,pure,Sem.run]
def EqL (P : Program) (d : Nat) (xs ys : Array Value) : List (TypeId × Nat)→Bool→Prop
  | [],b=>b = true
  | (t,o) :: L,b => ∃ u v e r,PartAt P t xs o u∧PartAt P t ys o v∧EqR P d t u v e∧EqL P d xs ys L r∧b = (e && r)
theorem eqFields_of {d : Nat} {xs ys : Array Value} : ∀ (fs : List Field) (L : List (TypeId × Nat)) (b : Bool),(fs.map fun f=>(f.type,f.offset)) = L→(fs.all fun f=>f.name != "_") = true→EqL P d xs ys L b →
    ∀ w,(Op.eqFields d xs ys fs).run P w = .ok b w:=by
  intro fs
  induction fs with
  | nil =>
    rintro L b rfl _ h w
    simp only [Zac,EqL] at h
    subst h
    rfl
  | cons f fs ih =>
    rintro L b rfl hn ⟨u,v,e,r,hu,hv,he,hr,rfl⟩ w
    simp only [Zaw,Zbl,bne_iff_ne] at hn
    unfold Op.eqFields
    rw [if_pos hn.1]
    simp only [Sem.run_bind,hu w,hv w,Result.andThen,he w]
    cases e with
    | true=>simpa using ih _ r rfl hn.2 hr w
    | false=>rfl
theorem EqR.struct {d : Nat} {t : TypeId} {xs ys : Array Value} {L : List (TypeId × Nat)} {b : Bool} (ht : P.underlying t = some (.struct (P.fieldsOf t))) (hp : P.stoodInHeld t = false)
    (hL : ((P.fieldsOf t).toList.map fun f=>(f.type,f.offset)) = L) (hn : ((P.fieldsOf t).toList.all fun f=>f.name != "_") = true) (h : EqL P d xs ys L b) : EqR P (d + 1) t (.agg xs) (.agg ys) b:=by
  intro w
  rw [run_equalIn_struct (ht:=ht) (hp:=hp)]
  exact eqFields_of _ L b hL hn h w
section
variable {go : Value→World→Prop} {ρ : Env} {ds : List Deferred} {n : Nat} {o : Oper} {w : World} {x y : Operand} {t : TypeId} {xs ys : Array Value} {b : Bool}
theorem rawK_neq_agg (ho : o.op = .binOp .neq t x y t) (hx : inB n x = true) (hy : inB n y = true) (ha : ev ρ x = .agg xs) (hb : ev ρ y = .agg ys) (hg : P.eqGuardType P.depth t = false) (he : EqR P 10000 t (.agg xs) (.agg ys) b) (h : go (.bool (!b)) w) : RawK P go ρ ds n o w:=by
  unfold RawK
  simp only [execOp,ho,mkA_eval n ρ ds x hx,mkA_eval n ρ ds y hy,ha,hb,Sem.run_bind,run_eqGuard_agg w .neq t x y _ _ hg,Result.andThen,run_neq_struct,he w]
  exact h
end
section
variable {go : Value→World→Prop} {ρ : Env} {ds : List Deferred} {n : Nat} {o : Oper} {w : World}
theorem rawK_range {x : Operand} {t : TypeId} {s : ByteArray} (ho : o.op = .range t x) (hx : inB n x = true) (ht : P.underlying t = some .string) (ex : ev ρ x = .string s)
    (h : go (.pointer (some ⟨w.heap.size,0,none⟩)) (w.alloc (.stringIter s 0))) : RawK P go ρ ds n o w:=by
  unfold RawK
  simp only [execOp,ho,Sem.run_bind,mkA_eval n ρ ds x hx,ex,run_range_string w t s ht,Result.andThen,pure,Sem.run]
  exact h
theorem rawK_next {x : Operand} {s : ByteArray} {k pos : Nat} {b : UInt8} (ho : o.op = .next x true) (hx : inB n x = true) (ex : ev ρ x = .pointer (some ⟨k,0,none⟩)) (hk : w.heap[k]? = some (.stringIter s pos)) (hb : s.data[pos]? = some b) (ha : b.toNat < 128)
    (h : go (.tuple #[.bool true,.int .i64 pos,.int .i32 b.toNat]) (set w k (.stringIter s (pos + 1)))) : RawK P go ρ ds n o w:=by
  obtain ⟨hlt,he⟩:=Array.getElem?_eq_some_iff.1 hb
  have hlt' : pos < s.size:=hlt
  have e : s[pos]'hlt' = b:=he
  have hr:=Lib.run_next_ascii_at (P:=P) w k s pos o.type hk hlt' (by rw [e]; exact ha)
  rw [e] at hr
  unfold RawK
  simp only [execOp,ho,Sem.run_bind,mkA_eval n ρ ds x hx,ex,hr,Result.andThen,pure,Sem.run]
  exact h
theorem rawK_nextEnd {x : Operand} {s : ByteArray} {k pos : Nat} (ho : o.op = .next x true) (hx : inB n x = true) (ex : ev ρ x = .pointer (some ⟨k,0,none⟩)) (hk : w.heap[k]? = some (.stringIter s pos)) (hb : s.size≤pos)
    (h : go (.tuple #[.bool false]) w) : RawK P go ρ ds n o w:=by
  have hr:=Lib.run_next_end_at (P:=P) w k s pos o.type hk (by omega)
  unfold RawK
  simp only [execOp,ho,Sem.run_bind,mkA_eval n ρ ds x hx,ex,hr,Result.andThen,pure,Sem.run]
  exact h
end
end Go.Vc
