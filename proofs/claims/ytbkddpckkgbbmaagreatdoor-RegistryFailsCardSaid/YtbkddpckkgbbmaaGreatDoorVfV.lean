import Derived.Test.YtbkddpckkgbbmaaGreatDoorVfQ
import Derived.Test.YtbkddpckkgbbmaaGreatDoorVcY
import Derived.Test.YtbkddpckkgbbmaaGreatDoorVgE
import Derived.Test.YtbkddpckkgbbmaaGreatDoorVfI
set_option linter.unusedSimpArgs false
set_option linter.unusedVariables false
set_option linter.unusedSectionVars false
set_option linter.unnecessarySimpa false
namespace Go.Oct
open Go Go.Vc Go.VrA Go.VrF
set_option maxRecDepth 100000
structure Ct where
  name : ByteArray
  n : Nat
def Ct.cells (c : Ct) : List Value:=[.string c.name,.int .u64 c.n]
structure Bk where
  qs : List Qu
  bs : List Bi
  cs : List Ct
theorem isT_own {α : Type} {cells : α→List Value} {s : Nat} (hcl : ∀ x,(cells x).length = s) (hs : 0 < s) {w : World} {B : Nat} {t : TypeId} {v : Value} {l : List α} (h : w.ownsRow B t s v l.length (l.flatMap cells)) : IsT cells s w v l:=by
  rcases h.2 with ⟨rfl,h0⟩ | ⟨g,cap,cur,rfl,_,hg,_,_,hsz,hc⟩
  · have : l = []:=List.length_eq_zero_iff.1 h0
    subst this; exact IsT.nil 0 none
  · refine ⟨⟨_,_,rfl⟩,fun i m hm=>⟨g,0,cap,cur,_,_,rfl,hg, ?_⟩⟩
    have h' : (cur.toList.drop 0).take (l.length * s) = l.flatMap cells:=by simpa using hc
    have:=row_at (s:=s) (cells:=cells) hcl h' (j:=i) (p:=m) hm hs
    simpa using this
def BookAt (w : World) (bk : Nat) (B : Bk) : Prop :=
  ∃ vq vb vc,w.heap[bk]? = some (.cells #[vq,vb,vc] 73 (0,0))∧w.ownsRow (bk + 1) 33 5 vq B.qs.length (B.qs.flatMap Qu.cells) ∧
    w.ownsRow (bk + 1) 64 4 vb B.bs.length (B.bs.flatMap Bi.cells)∧w.ownsRow (bk + 1) 242 2 vc B.cs.length (B.cs.flatMap Ct.cells)
theorem BookAt.mod {w w' : World} {S : Nat→Prop} {bk : Nat} {B : Bk} (h : BookAt w bk B) (hm : Mod S w w') (hS : ∀ k,S k→bk≤k→w.heap.size≤k) : BookAt w' bk B:=by
  obtain ⟨vq,vb,vc,h1,h2,h3,h4⟩:=h
  have hk : ∀ (v : Value) (t : TypeId) (s n : Nat) (xs : List Value),w.ownsRow (bk + 1) t s v n xs→∀ k,v.ownBlock = some k→¬ S k:=by
    intro v t s n xs ho k hk x
    have h5:=World.ownsRow.lt ho k hk
    have:=hS k x (by omega)
    omega
  refine ⟨vq,vb,vc,hm.keep h1 (fun x=>by have:=hS _ x (Nat.le_refl _); have:=lt_of_get h1; omega),own_mod h2 hm (hk _ _ _ _ _ h2),own_mod h3 hm (hk _ _ _ _ _ h3),own_mod h4 hm (hk _ _ _ _ _ h4)⟩
theorem BookAt.keep {w w' : World} {bk : Nat} {B : Bk} (h : BookAt w bk B) (hm : Mod (fun _=>False) w w') : BookAt w' bk B:=h.mod hm (fun _ x=>x.elim)
def bfind (name : ByteArray) : List Qu→Nat→Int
  | [],_ => -1
  | q :: l,i=>if (q.name.toList == name.toList) = true then (i : Int) else bfind name l (i + 1)
theorem bfind_c (bk : Nat) (B : Bk) (name : ByteArray) (w : World) (K : Value→World→Prop) (hb : BookAt w bk B) (hl : B.qs.length < 2 ^ 20) (h : ∀ w',Mod (fun _=>False) w w'→K (.int .i64 (bfind name B.qs 0)) w') :
    Ok Proofs.Tryz.prog 92 #[ptr bk,.string name] w K:=by
  obtain ⟨vq,vb,vc,h1,h2,_⟩:=hb
  have ht:=isT_own (cells:=Qu.cells) (s:=5) (fun _=>rfl) (by decide) h2
  clear h2
  revert hl h ht
  generalize B.qs = l
  intro hl h ht
  obtain ⟨⟨a,cp,rfl⟩,hat⟩:=ht
  refine F92.enter (args:=[ptr bk,.string name]) (by simp) ?_
  unfold c92 r92
  simp only [ZB,insVc,load1K,nilK,faddrK,lenLK,ne_eq,reduceCtorEq,Zab,Za,Zah,Int.reduceNeg,h1]
  refine vc_loop (fun mm ρ ds u => ∃ i,i≤l.length∧mm = l.length - i∧ds = []∧ρ 1 = .string name∧ρ 10 = .slice a l.length cp∧ρ 11 = .int .i64 l.length∧ρ 12 = .int .i64 i ∧
    Mod (fun _=>False) w u∧bfind name l 0 = bfind name (l.drop i) i) (l.length - 0) ?_ ?_
  · exact ⟨0,Nat.zero_le _,rfl,rfl,by simp only [ZB,ne_eq,Nat.reduceEqDiff,Zab,Za,Zaf],by simp only [ZB,ne_eq,Nat.reduceEqDiff],by simp only [ZB,ne_eq,Nat.reduceEqDiff],by simp only [ZB] <;> rfl,Mod.refl _ _,by simp⟩
  · rintro mm ρ ds u ⟨i,hi,rfl,rfl,g1,g10,g11,g12,hmu,hk⟩
    by_cases c1 : i < l.length
    · have d1 : (i : Int) < ((l.length : Nat) : Int):=by omega
      obtain ⟨q,hqi⟩ : ∃ q,l[i]? = some q:=⟨l[i],List.getElem?_eq_getElem c1⟩
      obtain ⟨b,o,c,cur,t,f,he,hbh,hsz,hex⟩:=hat i q hqi
      have ha' : a = some ⟨b,o,none⟩:=by simpa using congrArg (fun x=>match x with | .slice a _ _=>a | _=>none) he
      subst ha'
      have hbu:=hmu.keep hbh id
      have hi0 : (0 : Int)≤(i : Int):=by omega
      have hw1 : IntKind.i64.wrap ((i : Int) + 1) = ((i + 1 : Nat) : Int):=by rw [wrap_i64 _ (by omega)]; omega
      have hdrop : l.drop i = q :: l.drop (i + 1):=List.drop_eq_getElem?_toList_append.trans (by rw [hqi]; rfl)
      rw [hdrop,bfind] at hk
      rw [Nat.add_assoc] at hsz hex
      have hi0' : (0 : Int)≤(i : Int)∧(i : Int) < ((l.length : Nat) : Int):=⟨hi0,d1⟩
      by_cases hq : (q.name.toList == name.toList) = true
      · rw [if_pos hq] at hk
        rw [hk] at h
        simp only [ZB,endK,resK,packed,insVc,load1K,loadNK,storeNK,setMany,iopK,iopV,sopK,sopV,faddrK,iaddrK,isPlain,Value.cells,ne_eq,Nat.reduceEqDiff,Nat.reduceAdd,Nat.reduceLeDiff,reduceCtorEq,Za,Zah,Zak,Zai,Zaj,Zal,Zam,Zan,Zaa,Zac,Zax,Int.reduceNeg,Zas,Zat,Zau,Zbe,Zao,get_alloc,Zaq,Nat.reduceAdd,Nat.reduceEqDiff,g1,g10,g11,g12,d1,hi0',hbu,hsz,hex,Qu.cells,hq]
        exact h _ (hmu.trans (((Mod.refl _ _).alloc _).set (.inl (Nat.le_refl _))))
      · have b1 : (q.name.toList == name.toList) = false:=by simpa using hq
        rw [if_neg hq] at hk
        simp only [ZB,insVc,load1K,loadNK,storeNK,setMany,iopK,iopV,sopK,sopV,faddrK,iaddrK,isPlain,Value.cells,ne_eq,Nat.reduceEqDiff,Nat.reduceAdd,Nat.reduceLeDiff,reduceCtorEq,Za,Zah,Zak,Zai,Zaj,Zal,Zam,Zan,Zac,Zax,Int.reduceNeg,Zas,Zat,Zau,Zbe,Zao,get_alloc,Zaq,Nat.reduceAdd,Nat.reduceEqDiff,g1,g10,g11,g12,d1,hi0',hbu,hsz,hex,Qu.cells,b1,hw1]
        exact ⟨l.length - (i + 1),by omega,i + 1,by omega,rfl,rfl,hmu.trans (((Mod.refl _ _).alloc _).set (.inl (Nat.le_refl _))),hk⟩
    · have d1 : ¬ (i : Int) < ((l.length : Nat) : Int):=by omega
      have hie : i = l.length:=by omega
      rw [hie,List.drop_length] at hk
      simp only [ZB,endK,resK,packed,insVc,iopK,iopV,reduceCtorEq,Zaa,Int.reduceNeg,g11,g12,d1]
      have:=h u hmu
      rw [hk] at this
      exact this
end Go.Oct
namespace Go.Oct
open Go Go.Vc Go.VrA Go.VrF
set_option maxRecDepth 100000
def Bk.declare (B : Bk) (q : Qu) : Int × Bk :=
  if nameB q.name = false∨(emptyB q.dead = false∧nameB q.dead = false) then (23,B) else
  if (q.dead.toList == q.name.toList) = true then (2,B) else
  if q.ttl > 1099511627776 then (29,B) else
  if 0≤bfind q.name B.qs 0 then (22,B) else
  if emptyB q.dead = false∧bfind q.dead B.qs 0 < 0 then (21,B) else (0,{ B with qs:=B.qs ++ [q] })
noncomputable def c79e : CC:=subC c79 [1,1,1,1,1,1]
noncomputable def c79r : CC:=subC c79 [1,1]
theorem c79_s : c79 = .seq (subC c79 [0]) (.seq (subC c79 [1,0]) c79r):=rfl
theorem c79r_s : c79r = .seq (subC c79 [1,1,0]) (.seq (subC c79 [1,1,1,0]) (.seq (subC c79 [1,1,1,1,0]) (.seq (subC c79 [1,1,1,1,1,0]) c79e))):=rfl
theorem info_qu : (Proofs.Tryz.prog.info? 33).map (fun i=>(i.zero,i.size,i.bytes)) = some (some (.agg zq),5,56):=by kernel_rfl
theorem map_add0 {w : World} {lo s n : Nat} {t : TypeId} {v : Value} {xs : List Value} (h : w.ownsRow lo t s v n xs) : ∃ a c,v = .slice a n c∧a.map (·.add 0) = a∧n≤c:=by
  rcases h.2 with ⟨rfl,h0⟩ | ⟨g,cap,cur,rfl,_,_,hnc,_⟩
  · exact ⟨none,0,by rw [h0],rfl,by omega⟩
  · exact ⟨_,_,rfl,by simp [Addr.add_lit],hnc⟩
theorem own_lo {w : World} {lo lo' s n : Nat} {t : TypeId} {v : Value} {xs : List Value} (h : w.ownsRow lo t s v n xs) (hle : lo'≤lo) : w.ownsRow lo' t s v n xs:=by
  rcases h.2 with h0 | ⟨g,cap,cur,e1,e2,e3⟩
  · exact ⟨h.1,.inl h0⟩
  · exact ⟨h.1,.inr ⟨g,cap,cur,e1,by omega,e3⟩⟩
theorem bdeclEnd (bk : Nat) (B : Bk) (q : Qu) (qb : Nat) (w : World) (K : Value→World→Prop) (ρ : Env) (hb : BookAt w bk B) (hl : B.qs.length < 2 ^ 20) (hbk : bk < qb)
    (hq : w.heap[qb]? = some (.cells q.cells.toArray 33 (0,0))) (h0 : ρ 0 = ptr bk) (h3 : ρ 3 = ptr qb)
    (h : ∀ w',Mod (fun k=>k = bk) w w'→BookAt w' bk { B with qs:=B.qs ++ [q] }→K (.int .i64 0) w') :
    vc Proofs.Tryz.prog none 64 c79e (endQ Proofs.Tryz.prog [RV.tmp 4] K) ρ [] w:=by
  obtain ⟨vq,vb,vc,h1,h2,hb3,hb4⟩:=hb
  obtain ⟨a,cp,rfl,ha0,hnc⟩:=map_add0 h2
  unfold Qu.cells at hq
  unfold c79e
  simp only [ZB,subC,c79]
  refine draw_z' (Mod (fun _=>False) w) (by kernel_rfl) (by kernel_rfl) (by kernel_rfl) (by kernel_rfl) (by kernel_rfl) (by kernel_rfl) rfl (Mod.refl _ _).drew ?_
  simp only [ZB,List.dropLast,endK,resK,packed,insVc,storeK,nilK,nilM,faddrK,lenLK,fillL,buildSK,Value.cells,ne_eq,Nat.reduceEqDiff,Nat.reduceAdd,Nat.reduceLeDiff,reduceCtorEq,Zak,Zai,Zaj,Zaa,Zac,Zag,pureI,stepD_pure,stepD_load,stepD_step,loadI,vcF_nil,vcF_cons,kindF,lookI,sliceI,Bool.or_false,Bool.or_true,h0]
  refine loadD1 (b:=bk) (o:=0) (v:=.slice a B.qs.length cp) rfl (fun W hW=>⟨_,_,_,hW.keep h1 id,rfl⟩) ?_
  refine loadD1 (b:=bk) (o:=0) (v:=.slice a B.qs.length cp) rfl (fun W hW=>⟨_,_,_,hW.keep h1 id,rfl⟩) ?_
  refine loadD1 (b:=bk) (o:=0) (v:=.slice a B.qs.length cp) rfl (fun W hW=>⟨_,_,_,hW.keep h1 id,rfl⟩) ?_
  refine slice3D (e:=33) (sz:=5) (kh:=.i64) (km:=.i64) rfl rfl rfl rfl (by kernel_rfl) (by kernel_rfl) (by simp only [ZB,ne_eq,Nat.reduceEqDiff]) (by simp only [ZB,ne_eq,Nat.reduceEqDiff]) (by simp only [ZB]) hnc ha0 ?_
  refine loadDN (b:=qb) (o:=0) (v:=.agg #[.string q.name,.int .u32 q.most,.int .u64 q.ttl,.int .u32 q.tries,.string q.dead]) (by simp only [ZB,ne_eq,Nat.reduceEqDiff,h3]) (fun W hW=>⟨_,_,_,hW.keep hq id,by simp,rfl⟩) ?_
  simp only [Nat.reduceAdd,Zak,Zai,Zaj,Zbc,Zbd,Zba,Zbb,Zal,Zam,Zan,Zac,Nat.zero_add]
  obtain ⟨w1,hw1⟩ : ∃ w1,w1 = w.drew.alloc (.cells #[.string q.name,.int .u32 q.most,.int .u64 q.ttl,.int .u32 q.tries,.string q.dead] 33):=⟨_,rfl⟩
  have hm1 : Mod (fun _=>False) w w1:=by rw [hw1]; exact (Mod.refl _ _).drew.alloc _
  have g1 : w1.heap[w.heap.size]? = some (.cells q.cells.toArray 33 (0,0)):=by rw [hw1]; exact get_alloc_new' _ _ _ rfl
  have hsrc : Src Proofs.Tryz.prog 5 69 (.slice (some ⟨w.heap.size,0,none⟩) 1 1) 1 q.cells w1:=by
    refine Src.ofSlice _ (e':=33) (by kernel_rfl) ⟨w.heap.size,0,none⟩ 1 1 _ (by simp [Qu.cells]) ?_ ?_
    · intro j u hj
      simp only [World.cell?,Addr.add_lit,Nat.zero_add,g1]
      simpa using hj
    · intro u hu
      simp only [Qu.cells,Zbu,Zbv,or_false] at hu
      rcases hu with rfl | rfl | rfl | rfl | rfl <;> rfl
  obtain ⟨i,hi,hi1,hi2⟩:=info_of info_qu
  obtain ⟨v',w2,hr,ho,hm2,hbl⟩:=run_append_capped (P:=Proofs.Tryz.prog) (bk + 1) 69 69 69 33 i _ 5 (by kernel_rfl) hi hi1 hi2.1 rfl (by decide) _ _ _ (own_mod h2 hm1 (fun _ _=>id)) _ 1 _ hsrc (by decide) (by simp [maxLen]; omega) (by rw [hi2.2]; omega)
  have hm12:=hm1.trans hm2
  have hz:=hm1.size
  have hqz:=lt_of_get hq
  rw [← hw1]
  refine ⟨hm1, ?_⟩
  refine rawK_append rfl rfl rfl (by simp only [ZB,ne_eq,Nat.reduceEqDiff]; exact hr) ?_
  refine ⟨hm12, ?_⟩
  have h1':=hm12.keep h1 id
  have hst : Mod (fun k=>k = bk) w2 (Vc.set w2 bk (.cells #[v',vb,vc] 73 (0,0))):=(Mod.refl _ _).set (.inr rfl)
  simp only [storeO_cells,isPlain,Nat.reduceAdd,Nat.reduceLT,Nat.reduceLeDiff,Zak,Zai,Zaj,Zal,Zam,true_and,Nat.zero_add,decide_true,decide_false,Bool.and_false,h1']
  refine ⟨own_plain ho, ?_⟩
  refine h _ ((hm12.mono fun _ _ x=>x.elim).trans hst) ⟨v',vb,vc,get_set_same _ _ _ (lt_of_get h1'), ?_, ?_, ?_⟩
  · have ho':=own_lo (lo':=bk + 1) (own_mod ho hst (fun k hk x=>by have:=(World.ownsRow.lt ho k hk).1; omega)) (by omega)
    simpa using ho'
  · exact own_mod (own_mod hb3 hm12 (fun _ _=>id)) hst (fun k hk x=>by have:=(World.ownsRow.lt hb3 k hk).1; omega)
  · exact own_mod (own_mod hb4 hm12 (fun _ _=>id)) hst (fun k hk x=>by have:=(World.ownsRow.lt hb4 k hk).1; omega)
theorem bdeclare_c (bk : Nat) (B : Bk) (q : Qu) (w : World) (K : Value→World→Prop) (hb : BookAt w bk B) (hl : B.qs.length < 2 ^ 20) (hn : q.name.size < 2 ^ 40) (hd : q.dead.size < 2 ^ 40)
    (h : ∀ w',Mod (fun k=>k = bk) w w'→BookAt w' bk (B.declare q).2→K (.int .i64 (B.declare q).1) w') :
    Ok Proofs.Tryz.prog 79 #[ptr bk,q.val] w K:=by
  have hbk : bk < w.heap.size:=by obtain ⟨_,_,_,h1,_⟩:=hb; exact lt_of_get h1
  refine F79.enter (args:=[ptr bk,q.val]) (by simp) ?_
  rw [c79_s]
  have stay : ∀ e : Int,B.declare q = (e,B)→∀ w2,Mod (fun _=>False) w w2→K (.int .i64 e) w2:=by
    intro e he w2 hm2
    rw [he] at h
    exact h w2 (hm2.mono fun _ _ x=>x.elim) (hb.keep hm2)
  have rest : nameB q.name = true→(emptyB q.dead = true∨nameB q.dead = true)→∀ w2 ρ,Mod (fun _=>False) w w2→w2.heap[w.heap.size]? = some (.cells q.cells.toArray 33 (0,0))→ρ 0 = ptr bk→ρ 3 = ptr w.heap.size →
      vc Proofs.Tryz.prog none 64 c79r (endQ Proofs.Tryz.prog [RV.tmp 4] K) ρ [] w2:=by
    intro n1 n2 w2 ρ hm2 hq2 r0 r3
    have hq2':=hq2
    unfold Qu.cells at hq2
    have hun : B.declare q = if (q.dead.toList == q.name.toList) = true then (2,B) else
        if q.ttl > 1099511627776 then (29,B) else
        if 0≤bfind q.name B.qs 0 then (22,B) else
        if emptyB q.dead = false∧bfind q.dead B.qs 0 < 0 then (21,B) else (0,{ B with qs:=B.qs ++ [q] }):=by
      unfold Bk.declare
      rw [if_neg (by rintro (x | ⟨x,y⟩); (rw [n1] at x; cases x); (rcases n2 with z | z; (rw [z] at x; cases x); (rw [z] at y; cases y)))]
    rw [c79r_s]
    simp only [ZB,subC,c79,insVc,load1K,sopK,sopV,faddrK,ne_eq,Nat.reduceEqDiff,Za,Zaf,Zah,r3,hq2]
    refine condP_split ?_ ?_
    · intro hx
      simp only [ZB,endK,resK,packed,insVc,Zaa]
      exact stay 2 (by rw [hun,if_pos hx]) w2 hm2
    intro hx
    have hx' : ¬ (q.dead.toList == q.name.toList) = true:=by rw [hx]; exact Bool.false_ne_true
    simp only [ZB,insVc,load1K,iopK,iopV,faddrK,ne_eq,Nat.reduceEqDiff,reduceCtorEq,Za,Zaf,Zah,r3,hq2]
    refine condP_split ?_ ?_
    · intro hy
      have hy' : q.ttl > 1099511627776:=by have:=of_decide_eq_true hy; omega
      simp only [ZB,endK,resK,packed,insVc,Zaa]
      exact stay 29 (by rw [hun,if_neg hx',if_pos hy']) w2 hm2
    intro hy
    have hy' : ¬ q.ttl > 1099511627776:=by have:=of_decide_eq_false hy; omega
    simp only [ZB,insVc,load1K,faddrK,ne_eq,Nat.reduceEqDiff,reduceCtorEq,Zad,Zae,Za,Zah,r0,r3,hq2]
    refine bfind_c bk B q.name w2 _ (hb.keep hm2) hl ?_
    intro w3 hm3
    have hm03:=hm2.trans hm3
    have hq3:=hm3.keep hq2 id
    simp only [ZB,insVc,iopK,iopV,reduceCtorEq]
    refine condP_split ?_ ?_
    · intro hz
      have hz' : 0≤bfind q.name B.qs 0:=by have:=of_decide_eq_true hz; omega
      simp only [ZB,endK,resK,packed,insVc,Zaa]
      exact stay 22 (by rw [hun,if_neg hx',if_neg hy',if_pos hz']) w3 hm03
    intro hz
    have hz' : ¬ 0≤bfind q.name B.qs 0:=by have:=of_decide_eq_false hz; omega
    have fin : ∀ w4 ρ',Mod (fun _=>False) w w4→w4.heap[w.heap.size]? = some (.cells q.cells.toArray 33 (0,0))→ρ' 0 = ptr bk→ρ' 3 = ptr w.heap.size→B.declare q = (0,{ B with qs:=B.qs ++ [q] })→vc Proofs.Tryz.prog none 64 c79e (endQ Proofs.Tryz.prog [RV.tmp 4] K) ρ' [] w4:=by
      intro w4 ρ' hm4 hq4 r0' r3' he
      rw [he] at h
      refine bdeclEnd bk B q w.heap.size w4 K ρ' (hb.keep hm4) hl hbk hq4 r0' r3' ?_
      intro w5 hm5 hb5
      exact h w5 ((hm4.mono fun _ _ x=>x.elim).trans hm5) hb5
    simp only [ZB,insVc,load1K,sopK,sopV,faddrK,ne_eq,Nat.reduceEqDiff,Za,Zaf,Zah,r3,hq3]
    cases hE : emptyB q.dead with
    | true =>
      have hE' : (q.dead.toList == (⟨#[]⟩ : ByteArray).toList) = true:=hE
      simp only [ZB,insVc,pickK,ne_eq,Nat.reduceEqDiff,Zag,hE']
      exact fin w3 _ hm03 (hm3.keep hq2' id) (by simp only [ZB,ne_eq,reduceCtorEq,r0]) (by simp only [ZB,ne_eq,Nat.reduceEqDiff,r3]) (by rw [hun,if_neg hx',if_neg hy',if_neg hz',if_neg (by rw [hE]; simp)])
    | false =>
      have hE' : (q.dead.toList == (⟨#[]⟩ : ByteArray).toList) = false:=hE
      simp only [ZB,insVc,load1K,faddrK,ne_eq,Nat.reduceEqDiff,reduceCtorEq,Zad,Zae,Za,Zaf,Zah,hE',r0,r3,hq3]
      refine bfind_c bk B q.dead w3 _ (hb.keep hm03) hl ?_
      intro w4 hm4
      have hm04:=hm03.trans hm4
      simp only [ZB,insVc,pickK,iopK,iopV,ne_eq,Nat.reduceEqDiff,reduceCtorEq,Zac]
      by_cases hf : bfind q.dead B.qs 0 < 0
      · simp only [ZB,endK,resK,packed,insVc,Zaa,hf]
        exact stay 21 (by rw [hun,if_neg hx',if_neg hy',if_neg hz',if_pos ⟨hE,hf⟩]) w4 hm04
      · simp only [ZB,hf]
        exact fin w4 _ hm04 (hm4.keep (hm3.keep hq2' id) id) (by simp only [ZB,ne_eq,reduceCtorEq,r0]) (by simp only [ZB,ne_eq,Nat.reduceEqDiff,r3]) (by rw [hun,if_neg hx',if_neg hy',if_neg hz',if_neg (fun x=>hf x.2)])
  have bad : (nameB q.name = false∨(emptyB q.dead = false∧nameB q.dead = false))→∀ w2,Mod (fun _=>False) w w2→K (.int .i64 23) w2:=by
    intro hx w2 hm2
    exact stay 23 (by unfold Bk.declare; rw [if_pos hx]) w2 hm2
  clear h stay
  unfold r79
  simp only [ZB,subC,c79,insVc,load1K,faddrK,Value.cells,ne_eq,Nat.reduceEqDiff,Zab,Zad,Zae,Za,Zaf,Zah,Zbg,Qu.val,Qu.cells]
  refine callK_gen ?_
  intro w0 hw0
  have hm0 : Mod (fun _=>False) w w0:=by rw [hw0]; exact (Mod.refl _ _).alloc _
  have hb0 : w0.heap[w.heap.size]? = some (.cells #[.string q.name,.int .u32 q.most,.int .u64 q.ttl,.int .u32 q.tries,.string q.dead] 33 (0,0)):=by rw [hw0]; exact get_alloc_new _ _
  clear hw0
  refine rname_c q.name hn w0 _ ?_
  intro w1 hm1
  have hb1:=hm1.keep hb0 id
  have hm01:=hm0.trans hm1
  cases hnm : nameB q.name with
  | false =>
    simp only [ZB,endK,resK,packed,insVc,pickK,notK,ne_eq,Nat.reduceEqDiff,Zaa,Zac]
    exact bad (.inl hnm) w1 hm01
  | true =>
    simp only [ZB,insVc,load1K,sopK,sopV,notK,faddrK,ne_eq,Nat.reduceEqDiff,Za,Zaf,Zah,hb1]
    cases hE : emptyB q.dead with
    | true =>
      have hE' : (q.dead.toList == (⟨#[]⟩ : ByteArray).toList) = true:=hE
      simp only [ZB,insVc,pickK,ne_eq,Nat.reduceEqDiff,Zag,hE']
      exact rest hnm (.inl hE) w1 _ hm01 hb1 (by simp only [ZB,ne_eq,reduceCtorEq,Zab,Za]) (by simp only [ZB,ne_eq,Nat.reduceEqDiff])
    | false =>
      have hE' : (q.dead.toList == (⟨#[]⟩ : ByteArray).toList) = false:=hE
      simp only [ZB,insVc,load1K,faddrK,ne_eq,Nat.reduceEqDiff,Zad,Zae,Za,Zaf,Zah,hE',hb1]
      refine rname_c q.dead hd w1 _ ?_
      intro w2 hm2
      have hb2:=hm2.keep hb1 id
      have hm02:=hm01.trans hm2
      cases hd2 : nameB q.dead with
      | false =>
        simp only [ZB,endK,resK,packed,insVc,pickK,notK,ne_eq,Nat.reduceEqDiff,Zaa,Zac,Zag]
        exact bad (.inr ⟨hE,hd2⟩) w2 hm02
      | true =>
        simp only [ZB,insVc,pickK,notK,ne_eq,Nat.reduceEqDiff,Zac,Zag]
        exact rest hnm (.inr hd2) w2 _ hm02 hb2 (by simp only [ZB,ne_eq,reduceCtorEq,Zab,Za]) (by simp only [ZB,ne_eq,Nat.reduceEqDiff])
end Go.Oct
namespace Go.Oct
open Go Go.Vc Go.VrA Go.VrF
set_option maxRecDepth 100000
theorem append_gen {α : Type} {cells : α→List Value} {s bytes : Nat} {t e : TypeId} {z : Value} (hcl : ∀ x,(cells x).length = s) (hs : 0 < s) (hone : ∀ x,∀ u ∈ cells x,u.oneCell' = true) (ht : Proofs.Tryz.prog.underlying t = some (.slice e))
    (hinfo : (Proofs.Tryz.prog.info? e).map (fun i=>(i.zero,i.size,i.bytes)) = some (some z,s,bytes)) (hz : z.cells.size = s) (hbytes : bytes≤64)
    (B : Nat) (v : Value) (l : List α) (q : α) (w : World) (hown : w.ownsRow B e s v l.length (l.flatMap cells)) (hB : B≤w.heap.size) (hl : l.length < 2 ^ 20) (ty : TypeId) :
    ∃ v' w',(Builtin.append_ #[t,t] ty #[v,.slice (some ⟨w.heap.size,0,none⟩) 1 1]).run Proofs.Tryz.prog (w.alloc (.cells (cells q).toArray e)) = .ok v' w' ∧
      w'.ownsRow B e s v' (l ++ [q]).length ((l ++ [q]).flatMap cells)∧Mod (fun k=>v.ownBlock = some k) w w'∧(∀ k,v'.ownBlock = some k→v.ownBlock = some k∨w.heap.size≤k):=by
  obtain ⟨i,hi,hi1,hi2⟩:=info_of hinfo
  have hm1 : Mod (fun _=>False) w (w.alloc (.cells (cells q).toArray e)):=(Mod.refl _ _).alloc _
  have hown1:=own_mod hown hm1 (fun _ _ x=>x)
  have hsrc : Src Proofs.Tryz.prog s t (.slice (some ⟨w.heap.size,0,none⟩) 1 1) 1 (cells q) (w.alloc (.cells (cells q).toArray e)):=by
    refine Src.ofSlice _ (e':=e) ht ⟨w.heap.size,0,none⟩ 1 1 _ (by rw [hcl]; omega) ?_ (hone q)
    intro j u hj
    have hgn:=get_alloc_new w (.cells (cells q).toArray e)
    rw [List.getElem?_toArray.symm] at hj
    simp only [World.cell?,Addr.add_lit,Nat.zero_add,hgn]
    exact hj
  have hbb : (l.length + 1) * i.bytes≤140737488355328:=by
    rw [hi2.2]
    calc (l.length + 1) * bytes≤(2 ^ 20 + 1) * 64:=Nat.mul_le_mul (by omega) hbytes
      _≤140737488355328:=by decide
  obtain ⟨v',w',hr,ho,hm,hb⟩:=run_append_mine (P:=Proofs.Tryz.prog) B t t ty e i z s ht hi hi1 hi2.1 hz hs v l.length _ hown1 _ 1 _ hsrc (by simp [maxLen]; omega) hbb (Nat.le_trans hB hm1.size)
  refine ⟨v',w',hr, ?_,(hm1.mono fun _ _ x=>x.elim).then hm (fun k _ hk=>hk), ?_⟩
  · simpa using ho
  · intro k hk
    rcases hb with hb | hb
    · exact .inl (hb ▸ hk)
    · rw [hb] at hk
      have : (w.alloc (.cells (cells q).toArray e)).heap.size = k:=Option.some.inj hk
      rw [size_alloc] at this
      exact .inr (by omega)
theorem info_bi : (Proofs.Tryz.prog.info? 64).map (fun i=>(i.zero,i.size,i.bytes)) = some (some (.agg zb),4,56):=by kernel_rfl
theorem info_ct : (Proofs.Tryz.prog.info? 242).map (fun i=>(i.zero,i.size,i.bytes)) = some (some (.agg #[.string ⟨#[]⟩,.int .u64 0]),2,24):=by kernel_rfl
theorem one_qu (x : Qu) : ∀ u ∈ x.cells,u.oneCell' = true:=by
  intro u hu
  simp only [Qu.cells,Zbu,Zbv,or_false] at hu
  rcases hu with rfl | rfl | rfl | rfl | rfl <;> rfl
theorem one_bi (x : Bi) : ∀ u ∈ x.cells,u.oneCell' = true:=by
  intro u hu
  simp only [Bi.cells,Zbu,Zbv,or_false] at hu
  rcases hu with rfl | rfl | rfl | rfl <;> rfl
theorem one_ct (x : Ct) : ∀ u ∈ x.cells,u.oneCell' = true:=by
  intro u hu
  simp only [Ct.cells,Zbu,Zbv,or_false] at hu
  rcases hu with rfl | rfl <;> rfl
abbrev append_qu:=append_gen (cells:=Qu.cells) (t:=69) (e:=33) (fun _=>rfl) (by decide) one_qu (by kernel_rfl) info_qu rfl (by decide)
abbrev append_bi:=append_gen (cells:=Bi.cells) (t:=70) (e:=64) (fun _=>rfl) (by decide) one_bi (by kernel_rfl) info_bi rfl (by decide)
abbrev append_ct:=append_gen (cells:=Ct.cells) (t:=71) (e:=242) (fun _=>rfl) (by decide) one_ct (by kernel_rfl) info_ct rfl (by decide)
end Go.Oct
namespace Go.Oct
open Go Go.Vc Go.VrA Go.VrF
set_option maxRecDepth 100000
def keepQ (name : ByteArray) (l : List Qu) : List Qu:=l.filter fun q => !(q.name.toList == name.toList)
def keepB (name : ByteArray) (l : List Bi) : List Bi:=l.filter fun b => !(b.q.toList == name.toList)
def Bk.drop (B : Bk) (name : ByteArray) : Int × Bk:=if bfind name B.qs 0 < 0 then (21,B) else (0,{ B with qs:=keepQ name B.qs,bs:=keepB name B.bs })
noncomputable def c72l : CC:=subC c72 [1,1,1,0]
theorem dropQ_loop (bk : Nat) (l : List Qu) (name : ByteArray) (a : Option Addr) (cp : Nat) (vb vx : Value) (w : World) (Q : QT) (ρ0 : Env) (hb : w.heap[bk]? = some (.cells #[.slice a l.length cp,vb,vx] 73 (0,0))) (ht : IsT Qu.cells 5 w (.slice a l.length cp) l) (hl : l.length < 2 ^ 20)
    (h0 : ρ0 0 = ptr bk) (h1 : ρ0 1 = .string name) (h5 : ρ0 5 = .slice none 0 0)
    (h : ∀ w' ρ' v,Mod (fun _=>False) w w'→w'.ownsRow w.heap.size 33 5 v (keepQ name l).length ((keepQ name l).flatMap Qu.cells)→ρ' 0 = ptr bk→ρ' 1 = .string name→ρ' 5 = v→Q .normal ρ' [] w') :
    vc Proofs.Tryz.prog none 59 c72l Q ρ0 [] w:=by
  have hat:=ht.2
  unfold c72l
  simp only [ZB,subC,c72,insVc,load1K,nilK,faddrK,lenLK,Za,Zah,h0,hb]
  refine vc_loop (fun mm ρ ds u => ∃ i v,i≤l.length∧mm = l.length - i∧ds = []∧ρ 0 = ptr bk∧ρ 1 = .string name∧ρ 5 = v∧ρ 18 = .slice a l.length cp∧ρ 19 = .int .i64 l.length∧ρ 20 = .int .i64 i ∧
    Mod (fun _=>False) w u∧u.ownsRow w.heap.size 33 5 v (keepQ name (l.take i)).length ((keepQ name (l.take i)).flatMap Qu.cells)) (l.length - 0) ?_ ?_
  · exact ⟨0,.slice none 0 0,Nat.zero_le _,rfl,rfl,by simp only [ZB,ne_eq,reduceCtorEq,h0],by simp only [ZB,ne_eq,Nat.reduceEqDiff,h1],by simp only [ZB,ne_eq,Nat.reduceEqDiff,h5],by simp only [ZB,ne_eq,Nat.reduceEqDiff],by simp only [ZB,ne_eq,Nat.reduceEqDiff],by simp only [ZB] <;> rfl,Mod.refl _ _,World.ownsRow_nil _ _ _ 5⟩
  · rintro mm ρ ds u ⟨i,v,hi,rfl,rfl,g0,g1,g5,g18,g19,g20,hmu,hown⟩
    by_cases c1 : i < l.length
    · have d1 : (i : Int) < ((l.length : Nat) : Int):=by omega
      obtain ⟨q,hqi⟩ : ∃ q,l[i]? = some q:=⟨l[i],List.getElem?_eq_getElem c1⟩
      obtain ⟨b,o,c,cur,t,f,he,hbh,hsz,hex⟩:=hat i q hqi
      have ha' : a = some ⟨b,o,none⟩:=by simpa using congrArg (fun x=>match x with | .slice a _ _=>a | _=>none) he
      subst ha'
      have hbu:=hmu.keep hbh id
      have hi0' : (0 : Int)≤(i : Int)∧(i : Int) < ((l.length : Nat) : Int):=by omega
      have hw1 : IntKind.i64.wrap ((i : Int) + 1) = ((i + 1 : Nat) : Int):=by rw [wrap_i64 _ (by omega)]; omega
      have htk : l.take (i + 1) = l.take i ++ [q]:=by rw [List.take_add_one,hqi]; rfl
      have hkq : keepQ name (l.take (i + 1)) = keepQ name (l.take i) ++ keepQ name [q]:=by rw [htk,keepQ,List.filter_append]; rfl
      have hkl : (keepQ name (l.take i)).length≤i:=Nat.le_trans (List.length_filter_le _ _) (by rw [List.length_take]; omega)
      rw [Nat.add_assoc] at hsz hex
      have hms:=hmu.size
      obtain ⟨u1,hu1⟩ : ∃ u1,u1 = Vc.set (u.alloc (.cells #[.string ⟨#[]⟩,.int .u32 0,.int .u64 0,.int .u32 0,.string ⟨#[]⟩] 33)) u.heap.size (.cells #[.string q.name,.int .u32 q.most,.int .u64 q.ttl,.int .u32 q.tries,.string q.dead] 33):=⟨_,rfl⟩
      have hmu1 : Mod (fun _=>False) u u1:=by rw [hu1]; exact ((Mod.refl _ _).alloc _).set (.inl (Nat.le_refl _))
      have pu1 : u1.heap[u.heap.size]? = some (.cells #[.string q.name,.int .u32 q.most,.int .u64 q.ttl,.int .u32 q.tries,.string q.dead] 33 (0,0)):=by rw [hu1]; exact get_set_same _ _ _ (by simp only [size_alloc]; omega)
      have hms1:=hmu1.size
      by_cases hq : (q.name.toList == name.toList) = true
      · have hk1 : keepQ name [q] = []:=by simp [keepQ,hq]
        rw [hk1,List.append_nil] at hkq
        simp only [ZB,insVc,load1K,loadNK,storeNK,setMany,iopK,iopV,sopK,sopV,faddrK,iaddrK,isPlain,Value.cells,ne_eq,Nat.reduceEqDiff,Nat.reduceAdd,Nat.reduceLeDiff,reduceCtorEq,Za,Zah,Zak,Zai,Zaj,Zal,Zam,Zan,Zac,Zax,Zas,Zat,Zau,Zbe,Zao,get_alloc,Zaq,Nat.reduceAdd,Nat.reduceEqDiff,g0,g1,g5,g18,g19,g20,d1,hi0',hbu,hsz,hex,Qu.cells,hq,hw1]
        refine ⟨l.length - (i + 1),by omega,i + 1,v,by omega,rfl,rfl,rfl,hmu.trans (((Mod.refl _ _).alloc _).set (.inl (Nat.le_refl _))), ?_⟩
        rw [hkq]
        rw [hu1] at hmu1
        exact own_mod hown hmu1 (fun _ _=>id)
      · have b1 : (q.name.toList == name.toList) = false:=by simpa using hq
        have hk1 : keepQ name [q] = [q]:=by simp [keepQ,b1]
        rw [hk1] at hkq
        obtain ⟨v5,u5,hr5,ho5,hm5,hb5⟩:=append_qu w.heap.size v (keepQ name (l.take i)) q u1 (own_mod hown hmu1 (fun _ _=>id)) (by omega) (by omega) 69
        have hz1 : u1.heap.size = u.heap.size + 1:=by rw [hu1]; simp only [size_set,size_alloc,size_alloc,size_set]
        rw [hz1] at hr5
        simp only [ZB,insVc,load1K,loadNK,storeNK,setMany,iopK,iopV,sopK,sopV,faddrK,iaddrK,fillL,buildSK,isPlain,Value.cells,ne_eq,Nat.reduceEqDiff,Nat.reduceAdd,Nat.reduceLeDiff,reduceCtorEq,Za,Zah,Zak,Zai,Zaj,Zbc,Zbd,Zba,Zbb,Zal,Zam,Zan,Zbf,Zac,Zax,Zb,Zaz,Zav,Zar,Zay,Zaw,Zas,Zat,Zau,Zbe,Zao,get_alloc,Zaq,Nat.reduceAdd,Nat.reduceEqDiff,g1,g5,g18,g19,g20,d1,hi0',hbu,hsz,hex,Qu.cells,b1]
        rw [← hu1]
        refine rawK_append rfl rfl rfl (by simp only [ZB,ne_eq,Nat.reduceEqDiff]; exact hr5) ?_
        have hob : ∀ k,v.ownBlock = some k→w.heap.size≤k:=fun k hk=>(World.ownsRow.lt hown k hk).1
        simp only [ZB,insVc,iopK,iopV,ne_eq,Nat.reduceEqDiff,reduceCtorEq,g0,g1,g18,g19,g20,hw1]
        exact ⟨l.length - (i + 1),by omega,i + 1,v5,by omega,rfl,rfl,rfl,(hmu.trans hmu1).then hm5 (fun k hk x=>by have:=hob k x; omega),by rw [hkq]; exact ho5⟩
    · have d1 : ¬ (i : Int) < ((l.length : Nat) : Int):=by omega
      have hie : i = l.length:=by omega
      rw [hie,List.take_length] at hown
      simp only [ZB,insVc,iopK,iopV,reduceCtorEq,g19,g20,d1]
      exact h u _ v hmu hown g0 g1 g5
noncomputable def c72m : CC:=subC c72 [1,1,1,1,1,1,0]
theorem dropB_loop (bk : Nat) (l : List Bi) (name : ByteArray) (a : Option Addr) (cp : Nat) (vb vx : Value) (w : World) (Q : QT) (ρ0 : Env) (hb : w.heap[bk]? = some (.cells #[vb,.slice a l.length cp,vx] 73 (0,0))) (ht : IsT Bi.cells 4 w (.slice a l.length cp) l) (hl : l.length < 2 ^ 20)
    (h0 : ρ0 0 = ptr bk) (h1 : ρ0 1 = .string name) (h8 : ρ0 8 = .slice none 0 0)
    (h : ∀ w' ρ' v,Mod (fun _=>False) w w'→w'.ownsRow w.heap.size 64 4 v (keepB name l).length ((keepB name l).flatMap Bi.cells)→ρ' 0 = ptr bk→ρ' 1 = .string name→ρ' 8 = v→Q .normal ρ' [] w') :
    vc Proofs.Tryz.prog none 59 c72m Q ρ0 [] w:=by
  have hat:=ht.2
  unfold c72m
  simp only [ZB,subC,c72,insVc,load1K,nilK,faddrK,lenLK,Za,Zaf,Zah,h0,hb]
  refine vc_loop (fun mm ρ ds u => ∃ i v,i≤l.length∧mm = l.length - i∧ds = []∧ρ 0 = ptr bk∧ρ 1 = .string name∧ρ 8 = v∧ρ 40 = .slice a l.length cp∧ρ 41 = .int .i64 l.length∧ρ 42 = .int .i64 i ∧
    Mod (fun _=>False) w u∧u.ownsRow w.heap.size 64 4 v (keepB name (l.take i)).length ((keepB name (l.take i)).flatMap Bi.cells)) (l.length - 0) ?_ ?_
  · exact ⟨0,.slice none 0 0,Nat.zero_le _,rfl,rfl,by simp only [ZB,ne_eq,reduceCtorEq,h0],by simp only [ZB,ne_eq,Nat.reduceEqDiff,h1],by simp only [ZB,ne_eq,Nat.reduceEqDiff,h8],by simp only [ZB,ne_eq,Nat.reduceEqDiff],by simp only [ZB,ne_eq,Nat.reduceEqDiff],by simp only [ZB] <;> rfl,Mod.refl _ _,World.ownsRow_nil _ _ _ 4⟩
  · rintro mm ρ ds u ⟨i,v,hi,rfl,rfl,g0,g1,g5,g18,g19,g20,hmu,hown⟩
    by_cases c1 : i < l.length
    · have d1 : (i : Int) < ((l.length : Nat) : Int):=by omega
      obtain ⟨q,hqi⟩ : ∃ q,l[i]? = some q:=⟨l[i],List.getElem?_eq_getElem c1⟩
      obtain ⟨b,o,c,cur,t,f,he,hbh,hsz,hex⟩:=hat i q hqi
      have ha' : a = some ⟨b,o,none⟩:=by simpa using congrArg (fun x=>match x with | .slice a _ _=>a | _=>none) he
      subst ha'
      have hbu:=hmu.keep hbh id
      have hi0' : (0 : Int)≤(i : Int)∧(i : Int) < ((l.length : Nat) : Int):=by omega
      have hw1 : IntKind.i64.wrap ((i : Int) + 1) = ((i + 1 : Nat) : Int):=by rw [wrap_i64 _ (by omega)]; omega
      have htk : l.take (i + 1) = l.take i ++ [q]:=by rw [List.take_add_one,hqi]; rfl
      have hkq : keepB name (l.take (i + 1)) = keepB name (l.take i) ++ keepB name [q]:=by rw [htk,keepB,List.filter_append]; rfl
      have hkl : (keepB name (l.take i)).length≤i:=Nat.le_trans (List.length_filter_le _ _) (by rw [List.length_take]; omega)
      rw [Nat.add_assoc] at hsz hex
      have hms:=hmu.size
      obtain ⟨u1,hu1⟩ : ∃ u1,u1 = Vc.set (u.alloc (.cells #[.string ⟨#[]⟩,.int .i64 0,.string ⟨#[]⟩,.string ⟨#[]⟩] 64)) u.heap.size (.cells #[.string q.ex,.int .i64 q.kind,.string q.key,.string q.q] 64):=⟨_,rfl⟩
      have hmu1 : Mod (fun _=>False) u u1:=by rw [hu1]; exact ((Mod.refl _ _).alloc _).set (.inl (Nat.le_refl _))
      have pu1 : u1.heap[u.heap.size]? = some (.cells #[.string q.ex,.int .i64 q.kind,.string q.key,.string q.q] 64 (0,0)):=by rw [hu1]; exact get_set_same _ _ _ (by simp only [size_alloc]; omega)
      have hms1:=hmu1.size
      by_cases hq : (q.q.toList == name.toList) = true
      · have hk1 : keepB name [q] = []:=by simp [keepB,hq]
        rw [hk1,List.append_nil] at hkq
        simp only [ZB,insVc,load1K,loadNK,storeNK,setMany,iopK,iopV,sopK,sopV,faddrK,iaddrK,isPlain,Value.cells,ne_eq,Nat.reduceEqDiff,Nat.reduceAdd,Nat.reduceLeDiff,reduceCtorEq,Za,Zaf,Zah,Zak,Zai,Zaj,Zal,Zam,Zan,Zac,Zax,Zas,Zat,Zau,Zbe,Zao,get_alloc,Zaq,Nat.reduceAdd,Nat.reduceEqDiff,g0,g1,g5,g18,g19,g20,d1,hi0',hbu,hsz,hex,Bi.cells,hq,hw1]
        refine ⟨l.length - (i + 1),by omega,i + 1,v,by omega,rfl,rfl,rfl,hmu.trans (((Mod.refl _ _).alloc _).set (.inl (Nat.le_refl _))), ?_⟩
        rw [hkq]
        rw [hu1] at hmu1
        exact own_mod hown hmu1 (fun _ _=>id)
      · have b1 : (q.q.toList == name.toList) = false:=by simpa using hq
        have hk1 : keepB name [q] = [q]:=by simp [keepB,b1]
        rw [hk1] at hkq
        obtain ⟨v5,u5,hr5,ho5,hm5,hb5⟩:=append_bi w.heap.size v (keepB name (l.take i)) q u1 (own_mod hown hmu1 (fun _ _=>id)) (by omega) (by omega) 70
        have hz1 : u1.heap.size = u.heap.size + 1:=by rw [hu1]; simp only [size_set,size_alloc,size_alloc,size_set]
        rw [hz1] at hr5
        simp only [ZB,insVc,load1K,loadNK,storeNK,setMany,iopK,iopV,sopK,sopV,faddrK,iaddrK,fillL,buildSK,isPlain,Value.cells,ne_eq,Nat.reduceEqDiff,Nat.reduceAdd,Nat.reduceLeDiff,reduceCtorEq,Za,Zaf,Zah,Zak,Zai,Zaj,Zbc,Zbd,Zba,Zbb,Zal,Zam,Zan,Zbf,Zac,Zax,Zb,Zaz,Zav,Zar,Zay,Zaw,Zas,Zat,Zau,Zbe,Zao,get_alloc,Zaq,Nat.reduceAdd,Nat.reduceEqDiff,g1,g5,g18,g19,g20,d1,hi0',hbu,hsz,hex,Bi.cells,b1]
        rw [← hu1]
        refine rawK_append rfl rfl rfl (by simp only [ZB,ne_eq,Nat.reduceEqDiff]; exact hr5) ?_
        have hob : ∀ k,v.ownBlock = some k→w.heap.size≤k:=fun k hk=>(World.ownsRow.lt hown k hk).1
        simp only [ZB,insVc,iopK,iopV,ne_eq,Nat.reduceEqDiff,reduceCtorEq,g0,g1,g18,g19,g20,hw1]
        exact ⟨l.length - (i + 1),by omega,i + 1,v5,by omega,rfl,rfl,rfl,(hmu.trans hmu1).then hm5 (fun k hk x=>by have:=hob k x; omega),by rw [hkq]; exact ho5⟩
    · have d1 : ¬ (i : Int) < ((l.length : Nat) : Int):=by omega
      have hie : i = l.length:=by omega
      rw [hie,List.take_length] at hown
      simp only [ZB,insVc,iopK,iopV,reduceCtorEq,g19,g20,d1]
      exact h u _ v hmu hown g0 g1 g5
theorem c72_s : c72 = .seq (subC c72 [0]) (.seq (subC c72 [1,0]) (.seq (subC c72 [1,1,0]) (.seq c72l (.seq (subC c72 [1,1,1,1,0]) (.seq (subC c72 [1,1,1,1,1,0]) (.seq c72m (subC c72 [1,1,1,1,1,1,1]))))))):=rfl
end Go.Oct
namespace Go.Oct
open Go Go.Vc Go.VrA Go.VrF
set_option maxRecDepth 100000
theorem bdrop_c (bk : Nat) (B : Bk) (name : ByteArray) (w : World) (K : Value→World→Prop) (hb : BookAt w bk B) (hl : B.qs.length < 2 ^ 20) (hl2 : B.bs.length < 2 ^ 20)
    (h : ∀ w',Mod (fun k=>k = bk) w w'→BookAt w' bk (B.drop name).2→K (.int .i64 (B.drop name).1) w') :
    Ok Proofs.Tryz.prog 72 #[ptr bk,.string name] w K:=by
  have hbk : bk < w.heap.size:=by obtain ⟨_,_,_,h1,_⟩:=hb; exact lt_of_get h1
  refine F72.enter (args:=[ptr bk,.string name]) (by simp) ?_
  rw [c72_s]
  unfold r72
  simp only [ZB,subC,c72,insVc,ne_eq,Nat.reduceEqDiff,reduceCtorEq,Zab,Zad,Zae,Za,Zaf]
  refine bfind_c bk B name w _ hb hl ?_
  intro w1 hm1
  unfold Bk.drop at h
  simp only [ZB,insVc,iopK,iopV,reduceCtorEq]
  by_cases hf : bfind name B.qs 0 < 0
  · rw [if_pos hf] at h
    simp only [ZB,endK,resK,packed,insVc,Zaa,hf]
    exact h w1 (hm1.mono fun _ _ x=>x.elim) (hb.keep hm1)
  rw [if_neg hf] at h
  obtain ⟨vq,vb,vx,h1,h2,h3,h4⟩:=hb.keep hm1
  obtain ⟨a,cp,rfl,_,_⟩:=map_add0 h2
  have hz1:=hm1.size
  simp only [ZB,insVc,hf]
  refine dropQ_loop bk B.qs name a cp vb vx w1 _ _ h1 (isT_own (s:=5) (fun _=>rfl) (by decide) h2) hl (by simp only [ZB,ne_eq,reduceCtorEq,Zab,Za]) (by simp only [ZB,ne_eq,Nat.reduceEqDiff,Zab,Za,Zaf]) (by simp only [ZB]) ?_
  intro w2 ρ2 v hm2 ho2 r0 r1 r5
  have h1':=hm2.keep h1 id
  have hz2:=hm2.size
  have hplv:=own_plain ho2
  have hst : Mod (fun k=>k = bk) w2 (Vc.set w2 bk (.cells #[v,vb,vx] 73 (0,0))):=(Mod.refl _ _).set (.inr rfl)
  simp only [ZB,insVc,storeK,nilK,faddrK,isPlain,ne_eq,Nat.reduceEqDiff,Nat.reduceAdd,Nat.reduceLT,Nat.reduceLeDiff,Zak,Zai,Zaj,Zal,Zam,r0,r5,h1']
  refine ⟨hplv, ?_⟩
  obtain ⟨a2,cp2,rfl,_,_⟩:=map_add0 h3
  have h3':=own_mod (own_mod h3 hm2 (fun _ _=>id)) hst (fun k hk x=>by have:=(World.ownsRow.lt h3 k hk).1; omega)
  have h4':=own_mod (own_mod h4 hm2 (fun _ _=>id)) hst (fun k hk x=>by have:=(World.ownsRow.lt h4 k hk).1; omega)
  have ho2':=own_mod ho2 hst (fun k hk x=>by have:=(World.ownsRow.lt ho2 k hk).1; omega)
  have hbs:=get_set_same w2 bk (.cells #[v,.slice a2 B.bs.length cp2,vx] 73 (0,0)) (lt_of_get h1')
  refine dropB_loop bk B.bs name a2 cp2 v vx _ _ _ hbs (isT_own (s:=4) (fun _=>rfl) (by decide) h3') hl2 (by simp only [ZB,ne_eq,reduceCtorEq,r0]) (by simp only [ZB,ne_eq,Nat.reduceEqDiff,r1]) (by simp only [ZB]) ?_
  intro w3 ρ3 v3 hm3 ho3 q0 q1 q8
  have h1'':=hm3.keep hbs id
  have hz3:=hm3.size
  rw [size_set] at hz3
  have hplv3:=own_plain ho3
  have hst3 : Mod (fun k=>k = bk) w3 (Vc.set w3 bk (.cells #[v,v3,vx] 73 (0,0))):=(Mod.refl _ _).set (.inr rfl)
  simp only [ZB,endK,resK,packed,insVc,storeK,nilK,faddrK,isPlain,ne_eq,Nat.reduceEqDiff,Nat.reduceAdd,Nat.reduceLT,Nat.reduceLeDiff,Zak,Zai,Zaj,Zal,Zam,Zan,Zaa,q0,q8,h1'']
  refine ⟨hplv3, ?_⟩
  refine h _ (((((hm1.trans hm2).mono fun _ _ x=>x.elim).trans hst).trans (hm3.mono fun _ _ x=>x.elim)).trans hst3) ⟨v,v3,vx,get_set_same _ _ _ (lt_of_get h1''), ?_, ?_, ?_⟩
  · exact own_lo (own_mod (own_mod ho2' hm3 (fun _ _=>id)) hst3 (fun k hk x=>by have:=(World.ownsRow.lt ho2 k hk).1; omega)) (by omega)
  · exact own_lo (own_mod ho3 hst3 (fun k hk x=>by have:=(World.ownsRow.lt ho3 k hk).1; rw [size_set] at this; omega)) (by rw [size_set]; omega)
  · exact own_mod (own_mod h4' hm3 (fun _ _=>id)) hst3 (fun k hk x=>by have:=(World.ownsRow.lt h4 k hk).1; omega)
end Go.Oct
