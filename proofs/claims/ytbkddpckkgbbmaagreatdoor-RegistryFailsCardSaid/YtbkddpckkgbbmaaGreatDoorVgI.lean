import Derived.Test.YtbkddpckkgbbmaaGreatDoorVgE
import Derived.Test.YtbkddpckkgbbmaaGreatDoorVgD
set_option linter.unusedSimpArgs false
set_option linter.unusedVariables false
set_option linter.unusedSectionVars false
set_option linter.unnecessarySimpa false
namespace Go.Oct
open Go Go.Vc Go.VrA Go.VrF
set_option maxRecDepth 100000
noncomputable def c73l : CC:=subC c73 [1,1,1,1,1,1,0]
noncomputable def c73e : CC:=subC c73 [1,1,1,1,1,1,1,1,1,1]
noncomputable def c73k : CC:=subC c73 [1,1,1,1,1,1,1]
def clash (x : Bi) (l : List Bi) : Bool:=l.any fun y=>(y.ex.toList == x.ex.toList) && (y.kind != x.kind)
def there (x : Bi) (l : List Bi) : Bool:=l.any fun y=>eqBi x y
theorem bind_loop (bk xb : Nat) (l : List Bi) (x : Bi) (a : Option Addr) (cp : Nat) (vb vx : Value) (w : World) (Q : QT) (ρ0 : Env) (hb : w.heap[bk]? = some (.cells #[vb,.slice a l.length cp,vx] 73 (0,0))) (ht : IsT Bi.cells 4 w (.slice a l.length cp) l) (hl : l.length < 2 ^ 20)
    (h0 : ρ0 0 = ptr bk) (h3 : ρ0 3 = ptr xb) (hxb : w.heap[xb]? = some (.cells #[.string x.ex,.int .i64 x.kind,.string x.key,.string x.q] 64 (0,0))) (h5 : ρ0 5 = .bool false)
    (hret : clash x l = true→∀ w' ρ',Mod (fun _=>False) w w'→ρ' 4 = .int .i64 11→Q .ret ρ' [] w')
    (h : clash x l = false→∀ w' ρ',Mod (fun _=>False) w w'→ρ' 0 = ptr bk→ρ' 3 = ptr xb→ρ' 5 = .bool (there x l)→Q .normal ρ' [] w') :
    vc Proofs.Tryz.prog none 98 c73l Q ρ0 [] w:=by
  have hat:=ht.2
  unfold c73l
  simp only [ZB,subC,c73,insVc,load1K,nilK,faddrK,lenLK,Za,Zaf,Zah,h0,hb]
  refine vc_loop (fun mm ρ ds u => ∃ i,i≤l.length∧mm = l.length - i∧ds = []∧ρ 0 = ptr bk∧ρ 3 = ptr xb∧ρ 5 = .bool (there x (l.take i))∧ρ 42 = .slice a l.length cp∧ρ 43 = .int .i64 l.length∧ρ 44 = .int .i64 i ∧
    Mod (fun _=>False) w u∧clash x (l.take i) = false) (l.length - 0) ?_ ?_
  · exact ⟨0,Nat.zero_le _,rfl,rfl,by simp only [ZB,ne_eq,reduceCtorEq,h0],by simp only [ZB,ne_eq,Nat.reduceEqDiff,h3],by simp only [ZB,ne_eq,Nat.reduceEqDiff,Zar,h5]; rfl,by simp only [ZB,ne_eq,Nat.reduceEqDiff],by simp only [ZB,ne_eq,Nat.reduceEqDiff],by simp only [ZB] <;> rfl,Mod.refl _ _,rfl⟩
  · rintro mm ρ ds u ⟨i,hi,rfl,rfl,g0,g3,g5,g42,g43,g44,hmu,hcl⟩
    by_cases c1 : i < l.length
    · have d1 : (i : Int) < ((l.length : Nat) : Int):=by omega
      obtain ⟨q,hqi⟩ : ∃ q,l[i]? = some q:=⟨l[i],List.getElem?_eq_getElem c1⟩
      obtain ⟨b,o,c,cur,t,f,he,hbh,hsz,hex⟩:=hat i q hqi
      have ha' : a = some ⟨b,o,none⟩:=by simpa using congrArg (fun x=>match x with | .slice a _ _=>a | _=>none) he
      subst ha'
      have hbu:=hmu.keep hbh id
      have hi0' : (0 : Int)≤(i : Int)∧(i : Int) < ((l.length : Nat) : Int):=by omega
      have hw1 : IntKind.i64.wrap ((i : Int) + 1) = ((i + 1 : Nat) : Int):=by rw [wrap_i64 _ (by omega)]; omega
      have htk : l.take (i + 1) = l.take i ++ [q]:=by rw [List.take_add_one,hqi]; rfl
      have hcl1 : clash x (l.take (i + 1)) = ((q.ex.toList == x.ex.toList) && (q.kind != x.kind)):=by
        unfold clash at hcl ⊢
        rw [htk,List.any_append,hcl,Bool.false_or]
        simp
      have hth1 : there x (l.take (i + 1)) = (there x (l.take i) || eqBi x q):=by
        unfold there
        rw [htk,List.any_append]
        simp
      have hall : clash x (l.take (i + 1)) = true→clash x l = true:=by
        unfold clash
        rw [List.any_eq_true,List.any_eq_true]
        rintro ⟨y,hy,e⟩
        exact ⟨y,List.mem_of_mem_take hy,e⟩
      rw [Nat.add_assoc] at hsz hex
      have hms:=hmu.size
      obtain ⟨u1,hu1⟩ : ∃ u1,u1 = Vc.set (u.alloc (.cells #[.string ⟨#[]⟩,.int .i64 0,.string ⟨#[]⟩,.string ⟨#[]⟩] 64)) u.heap.size (.cells #[.string q.ex,.int .i64 q.kind,.string q.key,.string q.q] 64):=⟨_,rfl⟩
      have hmu1 : Mod (fun _=>False) u u1:=by rw [hu1]; exact ((Mod.refl _ _).alloc _).set (.inl (Nat.le_refl _))
      have pu1 : u1.heap[u.heap.size]? = some (.cells #[.string q.ex,.int .i64 q.kind,.string q.key,.string q.q] 64 (0,0)):=by rw [hu1]; exact get_set_same _ _ _ (by simp only [size_alloc]; omega)
      have hxu : u1.heap[xb]? = some (.cells #[.string x.ex,.int .i64 x.kind,.string x.key,.string x.q] 64 (0,0)):=hmu1.keep (hmu.keep hxb id) id
      have hxu':=hxu
      rw [hu1] at hxu'
      have hm01:=hmu.trans hmu1
      cases hE : (q.ex.toList == x.ex.toList) with
      | true =>
        cases hK : (q.kind != x.kind) with
        | true =>
          simp only [ZB,insVc,pickK,load1K,loadNK,storeNK,setMany,iopK,iopV,sopK,sopV,faddrK,iaddrK,isPlain,Value.cells,ne_eq,Nat.reduceEqDiff,Nat.reduceAdd,Nat.reduceLeDiff,reduceCtorEq,Za,Zaf,Zah,Zak,Zai,Zaj,Zal,Zam,Zan,Zac,Zax,Zas,Zat,Zau,Zbe,Zao,get_alloc,Zaq,Nat.reduceAdd,Nat.reduceEqDiff,g3,g42,g43,g44,d1,hi0',hbu,hsz,hex,Bi.cells,hxu',hE,hK]
          rw [← hu1]
          exact hret (hall (by rw [hcl1,hE,hK]; rfl)) u1 _ hm01 (by simp only [ZB])
        | false =>
          have hc : clash x (l.take (i + 1)) = false:=by rw [hcl1,hE,hK]; rfl
          cases hT : there x (l.take i) with
          | true =>
            rw [hT] at g5
            simp only [ZB,insVc,pickK,load1K,loadNK,storeNK,setMany,iopK,iopV,sopK,sopV,faddrK,iaddrK,isPlain,Value.cells,ne_eq,Nat.reduceEqDiff,Nat.reduceAdd,Nat.reduceLeDiff,reduceCtorEq,Za,Zaf,Zah,Zak,Zai,Zaj,Zal,Zam,Zan,Zac,Zax,Zas,Zat,Zau,Zbe,Zao,get_alloc,Zaq,Nat.reduceAdd,Nat.reduceEqDiff,g0,g3,g5,g42,g43,g44,d1,hi0',hbu,hsz,hex,Bi.cells,hxu',hE,hK,hw1]
            rw [← hu1]
            exact ⟨l.length - (i + 1),by omega,i + 1,by omega,rfl,by simp [hth1,hT],rfl,hm01,hc⟩
          | false =>
            rw [hT] at g5
            simp only [ZB,insVc,pickK,load1K,loadNK,storeNK,setMany,iopK,iopV,sopK,sopV,faddrK,iaddrK,isPlain,Value.cells,ne_eq,Nat.reduceEqDiff,Nat.reduceAdd,Nat.reduceLeDiff,reduceCtorEq,Za,Zaf,Zah,Zak,Zai,Zaj,Zal,Zam,Zan,Zac,Zax,Zb,Zaz,Zav,Zar,Zay,Zaw,Zas,Zat,Zau,Zbe,Zao,get_alloc,Zaq,Nat.reduceAdd,Nat.reduceEqDiff,g3,g5,g42,g43,g44,d1,hi0',hbu,hsz,hex,Bi.cells,hxu',hE,hK]
            rw [← hu1]
            refine rawK_eql_bi x q rfl rfl rfl (by simp only [ZB,ne_eq,Nat.reduceEqDiff] <;> rfl) (by simp only [ZB] <;> rfl) ?_
            simp only [ZB,insVc,pickK,iopK,iopV,ne_eq,Nat.reduceEqDiff,reduceCtorEq,Zag,g0,g3,g42,g43,g44,hw1]
            exact ⟨l.length - (i + 1),by omega,i + 1,by omega,rfl,by simp [hth1,hT],rfl,hm01,hc⟩
      | false =>
        have hc : clash x (l.take (i + 1)) = false:=by rw [hcl1,hE]; rfl
        cases hT : there x (l.take i) with
        | true =>
          rw [hT] at g5
          simp only [ZB,insVc,pickK,load1K,loadNK,storeNK,setMany,iopK,iopV,sopK,sopV,faddrK,iaddrK,isPlain,Value.cells,ne_eq,Nat.reduceEqDiff,Nat.reduceAdd,Nat.reduceLeDiff,reduceCtorEq,Za,Zah,Zak,Zai,Zaj,Zal,Zam,Zan,Zac,Zag,Zax,Zas,Zat,Zau,Zbe,Zao,get_alloc,Zaq,Nat.reduceAdd,Nat.reduceEqDiff,g0,g3,g5,g42,g43,g44,d1,hi0',hbu,hsz,hex,Bi.cells,hxu',hE,hw1]
          rw [← hu1]
          exact ⟨l.length - (i + 1),by omega,i + 1,by omega,rfl,by simp [hth1,hT],rfl,hm01,hc⟩
        | false =>
          rw [hT] at g5
          simp only [ZB,insVc,pickK,load1K,loadNK,storeNK,setMany,iopK,iopV,sopK,sopV,faddrK,iaddrK,isPlain,Value.cells,ne_eq,Nat.reduceEqDiff,Nat.reduceAdd,Nat.reduceLeDiff,reduceCtorEq,Za,Zah,Zak,Zai,Zaj,Zal,Zam,Zan,Zac,Zag,Zax,Zb,Zaz,Zav,Zar,Zay,Zaw,Zas,Zat,Zau,Zbe,Zao,get_alloc,Zaq,Nat.reduceAdd,Nat.reduceEqDiff,g3,g5,g42,g43,g44,d1,hi0',hbu,hsz,hex,Bi.cells,hxu',hE]
          rw [← hu1]
          refine rawK_eql_bi x q rfl rfl rfl (by simp only [ZB,ne_eq,Nat.reduceEqDiff] <;> rfl) (by simp only [ZB] <;> rfl) ?_
          simp only [ZB,insVc,pickK,iopK,iopV,ne_eq,Nat.reduceEqDiff,reduceCtorEq,Zag,g0,g3,g42,g43,g44,hw1]
          exact ⟨l.length - (i + 1),by omega,i + 1,by omega,rfl,by simp [hth1,hT],rfl,hm01,hc⟩
    · have d1 : ¬ (i : Int) < ((l.length : Nat) : Int):=by omega
      have hie : i = l.length:=by omega
      rw [hie,List.take_length] at hcl g5
      simp only [ZB,insVc,iopK,iopV,reduceCtorEq,g43,g44,d1]
      exact h hcl u _ hmu g0 g3 g5
end Go.Oct
namespace Go.Oct
open Go Go.Vc Go.VrA Go.VrF
set_option maxRecDepth 100000
theorem bbindEnd (bk : Nat) (B : Bk) (x : Bi) (xb : Nat) (w : World) (K : Value→World→Prop) (ρ : Env) (hb : BookAt w bk B) (hl : B.bs.length < 2 ^ 20) (hbk : bk < xb)
    (hq : w.heap[xb]? = some (.cells x.cells.toArray 64 (0,0))) (h0 : ρ 0 = ptr bk) (h3 : ρ 3 = ptr xb)
    (h : ∀ w',Mod (fun k=>k = bk) w w'→BookAt w' bk { B with bs:=B.bs ++ [x] }→K (.int .i64 0) w') :
    vc Proofs.Tryz.prog none 98 c73e (endQ Proofs.Tryz.prog [RV.tmp 4] K) ρ [] w:=by
  obtain ⟨vq,vb,vc,h1,h2,hb3,hb4⟩:=hb
  obtain ⟨a,cp,rfl,ha0,hnc⟩:=map_add0 hb3
  unfold Bi.cells at hq
  unfold c73e
  simp only [ZB,subC,c73]
  refine draw_z' (Mod (fun _=>False) w) (by kernel_rfl) (by kernel_rfl) (by kernel_rfl) (by kernel_rfl) (by kernel_rfl) (by kernel_rfl) rfl (Mod.refl _ _).drew ?_
  simp only [ZB,List.dropLast,endK,resK,packed,insVc,storeK,nilK,nilM,faddrK,lenLK,fillL,buildSK,Value.cells,ne_eq,Nat.reduceEqDiff,Nat.reduceAdd,Nat.reduceLeDiff,reduceCtorEq,Zak,Zai,Zaj,Zaa,Zac,Zag,pureI,stepD_pure,stepD_load,stepD_step,loadI,vcF_nil,vcF_cons,kindF,lookI,sliceI,Bool.or_false,Bool.or_true,h0]
  refine loadD1 (b:=bk) (o:=1) (v:=.slice a B.bs.length cp) rfl (fun W hW=>⟨_,_,_,hW.keep h1 id,rfl⟩) ?_
  refine loadD1 (b:=bk) (o:=1) (v:=.slice a B.bs.length cp) rfl (fun W hW=>⟨_,_,_,hW.keep h1 id,rfl⟩) ?_
  refine loadD1 (b:=bk) (o:=1) (v:=.slice a B.bs.length cp) rfl (fun W hW=>⟨_,_,_,hW.keep h1 id,rfl⟩) ?_
  refine slice3D (e:=64) (sz:=4) (kh:=.i64) (km:=.i64) rfl rfl rfl rfl (by kernel_rfl) (by kernel_rfl) (by simp only [ZB,ne_eq,Nat.reduceEqDiff]) (by simp only [ZB,ne_eq,Nat.reduceEqDiff]) (by simp only [ZB]) hnc ha0 ?_
  refine loadDN (b:=xb) (o:=0) (v:=.agg #[.string x.ex,.int .i64 x.kind,.string x.key,.string x.q]) (by simp only [ZB,ne_eq,Nat.reduceEqDiff,h3]) (fun W hW=>⟨_,_,_,hW.keep hq id,by simp,rfl⟩) ?_
  simp only [Nat.reduceAdd,Zak,Zai,Zaj,Zbc,Zbd,Zba,Zbb,Zal,Zam,Zan,Zac,Nat.zero_add]
  obtain ⟨w1,hw1⟩ : ∃ w1,w1 = w.drew.alloc (.cells #[.string x.ex,.int .i64 x.kind,.string x.key,.string x.q] 64):=⟨_,rfl⟩
  have hm1 : Mod (fun _=>False) w w1:=by rw [hw1]; exact (Mod.refl _ _).drew.alloc _
  have g1 : w1.heap[w.heap.size]? = some (.cells x.cells.toArray 64 (0,0)):=by rw [hw1]; exact get_alloc_new' _ _ _ rfl
  have hsrc : Src Proofs.Tryz.prog 4 70 (.slice (some ⟨w.heap.size,0,none⟩) 1 1) 1 x.cells w1:=by
    refine Src.ofSlice _ (e':=64) (by kernel_rfl) ⟨w.heap.size,0,none⟩ 1 1 _ (by simp [Bi.cells]) ?_ ?_
    · intro j u hj
      simp only [World.cell?,Addr.add_lit,Nat.zero_add,g1]
      simpa using hj
    · intro u hu
      simp only [Bi.cells,Zbu,Zbv,or_false] at hu
      rcases hu with rfl | rfl | rfl | rfl <;> rfl
  obtain ⟨i,hi,hi1,hi2⟩:=info_of info_bi
  obtain ⟨v',w2,hr,ho,hm2,hbl⟩:=run_append_capped (P:=Proofs.Tryz.prog) (bk + 1) 70 70 70 64 i _ 4 (by kernel_rfl) hi hi1 hi2.1 rfl (by decide) _ _ _ (own_mod hb3 hm1 (fun _ _=>id)) _ 1 _ hsrc (by decide) (by simp [maxLen]; omega) (by rw [hi2.2]; omega)
  have hm12:=hm1.trans hm2
  have hz:=hm1.size
  have hqz:=lt_of_get hq
  rw [← hw1]
  refine ⟨hm1, ?_⟩
  refine rawK_append rfl rfl rfl (by simp only [ZB,ne_eq,Nat.reduceEqDiff]; exact hr) ?_
  refine ⟨hm12, ?_⟩
  have h1':=hm12.keep h1 id
  have hst : Mod (fun k=>k = bk) w2 (Vc.set w2 bk (.cells #[vq,v',vc] 73 (0,0))):=(Mod.refl _ _).set (.inr rfl)
  simp only [storeO_cells,isPlain,Nat.reduceAdd,Nat.reduceLT,Nat.reduceLeDiff,Zak,Zai,Zaj,Zal,Zam,Zan,true_and,Nat.zero_add,decide_true,decide_false,Bool.and_false,h1']
  refine ⟨own_plain ho, ?_⟩
  refine h _ ((hm12.mono fun _ _ x=>x.elim).trans hst) ⟨vq,v',vc,get_set_same _ _ _ (lt_of_get h1'), ?_, ?_, ?_⟩
  · exact own_mod (own_mod h2 hm12 (fun _ _=>id)) hst (fun k hk x=>by have:=(World.ownsRow.lt h2 k hk).1; omega)
  · have ho':=own_lo (lo':=bk + 1) (own_mod ho hst (fun k hk x=>by have:=(World.ownsRow.lt ho k hk).1; omega)) (by omega)
    simpa using ho'
  · exact own_mod (own_mod hb4 hm12 (fun _ _=>id)) hst (fun k hk x=>by have:=(World.ownsRow.lt hb4 k hk).1; omega)
theorem c73_s : c73 = .seq (subC c73 [0]) (.seq (subC c73 [1,0]) (.seq (subC c73 [1,1,0]) (.seq (subC c73 [1,1,1,0]) (.seq (subC c73 [1,1,1,1,0]) (.seq (subC c73 [1,1,1,1,1,0]) (.seq c73l c73k)))))):=rfl
theorem c73k_s : c73k = .seq (subC c73 [1,1,1,1,1,1,1,0]) (.seq (subC c73 [1,1,1,1,1,1,1,1,0]) (.seq (subC c73 [1,1,1,1,1,1,1,1,1,0]) c73e)):=rfl
theorem bbind_c (bk : Nat) (B : Bk) (x : Bi) (w : World) (K : Value→World→Prop) (hb : BookAt w bk B) (hl : B.qs.length < 2 ^ 20) (hl2 : B.bs.length < 2 ^ 20)
    (hx : x.ex.size < 2 ^ 19) (hx2 : x.key.size < 2 ^ 19) (hx3 : x.q.size < 2 ^ 19)
    (h : ∀ w',Mod (fun k=>k = bk) w w'→BookAt w' bk (B.bind x).2→K (.int .i64 (B.bind x).1) w') :
    Ok Proofs.Tryz.prog 73 #[ptr bk,x.val] w K:=by
  have hbk : bk < w.heap.size:=by obtain ⟨_,_,_,h1,_⟩:=hb; exact lt_of_get h1
  have stay : ∀ e : Int,B.bind x = (e,B)→∀ w2,Mod (fun _=>False) w w2→K (.int .i64 e) w2:=by
    intro e he w2 hm2
    rw [he] at h
    exact h w2 (hm2.mono fun _ _ x=>x.elim) (hb.keep hm2)
  refine F73.enter (args:=[ptr bk,x.val]) (by simp) ?_
  rw [c73_s]
  unfold r73
  simp only [ZB,subC,c73,insVc,load1K,faddrK,Value.cells,ne_eq,Nat.reduceEqDiff,Zab,Zad,Zae,Za,Zaf,Zah,Zbg,Bi.val,Bi.cells]
  refine callK_gen ?_
  intro w0 hw0
  have hm0 : Mod (fun _=>False) w w0:=by rw [hw0]; exact (Mod.refl _ _).alloc _
  have hb0 : w0.heap[w.heap.size]? = some (.cells #[.string x.ex,.int .i64 x.kind,.string x.key,.string x.q] 64 (0,0)):=by rw [hw0]; exact get_alloc_new _ _
  clear hw0
  refine rname_c x.ex (by omega) w0 _ ?_
  intro w1 hm1
  have hb1:=hm1.keep hb0 id
  have hm01:=hm0.trans hm1
  cases hn1 : nameB x.ex with
  | false =>
    simp only [ZB,endK,resK,packed,insVc,pickK,notK,ne_eq,Nat.reduceEqDiff,Zaa,Zac]
    exact stay 23 (by unfold Bk.bind; rw [if_pos (.inl hn1)]) w1 hm01
  | true =>
  simp only [ZB,insVc,load1K,notK,faddrK,ne_eq,Nat.reduceEqDiff,Zad,Zae,Za,Zaf,Zah,hb1]
  refine rname_c x.q (by omega) w1 _ ?_
  intro w2 hm2
  have hb2:=hm2.keep hb1 id
  have hm02:=hm01.trans hm2
  cases hn2 : nameB x.q with
  | false =>
    simp only [ZB,endK,resK,packed,insVc,pickK,notK,ne_eq,Nat.reduceEqDiff,Zaa,Zag]
    exact stay 23 (by unfold Bk.bind; rw [if_pos (.inr hn2)]) w2 hm02
  | true =>
  have q1 : ¬ (nameB x.ex = false∨nameB x.q = false):=by rw [hn1,hn2]; simp
  by_cases k1 : x.kind < 1
  · simp only [ZB,endK,resK,packed,insVc,pickK,load1K,iopK,iopV,notK,faddrK,ne_eq,Nat.reduceEqDiff,reduceCtorEq,Za,Zaf,Zah,Zaa,Zac,Zag,hb2,k1]
    exact stay 11 (by unfold Bk.bind; rw [if_neg q1,if_pos (.inl k1)]) w2 hm02
  by_cases k2 : x.kind > 3
  · simp only [ZB,endK,resK,packed,insVc,pickK,load1K,iopK,iopV,notK,faddrK,ne_eq,Nat.reduceEqDiff,reduceCtorEq,Za,Zaf,Zah,Zaa,Zag,hb2,k1,k2]
    exact stay 11 (by unfold Bk.bind; rw [if_neg q1,if_pos (.inr k2)]) w2 hm02
  have q2 : ¬ (x.kind < 1∨3 < x.kind):=by omega
  simp only [ZB,insVc,pickK,load1K,iopK,iopV,notK,faddrK,ne_eq,Nat.reduceEqDiff,reduceCtorEq,Zad,Zae,Za,Zaf,Zah,Zag,hb2,k1,k2]
  refine rright_c x.kind x.key hx2 w2 _ ?_
  intro w3 hm3
  have hb3:=hm3.keep hb2 id
  have hm03:=hm02.trans hm3
  cases hr : rightB x.kind x.key with
  | false =>
    simp only [ZB,endK,resK,packed,insVc,notK,Zaa]
    exact stay 24 (by unfold Bk.bind; rw [if_neg q1,if_neg q2,if_pos hr]) w3 hm03
  | true =>
  have q3 : ¬ (rightB x.kind x.key = false):=by rw [hr]; simp
  simp only [ZB,insVc,load1K,notK,faddrK,ne_eq,Nat.reduceEqDiff,reduceCtorEq,Zab,Zad,Zae,Za,Zaf,Zah,hb3]
  refine bfind_c bk B x.q w3 _ (hb.keep hm03) hl ?_
  intro w4 hm4
  have hb4:=hm4.keep hb3 id
  have hm04:=hm03.trans hm4
  by_cases hf : bfind x.q B.qs 0 < 0
  · simp only [ZB,endK,resK,packed,insVc,iopK,iopV,reduceCtorEq,Zaa,hf]
    exact stay 21 (by unfold Bk.bind; rw [if_neg q1,if_neg q2,if_neg q3,if_pos hf]) w4 hm04
  have hun : B.bind x = if clash x B.bs = true then (11,B) else if (bindK x).2≠0 then ((bindK x).2,B) else if there x B.bs = true then (22,B) else (0,{ B with bs:=B.bs ++ [x] }):=by
    unfold Bk.bind
    rw [if_neg q1,if_neg q2,if_neg q3,if_neg hf]; rfl
  simp only [ZB,insVc,iopK,iopV,reduceCtorEq,hf]
  have hB4:=hb.keep hm04
  obtain ⟨vq,vb,vx,h1,h2,h3,h4⟩:=id hB4
  obtain ⟨a,cp,rfl,_,_⟩:=map_add0 h3
  refine bind_loop bk w.heap.size B.bs x a cp vq vx w4 _ _ h1 (isT_own (s:=4) (fun _=>rfl) (by decide) h3) hl2 (by simp only [ZB,ne_eq,reduceCtorEq,Zab,Za]) (by simp only [ZB,ne_eq,Nat.reduceEqDiff]) hb4 (by simp only [ZB]) ?_ ?_
  · intro hc w5 ρ5 hm5 r4
    simp only [ZB,endK,resK,packed,Zaa,r4]
    exact stay 11 (by rw [hun,if_pos hc]) w5 (hm04.trans hm5)
  intro hc w5 ρ5 hm5 r0 r3 r5
  have hb5:=hm5.keep hb4 id
  have hm05:=hm04.trans hm5
  have q5 : ¬ clash x B.bs = true:=by rw [hc]; simp
  simp only [ZB]
  rw [c73k_s]
  simp only [ZB,subC,c73,insVc,loadNK,buildK,fillL,Value.cells,Nat.reduceAdd,Nat.reduceLeDiff,Zad,Zae,Zak,Zai,Zaj,Zbc,Zbd,Zba,Zbb,Zal,Zam,Zan,Zbf,Zac,Zb,Zaz,Zav,Zar,Zay,Zaw,r3,hb5]
  refine rkey_b x w5 _ ⟨by omega,by omega,by omega⟩ ?_
  intro w6 hm6
  have hb6:=hm6.keep hb5 id
  have hm06:=hm05.trans hm6
  simp only [ZB,insVc,iopK,iopV,extK,ne_eq,Nat.reduceEqDiff,reduceCtorEq,Za,Zaf,Zah]
  by_cases he : (bindK x).2 = 0
  · have q6 : ((bindK x).2 != 0) = false:=by simpa using he
    simp only [ZB,insVc,ne_eq,Nat.reduceEqDiff,q6,r5]
    cases hT : there x B.bs with
    | true =>
      simp only [ZB,endK,resK,packed,insVc,Zaa]
      exact stay 22 (by rw [hun,if_neg q5,if_neg (by simpa using he),if_pos hT]) w6 hm06
    | false =>
      simp only [ZB]
      rw [hun,if_neg q5,if_neg (by simpa using he),if_neg (by rw [hT]; simp)] at h
      refine bbindEnd bk B x w.heap.size w6 K _ (hb.keep hm06) hl2 hbk hb6 (by simp only [ZB,ne_eq,reduceCtorEq,r0]) (by simp only [ZB,ne_eq,Nat.reduceEqDiff,r3]) ?_
      intro w7 hm7 hb7
      exact h w7 ((hm06.mono fun _ _ x=>x.elim).trans hm7) hb7
  · have q6 : ((bindK x).2 != 0) = true:=by simpa using he
    simp only [ZB,endK,resK,packed,insVc,ne_eq,Nat.reduceEqDiff,Zaa,q6]
    exact stay (bindK x).2 (by rw [hun,if_neg q5,if_pos (by simpa using he)]) w6 hm06
end Go.Oct
namespace Go.Oct
open Go Go.Vc Go.VrA Go.VrF
set_option maxRecDepth 100000
theorem fitL_snoc (ex key : ByteArray) (l : List Bi) (q : Bi) (P : List (List UInt8)) : fitL ex key (l ++ [q]) P = if (q.ex.toList == ex.toList) = true∧fitsB q.kind q.key key = true then wgo q.q.data.toList false (fitL ex key l P) else fitL ex key l P:=by
  unfold fitL
  rw [List.foldl_append]; rfl
theorem fitL_len (ex key : ByteArray) (l : List Bi) : (fitL ex key l []).length≤l.length:=by
  suffices h : ∀ (l : List Bi) (P : List (List UInt8)),Rise P→(fitL ex key l P).length≤P.length + l.length by simpa using h l [] List.Pairwise.nil
  intro l
  induction l with
  | nil=>intro P _; exact Nat.le_refl _
  | cons x l ih =>
    intro P hP
    have e : fitL ex key (x :: l) P = fitL ex key l (if (x.ex.toList == ex.toList) = true∧fitsB x.kind x.key key = true then wgo x.q.data.toList false P else P):=rfl
    rw [e]
    split
    · rw [wgo_rise _ _ hP]
      have:=ih _ (insL_rise (x:=x.q.data.toList) hP)
      have h2:=insL_len (x:=x.q.data.toList) (l:=P)
      rw [List.length_cons]; omega
    · have:=ih _ hP
      rw [List.length_cons]; omega
def exN (ex : ByteArray) (l : List Bi) : Nat:=(l.filter fun b=>b.ex.toList == ex.toList).length
theorem exN_snoc (ex : ByteArray) (l : List Bi) (q : Bi) : exN ex (l ++ [q]) = exN ex l + (if (q.ex.toList == ex.toList) = true then 1 else 0):=by
  unfold exN
  rw [List.filter_append,List.length_append]
  congr 1
  cases h : (q.ex.toList == ex.toList) <;> simp [h]
theorem exN_le (ex : ByteArray) (l : List Bi) : exN ex l≤l.length:=List.length_filter_le _ _
noncomputable def c76l : CC:=subC c76 [1,1,1,1,1,1,0]
noncomputable def c76e : CC:=subC c76 [1,1,1,1,1,1,1]
theorem route_loop (bk : Nat) (l : List Bi) (ex key : ByteArray) (a : Option Addr) (cp : Nat) (vb vx : Value) (w : World) (Q : QT) (ρ0 : Env) (hb : w.heap[bk]? = some (.cells #[vb,.slice a l.length cp,vx] 73 (0,0))) (ht : IsT Bi.cells 4 w (.slice a l.length cp) l) (hl : l.length < 2 ^ 17)
    (hk : key.size < 2 ^ 19) (hkl : ∀ b ∈ l,b.key.size < 2 ^ 19)
    (h0 : ρ0 0 = ptr bk) (h1 : ρ0 1 = .string ex) (h2 : ρ0 2 = .string key) (h8 : ρ0 8 = .slice none 0 0) (h9 : ρ0 9 = .int .i64 0)
    (h : ∀ w' ρ' v,Mod (fun _=>False) w w'→ρ' 8 = v→IsSl w' v (stV (fitL ex key l []))→ρ' 9 = .int .i64 (exN ex l)→Q .normal ρ' [] w') :
    vc Proofs.Tryz.prog none 55 c76l Q ρ0 [] w:=by
  have hat:=ht.2
  unfold c76l
  simp only [ZB,subC,c76,insVc,load1K,nilK,faddrK,lenLK,Za,Zaf,Zah,h0,hb]
  refine vc_loop (fun mm ρ ds u => ∃ i v,i≤l.length∧mm = l.length - i∧ds = []∧ρ 1 = .string ex∧ρ 2 = .string key∧ρ 8 = v∧ρ 9 = .int .i64 (exN ex (l.take i))∧ρ 29 = .slice a l.length cp∧ρ 30 = .int .i64 l.length∧ρ 31 = .int .i64 i ∧
    Mod (fun _=>False) w u∧IsSl u v (stV (fitL ex key (l.take i) []))) (l.length - 0) ?_ ?_
  · refine ⟨0,.slice none 0 0,Nat.zero_le _,rfl,rfl,by simp only [ZB,ne_eq,Nat.reduceEqDiff,h1],by simp only [ZB,ne_eq,Nat.reduceEqDiff,h2],by simp only [ZB,ne_eq,Nat.reduceEqDiff,h8],by simp only [ZB,ne_eq,Nat.reduceEqDiff,Zar,h9]; rfl,by simp only [ZB,ne_eq,Nat.reduceEqDiff],by simp only [ZB,ne_eq,Nat.reduceEqDiff],by simp only [ZB] <;> rfl,Mod.refl _ _, ?_⟩
    exact IsSl.own (World.ownsRow_nil _ 0 9 1)
  · rintro mm ρ ds u ⟨i,v,hi,rfl,rfl,g1,g2,g8,g9,g29,g30,g31,hmu,hsl⟩
    have hNl:=exN_le ex (l.take i)
    have hPl:=fitL_len ex key (l.take i)
    rw [List.length_take] at hNl hPl
    by_cases c1 : i < l.length
    · have d1 : (i : Int) < ((l.length : Nat) : Int):=by omega
      obtain ⟨q,hqi⟩ : ∃ q,l[i]? = some q:=⟨l[i],List.getElem?_eq_getElem c1⟩
      obtain ⟨b,o,c,cur,t,f,he,hbh,hsz,hex⟩:=hat i q hqi
      have ha' : a = some ⟨b,o,none⟩:=by simpa using congrArg (fun x=>match x with | .slice a _ _=>a | _=>none) he
      subst ha'
      have hbu:=hmu.keep hbh id
      have hi0' : (0 : Int)≤(i : Int)∧(i : Int) < ((l.length : Nat) : Int):=by omega
      have hw1 : IntKind.i64.wrap ((i : Int) + 1) = ((i + 1 : Nat) : Int):=by rw [wrap_i64 _ (by omega)]; omega
      have hw2 : IntKind.i64.wrap (((exN ex (l.take i) : Nat) : Int) + 1) = ((exN ex (l.take i) + 1 : Nat) : Int):=by rw [wrap_i64 _ (by omega)]; omega
      have htk : l.take (i + 1) = l.take i ++ [q]:=by rw [List.take_add_one,hqi]; rfl
      have hf1:=fitL_snoc ex key (l.take i) q []
      have hn1:=exN_snoc ex (l.take i) q
      rw [← htk] at hf1 hn1
      have hqk:=hkl q (List.mem_of_getElem? hqi)
      rw [Nat.add_assoc] at hsz hex
      have hms:=hmu.size
      obtain ⟨u1,hu1⟩ : ∃ u1,u1 = Vc.set (u.alloc (.cells #[.string ⟨#[]⟩,.int .i64 0,.string ⟨#[]⟩,.string ⟨#[]⟩] 64)) u.heap.size (.cells #[.string q.ex,.int .i64 q.kind,.string q.key,.string q.q] 64):=⟨_,rfl⟩
      have hmu1 : Mod (fun _=>False) u u1:=by rw [hu1]; exact ((Mod.refl _ _).alloc _).set (.inl (Nat.le_refl _))
      have pu1 : u1.heap[u.heap.size]? = some (.cells #[.string q.ex,.int .i64 q.kind,.string q.key,.string q.q] 64 (0,0)):=by rw [hu1]; exact get_set_same _ _ _ (by simp only [size_alloc]; omega)
      have hm01:=hmu.trans hmu1
      cases hE : (q.ex.toList == ex.toList) with
      | false =>
        rw [hE,if_neg (by simp)] at hf1
        rw [hE,if_neg (by simp)] at hn1
        simp only [ZB,insVc,load1K,loadNK,storeNK,setMany,iopK,iopV,sopK,sopV,faddrK,iaddrK,isPlain,Value.cells,ne_eq,Nat.reduceEqDiff,Nat.reduceAdd,Nat.reduceLeDiff,reduceCtorEq,Za,Zah,Zak,Zai,Zaj,Zal,Zam,Zan,Zac,Zax,Zas,Zat,Zau,Zbe,Zao,get_alloc,Zaq,Nat.reduceAdd,Nat.reduceEqDiff,g1,g2,g8,g9,g29,g30,g31,d1,hi0',hbu,hsz,hex,Bi.cells,hE,hw1]
        rw [← hu1]
        exact ⟨l.length - (i + 1),by omega,i + 1,v,by omega,rfl,rfl,by rw [hn1]; rfl,rfl,hm01,by rw [hf1]; exact hsl.keep hmu1⟩
      | true =>
        rw [hE,if_pos rfl] at hn1
        simp only [ZB,insVc,load1K,loadNK,storeNK,setMany,iopK,iopV,sopK,sopV,faddrK,iaddrK,isPlain,Value.cells,ne_eq,Nat.reduceEqDiff,Nat.reduceAdd,Nat.reduceLeDiff,reduceCtorEq,Zad,Zae,Za,Zaf,Zah,Zak,Zai,Zaj,Zal,Zam,Zan,Zac,Zax,Zas,Zat,Zau,Zbe,Zao,get_alloc,Zaq,Nat.reduceAdd,Nat.reduceEqDiff,g1,g2,g9,g29,g30,g31,d1,hi0',hbu,hsz,hex,Bi.cells,hE,hw2]
        rw [← hu1]
        refine rfits_c q.kind q.key key hqk hk u1 _ ?_
        intro u2 hm2
        have pu2:=hm2.keep pu1 id
        have hm02:=hm01.trans hm2
        cases hF : fitsB q.kind q.key key with
        | false =>
          rw [hF,if_neg (by simp)] at hf1
          simp only [ZB,insVc,iopK,iopV,ne_eq,Nat.reduceEqDiff,reduceCtorEq,g1,g2,g8,g29,g30,g31,hw1]
          exact ⟨l.length - (i + 1),by omega,i + 1,v,by omega,rfl,rfl,by rw [hn1],rfl,hm02,by rw [hf1]; exact (hsl.keep hmu1).keep hm2⟩
        | true =>
          rw [hE,hF,if_pos ⟨rfl,rfl⟩] at hf1
          simp only [ZB,insVc,load1K,faddrK,ne_eq,Nat.reduceEqDiff,Zad,Zae,Za,Zaf,Zah,g8,pu2]
          refine rwith21_c (fitL ex key (l.take i) []) q.q v u2 _ ((hsl.keep hmu1).keep hm2) (by omega) ?_
          intro u3 v3 hm3 ho3
          simp only [ZB,insVc,iopK,iopV,ne_eq,Nat.reduceEqDiff,reduceCtorEq,g1,g2,g29,g30,g31,hw1]
          exact ⟨l.length - (i + 1),by omega,i + 1,v3,by omega,rfl,rfl,by rw [hn1],rfl,hm02.trans hm3,by rw [hf1]; exact IsSl.own (by rw [stV_len]; exact ho3)⟩
    · have d1 : ¬ (i : Int) < ((l.length : Nat) : Int):=by omega
      have hie : i = l.length:=by omega
      rw [hie,List.take_length] at hsl g9
      simp only [ZB,insVc,iopK,iopV,reduceCtorEq,g30,g31,d1]
      exact h u _ v hmu g8 hsl g9
end Go.Oct
namespace Go.Oct
open Go Go.Vc Go.VrA Go.VrF
set_option maxRecDepth 100000
theorem c76_s : c76 = .seq (subC c76 [0]) (.seq (subC c76 [1,0]) (.seq (subC c76 [1,1,0]) (.seq (subC c76 [1,1,1,0]) (.seq (subC c76 [1,1,1,1,0]) (.seq (subC c76 [1,1,1,1,1,0]) (.seq c76l c76e)))))):=rfl
theorem broute_c (bk : Nat) (B : Bk) (ex key : ByteArray) (w : World) (K : Value→World→Prop) (hb : BookAt w bk B) (hl : B.qs.length < 2 ^ 20) (hl2 : B.bs.length < 2 ^ 17)
    (hx : ex.size < 2 ^ 19) (hk : key.size < 2 ^ 19) (hkl : ∀ b ∈ B.bs,b.key.size < 2 ^ 19)
    (h : ∀ w' v,Mod (fun _=>False) w w'→IsSl w' v (stV (B.route ex key).1)→K (.tuple #[v,.int .i64 (B.route ex key).2]) w') :
    Ok Proofs.Tryz.prog 76 #[ptr bk,.string ex,.string key] w K:=by
  refine F76.enter (args:=[ptr bk,.string ex,.string key]) (by simp) ?_
  rw [c76_s]
  unfold r76
  have nil : ∀ e : Int,B.route ex key = ([],e)→∀ w2,Mod (fun _=>False) w w2→K (.tuple #[.slice none 0 0,.int .i64 e]) w2:=by
    intro e he w2 hm2
    rw [he] at h
    exact h w2 _ hm2 (IsSl.nil w2)
  cases hE : emptyB ex with
  | true =>
    have hE' : (ex.toList == (⟨#[]⟩ : ByteArray).toList) = true:=hE
    simp only [ZB,subC,c76,insVc,sopK,sopV,ne_eq,Nat.reduceEqDiff,reduceCtorEq,Zab,Zad,Zae,Za,Zaf,hE']
    refine bfind_c bk B key w _ hb hl ?_
    intro w1 hm1
    by_cases hf : bfind key B.qs 0 < 0
    · simp only [ZB,endK,resK,packed,insVc,iopK,iopV,ne_eq,Nat.reduceEqDiff,reduceCtorEq,Zaa,Zap,hf]
      exact nil 21 (by unfold Bk.route; rw [if_pos hE,if_pos hf]) w1 hm1
    · simp only [ZB,endK,resK,packed,insVc,iopK,iopV,fillL,buildSK,Value.cells,ne_eq,Nat.reduceEqDiff,Nat.reduceLeDiff,reduceCtorEq,Zab,Za,Zaf,Zak,Zai,Zaj,Zbc,Zbd,Zba,Zbb,Zal,Zam,Zaa,Zap,Zbf,Zac,hf]
      have he : B.route ex key = ([key.data.toList],0):=by unfold Bk.route; rw [if_pos hE,if_neg hf]
      rw [he] at h
      refine h _ _ (hm1.alloc _) ⟨⟨_,_,rfl⟩, ?_⟩
      intro i x hi
      have hk' : (⟨key.data.toList.toArray⟩ : ByteArray) = key:=by cases key; simp
      match i,hi with
      | 0,hi =>
        have hi : some (Value.string ⟨key.data.toList.toArray⟩) = some x:=hi
        rw [hk'] at hi
        exact ⟨_,_,_,_,_,_,rfl,get_alloc_new _ _,by rw [← hi]; rfl⟩
      | i + 1,hi=>simp [stV] at hi
  | false =>
  have hE' : (ex.toList == (⟨#[]⟩ : ByteArray).toList) = false:=hE
  simp only [ZB,subC,c76,insVc,sopK,sopV,ne_eq,Nat.reduceEqDiff,Zab,Zad,Zae,Za,Zaf,hE']
  refine rname_c ex (by omega) w _ ?_
  intro w1 hm1
  have q0 : ¬ (emptyB ex = true):=by rw [hE]; simp
  cases hn : nameB ex with
  | false =>
    simp only [ZB,endK,resK,packed,insVc,notK,ne_eq,Nat.reduceEqDiff,Zaa,Zap]
    exact nil 23 (by unfold Bk.route; rw [if_neg q0,if_pos hn]) w1 hm1
  | true =>
  have q1 : ¬ (nameB ex = false):=by rw [hn]; simp
  simp only [ZB,insVc,notK,ne_eq,Nat.reduceEqDiff,Zab,Zad,Zae,Za,Zaf]
  refine rkey20_c key hk w1 _ ?_
  intro w2 hm2
  have hm02:=hm1.trans hm2
  cases hw : keyW key with
  | false =>
    simp only [ZB,endK,resK,packed,insVc,notK,ne_eq,Nat.reduceEqDiff,Zaa,Zap]
    exact nil 4 (by unfold Bk.route; rw [if_neg q0,if_neg q1,if_pos hw]) w2 hm02
  | true =>
  have q2 : ¬ (keyW key = false):=by rw [hw]; simp
  simp only [ZB,insVc,notK]
  have hB2:=hb.keep hm02
  obtain ⟨vq,vb,vx,h1,h2,h3,h4⟩:=id hB2
  obtain ⟨a,cp,rfl,_,_⟩:=map_add0 h3
  refine route_loop bk B.bs ex key a cp vq vx w2 _ _ h1 (isT_own (s:=4) (fun _=>rfl) (by decide) h3) hl2 hk hkl (by simp only [ZB,ne_eq,reduceCtorEq,Zab,Za]) (by simp only [ZB,ne_eq,Nat.reduceEqDiff,Zab,Za,Zaf]) (by simp only [ZB,ne_eq,Nat.reduceEqDiff,Zab,Za,Zaf]) (by simp only [ZB,ne_eq,Nat.reduceEqDiff]) (by simp only [ZB]) ?_
  intro w3 ρ3 v hm3 r8 hsl r9
  have hm03:=hm02.trans hm3
  have hun : B.route ex key = if exN ex B.bs = 0 then ([],21) else (fitL ex key B.bs [],0):=by
    unfold Bk.route
    rw [if_neg q0,if_neg q1,if_neg q2]; rfl
  simp only [ZB]
  unfold c76e
  simp only [ZB,subC,c76,insVc,iopK,iopV,reduceCtorEq,r9]
  by_cases hz : exN ex B.bs = 0
  · have z0 : (((exN ex B.bs : Nat) : Int) == 0) = true:=by rw [hz]; rfl
    simp only [ZB,endK,resK,packed,insVc,ne_eq,Nat.reduceEqDiff,Zaa,Zap,z0]
    exact nil 21 (by rw [hun,if_pos hz]) w3 hm03
  · have z0 : (((exN ex B.bs : Nat) : Int) == 0) = false:=by rw [beq_eq_false_iff_ne]; omega
    rw [hun,if_neg hz] at h
    simp only [ZB,endK,resK,packed,insVc,ne_eq,Nat.reduceEqDiff,Zaa,Zap,z0,r8]
    exact h w3 v hm03 hsl
noncomputable def c78l : CC:=subC c78 [1,1,1,1,1,0]
noncomputable def c78e : CC:=subC c78 [1,1,1,1,1,1]
theorem c78_s : c78 = .seq (subC c78 [0]) (.seq (subC c78 [1,0]) (.seq (subC c78 [1,1,0]) (.seq (subC c78 [1,1,1,0]) (.seq (subC c78 [1,1,1,1,0]) (.seq c78l c78e))))):=rfl
theorem nOf_snoc (name : ByteArray) (l : List Ct) (c : Ct) : nOf name (l ++ [c]) = if (c.name.toList == name.toList) = true then c.n else nOf name l:=by unfold nOf; rw [List.foldl_append]; rfl
theorem nOf_lt (name : ByteArray) : ∀ (l : List Ct) (a : Nat),a < 2 ^ 64→(∀ c ∈ l,c.n < 2 ^ 64)→l.foldl (fun n c=>if (c.name.toList == name.toList) = true then c.n else n) a < 2 ^ 64:=by
  intro l
  induction l with
  | nil=>intro a h _; exact h
  | cons x l ih =>
    intro a h hc
    rw [List.foldl_cons]
    refine ih _ ?_ (fun c hc'=>hc c (by simp [hc']))
    split
    · exact hc x (by simp)
    · exact h
theorem next_loop (bk : Nat) (l : List Ct) (name : ByteArray) (a : Option Addr) (cp : Nat) (vb vx : Value) (w : World) (Q : QT) (ρ0 : Env) (hb : w.heap[bk]? = some (.cells #[vb,vx,.slice a l.length cp] 73 (0,0))) (ht : IsT Ct.cells 2 w (.slice a l.length cp) l) (hl : l.length < 2 ^ 20)
    (h0 : ρ0 0 = ptr bk) (h1 : ρ0 1 = .string name) (h8 : ρ0 8 = .int .u64 0) (h9 : ρ0 9 = .slice none 0 0)
    (h : ∀ w' ρ' v,Mod (fun _=>False) w w'→w'.ownsRow w.heap.size 242 2 v (otherC name l).length ((otherC name l).flatMap Ct.cells)→ρ' 0 = ptr bk→ρ' 1 = .string name→ρ' 8 = .int .u64 (nOf name l)→ρ' 9 = v→Q .normal ρ' [] w') :
    vc Proofs.Tryz.prog none 55 c78l Q ρ0 [] w:=by
  have hat:=ht.2
  unfold c78l
  simp only [ZB,subC,c78,insVc,load1K,nilK,faddrK,lenLK,Za,Zaf,Zah,h0,hb]
  refine vc_loop (fun mm ρ ds u => ∃ i v,i≤l.length∧mm = l.length - i∧ds = []∧ρ 0 = ptr bk∧ρ 1 = .string name∧ρ 8 = .int .u64 (nOf name (l.take i))∧ρ 9 = v∧ρ 24 = .slice a l.length cp∧ρ 25 = .int .i64 l.length∧ρ 26 = .int .i64 i ∧
    Mod (fun _=>False) w u∧u.ownsRow w.heap.size 242 2 v (otherC name (l.take i)).length ((otherC name (l.take i)).flatMap Ct.cells)) (l.length - 0) ?_ ?_
  · exact ⟨0,.slice none 0 0,Nat.zero_le _,rfl,rfl,by simp only [ZB,ne_eq,reduceCtorEq,h0],by simp only [ZB,ne_eq,Nat.reduceEqDiff,h1],by simp only [ZB,ne_eq,Nat.reduceEqDiff,Zar,h8]; rfl,by simp only [ZB,ne_eq,Nat.reduceEqDiff,h9],by simp only [ZB,ne_eq,Nat.reduceEqDiff],by simp only [ZB,ne_eq,Nat.reduceEqDiff],by simp only [ZB] <;> rfl,Mod.refl _ _,World.ownsRow_nil _ _ _ 2⟩
  · rintro mm ρ ds u ⟨i,v,hi,rfl,rfl,g0,g1,g8,g9,g24,g25,g26,hmu,hown⟩
    by_cases c1 : i < l.length
    · have d1 : (i : Int) < ((l.length : Nat) : Int):=by omega
      obtain ⟨q,hqi⟩ : ∃ q,l[i]? = some q:=⟨l[i],List.getElem?_eq_getElem c1⟩
      obtain ⟨b,o,c,cur,t,f,he,hbh,hsz,hex⟩:=hat i q hqi
      have ha' : a = some ⟨b,o,none⟩:=by simpa using congrArg (fun x=>match x with | .slice a _ _=>a | _=>none) he
      subst ha'
      have hbu:=hmu.keep hbh id
      have hi0' : (0 : Int)≤(i : Int)∧(i : Int) < ((l.length : Nat) : Int):=by omega
      have hw1 : IntKind.i64.wrap ((i : Int) + 1) = ((i + 1 : Nat) : Int):=by rw [wrap_i64 _ (by omega)]; omega
      have htk : l.take (i + 1) = l.take i ++ [q]:=by rw [List.take_add_one,hqi]; rfl
      have hkq : otherC name (l.take (i + 1)) = otherC name (l.take i) ++ otherC name [q]:=by rw [htk,otherC,List.filter_append]; rfl
      have hkl : (otherC name (l.take i)).length≤i:=Nat.le_trans (List.length_filter_le _ _) (by rw [List.length_take]; omega)
      have hn1:=nOf_snoc name (l.take i) q
      rw [← htk] at hn1
      rw [Nat.add_assoc] at hsz hex
      have hms:=hmu.size
      obtain ⟨u1,hu1⟩ : ∃ u1,u1 = Vc.set (u.alloc (.cells #[.string ⟨#[]⟩,.int .u64 0] 242)) u.heap.size (.cells #[.string q.name,.int .u64 q.n] 242):=⟨_,rfl⟩
      have hmu1 : Mod (fun _=>False) u u1:=by rw [hu1]; exact ((Mod.refl _ _).alloc _).set (.inl (Nat.le_refl _))
      have hms1:=hmu1.size
      cases hE : (q.name.toList == name.toList) with
      | true =>
        have hk1 : otherC name [q] = []:=by simp [otherC,hE]
        rw [hk1,List.append_nil] at hkq
        rw [hE,if_pos rfl] at hn1
        simp only [ZB,insVc,load1K,loadNK,storeNK,setMany,iopK,iopV,sopK,sopV,faddrK,iaddrK,isPlain,Value.cells,ne_eq,Nat.reduceEqDiff,Nat.reduceAdd,Nat.reduceLeDiff,reduceCtorEq,Za,Zaf,Zah,Zak,Zai,Zaj,Zal,Zam,Zan,Zac,Zax,Zas,Zat,Zau,Zbe,Zao,get_alloc,Zaq,Nat.reduceAdd,Nat.reduceEqDiff,g0,g1,g9,g24,g25,g26,d1,hi0',hbu,hsz,hex,Ct.cells,hE,hw1]
        rw [← hu1]
        exact ⟨l.length - (i + 1),by omega,i + 1,v,by omega,rfl,by rw [hn1],rfl,rfl,hmu.trans hmu1,by rw [hkq]; exact own_mod hown hmu1 (fun _ _=>id)⟩
      | false =>
        have hk1 : otherC name [q] = [q]:=by simp [otherC,hE]
        rw [hk1] at hkq
        rw [hE,if_neg (by simp)] at hn1
        obtain ⟨v5,u5,hr5,ho5,hm5,hb5⟩:=append_ct w.heap.size v (otherC name (l.take i)) q u1 (own_mod hown hmu1 (fun _ _=>id)) (by omega) (by omega) 71
        simp only [ZB,insVc,load1K,loadNK,storeNK,setMany,iopK,iopV,sopK,sopV,faddrK,iaddrK,fillL,buildSK,isPlain,Value.cells,ne_eq,Nat.reduceEqDiff,Nat.reduceAdd,Nat.reduceLeDiff,reduceCtorEq,Za,Zah,Zak,Zai,Zaj,Zbc,Zbd,Zba,Zbb,Zal,Zam,Zan,Zbf,Zac,Zax,Zb,Zaz,Zav,Zar,Zay,Zaw,Zas,Zat,Zau,Zbe,Zao,get_alloc,Zaq,Nat.reduceAdd,Nat.reduceEqDiff,g1,g9,g24,g25,g26,d1,hi0',hbu,hsz,hex,Ct.cells,hE]
        rw [← hu1]
        have hz1 : u1.heap.size = u.heap.size + 1:=by rw [hu1]; simp only [size_set,size_alloc,size_alloc,size_set]
        rw [hz1] at hr5
        refine rawK_append rfl rfl rfl (by first | exact hr5 | (simp only [ZB,blockQ_exit,endK,resK,resN,res1,resO_cells,packed,insVc,pickK,load1K,loadV_none,loadNK,storeK,storeNK,setMany,nilK,nilM,iopK,iopV,sopK,sopV,bopK,nilOf,pnilK,notK,convK,sameK,faddrK,fld1K,fldNK,iaddrK,iaddrAK,sidxK,extK,lenSK,lenLK,callvK,invK,buildK,fillL,buildSK,boundOf,slSK,slLK,slAK,isPlain,Value.cells,ne_eq,not_true_eq_false,Nat.reduceEqDiff,Nat.reduceAdd,Nat.reduceLT,Nat.reduceLeDiff,reduceCtorEq,Zbk,Zbn,Zab,Zbz,Zad,Zae,Za,Zaf,Zc,Zah,Zak,Zai,Zaj,Zbc,Zbd,Zba,Zbb,Zal,Zam,Zan,List.append_eq,Zaa,Zap,Zbr,Zbf,or_true,Zac,Zag,Zca,Zcb,Zbq,Zbx,Int.reduceLT,Int.reduceLE,Int.reduceToNat,Zax,Int.reduceAdd,Int.reduceSub,Int.reduceMul,Int.reduceNeg,Int.reduceEq,Int.reduceNe,Int.reduceBEq,Int.reduceBNe,Zbh,Zb,Zaz,Zav,Zbt,Zar,Zay,Zaw,Zbw,Zcc,vcS_nil,vcS_cons,vcS_gate,gateS_true,gateS_false,stepB_true,stepB_false,pureI,Zbp,Zbs,Nat.reduceMul,Nat.reduceSub,Zas,Zat,Zau,Zbg,Zbe,Zao,vcD_nil,vcD_cons,vcD_gate,gateD_true,gateD_false,stepD_pure,stepD_load,stepD_step,kindI,loadI,g9]; exact hr5)) ?_
        have hob : ∀ k,v.ownBlock = some k→w.heap.size≤k:=fun k hk=>(World.ownsRow.lt hown k hk).1
        simp only [ZB,insVc,iopK,iopV,ne_eq,Nat.reduceEqDiff,reduceCtorEq,g0,g1,g8,g24,g25,g26,hw1]
        exact ⟨l.length - (i + 1),by omega,i + 1,v5,by omega,rfl,by rw [hn1],rfl,rfl,(hmu.trans hmu1).then hm5 (fun k hk x=>by have:=hob k x; omega),by rw [hkq]; exact ho5⟩
    · have d1 : ¬ (i : Int) < ((l.length : Nat) : Int):=by omega
      have hie : i = l.length:=by omega
      rw [hie,List.take_length] at hown g8
      simp only [ZB,insVc,iopK,iopV,reduceCtorEq,g25,g26,d1]
      exact h u _ v hmu hown g0 g1 g8 g9
theorem bnext_c (bk : Nat) (B : Bk) (name : ByteArray) (w : World) (K : Value→World→Prop) (hb : BookAt w bk B) (hl : B.cs.length < 2 ^ 19) (hn : name.size < 4294967281) (hcn : ∀ c ∈ B.cs,c.n < 2 ^ 64)
    (h : ∀ w',Mod (fun k=>k = bk) w w'→BookAt w' bk (B.next name).2→K (.tuple #[.int .u64 ((B.next name).1.1 : Nat),.int .i64 (B.next name).1.2]) w') :
    Ok Proofs.Tryz.prog 78 #[ptr bk,.string name] w K:=by
  have hbk : bk < w.heap.size:=by obtain ⟨_,_,_,h1,_⟩:=hb; exact lt_of_get h1
  have stay : ∀ e : Int,B.next name = ((0,e),B)→∀ w2,Mod (fun _=>False) w w2→K (.tuple #[.int .u64 (0 : Nat),.int .i64 e]) w2:=by
    intro e he w2 hm2
    rw [he] at h
    exact h w2 (hm2.mono fun _ _ x=>x.elim) (hb.keep hm2)
  refine F78.enter (args:=[ptr bk,.string name]) (by simp) ?_
  rw [c78_s]
  unfold r78
  simp only [ZB,subC,c78,insVc,buildK,fillL,Value.cells,ne_eq,Nat.reduceEqDiff,Nat.reduceAdd,Nat.reduceLeDiff,Zab,Zad,Zae,Za,Zaf,Zak,Zai,Zaj,Zbc,Zbd,Zba,Zbb,Zal,Zam,Zan,Zbf,Zac]
  refine rkey_ct name w _ hn ?_
  intro w1 hm1
  simp only [ZB,insVc,iopK,iopV,extK,ne_eq,Nat.reduceEqDiff,reduceCtorEq,Za,Zaf,Zah]
  by_cases he : (counterK name).2 = 0
  rotate_left
  · have q6 : ((counterK name).2 != 0) = true:=by simpa using he
    simp only [ZB,endK,resK,packed,insVc,ne_eq,Nat.reduceEqDiff,Zaa,Zap,q6]
    exact stay (counterK name).2 (by unfold Bk.next; rw [if_pos (by simpa using he)]) w1 hm1
  have q6 : ((counterK name).2 != 0) = false:=by simpa using he
  simp only [ZB,insVc,q6]
  have hB1:=hb.keep hm1
  obtain ⟨vq,vb,vx,h1,h2,h3,h4⟩:=id hB1
  obtain ⟨a,cp,rfl,_,_⟩:=map_add0 h4
  refine next_loop bk B.cs name a cp vq vb w1 _ _ h1 (isT_own (s:=2) (fun _=>rfl) (by decide) h4) (by omega) (by simp only [ZB,ne_eq,reduceCtorEq,Zab,Za]) (by simp only [ZB,ne_eq,Nat.reduceEqDiff,Zab,Za,Zaf]) (by simp only [ZB,ne_eq,Nat.reduceEqDiff]) (by simp only [ZB]) ?_
  intro w2 ρ2 v hm2 ho2 r0 r1 r8 r9
  have hm02:=hm1.trans hm2
  have hlt : nOf name B.cs < 2 ^ 64:=nOf_lt name B.cs 0 (by decide) hcn
  have hun : B.next name = if nOf name B.cs = 18446744073709551615 then ((0,8),B) else ((nOf name B.cs + 1,0),{ B with cs:=otherC name B.cs ++ [⟨name,nOf name B.cs + 1⟩] }):=by
    unfold Bk.next
    rw [if_neg (by simpa using he)]
  simp only [ZB]
  unfold c78e
  by_cases hz : nOf name B.cs = 18446744073709551615
  · have z0 : (((nOf name B.cs : Nat) : Int) == 18446744073709551615) = true:=by rw [hz]; rfl
    simp only [ZB,subC,c78,endK,resK,packed,insVc,iopK,iopV,ne_eq,Nat.reduceEqDiff,reduceCtorEq,Zaa,Zap,r8,z0]
    exact stay 8 (by rw [hun,if_pos hz]) w2 hm02
  · have z0 : (((nOf name B.cs : Nat) : Int) == 18446744073709551615) = false:=by rw [beq_eq_false_iff_ne]; omega
    have e01 : IntKind.u64.wrap (((nOf name B.cs : Nat) : Int) + 1) = ((nOf name B.cs + 1 : Nat) : Int):=by rw [IntKind.wrap_u64]; omega
    rw [hun,if_neg hz] at h
    have hms:=hm2.size
    have hms1:=hm1.size
    have hkl : (otherC name B.cs).length≤B.cs.length:=List.length_filter_le _ _
    obtain ⟨v5,u5,hr5,ho5,hm5,hb5⟩:=append_ct w1.heap.size v (otherC name B.cs) ⟨name,nOf name B.cs + 1⟩ w2 ho2 hms (by omega) 71
    have hob : ∀ k,v.ownBlock = some k→w1.heap.size≤k:=fun k hk=>(World.ownsRow.lt ho2 k hk).1
    have h1':=hm5.keep (hm2.keep h1 id) (fun x=>by have:=hob _ x; omega)
    simp only [ZB,subC,c78,insVc,iopK,iopV,buildK,fillL,buildSK,Value.cells,ne_eq,Nat.reduceEqDiff,Nat.reduceAdd,Nat.reduceLeDiff,reduceCtorEq,Zak,Zai,Zaj,Zbc,Zbd,Zba,Zbb,Zal,Zam,Zan,Zbf,Zac,r0,r1,r8,r9,z0,e01]
    refine rawK_append rfl rfl rfl (by first | exact hr5 | (simp only [ZB,blockQ_exit,endK,resK,resN,res1,resO_cells,packed,insVc,pickK,load1K,loadV_none,loadNK,storeK,storeNK,setMany,nilK,nilM,iopK,iopV,sopK,sopV,bopK,nilOf,pnilK,notK,convK,sameK,faddrK,fld1K,fldNK,iaddrK,iaddrAK,sidxK,extK,lenSK,lenLK,callvK,invK,buildK,fillL,buildSK,boundOf,slSK,slLK,slAK,isPlain,Value.cells,ne_eq,not_true_eq_false,Nat.reduceEqDiff,Nat.reduceAdd,Nat.reduceLT,Nat.reduceLeDiff,reduceCtorEq,Zbk,Zbn,Zab,Zbz,Zad,Zae,Za,Zaf,Zc,Zah,Zak,Zai,Zaj,Zbc,Zbd,Zba,Zbb,Zal,Zam,Zan,List.append_eq,Zaa,Zap,Zbr,Zbf,or_true,Zac,Zag,Zca,Zcb,Zbq,Zbx,Int.reduceLT,Int.reduceLE,Int.reduceToNat,Zax,Int.reduceAdd,Int.reduceSub,Int.reduceMul,Int.reduceNeg,Int.reduceEq,Int.reduceNe,Int.reduceBEq,Int.reduceBNe,Zbh,Zb,Zaz,Zav,Zbt,Zar,Zay,Zaw,Zbw,Zcc,vcS_nil,vcS_cons,vcS_gate,gateS_true,gateS_false,stepB_true,stepB_false,pureI,Zbp,Zbs,Nat.reduceMul,Nat.reduceSub,Zas,Zat,Zau,Zbg,Zbe,Zao,vcD_nil,vcD_cons,vcD_gate,gateD_true,gateD_false,stepD_pure,stepD_load,stepD_step,kindI,loadI]; exact hr5) | (simp only [ZB,blockQ_exit,endK,resK,resN,res1,resO_cells,packed,insVc,pickK,load1K,loadV_none,loadNK,storeK,storeNK,setMany,nilK,nilM,iopK,iopV,sopK,sopV,bopK,nilOf,pnilK,notK,convK,sameK,faddrK,fld1K,fldNK,iaddrK,iaddrAK,sidxK,extK,lenSK,lenLK,callvK,invK,buildK,fillL,buildSK,boundOf,slSK,slLK,slAK,isPlain,Value.cells,ne_eq,not_true_eq_false,Nat.reduceEqDiff,Nat.reduceAdd,Nat.reduceLT,Nat.reduceLeDiff,reduceCtorEq,Zbk,Zbn,Zab,Zbz,Zad,Zae,Za,Zaf,Zc,Zah,Zak,Zai,Zaj,Zbc,Zbd,Zba,Zbb,Zal,Zam,Zan,List.append_eq,Zaa,Zap,Zbr,Zbf,or_true,Zac,Zag,Zca,Zcb,Zbq,Zbx,Int.reduceLT,Int.reduceLE,Int.reduceToNat,Zax,Int.reduceAdd,Int.reduceSub,Int.reduceMul,Int.reduceNeg,Int.reduceEq,Int.reduceNe,Int.reduceBEq,Int.reduceBNe,Zbh,Zb,Zaz,Zav,Zbt,Zar,Zay,Zaw,Zbw,Zcc,vcS_nil,vcS_cons,vcS_gate,gateS_true,gateS_false,stepB_true,stepB_false,pureI,Zbp,Zbs,Nat.reduceMul,Nat.reduceSub,Zas,Zat,Zau,Zbg,Zbe,Zao,vcD_nil,vcD_cons,vcD_gate,gateD_true,gateD_false,stepD_pure,stepD_load,stepD_step,kindI,loadI,r9]; exact hr5)) ?_
    have hst : Mod (fun k=>k = bk) u5 (Vc.set u5 bk (.cells #[vq,vb,v5] 73 (0,0))):=(Mod.refl _ _).set (.inr rfl)
    have hm25 : Mod (fun _=>False) w u5:=hm02.then hm5 (fun k hk x=>by have:=hob k x; omega)
    have hm15 : Mod (fun _=>False) w1 u5:=hm2.then hm5 (fun k hk x=>by have:=hob k x; omega)
    simp only [ZB,endK,resK,packed,insVc,storeK,nilK,iopK,iopV,faddrK,isPlain,ne_eq,Nat.reduceEqDiff,Nat.reduceAdd,Nat.reduceLT,Nat.reduceLeDiff,reduceCtorEq,Zak,Zai,Zaj,Zal,Zam,Zan,Zaa,Zap,Zao,r8,h1',e01]
    refine ⟨own_plain ho5, ?_⟩
    refine h _ ((hm25.mono fun _ _ x=>x.elim).trans hst) ⟨vq,vb,v5,get_set_same _ _ _ (lt_of_get h1'), ?_, ?_, ?_⟩
    · exact own_mod (own_mod h2 hm15 (fun _ _=>id)) hst (fun k hk x=>by have:=(World.ownsRow.lt h2 k hk).1; omega)
    · exact own_mod (own_mod h3 hm15 (fun _ _=>id)) hst (fun k hk x=>by have:=(World.ownsRow.lt h3 k hk).1; omega)
    · exact own_lo (own_mod ho5 hst (fun k hk x=>by have:=(World.ownsRow.lt ho5 k hk).1; omega)) (by omega)
end Go.Oct
