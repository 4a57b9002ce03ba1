import Derived.Test.YtcbacomljnjacaaGreatDoorVlJ
import Derived.Test.YtcbacomljnjacaaGreatDoorVdC
set_option linter.unusedSimpArgs false
set_option linter.unusedVariables false
set_option linter.unusedSectionVars false
set_option linter.unnecessarySimpa false
namespace Go.Oct
open Go Go.Vc Go.VrA Go.VrH
set_option maxRecDepth 100000
theorem OwnE.form {w : World} {B : Nat} {v : Value} {l : List Le} (h : OwnE w B v l) : ∃ a c,v = .slice a l.length c∧l.length≤c:=by
  rcases h.2 with ⟨rfl,h0⟩ | ⟨g,cap,cur,rfl,_,_,hnc,_⟩
  · exact ⟨none,0,by rw [h0],by omega⟩
  · exact ⟨_,_,rfl,hnc⟩
theorem linsert_c (l : List Le) (v : Value) (e : Le) (vb B : Nat) (w : World) (K : Value→World→Prop) (hv : OwnE w B v l) (hl : l.length < 2 ^ 40) (hB : B≤w.heap.size)
    (hvb : w.heap[vb]? = some (.cells #[.string e.q,.int .u64 e.id,.int .u64 e.till] 233 (0,0)))
    (h : ∀ w' v',Mod (fun k=>v.ownBlock = some k) w w'→OwnE w' B v' (l ++ [e])→(∀ k,v'.ownBlock = some k→v.ownBlock = some k∨w.heap.size≤k)→K v' w') :
    Ok Proofs.Tryz.prog 149 #[v,.int .i64 l.length,.slice (some ⟨vb,0,none⟩) 1 1] w K:=by
  obtain ⟨ti,hti,hti1,hti2⟩:=info_of info_le
  have hsrc : Src Proofs.Tryz.prog 3 137 (.slice (some ⟨vb,0,none⟩) 1 1) 1 e.cells w:=by
    refine Src.ofSlice _ under_les ⟨vb,0,none⟩ 1 1 _ (by simp [Le.cells]) ?_ ?_
    · intro j u hj
      simp only [World.cell?,Addr.add_lit,Nat.zero_add,hvb]
      simpa [Le.cells] using hj
    · intro u hu
      simp only [Le.cells,Zbo,Zbp,or_false] at hu
      rcases hu with rfl | rfl | rfl <;> rfl
  obtain ⟨v',w',hr,ho,hm,hb⟩:=run_append_mine (P:=Proofs.Tryz.prog) B 137 137 137 233 ti _ 3 under_les hti hti1 hti2.1 rfl (by decide) v l.length _ hv _ 1 _ hsrc (by simp [maxLen]; omega) (by rw [hti2.2]; omega) hB
  have hnew : OwnE w' B v' (l ++ [e]):=by
    unfold OwnE
    have e1 : flatE (l ++ [e]) = flatE l ++ e.cells:=by unfold flatE; rw [List.flatMap_append]; simp
    rw [e1,List.length_append,List.length_singleton]
    exact ho
  have hK : K v' w':=h w' v' hm hnew (fun k hk=>by rcases hb with x | x <;> rw [x] at hk <;> first | exact .inl hk | (right; cases hk; exact Nat.le_refl _))
  obtain ⟨a,c,rfl,hlc⟩:=hv.form
  refine F149.enter (args:=[.slice a l.length c,.int .i64 l.length,.slice (some ⟨vb,0,none⟩) 1 1]) (by simp) ?_
  unfold c149 r149
  have b1 : (0 : Int)≤(l.length : Int)∧(l.length : Int)≤(c : Int):=by omega
  have b2 : (l.length : Int)≤(l.length : Int):=Int.le_refl _
  have z1 : ((((1 : Nat) : Int)) == 0) = false:=rfl
  simp only [ZB,insVc,iopK,iopV,lenLK,boundOf,slLK,ne_eq,Nat.reduceEqDiff,reduceCtorEq,Zbn,Zbu,Zaf,Za,Zag,Zbj,b1,b2,z1,beq_self_eq_true]
  refine rawK_append rfl rfl rfl (by simpa only [vc_skip,vc_seq,vc_cond,vc_block,vc_exit,vc_ret,vc_ops,vcOps_nil,vcOps_cons,vcOps_gate,gateK_true,gateK_false,gate_true,gate_false,gate_undef,goL_apply,thenQ_normal,thenQ_ret,thenQ_exit,blockQ_normal,blockQ_ret,blockQ_same,blockQ_exit,condP_true,condP_false,upd_same,upd_other,updO_some,updO_none,ev_tmp,ev_const,ev_global,ev_func,endQ_ret,endQ_normal,endK,resK,resN,res1,resO_cells,resNO_cells,packed,initE_at,insVc,pickK,load1K,loadO_cells,loadV_some,loadV_none,loadNK,loadNO_cells,storeK,storeO_cells,storeNK,storeNO_cells,setMany,nilK,nilM,iopK,iopV,sopK,sopV,bopK,nilOf,pnilK,notK,convK,sameK,faddrK,fld1K,fldNK,iaddrK,iaddrAK,sidxK,extK,lenSK,lenLK,callvK,invK,buildK,fillL,buildSK,boundOf,slSK,slLK,slAK,isPlain,Value.cells,ne_eq,not_false_eq_true,not_true_eq_false,Nat.reduceEqDiff,Nat.reduceAdd,Nat.reduceLT,Nat.reduceLeDiff,reduceCtorEq,Bool.not_true,Bool.not_false,Option.map_some,Option.map_none,Option.getD_some,Option.getD_none,List.map_cons,List.map_nil,List.getElem?_cons_zero,List.getElem?_cons_succ,List.getElem?_nil,List.getElem?_toArray,List.size_toArray,List.length_cons,List.length_nil,List.zipIdx_cons,List.zipIdx_nil,List.foldl_cons,List.foldl_nil,List.setIfInBounds_toArray,List.set_cons_zero,List.set_cons_succ,List.append_eq,List.nil_append,List.cons_append,List.append_nil,List.toList_toArray,true_and,and_true,true_or,or_true,or_false,false_or,and_self,if_true,if_false,ite_true,ite_false,Bool.false_eq_true,Nat.zero_add,Nat.add_zero,decide_true,decide_false,Bool.and_true,Bool.and_false,Bool.true_and,Bool.false_and,Option.isNone_some,Option.isNone_none,Int.reduceLT,Int.reduceLE,Int.reduceToNat,Int.toNat_natCast,Int.reduceAdd,Int.reduceSub,Int.reduceMul,Int.reduceNeg,Int.reduceEq,Int.reduceNe,Int.reduceBEq,Int.reduceBNe,Nat.mul_one,List.extract_toArray,List.extract_eq_take_drop,List.drop_zero,List.drop_succ_cons,List.take_zero,List.take_succ_cons,Nat.sub_zero,Nat.add_sub_cancel,Nat.add_sub_cancel_left,vcS_nil,vcS_cons,vcS_gate,gateS_true,gateS_false,stepB_true,stepB_false,pureI,Nat.zero_mul,Nat.one_mul,Nat.reduceMul,Nat.reduceSub,List.all_toArray',List.all_cons,List.all_nil,size_set,size_alloc,size_drew,get_alloc_new,get_set_same,get_drew,Nat.lt_add_one,vcD_nil,vcD_cons,vcD_gate,gateD_true,gateD_false,stepD_pure,stepD_load,stepD_step,kindI,loadI] using hr) ?_
  simp only [ZB,endK,resK,packed,insVc,Zaa]
  exact hK
def lendE (q : ByteArray) (i till : Nat) (l : List Le) : List Le:=(freeE q i l).take (bsE (freeE q i l) ⟨q,i,till⟩) ++ ⟨q,i,till⟩ :: (freeE q i l).drop (bsE (freeE q i l) ⟨q,i,till⟩)
def LendI (w4 : World) (tb eb : Nat) (a2 : Option Addr) (c2 : Nat) (fr : List Le) (e : Le) (L : Nat→Bool) (ρ' : Env) (w' : World) : Prop :=
  Mod (fun _=>False) w4 w'∧(ρ' 3 = ptr tb∧ρ' 6 = ptr (tb + 2)∧ρ' 7 = ptr eb∧ρ' 8 = .int .i64 fr.length) ∧
      (L 0 = true→ρ' 25 = .pointer (some ⟨tb,1,none⟩))∧(L 1 = true→ρ' 26 = .slice a2 fr.length c2)∧(L 2 = true→L 6 = false→OwnE w' w4.heap.size (ρ' 27) fr) ∧
      (L 3 = true→ρ' 28 = .int .i64 fr.length)∧(L 4 = true→ρ' 29 = .agg #[.string e.q,.int .u64 e.id,.int .u64 e.till]) ∧
      (L 5 = true→L 6 = false→∃ b,ρ' 30 = .slice (some ⟨b,0,none⟩) 1 1∧w'.heap[b]? = some (.cells #[.string e.q,.int .u64 e.id,.int .u64 e.till] 233 (0,0))∧w4.heap.size≤b) ∧
      (L 6 = true→OwnE w' w4.heap.size (ρ' 31) (fr ++ [e]))∧(L 7 = true→ρ' 32 = .pointer (some ⟨tb,1,none⟩))
theorem llend_c (l : List Le) (v : Value) (q : ByteArray) (i till : Nat) (w : World) (K : Value→World→Prop) (hv : OwnE w 0 v l) (hl : l.length < 2 ^ 40) (hlast : bsE (freeE q i l) ⟨q,i,till⟩ = (freeE q i l).length)
    (h : ∀ w' v',Mod (fun _=>False) w w'→OwnE w' 0 v' (lendE q i till l)→K (tabV v') w') :
    Ok Proofs.Tryz.prog 87 #[tabV v,keyV q i,.int .u64 till] w K:=by
  obtain ⟨⟨a,c,rfl⟩,_⟩:=hv.is
  refine F87.enter (args:=[tabV (.slice a l.length c),keyV q i,.int .u64 till]) (by simp) ?_
  unfold c87 r87
  obtain ⟨w1,hw1⟩ : ∃ w1,w1 = ((w.alloc (.cells #[.func (.func 92) #[] #[],.slice a l.length c] 139)).alloc (.cells #[.string q,.int .u64 i] 164)).alloc (.cells #[.nilFunc,.slice none 0 0] 139):=⟨_,rfl⟩
  have hm1 : Mod (fun _=>False) w w1:=by rw [hw1]; exact (((Mod.refl _ _).alloc _).alloc _).alloc _
  have hz1 : w1.heap.size = w.heap.size + 3:=by rw [hw1]; simp
  have ht : w1.heap[w.heap.size]? = some (.cells #[.func (.func 92) #[] #[],.slice a l.length c] 139 (0,0)):=by rw [hw1]; simp only [Nat.reduceAdd,reduceCtorEq,Zab,Zae,size_alloc,get_alloc,size_alloc,Zaz,Nat.reduceAdd,Zbi,Zay]
  have hk : w1.heap[w.heap.size + 1]? = some (.cells #[.string q,.int .u64 i] 164 (0,0)):=by rw [hw1]; simp only [Nat.reduceEqDiff,Nat.reduceAdd,Zab,Zae,size_alloc,get_alloc,size_alloc,Zaz,Nat.reduceAdd,Zbg,Zba,Nat.reduceEqDiff,Zay]
  have ho : w1.heap[w.heap.size + 2]? = some (.cells #[.nilFunc,.slice none 0 0] 139 (0,0)):=by rw [hw1]; simp only [Nat.reduceEqDiff,Nat.reduceAdd,reduceCtorEq,Zab,Zae,size_alloc,get_alloc,size_alloc,Zaz,Nat.reduceAdd,Zbg,Zba,Nat.reduceEqDiff]
  simp only [ZB,insVc,loadNK,Value.cells,ne_eq,Nat.reduceEqDiff,Nat.reduceAdd,Nat.reduceLeDiff,reduceCtorEq,Zaf,Zad,Zac,Za,Zag,Zai,Zaj,Zak,Zab,Zae,Zaq,Zap,Zar,Zao,Zas,Zat,get_alloc,Zaz,Nat.reduceAdd,Zbg,Zba,Zbi,Nat.reduceEqDiff,Zay,tabV,keyV]
  rw [← hw1]
  clear hw1
  refine lfree_c l (.slice a l.length c) q i w1 _ (hv.keep0 hm1) hl ?_
  intro w2 v2 hm2 hv2
  have hm12:=hm1.trans hm2
  have hz2:=hm2.size
  have hlf:=freeE_len q i l
  obtain ⟨a2,c2,rfl,hc2⟩:=hv2.form
  have ht2:=hm2.keep ht id
  have hk2:=hm2.keep hk id
  have ho2:=hm2.keep ho id
  obtain ⟨w3,hw3⟩ : ∃ w3,w3 = set ((set w2 w.heap.size (.cells #[.func (.func 92) #[] #[],.slice a2 (freeE q i l).length c2] 139)).alloc (.cells #[.string ⟨#[]⟩,.int .u64 0,.int .u64 0] 233)) w2.heap.size (.cells #[.string q,.int .u64 i,.int .u64 till] 233):=⟨_,rfl⟩
  have hz3 : w3.heap.size = w2.heap.size + 1:=by rw [hw3,size_set,size_alloc,size_set]
  have hs23 : Mod (fun k=>k = w.heap.size) w2 w3:=by rw [hw3]; exact (((Mod.refl (fun k=>k = w.heap.size) w2).set (.inr rfl)).alloc _).set (.inl (Nat.le_refl _))
  have hm13 : Mod (fun _=>False) w w3:=hm12.then hs23 (fun i hi hk=>by omega)
  have ht3 : w3.heap[w.heap.size]? = some (.cells #[.func (.func 92) #[] #[],.slice a2 (freeE q i l).length c2] 139 (0,0)):=by
    rw [hw3,get_set_other _ _ _ _ (by omega),get_alloc_old _ _ _ (by rw [size_set]; omega),get_set_same _ _ _ (by omega)]
  have he3 : w3.heap[w2.heap.size]? = some (.cells #[.string q,.int .u64 i,.int .u64 till] 233 (0,0)):=by
    rw [hw3]; exact get_set_same _ _ _ (by rw [size_alloc,size_set]; omega)
  have ho3:=hs23.keep ho2 (by omega)
  have hv3 : OwnE w3 0 (.slice a2 (freeE q i l).length c2) (freeE q i l):=by
    refine hv2.keep hs23 (fun k hk hh => ?_)
    subst hh
    obtain ⟨_,h2⟩:=hv2
    rcases h2 with ⟨hx,_⟩ | ⟨g,cap,cur,hx,_,hg,_⟩
    · rw [hx] at hk; cases hk
    · rw [hx] at hk
      have hgk : g = w.heap.size:=by simpa [Value.ownBlock] using hk
      rw [hgk,ht2] at hg
      simp at hg
  have hlt2 : w.heap.size < w2.heap.size:=by omega
  have hne1 : w.heap.size + 1≠w.heap.size:=by omega
  have hne3 : w.heap.size≠w2.heap.size:=by omega
  simp only [ZB,insVc,load1K,loadNK,storeNK,setMany,faddrK,buildK,fillL,isPlain,Value.cells,ne_eq,Nat.reduceEqDiff,Nat.reduceAdd,Nat.reduceLeDiff,Zaf,Zad,Zac,Za,Zag,Zah,Zai,Zaj,Zak,Zbd,Zbe,Zbc,Zbb,Zal,Zam,Zan,Zbh,Zab,Zae,Zaq,Zap,Zar,Zao,Zas,Zat,Zau,Zaw,Zax,Zbf,Zb,get_alloc,get_set,Nat.reduceAdd,Nat.reduceEqDiff,tabV,ht2,hk2,hne1,hlt2,hne3]
  rw [← hw3]
  clear hw3
  refine lsearch_c (freeE q i l) _ _ ⟨q,i,till⟩ w3 _ hv3.is (by omega) ?_
  intro w4 bb hm4
  have hm14:=hm13.trans hm4
  have ht4:=hm4.keep ht3 id
  have he4:=hm4.keep he3 id
  have ho4:=hm4.keep ho3 id
  have hz4:=hm4.size
  rw [hlast]
  simp only [ZB,insVc,extK,ne_eq,Nat.reduceEqDiff,Za,Zag,Zah]
  have hn4 : w.heap.size + 2 < w4.heap.size:=by omega
  refine draw_c (dp:=[[],[0],[1],[],[],[4],[2,3,5,2],[0,1,2,3,4,5,6],[7,6,6,0,1,2,3,4,5,6]]) (N:=8)
    (LendI w4 w.heap.size w2.heap.size a2 c2 (freeE q i l) ⟨q,i,till⟩)
    (by kernel_rfl) (by kernel_rfl) (by kernel_rfl) (by kernel_rfl) (by kernel_rfl) (by kernel_rfl) rfl rfl (by kernel_rfl) ?_ ?_ ?_
  · have no : ∀ {p : Prop},false = true→p:=fun h=>(Bool.false_ne_true h).elim
    exact ⟨(Mod.refl _ _).drew,⟨by simp only [ZB,ne_eq,Nat.reduceEqDiff],by simp only [ZB,ne_eq,Nat.reduceEqDiff],by simp only [ZB,ne_eq,Nat.reduceEqDiff],by simp only [ZB,ne_eq,Nat.reduceEqDiff]⟩,no,no,no,no,no,no,no,no⟩
  · rintro L ρ' w' k x d hk8 hx hd hL hdeps hcl ⟨hmw,⟨r3,r6,r7,r8⟩,H0,H1,H2,H3,H4,H5,H6,H7⟩
    have hL6 : k < 6→L 6 = false:=by
      intro hk6
      cases h6 : L 6 with
      | false=>rfl
      | true =>
        have d6:=hcl 6 _ rfl h6
        have L2:=d6 2 (by decide)
        have L5:=d6 5 (by decide)
        have L1:=hcl 2 _ rfl L2 1 (by decide)
        have L4:=hcl 5 _ rfl L5 4 (by decide)
        have L0:=hcl 1 _ rfl L1 0 (by decide)
        have L3:=d6 3 (by decide)
        obtain rfl | rfl | rfl | rfl | rfl | rfl : k = 0∨k = 1∨k = 2∨k = 3∨k = 4∨k = 5:=by omega
        · rw [L0] at hL; cases hL
        · rw [L1] at hL; cases hL
        · rw [L2] at hL; cases hL
        · rw [L3] at hL; cases hL
        · rw [L4] at hL; cases hL
        · rw [L5] at hL; cases hL
    obtain rfl | rfl | rfl | rfl | rfl | rfl | rfl | rfl : k = 0∨k = 1∨k = 2∨k = 3∨k = 4∨k = 5∨k = 6∨k = 7:=by omega
    all_goals (obtain rfl:=Option.some.inj hx; obtain rfl:=Option.some.inj hd)
    · simp only [ZB,insVc,faddrK,r3]
      exact ⟨hmw,⟨r3,r6,r7,r8⟩,fun _=>rfl,H1,H2,H3,H4,H5,H6,H7⟩
    · have h0:=H0 (hdeps 0 (by decide))
      have hh:=hmw.keep ht4 id
      simp only [ZB,insVc,load1K,Za,Zag,Zah,h0,hh]
      exact ⟨hmw,⟨r3,r6,r7,r8⟩,H0,fun _=>rfl,H2,H3,H4,H5,H6,H7⟩
    · have h1:=H1 (hdeps 1 (by decide))
      have h6:=hL6 (by decide)
      simp only [ZB,insVc,Zad,Zac,h1]
      refine lclone_c _ (freeE q i l) w' _ (hv3.keep0 (hm4.trans hmw)).sub (by omega) ?_
      intro w5 v5 hm5 hv5
      have hz:=hmw.size
      refine ⟨hmw.trans hm5,⟨r3,r6,r7,r8⟩,H0,H1,fun _ _=>hv5.mono hz,H3,H4,fun a5 _ => ?_,fun a6 => ?_,H7⟩
      · obtain ⟨b,e1,e2,e3⟩:=H5 a5 h6
        exact ⟨b,e1,hm5.keep e2 id,e3⟩
      · have a6' : L 6 = true:=a6
        rw [h6] at a6'; cases a6'
    · simp only [ZB,insVc,r8]
      exact ⟨hmw,⟨r3,r6,r7,r8⟩,H0,H1,H2,fun _=>rfl,H4,H5,H6,H7⟩
    · have hh:=hmw.keep he4 id
      simp only [ZB,insVc,loadNK,Nat.reduceAdd,Nat.reduceLeDiff,Zai,Zaj,Zak,Zaq,Zap,Zar,Zao,Zas,Zat,r7,hh]
      exact ⟨hmw,⟨r3,r6,r7,r8⟩,H0,H1,H2,H3,fun _=>rfl,H5,H6,H7⟩
    · have h4:=H4 (hdeps 4 (by decide))
      have h6:=hL6 (by decide)
      simp only [ZB,insVc,fillL,buildSK,Value.cells,Nat.reduceAdd,Nat.reduceLeDiff,Zai,Zaj,Zak,Zbd,Zbe,Zbc,Zbb,Zal,Zam,Zan,Zbh,Zab,h4]
      have hma : Mod (fun _=>False) w' (w'.alloc (.cells #[.string q,.int .u64 i,.int .u64 till] 233)):=(Mod.refl _ _).alloc _
      refine ⟨hmw.alloc _,⟨r3,r6,r7,r8⟩,H0,H1,fun a2 _=>(H2 a2 h6).keep0 hma,H3,H4,fun _ _=>⟨_,rfl,get_alloc_new _ _,hmw.size⟩,fun a6 => ?_,H7⟩
      have a6' : L 6 = true:=a6
      rw [h6] at a6'; cases a6'
    · have h3:=H3 (hdeps 3 (by decide))
      have h2:=H2 (hdeps 2 (by decide)) hL
      obtain ⟨b,e1,e2,e3⟩:=H5 (hdeps 5 (by decide)) hL
      have hz:=hmw.size
      have hne : ∀ k,(ρ' 27).ownBlock = some k→w4.heap.size≤k:=fun k hk=>(World.ownsRow.lt h2 k hk).1
      simp only [ZB,insVc,Zad,Zac,h3,e1]
      refine linsert_c (freeE q i l) (ρ' 27) ⟨q,i,till⟩ b w4.heap.size w' _ h2 (by omega) hz e2 ?_
      intro w7 v7 hm7 hv7 hb7
      exact ⟨hmw.then hm7 (fun j hj hk=>by have:=hne j hk; omega),⟨r3,r6,r7,r8⟩,H0,H1,fun _ h=>by simp at h,H3,H4,fun _ h=>by simp at h,fun _=>hv7,H7⟩
    · simp only [ZB,insVc,faddrK,r3]
      exact ⟨hmw,⟨r3,r6,r7,r8⟩,H0,H1,H2,H3,H4,H5,H6,fun _=>rfl⟩
  rintro L ρ' w7 x hall ⟨hm47,⟨r3,r6,r7,r8⟩,H0,H1,H2,H3,H4,H5,H6,H7⟩ hx
  obtain rfl:=Option.some.inj hx
  have h32:=H7 (hall 7 (by decide))
  have hv7:=H6 (hall 6 (by decide))
  obtain ⟨v7,hv7e⟩ : ∃ v7,v7 = ρ' 31:=⟨_,rfl⟩
  rw [← hv7e] at hv7
  have ht7:=hm47.keep ht4 id
  have ho7:=hm47.keep ho4 id
  have hz7:=hm47.size
  obtain ⟨a7,c7,rfl,_⟩:=hv7.form
  have hlt7 : w.heap.size < w7.heap.size:=by omega
  have hlt8 : w.heap.size + 2 < w7.heap.size:=by omega
  have hne2 : w.heap.size + 2≠w.heap.size:=by omega
  simp only [ZB,endK,resK,resN,packed,insVc,loadNK,storeK,storeNK,setMany,isPlain,ne_eq,Nat.reduceEqDiff,Nat.reduceAdd,Nat.reduceLT,Nat.reduceLeDiff,Zai,Zaj,Zak,Zal,Zam,Zan,Zaa,Zae,Zaq,Zap,Zar,Zao,Zas,Zat,Zau,Zaw,Zax,Zbf,Zb,get_set,Nat.reduceAdd,Nat.reduceEqDiff,Nat.reduceLT,h32,← hv7e,r3,r6,ht7,ho7,hlt7,hlt8,hne2,get_set_same _ _ _ hlt7]
  have hle : lendE q i till l = freeE q i l ++ [(⟨q,i,till⟩ : Le)]:=by unfold lendE; rw [hlast,List.take_length,List.drop_length]
  have hfin : OwnE (set (set w7 w.heap.size (.cells #[.func (.func 92) #[] #[],.slice a7 (freeE q i l ++ [(⟨q,i,till⟩ : Le)]).length c7] 139)) (w.heap.size + 2) (.cells #[.func (.func 92) #[] #[],.slice a7 (freeE q i l ++ [(⟨q,i,till⟩ : Le)]).length c7] 139)) 0 (.slice a7 (freeE q i l ++ [(⟨q,i,till⟩ : Le)]).length c7) (lendE q i till l):=by
    rw [hle]
    refine (hv7.mono (Nat.zero_le _)).keep (S:=fun k=>k = w.heap.size∨k = w.heap.size + 2) (((Mod.refl _ _).set (.inr (.inl rfl))).set (.inr (.inr rfl))) ?_
    intro k hk hh
    have:=(World.ownsRow.lt hv7 k hk).1
    omega
  exact h _ _ (((hm14.trans hm47).set (.inl (Nat.le_refl _))).set (.inl (by omega))) hfin
end Go.Oct
