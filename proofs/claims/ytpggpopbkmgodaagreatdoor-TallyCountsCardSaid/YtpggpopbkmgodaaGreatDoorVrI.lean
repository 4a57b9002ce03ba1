import Derived.Test.YtpggpopbkmgodaaGreatDoorVlJ
import Derived.Test.YtpggpopbkmgodaaGreatDoorVnC
import Derived.Test.YtpggpopbkmgodaaGreatDoorVcP
import Derived.Test.YtpggpopbkmgodaaGreatDoorVoG
import Derived.Test.YtpggpopbkmgodaaGreatDoorVcL
import Derived.Laws.StructEq
import Derived.Lib.OthersKept
import Derived.Test.YtpggpopbkmgodaaGreatDoorProg
import Derived.Test.YtpggpopbkmgodaaGreatDoorVcI
set_option linter.unusedSimpArgs false
set_option linter.unusedVariables false
set_option linter.unusedSectionVars false
set_option linter.unnecessarySimpa false
namespace Go.Oct
open Go Go.Vc Go.VrA Go.VrH Go.Proofs.Tryz
set_option maxRecDepth 100000
theorem OwnE.form {w:World} {B:Nat} {v:Value} {l:List Le} (h:OwnE w B v l):∃a c,v = .slice a l.length c∧l.length≤c:=by
 rcases h.2 with ⟨rfl,h0⟩|⟨g,cap,cur,rfl,_,_,hnc,_⟩
 ·exact ⟨none,0,by rw [h0],by omega⟩
 ·exact ⟨_,_,rfl,hnc⟩
theorem linsert_c (l:List Le) (v:Value) (e:Le) (vb B:Nat) (w:World) (K:Value→World→Prop) (hv:OwnE w B v l) (hl:l.length<2^40) (hB:B≤w.heap.size)
  (hvb:w.heap[vb]? = some (.cells #[.string e.q,.int .u64 e.id,.int .u64 e.till] 233 (0,0)))
  (h:∀w' v',Mod (fun k=>v.ownBlock=some k) w w'→OwnE w' B v' (l ++ [e])→(∀k,v'.ownBlock=some k→v.ownBlock=some k∨w.heap.size≤k)→K v' w') :
  Ok prog 149 #[v,.int .i64 l.length,.slice (some ⟨vb,0,none⟩) 1 1] w K:=by
 obtain ⟨ti,hti,hti1,hti2⟩:=info_of info_le
 have hsrc:Src prog 3 137 (.slice (some ⟨vb,0,none⟩) 1 1) 1 e.cells w:=by
  refine Src.ofSlice _ under_les ⟨vb,0,none⟩ 1 1 _ (by simp [Le.cells]) ?_ ?_
  ·intro j u hj
   simp only [World.cell?,Addr.add_lit,Nat.zero_add,hvb]
   simpa [Le.cells] using hj
  ·intro u hu
   simp only [Le.cells,Zbo,Zbp,or_false] at hu
   rcases hu with rfl|rfl|rfl <;> rfl
 obtain ⟨v',w',hr,ho,hm,hb⟩:=run_append_mine (P:=prog) B 137 137 137 233 ti _ 3 under_les hti hti1 hti2.1 rfl (by decide) v l.length _ hv _ 1 _ hsrc (by simp [maxLen];omega) (by rw [hti2.2];omega) hB
 have hnew:OwnE w' B v' (l ++ [e]):=by
  unfold OwnE
  have e1:flatE (l ++ [e])=flatE l ++ e.cells:=by unfold flatE;rw [List.flatMap_append];simp
  rw [e1,List.length_append,List.length_singleton]
  exact ho
 have hK:K v' w':=h w' v' hm hnew (fun k hk=>by rcases hb with x|x <;> rw [x] at hk <;> first|exact .inl hk|(right;cases hk;exact Nat.le_refl _))
 obtain ⟨a,c,rfl,hlc⟩:=hv.form
 refine F149.enter (args:=[.slice a l.length c,.int .i64 l.length,.slice (some ⟨vb,0,none⟩) 1 1]) (by simp) ?_
 unfold c149 r149
 have b1:(0:Int)≤(l.length:Int)∧(l.length:Int)≤(c:Int):=by omega
 have b2:(l.length:Int)≤(l.length:Int):=Int.le_refl _
 have z1:((((1:Nat):Int)) == 0)=false:=rfl
 simp only [ZB,insVc,iopK,iopV,lenLK,boundOf,slLK,ne_eq,Nat.reduceEqDiff,reduceCtorEq,Zbn,Zbv,Zac,Za,Zag,Zbj,b1,b2,z1,beq_self_eq_true]
 refine rawK_append rfl rfl rfl (by simpa only [vc_skip,vc_seq,vc_cond,vc_block,vc_exit,vc_ret,vc_ops,vcOps_nil,vcOps_cons,vcOps_gate,gateK_true,gateK_false,gate_true,gate_false,gate_undef,goL_apply,thenQ_normal,thenQ_ret,thenQ_exit,blockQ_normal,blockQ_ret,blockQ_same,blockQ_exit,condP_true,condP_false,upd_same,upd_other,updO_some,updO_none,ev_tmp,ev_const,ev_global,ev_func,endQ_ret,endQ_normal,endK,resK,resN,res1,resO_cells,resNO_cells,packed,initE_at,insVc,pickK,load1K,loadO_cells,loadV_some,loadV_none,loadNK,loadNO_cells,storeK,storeO_cells,storeNK,storeNO_cells,setMany,nilK,nilM,iopK,iopV,sopK,sopV,bopK,nilOf,pnilK,notK,convK,sameK,faddrK,fld1K,fldNK,iaddrK,iaddrAK,sidxK,extK,lenSK,lenLK,callvK,invK,buildK,fillL,buildSK,boundOf,slSK,slLK,slAK,isPlain,Value.cells,ne_eq,not_false_eq_true,not_true_eq_false,Nat.reduceEqDiff,Nat.reduceAdd,Nat.reduceLT,Nat.reduceLeDiff,reduceCtorEq,Bool.not_true,Bool.not_false,Option.map_some,Option.map_none,Option.getD_some,Option.getD_none,List.map_cons,List.map_nil,List.getElem?_cons_zero,List.getElem?_cons_succ,List.getElem?_nil,List.getElem?_toArray,List.size_toArray,List.length_cons,List.length_nil,List.zipIdx_cons,List.zipIdx_nil,List.foldl_cons,List.foldl_nil,List.setIfInBounds_toArray,List.set_cons_zero,List.set_cons_succ,List.append_eq,List.nil_append,List.cons_append,List.append_nil,List.toList_toArray,true_and,and_true,true_or,or_true,or_false,false_or,and_self,if_true,if_false,ite_true,ite_false,Bool.false_eq_true,Nat.zero_add,Nat.add_zero,decide_true,decide_false,Bool.and_true,Bool.and_false,Bool.true_and,Bool.false_and,Option.isNone_some,Option.isNone_none,Int.reduceLT,Int.reduceLE,Int.reduceToNat,Int.toNat_natCast,Int.reduceAdd,Int.reduceSub,Int.reduceMul,Int.reduceNeg,Int.reduceEq,Int.reduceNe,Int.reduceBEq,Int.reduceBNe,Nat.mul_one,List.extract_toArray,List.extract_eq_take_drop,List.drop_zero,List.drop_succ_cons,List.take_zero,List.take_succ_cons,Nat.sub_zero,Nat.add_sub_cancel,Nat.add_sub_cancel_left,vcS_nil,vcS_cons,vcS_gate,gateS_true,gateS_false,stepB_true,stepB_false,pureI,Nat.zero_mul,Nat.one_mul,Nat.reduceMul,Nat.reduceSub,List.all_toArray',List.all_cons,List.all_nil,size_set,size_alloc,size_drew,get_alloc_new,get_set_same,get_drew,Nat.lt_add_one,vcD_nil,vcD_cons,vcD_gate,gateD_true,gateD_false,stepD_pure,stepD_load,stepD_step,kindI,loadI] using hr) ?_
 simp only [ZB,endK,resK,packed,insVc,Zad]
 exact hK
def lendE (q:ByteArray) (i till:Nat) (l:List Le):List Le:=(freeE q i l).take (bsE (freeE q i l) ⟨q,i,till⟩) ++ ⟨q,i,till⟩ :: (freeE q i l).drop (bsE (freeE q i l) ⟨q,i,till⟩)
def LendI (w4:World) (tb eb:Nat) (a2:Option Addr) (c2:Nat) (fr:List Le) (e:Le) (L:Nat→Bool) (ρ':Env) (w':World):Prop :=
 Mod (fun _=>False) w4 w'∧(ρ' 3=ptr tb∧ρ' 6=ptr (tb+2)∧ρ' 7=ptr eb∧ρ' 8 = .int .i64 fr.length) ∧
   (L 0=true→ρ' 25 = .pointer (some ⟨tb,1,none⟩))∧(L 1=true→ρ' 26 = .slice a2 fr.length c2)∧(L 2=true→L 6=false→OwnE w' w4.heap.size (ρ' 27) fr) ∧
   (L 3=true→ρ' 28 = .int .i64 fr.length)∧(L 4=true→ρ' 29 = .agg #[.string e.q,.int .u64 e.id,.int .u64 e.till]) ∧
   (L 5=true→L 6=false→∃b,ρ' 30 = .slice (some ⟨b,0,none⟩) 1 1∧w'.heap[b]? = some (.cells #[.string e.q,.int .u64 e.id,.int .u64 e.till] 233 (0,0))∧w4.heap.size≤b) ∧
   (L 6=true→OwnE w' w4.heap.size (ρ' 31) (fr ++ [e]))∧(L 7=true→ρ' 32 = .pointer (some ⟨tb,1,none⟩))
theorem llend_c (l:List Le) (v:Value) (q:ByteArray) (i till:Nat) (w:World) (K:Value→World→Prop) (hv:OwnE w 0 v l) (hl:l.length<2^40) (hlast:bsE (freeE q i l) ⟨q,i,till⟩=(freeE q i l).length)
  (h:∀w' v',Mod (fun _=>False) w w'→OwnE w' 0 v' (lendE q i till l)→K (tabV v') w') :
  Ok prog 87 #[tabV v,keyV q i,.int .u64 till] w K:=by
 obtain ⟨⟨a,c,rfl⟩,_⟩:=hv.is
 refine F87.enter (args:=[tabV (.slice a l.length c),keyV q i,.int .u64 till]) (by simp) ?_
 unfold c87 r87
 obtain ⟨w1,hw1⟩:∃w1,w1=((w.alloc (.cells #[.func (.func 92) #[] #[],.slice a l.length c] 139)).alloc (.cells #[.string q,.int .u64 i] 164)).alloc (.cells #[.nilFunc,.slice none 0 0] 139):=⟨_,rfl⟩
 have hm1:Mod (fun _=>False) w w1:=by rw [hw1];exact (((Mod.refl _ _).alloc _).alloc _).alloc _
 have hz1:w1.heap.size=w.heap.size+3:=by rw [hw1];simp
 have ht:w1.heap[w.heap.size]? = some (.cells #[.func (.func 92) #[] #[],.slice a l.length c] 139 (0,0)):=by rw [hw1];simp only [Nat.reduceAdd,reduceCtorEq,Zaa,Zaf,size_alloc,get_alloc,size_alloc,Zb,Nat.reduceAdd,Zbi,Zaz]
 have hk:w1.heap[w.heap.size+1]? = some (.cells #[.string q,.int .u64 i] 164 (0,0)):=by rw [hw1];simp only [Nat.reduceEqDiff,Nat.reduceAdd,Zaa,Zaf,size_alloc,get_alloc,size_alloc,Zb,Nat.reduceAdd,Zbg,Zba,Nat.reduceEqDiff,Zaz]
 have ho:w1.heap[w.heap.size+2]? = some (.cells #[.nilFunc,.slice none 0 0] 139 (0,0)):=by rw [hw1];simp only [Nat.reduceEqDiff,Nat.reduceAdd,reduceCtorEq,Zaa,Zaf,size_alloc,get_alloc,size_alloc,Zb,Nat.reduceAdd,Zbg,Zba,Nat.reduceEqDiff]
 simp only [ZB,insVc,loadNK,Value.cells,ne_eq,Nat.reduceEqDiff,Nat.reduceAdd,Nat.reduceLeDiff,reduceCtorEq,Zac,Zae,Zab,Za,Zag,Zai,Zak,Zaj,Zaa,Zaf,Zar,Zap,Zaq,Zao,Zas,Zat,get_alloc,Zb,Nat.reduceAdd,Zbg,Zba,Zbi,Nat.reduceEqDiff,Zaz,tabV,keyV]
 rw [← hw1]
 clear hw1
 refine lfree_c l (.slice a l.length c) q i w1 _ (hv.keep0 hm1) hl ?_
 intro w2 v2 hm2 hv2
 have hm12:=hm1.trans hm2
 have hz2:=hm2.size
 have hlf:=freeE_len q i l
 obtain ⟨a2,c2,rfl,hc2⟩:=hv2.form
 have ht2:=hm2.keep ht id
 have hk2:=hm2.keep hk id
 have ho2:=hm2.keep ho id
 obtain ⟨w3,hw3⟩:∃w3,w3=set ((set w2 w.heap.size (.cells #[.func (.func 92) #[] #[],.slice a2 (freeE q i l).length c2] 139)).alloc (.cells #[.string ⟨#[]⟩,.int .u64 0,.int .u64 0] 233)) w2.heap.size (.cells #[.string q,.int .u64 i,.int .u64 till] 233):=⟨_,rfl⟩
 have hz3:w3.heap.size=w2.heap.size+1:=by rw [hw3,size_set,size_alloc,size_set]
 have hs23:Mod (fun k=>k=w.heap.size) w2 w3:=by rw [hw3];exact (((Mod.refl (fun k=>k=w.heap.size) w2).set (.inr rfl)).alloc _).set (.inl (Nat.le_refl _))
 have hm13:Mod (fun _=>False) w w3:=hm12.then hs23 (fun i hi hk=>by omega)
 have ht3:w3.heap[w.heap.size]? = some (.cells #[.func (.func 92) #[] #[],.slice a2 (freeE q i l).length c2] 139 (0,0)):=by
  rw [hw3,get_set_other _ _ _ _ (by omega),get_alloc_old _ _ _ (by rw [size_set];omega),get_set_same _ _ _ (by omega)]
 have he3:w3.heap[w2.heap.size]? = some (.cells #[.string q,.int .u64 i,.int .u64 till] 233 (0,0)):=by
  rw [hw3];exact get_set_same _ _ _ (by rw [size_alloc,size_set];omega)
 have ho3:=hs23.keep ho2 (by omega)
 have hv3:OwnE w3 0 (.slice a2 (freeE q i l).length c2) (freeE q i l):=by
  refine hv2.keep hs23 (fun k hk hh => ?_)
  subst hh
  obtain ⟨_,h2⟩:=hv2
  rcases h2 with ⟨hx,_⟩|⟨g,cap,cur,hx,_,hg,_⟩
  ·rw [hx] at hk;cases hk
  ·rw [hx] at hk
   have hgk:g=w.heap.size:=by simpa [Value.ownBlock] using hk
   rw [hgk,ht2] at hg
   simp at hg
 have hlt2:w.heap.size<w2.heap.size:=by omega
 have hne1:w.heap.size+1≠w.heap.size:=by omega
 have hne3:w.heap.size≠w2.heap.size:=by omega
 simp only [ZB,insVc,load1K,loadNK,storeNK,setMany,faddrK,buildK,fillL,isPlain,Value.cells,ne_eq,Nat.reduceEqDiff,Nat.reduceAdd,Nat.reduceLeDiff,Zac,Zae,Zab,Za,Zag,Zah,Zai,Zak,Zaj,Zbe,Zbf,Zbd,Zbc,Zal,Zam,Zan,Zbh,Zaa,Zaf,Zar,Zap,Zaq,Zao,Zas,Zat,Zau,Zav,Zax,Zbb,Zay,get_alloc,get_set,Nat.reduceAdd,Nat.reduceEqDiff,tabV,ht2,hk2,hne1,hlt2,hne3]
 rw [← hw3]
 clear hw3
 refine lsearch_c (freeE q i l) _ _ ⟨q,i,till⟩ w3 _ hv3.is (by omega) ?_
 intro w4 bb hm4
 have hm14:=hm13.trans hm4
 have ht4:=hm4.keep ht3 id
 have he4:=hm4.keep he3 id
 have ho4:=hm4.keep ho3 id
 have hz4:=hm4.size
 rw [hlast]
 simp only [ZB,insVc,extK,ne_eq,Nat.reduceEqDiff,Za,Zag,Zah]
 have hn4:w.heap.size+2<w4.heap.size:=by omega
 refine draw_c (dp:=[[],[0],[1],[],[],[4],[2,3,5,2],[0,1,2,3,4,5,6],[7,6,6,0,1,2,3,4,5,6]]) (N:=8)
  (LendI w4 w.heap.size w2.heap.size a2 c2 (freeE q i l) ⟨q,i,till⟩)
  (by kernel_rfl) (by kernel_rfl) (by kernel_rfl) (by kernel_rfl) (by kernel_rfl) (by kernel_rfl) rfl rfl (by kernel_rfl) ?_ ?_ ?_
 ·have no:∀ {p:Prop},false=true→p:=fun h=>(Bool.false_ne_true h).elim
  exact ⟨(Mod.refl _ _).drew,⟨by simp only [upd_same,upd_other,ne_eq,not_false_eq_true,Nat.reduceEqDiff],by simp only [upd_same,upd_other,ne_eq,not_false_eq_true,Nat.reduceEqDiff],by simp only [upd_same,upd_other,ne_eq,not_false_eq_true,Nat.reduceEqDiff],by simp only [upd_same,upd_other,ne_eq,not_false_eq_true,Nat.reduceEqDiff]⟩,no,no,no,no,no,no,no,no⟩
 ·rintro L ρ' w' k x d hk8 hx hd hL hdeps hcl ⟨hmw,⟨r3,r6,r7,r8⟩,H0,H1,H2,H3,H4,H5,H6,H7⟩
  have hL6:k<6→L 6=false:=by
   intro hk6
   cases h6:L 6 with
   | false=>rfl
   | true =>
    have d6:=hcl 6 _ rfl h6
    have L2:=d6 2 (by decide)
    have L5:=d6 5 (by decide)
    have L1:=hcl 2 _ rfl L2 1 (by decide)
    have L4:=hcl 5 _ rfl L5 4 (by decide)
    have L0:=hcl 1 _ rfl L1 0 (by decide)
    have L3:=d6 3 (by decide)
    obtain rfl|rfl|rfl|rfl|rfl|rfl:k=0∨k=1∨k=2∨k=3∨k=4∨k=5:=by omega
    ·rw [L0] at hL;cases hL
    ·rw [L1] at hL;cases hL
    ·rw [L2] at hL;cases hL
    ·rw [L3] at hL;cases hL
    ·rw [L4] at hL;cases hL
    ·rw [L5] at hL;cases hL
  obtain rfl|rfl|rfl|rfl|rfl|rfl|rfl|rfl:k=0∨k=1∨k=2∨k=3∨k=4∨k=5∨k=6∨k=7:=by omega
  all_goals (obtain rfl:=Option.some.inj hx;obtain rfl:=Option.some.inj hd)
  ·simp only [updO_some,ev_tmp,insVc,faddrK,Nat.zero_add,r3]
   exact ⟨hmw,⟨r3,r6,r7,r8⟩,fun _=>rfl,H1,H2,H3,H4,H5,H6,H7⟩
  ·have h0:=H0 (hdeps 0 (by decide))
   have hh:=hmw.keep ht4 id
   simp only [ZB,insVc,load1K,Za,Zag,Zah,h0,hh]
   exact ⟨hmw,⟨r3,r6,r7,r8⟩,H0,fun _=>rfl,H2,H3,H4,H5,H6,H7⟩
  ·have h1:=H1 (hdeps 1 (by decide))
   have h6:=hL6 (by decide)
   simp only [updO_some,ev_tmp,insVc,Zae,Zab,h1]
   refine lclone_c _ (freeE q i l) w' _ (hv3.keep0 (hm4.trans hmw)).sub (by omega) ?_
   intro w5 v5 hm5 hv5
   have hz:=hmw.size
   refine ⟨hmw.trans hm5,⟨r3,r6,r7,r8⟩,H0,H1,fun _ _=>hv5.mono hz,H3,H4,fun a5 _ => ?_,fun a6 => ?_,H7⟩
   ·obtain ⟨b,e1,e2,e3⟩:=H5 a5 h6
    exact ⟨b,e1,hm5.keep e2 id,e3⟩
   ·have a6':L 6=true:=a6
    rw [h6] at a6';cases a6'
  ·simp only [updO_some,ev_tmp,insVc,r8]
   exact ⟨hmw,⟨r3,r6,r7,r8⟩,H0,H1,H2,fun _=>rfl,H4,H5,H6,H7⟩
  ·have hh:=hmw.keep he4 id
   simp only [ZB,insVc,loadNK,Nat.reduceAdd,Nat.reduceLeDiff,Zai,Zak,Zaj,Zar,Zap,Zaq,Zao,Zas,Zat,r7,hh]
   exact ⟨hmw,⟨r3,r6,r7,r8⟩,H0,H1,H2,H3,fun _=>rfl,H5,H6,H7⟩
  ·have h4:=H4 (hdeps 4 (by decide))
   have h6:=hL6 (by decide)
   simp only [ZB,insVc,fillL,buildSK,Value.cells,Nat.reduceAdd,Nat.reduceLeDiff,Zai,Zak,Zaj,Zbe,Zbf,Zbd,Zbc,Zal,Zam,Zan,Zbh,Zaa,h4]
   have hma:Mod (fun _=>False) w' (w'.alloc (.cells #[.string q,.int .u64 i,.int .u64 till] 233)):=(Mod.refl _ _).alloc _
   refine ⟨hmw.alloc _,⟨r3,r6,r7,r8⟩,H0,H1,fun a2 _=>(H2 a2 h6).keep0 hma,H3,H4,fun _ _=>⟨_,rfl,get_alloc_new _ _,hmw.size⟩,fun a6 => ?_,H7⟩
   have a6':L 6=true:=a6
   rw [h6] at a6';cases a6'
  ·have h3:=H3 (hdeps 3 (by decide))
   have h2:=H2 (hdeps 2 (by decide)) hL
   obtain ⟨b,e1,e2,e3⟩:=H5 (hdeps 5 (by decide)) hL
   have hz:=hmw.size
   have hne:∀k,(ρ' 27).ownBlock=some k→w4.heap.size≤k:=fun k hk=>(World.ownsRow.lt h2 k hk).1
   simp only [updO_some,ev_tmp,insVc,Zae,Zab,h3,e1]
   refine linsert_c (freeE q i l) (ρ' 27) ⟨q,i,till⟩ b w4.heap.size w' _ h2 (by omega) hz e2 ?_
   intro w7 v7 hm7 hv7 hb7
   exact ⟨hmw.then hm7 (fun j hj hk=>by have:=hne j hk;omega),⟨r3,r6,r7,r8⟩,H0,H1,fun _ h=>by simp at h,H3,H4,fun _ h=>by simp at h,fun _=>hv7,H7⟩
  ·simp only [updO_some,ev_tmp,insVc,faddrK,Nat.zero_add,r3]
   exact ⟨hmw,⟨r3,r6,r7,r8⟩,H0,H1,H2,H3,H4,H5,H6,fun _=>rfl⟩
 rintro L ρ' w7 x hall ⟨hm47,⟨r3,r6,r7,r8⟩,H0,H1,H2,H3,H4,H5,H6,H7⟩ hx
 obtain rfl:=Option.some.inj hx
 have h32:=H7 (hall 7 (by decide))
 have hv7:=H6 (hall 6 (by decide))
 obtain ⟨v7,hv7e⟩:∃v7,v7=ρ' 31:=⟨_,rfl⟩
 rw [← hv7e] at hv7
 have ht7:=hm47.keep ht4 id
 have ho7:=hm47.keep ho4 id
 have hz7:=hm47.size
 obtain ⟨a7,c7,rfl,_⟩:=hv7.form
 have hlt7:w.heap.size<w7.heap.size:=by omega
 have hlt8:w.heap.size+2<w7.heap.size:=by omega
 have hne2:w.heap.size+2≠w.heap.size:=by omega
 simp only [ZB,endK,resK,resN,packed,insVc,loadNK,storeK,storeNK,setMany,isPlain,ne_eq,Nat.reduceEqDiff,Nat.reduceAdd,Nat.reduceLT,Nat.reduceLeDiff,Zai,Zak,Zaj,Zal,Zam,Zan,Zad,Zaf,Zar,Zap,Zaq,Zao,Zas,Zat,Zau,Zav,Zax,Zbb,Zay,get_set,Nat.reduceAdd,Nat.reduceEqDiff,Nat.reduceLT,h32,← hv7e,r3,r6,ht7,ho7,hlt7,hlt8,hne2,get_set_same _ _ _ hlt7]
 have hle:lendE q i till l=freeE q i l ++ [(⟨q,i,till⟩:Le)]:=by unfold lendE;rw [hlast,List.take_length,List.drop_length]
 have hfin:OwnE (set (set w7 w.heap.size (.cells #[.func (.func 92) #[] #[],.slice a7 (freeE q i l ++ [(⟨q,i,till⟩:Le)]).length c7] 139)) (w.heap.size+2) (.cells #[.func (.func 92) #[] #[],.slice a7 (freeE q i l ++ [(⟨q,i,till⟩:Le)]).length c7] 139)) 0 (.slice a7 (freeE q i l ++ [(⟨q,i,till⟩:Le)]).length c7) (lendE q i till l):=by
  rw [hle]
  refine (hv7.mono (Nat.zero_le _)).keep (S:=fun k=>k=w.heap.size∨k=w.heap.size+2) (((Mod.refl _ _).set (.inr (.inl rfl))).set (.inr (.inr rfl))) ?_
  intro k hk hh
  have:=(World.ownsRow.lt hv7 k hk).1
  omega
 exact h _ _ (((hm14.trans hm47).set (.inl (Nat.le_refl _))).set (.inl (by omega))) hfin
def lesV (l:List Le):List (List Value):=l.map fun e=>[keyV e.q e.id,.int .u64 e.till]
theorem lall1_c (c1:Nat) (v:Value) (l:List Le) (hl:l.length<2^40) :
  IterP prog 211 [ptr c1] (lesV l) (fun u=>u.heap[c1]? = some (.cells #[.func (.func 92) #[] #[],v] 139 (0,0))∧IsLes u v l):=by
 intro y _ J Jx w hJ hF hS hSx hy
 refine F211.enter (args:=[y,ptr c1]) (by simp) ?_
 unfold c211 r211
 obtain ⟨e1,⟨⟨a,cp,rfl⟩,_⟩⟩:=hF 0 _ _ hJ
 simp only [ZB,insVc,load1K,faddrK,lenLK,Zac,Za,Zag,Zah,e1]
 have hlen:(lesV l).length=l.length:=by simp [lesV]
 refine vc_loop (fun mm ρ ds u => ∃(i:Nat) (X:Nat→Prop),mm=l.length-i∧i≤l.length∧ρ 0=y∧ρ 6 = .slice a l.length cp∧ρ 7 = .int .i64 l.length∧ρ 8 = .int .i64 (i:Nat)∧ds=[]∧J i X u∧(∀k,X k→w.heap.size≤k∧k<u.heap.size)∧w.heap.size≤u.heap.size) (l.length-0) ?_ ?_
 ·refine ⟨0,fun _=>False,rfl,Nat.zero_le _, ?_⟩
  simp only [ZB,ne_eq,Nat.reduceEqDiff,reduceCtorEq,Zac,Za]
  exact ⟨rfl,hJ,fun k hk=>hk.elim,Nat.le_refl _⟩
 ·rintro mm ρ ds u ⟨i,X,rfl,hi,g0,g6,g7,g8,rfl,hJu,hX,hsu⟩
  by_cases hil:i<l.length
  ·have d1:(i:Int)<((l.length:Nat):Int):=by omega
   obtain ⟨x,hx⟩:∃x,l[i]? = some x:=⟨_,List.getElem?_eq_getElem hil⟩
   obtain ⟨_,_,hat⟩:=hF i X u hJu
   obtain ⟨b,o,c,cur,t,f,he,hb,hsz,hex⟩:=hat i x hx
   have ha':a=some ⟨b,o,none⟩:=by simpa using congrArg (fun x=>match x with | .slice a _ _=>a|_=>none) he
   subst ha'
   rw [Nat.add_assoc] at hsz hex
   have hi0:(0:Int)≤(i:Int)∧(i:Int)<((l.length:Nat):Int):=by omega
   have hr:(lesV l)[i]? = some [keyV x.q x.id,.int .u64 x.till]:=by simp [lesV,hx]
   have hw1:IntKind.i64.wrap ((i:Int)+1)=((i+1:Nat):Int):=by rw [wrap_i64 _ (by omega)];omega
   obtain ⟨u1,hu1⟩:∃u1,u1=set (u.alloc (.cells #[.string ⟨#[]⟩,.int .u64 0,.int .u64 0] 233)) u.heap.size (.cells #[.string x.q,.int .u64 x.id,.int .u64 x.till] 233):=⟨_,rfl⟩
   have hm1:Mod (fun _=>False) u u1:=by rw [hu1];exact ((Mod.refl _ _).alloc _).set (.inl (Nat.le_refl _))
   have hz1:u1.heap.size=u.heap.size+1:=by rw [hu1,size_set,size_alloc]
   have hJ1:=hS i X X u u1 hJu (hm1.mono fun _ _ x=>x.elim) (fun k hk=>.inl hk)
   have hyy:=hy i (by omega) X u1 hJ1 (fun k hk=>⟨(hX k hk).1,by have:=(hX k hk).2;omega⟩) (by omega)
   rw [hr] at hyy
   simp only [ZB,insVc,load1K,loadNK,storeNK,setMany,iopK,iopV,faddrK,iaddrK,callvK,isPlain,Value.cells,ne_eq,Nat.reduceEqDiff,Nat.reduceAdd,Nat.reduceLeDiff,reduceCtorEq,Zae,Zab,Za,Zag,Zah,Zai,Zak,Zaj,Zal,Zam,Zan,Zaa,Zbj,Zar,Zap,Zaq,Zao,Zas,Zat,Zau,Zav,Zax,Zbb,Zay,get_alloc,Zb,Nat.reduceAdd,Nat.reduceEqDiff,g0,g6,g7,g8,d1,hi0,hb,hsz,hex,Le.cells]
   rw [← hu1]
   refine callvK_mono hyy ?_
   rintro b2 u2 ⟨⟨q1,q2⟩,⟨rfl,q3⟩|⟨rfl,q3⟩⟩
   ·simp only [ZB,insVc,iopK,iopV,notK,ne_eq,Nat.reduceEqDiff,reduceCtorEq,g0,g6,g7,g8,hw1]
    refine ⟨l.length-(i+1),by omega,i+1,X,rfl,by omega,rfl,q3,fun k hk=>⟨(hX k hk).1,by have:=(hX k hk).2;omega⟩,by omega⟩
   ·simp only [ZB,endK,resK,insVc,notK]
    exact ⟨by omega,X,fun k hk=>⟨(hX k hk).1,by have:=(hX k hk).2;omega⟩,.inr q3⟩
  ·have d1:¬(i:Int)<((l.length:Nat):Int):=by omega
   simp only [ZB,endK,resK,insVc,iopK,iopV,reduceCtorEq,g7,g8,d1]
   have:i=l.length:=by omega
   rw [hlen,← this]
   exact ⟨hsu,X,hX,.inl hJu⟩
theorem lall_c (l:List Le) (v:Value) (w:World) (K:Value→World→Prop) (hv:IsLes w v l) (hl:l.length<2^40)
  (h:∀w' c1,Mod (fun _=>False) w w'→w.heap.size≤c1→w'.heap[c1]? = some (.cells #[.func (.func 92) #[] #[],v] 139 (0,0)) →
   IterP prog 211 [ptr c1] (lesV l) (fun u=>u.heap[c1]? = some (.cells #[.func (.func 92) #[] #[],v] 139 (0,0))∧IsLes u v l)→K (.func (.func 211) #[] #[ptr c1]) w') :
  Ok prog 151 #[tabV v] w K:=by
 obtain ⟨⟨a,cp,rfl⟩,_⟩:=id hv
 refine F151.enter (args:=[tabV (.slice a l.length cp)]) (by simp) ?_
 unfold c151 r151
 simp only [ZB,endK,resK,packed,insVc,Value.cells,ne_eq,Nat.reduceEqDiff,Zac,Zae,Zab,Za,Zad,tabV]
 exact h _ w.heap.size ((Mod.refl _ _).alloc _) (Nat.le_refl _) (get_alloc_new _ _) (lall1_c _ _ l hl)
def flatK (l:List (ByteArray × Nat)):List Value:=l.flatMap fun k=>[.string k.1,.int .u64 k.2]
def OwnK (w:World) (B:Nat) (v:Value) (l:List (ByteArray × Nat)):Prop:=w.ownsRow B 164 2 v l.length (flatK l)
theorem OwnK.keep {w w':World} {S:Nat→Prop} {B:Nat} {v:Value} {l:List (ByteArray × Nat)} (h:OwnK w B v l) (hm:Mod S w w') (hS:∀k,v.ownBlock=some k→¬S k):OwnK w' B v l:=by
 obtain ⟨h1,h2⟩:=h
 refine ⟨h1,h2.imp id ?_⟩
 rintro ⟨g,cap,cur,rfl,hB,hg,r⟩
 exact ⟨g,cap,cur,rfl,hB,hm.keep hg (hS g rfl),r⟩
theorem OwnK.form {w:World} {B:Nat} {v:Value} {l:List (ByteArray × Nat)} (h:OwnK w B v l):∃a c,v = .slice a l.length c:=by
 rcases h.2 with ⟨rfl,h0⟩|⟨g,cap,cur,rfl,_⟩
 ·exact ⟨none,0,by rw [h0]⟩
 ·exact ⟨_,_,rfl⟩
theorem info_key:(prog.info? 164).map (fun i=>(i.zero,i.size,i.bytes))=some (some (.agg #[.string ⟨#[]⟩,.int .u64 0]),2,24):=by kernel_rfl
theorem append_key (B:Nat) (v:Value) (l:List (ByteArray × Nat)) (q:ByteArray) (i:Nat) (w:World) (hown:OwnK w B v l) (hB:B≤w.heap.size) (hl:l.length<2^40) (ty:TypeId) :
  ∃v' w',(Builtin.append_ #[165,165] ty #[v,.slice (some ⟨w.heap.size,0,none⟩) 1 1]).run prog (w.alloc (.cells #[.string q,.int .u64 i] 164)) = .ok v' w' ∧
   OwnK w' B v' (l ++ [(q,i)])∧Mod (fun k=>v.ownBlock=some k) w w'∧(∀k,v'.ownBlock=some k→v.ownBlock=some k∨w.heap.size≤k):=by
 obtain ⟨ti,hi,hi1,hi2⟩:=info_of info_key
 have hm1:Mod (fun _=>False) w (w.alloc (.cells #[.string q,.int .u64 i] 164)):=(Mod.refl _ _).alloc _
 have hsrc:Src prog 2 165 (.slice (some ⟨w.heap.size,0,none⟩) 1 1) 1 [.string q,.int .u64 i] (w.alloc (.cells #[.string q,.int .u64 i] 164)):=by
  refine Src.ofSlice _ (e':=164) (by kernel_rfl) ⟨w.heap.size,0,none⟩ 1 1 _ (by simp) ?_ ?_
  ·intro j u hj
   have hgn:=get_alloc_new w (.cells #[.string q,.int .u64 i] 164)
   simp only [World.cell?,Addr.add_lit,Nat.zero_add,hgn]
   simpa using hj
  ·intro u hu
   simp only [Zbo,Zbp,or_false] at hu
   rcases hu with rfl|rfl <;> rfl
 obtain ⟨v',w',hr,ho,hm,hb⟩:=run_append_mine (P:=prog) B 165 165 ty 164 ti _ 2 (by kernel_rfl) hi hi1 hi2.1 rfl (by decide) v l.length _ (hown.keep hm1 (fun _ _=>id)) _ 1 _ hsrc (by simp [maxLen];omega) (by rw [hi2.2];omega) (Nat.le_trans hB hm1.size)
 refine ⟨v',w',hr, ?_,(hm1.mono fun _ _ x=>x.elim).then hm (fun k _ hk=>hk), ?_⟩
 ·unfold OwnK
  have e:flatK (l ++ [(q,i)])=flatK l ++ [.string q,.int .u64 i]:=by simp [flatK]
  rw [e,List.length_append,List.length_singleton]
  exact ho
 ·intro k hk
  rcases hb with hb|hb
  ·exact .inl (hb ▸ hk)
  ·rw [hb] at hk
   have:(w.alloc (.cells #[.string q,.int .u64 i] 164)).heap.size=k:=Option.some.inj hk
   rw [size_alloc] at this
   exact .inr (by omega)
def dueE (now:Nat) (l:List Le):List (ByteArray × Nat):=(l.filter fun e=>decide (e.till≤now)).map fun e=>(e.q,e.id)
theorem dueE_len (now:Nat) (l:List Le):(dueE now l).length≤l.length:=by unfold dueE;rw [List.length_map];exact List.length_filter_le _ _
theorem dueE_snoc (now:Nat) (l:List Le) (e:Le):dueE now (l ++ [e])=dueE now l ++ (if e.till≤now then [(e.q,e.id)] else []):=by
 unfold dueE
 rw [List.filter_append,List.map_append]
 by_cases h:e.till≤now <;> simp [h]
theorem ldue_c (l:List Le) (v:Value) (now:Nat) (w:World) (K:Value→World→Prop) (hv:OwnE w 0 v l) (hl:l.length<2^40)
  (h:∀w' o' v',Mod (fun _=>False) w w'→OwnK w' w.heap.size o' (dueE now l)→OwnE w' 0 v' (l.drop (dueE now l).length)→K (.tuple #[o',tabV v']) w') :
  Ok prog 88 #[tabV v,.int .u64 now] w K:=by
 obtain ⟨⟨a,cp,rfl⟩,_⟩:=hv.is
 refine F88.enter (args:=[tabV (.slice a l.length cp),.int .u64 now]) (by simp) ?_
 unfold c88 r88
 simp only [ZB,insVc,loadNK,Value.cells,ne_eq,Nat.reduceEqDiff,Nat.reduceAdd,Nat.reduceLeDiff,reduceCtorEq,Zac,Zae,Zab,Za,Zag,Zai,Zak,Zaj,Zaa,Zaf,Zar,Zap,Zaq,Zao,Zas,Zat,get_alloc,Zb,Nat.reduceAdd,Zbi,Nat.reduceEqDiff,Zaz,tabV]
 refine callK_gen ?_
 intro w1 hw1
 have hm1:Mod (fun _=>False) w w1:=by rw [hw1];exact ((((Mod.refl _ _).alloc _).alloc _).alloc _).alloc _
 have t1:w1.heap[w.heap.size]? = some (.cells #[.func (.func 92) #[] #[],.slice a l.length cp] 139 (0,0)):=by rw [hw1];simp only [Nat.reduceAdd,reduceCtorEq,Zaa,Zaf,size_alloc,get_alloc,size_alloc,Zb,Nat.reduceAdd,Zbi,Zaz]
 have n1:w1.heap[w.heap.size+1]? = some (.cells #[.int .u64 now] 27 (0,0)):=by rw [hw1];simp only [Nat.reduceEqDiff,Nat.reduceAdd,Zaa,Zaf,size_alloc,get_alloc,size_alloc,Zb,Nat.reduceAdd,Zbg,Zba,Nat.reduceEqDiff,Zaz]
 have r1:w1.heap[w.heap.size+2]? = some (.cells #[.nilFunc,.slice none 0 0] 139 (0,0)):=by rw [hw1];simp only [Nat.reduceEqDiff,Nat.reduceAdd,reduceCtorEq,Zaa,Zaf,size_alloc,get_alloc,size_alloc,Zb,Nat.reduceAdd,Zbg,Zba,Nat.reduceEqDiff]
 have o1:w1.heap[w.heap.size+3]? = some (.cells #[.slice none 0 0] 165 (0,0)):=by rw [hw1];simp only [Nat.reduceEqDiff,Nat.reduceAdd,reduceCtorEq,Zaa,Zaf,size_alloc,get_alloc,size_alloc,Zb,Nat.reduceAdd,Zbg,Zba,Nat.reduceEqDiff]
 have hz1:w1.heap.size=w.heap.size+4:=by rw [hw1];simp only [Nat.reduceAdd,size_alloc,size_alloc,Zb,Nat.reduceAdd]
 clear hw1
 refine lall_c l _ w1 _ (hv.keep0 hm1).is hl ?_
 intro w2 c1 hm2 hc1b k2 it
 have hm12:=hm1.trans hm2
 have hz2:=hm2.size
 have hc1:=lt_of_get k2
 simp only [ZB]
 refine range_iter (by kernel_rfl) (by kernel_rfl) (by kernel_rfl) (gf:=211) (cap:=[ptr c1]) (by simp only [upd_same,ev_tmp]) it
  (fun i X u=>u.heap[c1]? = some (.cells #[.func (.func 92) #[] #[],.slice a l.length cp] 139 (0,0))∧OwnE u 0 (.slice a l.length cp) l∧Mod (fun _=>False) w u ∧
   u.heap[w.heap.size]? = some (.cells #[.func (.func 92) #[] #[],.slice a l.length cp] 139 (0,0))∧u.heap[w.heap.size+1]? = some (.cells #[.int .u64 now] 27 (0,0))∧u.heap[w.heap.size+2]? = some (.cells #[.nilFunc,.slice none 0 0] 139 (0,0)) ∧
   ∃o,u.heap[w.heap.size+3]? = some (.cells #[o] 165 (0,0))∧OwnK u w2.heap.size o (dueE now (l.take i))∧(∀k,o.ownBlock=some k→¬X k))
  (fun c X u=>False) ?_ ?_ ?_ ?_ ?_ ?_ ?_ ?_
 ·intro X w' hm hsz hX
  have hmw:=hm12.trans hm
  exact ⟨hm.keep k2 id,hv.keep0 hmw,hmw,(hm2.trans hm).keep t1 id,(hm2.trans hm).keep n1 id,(hm2.trans hm).keep r1 id,_,(hm2.trans hm).keep o1 id,World.ownsRow_nil _ _ _ 2,fun k hk=>by cases hk⟩
 ·rintro i X u ⟨h1,h2,_⟩
  exact ⟨h1,h2.is⟩
 ·rintro i X X' x y ⟨h1,h2,h3,h4,h5,h6,o,h7,h8,h9⟩ hX ha hm hx
  have hno:∀k,k<w2.heap.size→¬X k:=fun k hk hh=>by have:=hX k hh;omega
  have hob:∀k,(Value.slice a l.length cp).ownBlock=some k→k<w.heap.size:=fun k hk=>(World.ownsRow.lt hv k hk).2
  refine ⟨hm.keep h1 (hno _ (by omega)),h2.keep hm (fun k hk=>hno k (by have:=hob k hk;omega)),h3.then hm (fun i hi hk=>hno i (by omega) hk),hm.keep h4 (hno _ (by omega)),hm.keep h5 (hno _ (by omega)),hm.keep h6 (hno _ (by omega)),o,hm.keep h7 (hno _ (by omega)),h8.keep hm h9, ?_⟩
  intro k hk hx'
  rcases hx k hx' with hx'|hx'
  ·exact h9 k hk hx'
  ·have:=(World.ownsRow.lt h8 k hk).2
   omega
 ·rintro c X X' x y hf
  exact hf.elim
 ·intro i hi
  rw [List.getElem?_eq_getElem hi]
  simp [lesV]
 ·intro i hi X x ⟨h1,h2,h3,h4,h5,h6,o,h7,h8,h9⟩ hX hx2
  have hil:i<l.length:=by simpa [lesV] using hi
  obtain ⟨e,he⟩:∃e,l[i]? = some e:=⟨_,List.getElem?_eq_getElem hil⟩
  have hrow:((lesV l)[i]?.getD [])=[keyV e.q e.id,.int .u64 e.till]:=by simp [lesV,he]
  have htk:l.take (i+1)=l.take i ++ [e]:=by rw [List.take_add_one,he];rfl
  rw [hrow]
  simp only [ZB,insVc,load1K,storeNK,setMany,isPlain,Value.cells,ne_eq,Nat.reduceEqDiff,Nat.reduceAdd,Nat.reduceLeDiff,Zai,Zak,Zaj,Zal,Zam,Zan,Zaa,Zau,Zav,Zax,get_alloc,Nat.reduceAdd,Nat.reduceEqDiff,updMany,keyV]
  refine ⟨((Mod.refl _ _).alloc _).set (.inl (Nat.le_refl _)), ?_⟩
  rintro c hmc ⟨k1,k2',k3,k4,k5,k6,o',k7,k8,k9⟩
  have hxa:¬X x.heap.size:=fun hh=>by have:=(hX _ hh).2;omega
  have pC:=hmc.keep (get_set_same _ _ (.cells #[.string e.q,.int .u64 e.id] 164 (0,0)) (by rw [size_alloc];omega)) hxa
  have hge:∀k,X k→w2.heap.size≤k∧k<c.heap.size:=fun k hk=>by have:=hX k hk;have:=hmc.size;simp only [size_set,size_alloc] at this;omega
  rw [htk]
  rw [dueE_snoc]
  by_cases hd:e.till≤now
  ·have d1:(e.till:Int)≤(now:Int):=by omega
   rw [if_pos hd]
   have hcz:w2.heap.size≤c.heap.size:=by have:=hmc.size;simp only [size_set,size_alloc] at this;omega
   have hdl:=dueE_len now (l.take i)
   have htl:(l.take i).length≤l.length:=by rw [List.length_take];omega
   obtain ⟨v5,w5,hr5,ho5,hm5,hb5⟩:=append_key w2.heap.size o' (dueE now (l.take i)) e.q e.id c k8 hcz (by omega) 165
   have hob:∀k,o'.ownBlock=some k→w2.heap.size≤k∧k<c.heap.size:=fun k hk=>World.ownsRow.lt k8 k hk
   obtain ⟨a5,c5,rfl⟩:=ho5.form
   simp only [ZB,insVc,load1K,loadNK,iopK,iopV,fillL,buildSK,Value.cells,ne_eq,Nat.reduceEqDiff,Nat.reduceAdd,Nat.reduceLeDiff,reduceCtorEq,Za,Zah,Zai,Zak,Zaj,Zbe,Zbf,Zbd,Zbc,Zal,Zam,Zan,Zbh,Zaa,Zar,Zap,Zaq,Zao,Zas,Zat,d1,k5,k7,pC]
   refine rawK_append rfl rfl rfl (by simp only [ZB,ne_eq,Nat.reduceEqDiff];exact hr5) ?_
   have k1':=hm5.keep k1 (fun z=>by have:=hob _ z;omega)
   have k4':=hm5.keep k4 (fun z=>by have:=hob _ z;omega)
   have k5':=hm5.keep k5 (fun z=>by have:=hob _ z;omega)
   have k6':=hm5.keep k6 (fun z=>by have:=hob _ z;omega)
   have k7':=hm5.keep k7 (fun z=>by have:=hob _ z;omega)
   have l7':=lt_of_get k7'
   have hms:=hm5.size
   have hvb:∀k,(Value.slice a l.length cp).ownBlock=some k→k<w.heap.size:=fun k hk=>(World.ownsRow.lt hv k hk).2
   have hm6:Mod (fun k=>k=w.heap.size+3) w5 (Vc.set w5 (w.heap.size+3) (.cells #[.slice a5 (dueE now (l.take i) ++ [(e.q,e.id)]).length c5] 165 (0,0))):=(Mod.refl _ _).set (.inr rfl)
   have hm56:Mod (fun k=>o'.ownBlock=some k∨k=w.heap.size+3) c (Vc.set w5 (w.heap.size+3) (.cells #[.slice a5 (dueE now (l.take i) ++ [(e.q,e.id)]).length c5] 165 (0,0))):=(hm5.mono fun _ _ x=>.inl x).then hm6 (fun k _ hk=>.inr hk)
   simp only [ZB,insVc,storeK,isPlain,ne_eq,Nat.reduceEqDiff,Nat.reduceLT,Nat.reduceLeDiff,reduceCtorEq,Zai,Zak,Zaj,Zal,Zam,Zay,k7']
   refine ⟨⟨hms, ?_⟩,.inl ⟨hm6.keep k1' (by omega), ?_,h3.then ((((Mod.refl (fun k=>X k∨o'.ownBlock=some k∨k=w.heap.size+3) x).alloc _).set (.inl (Nat.le_refl _))).trans ((hmc.mono fun _ _ z=>.inl z).trans (hm56.mono fun _ _ z=>.inr z))) ?_,hm6.keep k4' (by omega),hm6.keep k5' (by omega),hm6.keep k6' (by omega),_,get_set_same _ _ _ l7',ho5.keep hm6 ?_, ?_⟩⟩
   ·intro k hk
    exact hm56.get k (hge k hk).2 (by rintro (z|z);exact k9 k z hk;have:=hge k hk;omega)
   ·exact k2'.keep hm56 (fun k hk=>by have:=hvb k hk;rintro (z|z);have:=hob k z;omega;omega)
   ·rintro k hk (z|z|z)
    ·have:=hge k z;omega
    ·have:=hob k z;omega
    ·omega
   ·intro k hk hh
    rcases hb5 k hk with z|z
    ·have:=hob k z;omega
    ·omega
   ·intro k hk hh
    rcases hb5 k hk with z|z
    ·exact k9 k z hh
    ·have:=hge k hh;omega
  ·have d1:¬(e.till:Int)≤(now:Int):=by omega
   rw [if_neg hd,List.append_nil]
   simp only [ZB,insVc,iopK,iopV,ne_eq,Nat.reduceEqDiff,reduceCtorEq,Za,Zah,d1,k5]
   refine ⟨⟨Nat.le_refl _,fun _ _=>trivial⟩,.inl ⟨k1,k2',k3,k4,k6,o',k7,k8,k9⟩⟩
 ·rintro X u ⟨h1,h2,h3,h4,h5,h6,o,h7,h8,h9⟩ ⟨hend,hsz,hXr⟩
  rw [show (lesV l).length=l.length by simp [lesV],List.take_length] at h8
  obtain ⟨ao,co,rfl⟩:=h8.form
  have hdl:=dueE_len now l
  obtain ⟨a',n',c',e',rfl,hkc,hnc,hsub⟩:=h2.tail (dueE now l).length hdl
  simp only [Value.slice.injEq] at e'
  obtain ⟨rfl,-,rfl⟩:=e'
  have b1:(0:Int)≤((dueE now l).length:Int)∧((dueE now l).length:Int)≤(l.length:Int)∧(l.length:Int)≤(cp:Int):=by omega
  simp only [ZB,insVc,load1K,faddrK,lenLK,boundOf,slLK,ne_eq,Nat.reduceEqDiff,Zbn,Zbv,Zae,Zab,Za,Zag,Zah,Zbj,h4,h7,b1]
  refine lclone_c _ (l.drop (dueE now l).length) u _ hsub (by rw [List.length_drop];omega) ?_
  intro w5 v5 hm5 hv5
  have hz5:=hm5.size
  have q4:=hm5.keep h4 id
  have q6:=hm5.keep h6 id
  have q7:=hm5.keep h7 id
  have qe:=hm5.keep hend id
  have lu:=lt_of_get hend
  have hd8:∀k,(Value.slice ao (dueE now l).length co).ownBlock=some k→w2.heap.size≤k∧k<u.heap.size:=fun k hk=>World.ownsRow.lt h8 k hk
  have hd8m:∀k,(Value.slice ao (dueE now l).length co).ownBlock=some k→k≠w2.heap.size:=by
   intro k hk hh
   subst hh
   rcases h8.2 with ⟨hx,_⟩|⟨g,cap,cur,hx,_,hg,_⟩
   ·rw [hx] at hk;cases hk
   ·rw [hx] at hk
    have hgk:g=w2.heap.size:=Option.some.inj hk
    rw [hgk,hend] at hg
    cases hg
  have hv5b:∀k,v5.ownBlock=some k→u.heap.size≤k:=fun k hk=>(World.ownsRow.lt hv5 k hk).1
  obtain ⟨a5,c5,rfl,_⟩:=hv5.form
  obtain ⟨w6,hw6⟩:∃w6,w6=set w5 w.heap.size (.cells #[.func (.func 92) #[] #[],.slice a5 (l.drop (dueE now l).length).length c5] 139):=⟨_,rfl⟩
  have hm6:Mod (fun k=>k=w.heap.size) w5 w6:=by rw [hw6];exact (Mod.refl _ _).set (.inr rfl)
  have p4:w6.heap[w.heap.size]? = some (.cells #[.func (.func 92) #[] #[],.slice a5 (l.drop (dueE now l).length).length c5] 139 (0,0)):=by rw [hw6];exact get_set_same _ _ _ (lt_of_get q4)
  have p6:=hm6.keep q6 (by omega)
  have p7:=hm6.keep q7 (by omega)
  have pe:=hm6.keep qe (by omega)
  simp only [ZB,insVc,storeK,faddrK,isPlain,ne_eq,Nat.reduceEqDiff,Nat.reduceAdd,Nat.reduceLT,Nat.reduceLeDiff,Zai,Zak,Zaj,Zal,Zam,Zan,Zay,q4]
  rw [← hw6]
  clear hw6
  refine draw_d (fun u=>u.heap[w.heap.size]? = some (.cells #[.func (.func 92) #[] #[],.slice a5 (l.drop (dueE now l).length).length c5] 139 (0,0))∧u.heap[w.heap.size+3]? = some (.cells #[.slice ao (dueE now l).length co] 165 (0,0))) (by kernel_rfl) (by kernel_rfl) (by kernel_rfl) (by kernel_rfl) ⟨p4,p7⟩ ?_
  simp only [ZB,endK,resK,resN,packed,insVc,storeNK,ne_eq,Nat.reduceEqDiff,Zad,Zaw,Zaa,Zaf,pureI,vcD_nil,vcD_cons,stepD_pure,stepD_load,stepD_step,kindI,loadI]
  refine loadD1 (b:=w.heap.size+3) (o:=0) (v:=.slice ao (dueE now l).length co) (by simp only [ZB,ne_eq,Nat.reduceEqDiff]) (fun W hW=>⟨_,_,_,hW.2,rfl⟩) ?_
  refine loadDN (b:=w.heap.size) (o:=0) (v:=.agg #[.func (.func 92) #[] #[],.slice a5 (l.drop (dueE now l).length).length c5]) (by simp only [ZB,ne_eq,Nat.reduceEqDiff]) (fun W hW=>⟨_,_,_,hW.1,by simp,rfl⟩) ?_
  have p6d:w6.drew.heap[w.heap.size+2]? = some (.cells #[.nilFunc,.slice none 0 0] 139 (0,0)):=p6
  have hm7:Mod (fun k=>k=w.heap.size+2) w6 (Vc.set w6.drew (w.heap.size+2) (.cells #[.func (.func 92) #[] #[],.slice a5 (l.drop (dueE now l).length).length c5] 139)):=((Mod.refl _ w6).drew).set (.inr rfl)
  simp only [storeNO_cells,setMany,isPlain,Nat.reduceAdd,Nat.reduceLeDiff,Zai,Zak,Zaj,Zal,Zam,Zan,true_and,and_self,Nat.zero_add,Bool.and_true,Zau,Zav,Zax,p6]
  refine ⟨⟨hm7.keep p4 (by omega),hm7.keep p7 (by omega)⟩, ?_⟩
  have s6:=get_set_same w6.drew (w.heap.size+2) (.cells #[.func (.func 92) #[] #[],.slice a5 (l.drop (dueE now l).length).length c5] 139) (lt_of_get p6d)
  have se:=hm7.keep pe (by omega)
  have hm8:Mod (fun k=>k=w2.heap.size) (Vc.set w6.drew (w.heap.size+2) (.cells #[.func (.func 92) #[] #[],.slice a5 (l.drop (dueE now l).length).length c5] 139)) (Vc.set (Vc.set w6.drew (w.heap.size+2) (.cells #[.func (.func 92) #[] #[],.slice a5 (l.drop (dueE now l).length).length c5] 139)) w2.heap.size (.deferred none)):=(Mod.refl _ _).set (.inr rfl)
  have s8:=hm8.keep s6 (by omega)
  simp only [resNO_cells,Nat.reduceAdd,Nat.reduceLeDiff,Zai,Zak,Zaj,true_and,Nat.zero_add,Zar,Zap,Zaq,Zao,Zas,Zat,markO,se,s8]
  refine h _ _ _ (((h3.trans hm5).then hm6 (fun i hi hk=>by omega)).then hm7 (fun i hi hk=>by omega) |>.then hm8 (fun i hi hk=>by omega)) ?_ ?_
  ·refine OwnK.keep (OwnK.keep (OwnK.keep (OwnK.keep ?_ hm5 (fun _ _=>id)) hm6 (fun k hk hh=>by have:=hd8 k hk;omega)) hm7 (fun k hk hh=>by have:=hd8 k hk;omega)) hm8 (fun k hk hh=>hd8m k hk hh)
   exact ⟨h8.1,h8.2.imp id fun ⟨g,cap,cur,x1,x2,r⟩=>⟨g,cap,cur,x1,by omega,r⟩⟩
  ·exact OwnE.keep (OwnE.keep (OwnE.keep (hv5.mono (Nat.zero_le _)) hm6 (fun k hk hh=>by have:=hv5b k hk;omega)) hm7 (fun k hk hh=>by have:=hv5b k hk;omega)) hm8 (fun k hk hh=>by have:=hv5b k hk;omega)
 ·rintro c X w' hf
  exact hf.elim
theorem lkeys_c (w:World) (K:Value→World→Prop) (h:∀w',Mod (fun _=>False) w w'→K (tabV (.slice none 0 0)) w'):Ok prog 73 #[] w K:=by
 refine F73.enter (args:=[]) (by simp) ?_
 unfold c73 r73
 simp only [ZB,insVc,Value.cells,Zae,Zab]
 refine F91.enter (args:=[.func (.func 92) #[] #[]]) (by simp) ?_
 unfold c91 r91
 simp only [ZB,endK,resK,resN,packed,insVc,storeNK,setMany,buildK,fillL,isPlain,Value.cells,ne_eq,Nat.reduceEqDiff,Nat.reduceAdd,Nat.reduceLT,Nat.reduceLeDiff,reduceCtorEq,Zac,Za,Zai,Zak,Zaj,Zbe,Zbf,Zbd,Zbc,Zal,Zam,Zan,Zad,Zbh,Zaa,Zaf,Zar,Zap,Zaq,Zao,Zas,Zat,Zau,Zav,Zax,Zbb,Zay,get_alloc,get_set,Zb,Nat.reduceAdd,Zba,Zbi,Nat.reduceEqDiff,Zcc,Nat.reduceLT,Zaz]
 exact h _ ((((Mod.refl _ _).alloc _).alloc _).set (.inl (by simp)) |>.set (.inl (by simp)))
def xL:Le:=⟨⟨#[120]⟩,0,5⟩
theorem lend_x:lendE ⟨#[120]⟩ 0 5 []=[xL]:=by rfl
theorem free_x:freeE ⟨#[120]⟩ 0 []=[]:=by rfl
theorem due_x4:dueE 4 [xL]=[]:=by rfl
theorem due_x5:dueE 5 [xL]=[(⟨#[120]⟩,0)]:=by rfl
theorem awake70_c (w:World) (K:Value→World→Prop) (h:∀w',Mod (fun _=>False) w w'→K (.bool true) w'):Ok prog 70 #[] w K:=by
 refine F70.enter (args:=[]) (by simp) ?_
 unfold c70 r70
 simp only [ZB,insVc,Zab]
 refine lkeys_c w _ ?_
 intro w1 hm1
 simp only [ZB,insVc,buildK,fillL,Value.cells,ne_eq,Nat.reduceEqDiff,Nat.reduceAdd,Nat.reduceLeDiff,Zae,Zab,Zai,Zak,Zaj,Zbe,Zbf,Zbd,Zbc,Zal,Zam,Zbh,Zaa]
 refine llend_c [] (.slice none 0 0) ⟨#[120]⟩ 0 5 w1 _ (OwnE.nil _ _) (by decide) (by rw [free_x];rfl) ?_
 intro w2 v2 hm2 hv2
 rw [lend_x] at hv2
 have hm12:=hm1.trans hm2
 obtain ⟨a2,c2,rfl,_⟩:=hv2.form
 obtain ⟨w3,hw3⟩:∃w3,w3=Vc.set (w2.alloc (.cells #[.nilFunc,.slice none 0 0] 139)) w2.heap.size (.cells #[.func (.func 92) #[] #[],.slice a2 1 c2] 139):=⟨_,rfl⟩
 have hm3:Mod (fun _=>False) w2 w3:=by rw [hw3];exact ((Mod.refl _ _).alloc _).set (.inl (Nat.le_refl _))
 have t3:w3.heap[w2.heap.size]? = some (.cells #[.func (.func 92) #[] #[],.slice a2 1 c2] 139 (0,0)):=by rw [hw3];exact get_set_same _ _ _ (by rw [size_alloc];omega)
 have hm13:=hm12.trans hm3
 have hv3:OwnE w3 0 (.slice a2 1 c2) [xL]:=hv2.keep0 hm3
 simp only [ZB,insVc,loadNK,storeNK,setMany,isPlain,Value.cells,ne_eq,Nat.reduceEqDiff,Nat.reduceAdd,Nat.reduceLeDiff,Zae,Zab,Zai,Zak,Zaj,Zal,Zam,Zan,Zaa,Zar,Zap,Zaq,Zao,Zas,Zat,Zau,Zav,Zax,Zbb,Zay,get_alloc,Nat.reduceAdd,Nat.reduceEqDiff,tabV]
 rw [← hw3]
 clear hw3
 refine ldue_c [xL] (.slice a2 1 c2) 4 w3 _ hv3 (by decide) ?_
 intro w4 o4 v4 hm4 ho4 hv4
 rw [due_x4] at ho4 hv4
 have hm14:=hm13.trans hm4
 have t4:=hm4.keep t3 id
 obtain ⟨ao4,co4,rfl⟩:=ho4.form
 have hv4':OwnE w4 0 v4 [xL]:=hv4
 obtain ⟨a4,c4,e4,_⟩:=hv4'.form
 have e4':v4 = .slice a4 1 c4:=e4
 subst e4'
 obtain ⟨w5,hw5⟩:∃w5,w5=Vc.set (w4.alloc (.cells #[.nilFunc,.slice none 0 0] 139)) w4.heap.size (.cells #[.func (.func 92) #[] #[],.slice a4 1 c4] 139):=⟨_,rfl⟩
 have hm5:Mod (fun _=>False) w4 w5:=by rw [hw5];exact ((Mod.refl _ _).alloc _).set (.inl (Nat.le_refl _))
 have t5:=hm5.keep t4 id
 have hm15:=hm14.trans hm5
 have hv5:OwnE w5 0 (.slice a2 1 c2) [xL]:=hv3.keep0 (hm4.trans hm5)
 have hne5:w2.heap.size≠w4.heap.size:=by have:=lt_of_get t4;omega
 simp only [ZB,insVc,loadNK,storeNK,setMany,extK,isPlain,Value.cells,ne_eq,Nat.reduceEqDiff,Nat.reduceAdd,Nat.reduceLeDiff,Zae,Zab,Za,Zag,Zah,Zai,Zak,Zaj,Zal,Zam,Zan,Zaa,Zaf,Zar,Zap,Zaq,Zao,Zas,Zat,Zau,Zav,Zax,Zay,get_alloc,get_set,Nat.reduceAdd,Nat.reduceEqDiff,tabV,hne5,t4]
 rw [← hw5]
 clear hw5
 refine ldue_c [xL] (.slice a2 1 c2) 5 w5 _ hv5 (by decide) ?_
 intro w6 o6 v6 hm6 ho6 hv6
 rw [due_x5] at ho6 hv6
 have hm16:=hm15.trans hm6
 have t6:=hm6.keep t5 id
 obtain ⟨ao6,co6,rfl⟩:=ho6.form
 have hv6':OwnE w6 0 v6 []:=hv6
 obtain ⟨a6,c6,e6,_⟩:=hv6'.form
 have e6':v6 = .slice a6 0 c6:=e6
 subst e6'
 obtain ⟨w7,hw7⟩:∃w7,w7=Vc.set (w6.alloc (.cells #[.nilFunc,.slice none 0 0] 139)) w6.heap.size (.cells #[.func (.func 92) #[] #[],.slice a6 0 c6] 139):=⟨_,rfl⟩
 have hm7:Mod (fun _=>False) w6 w7:=by rw [hw7];exact ((Mod.refl _ _).alloc _).set (.inl (Nat.le_refl _))
 have t7:=hm7.keep t6 id
 have s7:w7.heap[w6.heap.size]? = some (.cells #[.func (.func 92) #[] #[],.slice a6 0 c6] 139 (0,0)):=by rw [hw7];exact get_set_same _ _ _ (by rw [size_alloc];omega)
 have hm17:=hm16.trans hm7
 have hv7:IsLes w7 (.slice a2 1 c2) [xL]:=(hv5.keep0 (hm6.trans hm7)).is
 have hu7:IsLes w7 (.slice a6 0 c6) []:=(hv6'.keep0 hm7).is
 have z0:(((0:Nat):Int) == 0)=true:=rfl
 have z1:(((0+1:Nat):Int) == 1)=true:=rfl
 have z1':(((1:Nat):Int) == 1)=true:=rfl
 simp only [ZB,insVc,pickK,loadNK,storeNK,setMany,iopK,iopV,extK,lenLK,isPlain,Value.cells,ne_eq,Nat.reduceEqDiff,Nat.reduceAdd,Nat.reduceLeDiff,reduceCtorEq,Zae,Zab,Za,Zag,Zah,Zai,Zak,Zaj,Zal,Zam,Zan,Zaa,Zar,Zap,Zaq,Zao,Zas,Zat,Zau,Zav,Zax,Zbb,Zay,get_alloc,Nat.reduceAdd,Nat.reduceEqDiff,tabV,z0,z1]
 rw [← hw7]
 clear hw7
 refine llen_c [] _ w7 _ hu7 ?_
 intro w8 hm8
 have t8:=hm8.keep t7 id
 simp only [ZB,insVc,pickK,loadNK,iopK,iopV,ne_eq,Nat.reduceEqDiff,Nat.reduceAdd,Nat.reduceLeDiff,reduceCtorEq,Zae,Zab,Zai,Zak,Zaj,Zaa,Zar,Zap,Zaq,Zao,Zas,Zat,z0,t8]
 refine llen_c [xL] _ w8 _ (hv7.keep hm8) ?_
 intro w9 hm9
 simp only [ZB,endK,resK,packed,insVc,pickK,iopK,iopV,ne_eq,Nat.reduceEqDiff,reduceCtorEq,Zak,Zaj,Zad,Zaa,z1]
 exact h _ ((hm17.trans hm8).trans hm9)
theorem awake55_c (w:World) (K:Value→World→Prop) (h:∀w',Mod (fun _=>False) w w'→K (.bool true) w'):Ok prog 55 #[] w K:=by
 refine F55.enter (args:=[]) (by simp) ?_
 unfold c55 r55
 simp only [ZB,insVc,Zab]
 refine awake70_c w _ ?_
 intro w1 hm1
 simp only [ZB,endK,resK,packed,insVc,Zad]
 exact h w1 hm1
end Go.Oct
namespace Go.Oct
open Go Go.Vc
structure Bi where
 ex:ByteArray
 kind:Int
 key:ByteArray
 q:ByteArray
def Bi.cells (b:Bi):List Value:=[.string b.ex,.int .i64 b.kind,.string b.key,.string b.q]
def Bi.val (b:Bi):Value:=.agg b.cells.toArray
def b0:Bi:=⟨e0,0,e0,e0⟩
abbrev zb:Array Value:=#[.string ⟨#[]⟩,.int .i64 0,.string ⟨#[]⟩,.string ⟨#[]⟩]
def Bi.good (b:Bi):Prop:=b.ex.size<4294967281∧b.key.size<4294967281∧b.q.size<4294967281
end Go.Oct
namespace Go.Vc
open Go
variable {P:Program}
def EqR (P:Program) (d:Nat) (t:TypeId) (u v:Value) (b:Bool):Prop:=∀w,(Op.equalIn d t u v).run P w = .ok b w
theorem EqR.str {d:Nat} {t:TypeId} (h:P.underlying t=some .string) (a b:ByteArray):EqR P (d+1) t (.string a) (.string b) (a.toList == b.toList):=fun w=>run_equalIn_string w d t a b h
theorem EqR.int {d:Nat} {t:TypeId} {k:IntKind} (h:P.underlying t=some (.int k)) (a b:Int):EqR P (d+1) t (.int k a) (.int k b) (a == b):=fun w=>run_equalIn_int w d t k k a b h
theorem EqR.bool {d:Nat} {t:TypeId} (h:P.underlying t=some .bool) (a b:Bool):EqR P (d+1) t (.bool a) (.bool b) (a == b):=fun w=>run_equalIn_bool' w d t a b h
def PartAt (P:Program) (t:TypeId) (cs:Array Value) (o:Nat) (v:Value):Prop:=∀w,(part t cs o).run P w = .ok v w
theorem PartAt.one {t:TypeId} {cs:Array Value} {o:Nat} {v:Value} (ha:aggOf P t=some false) (hv:cs[o]? = some v):PartAt P t cs o v:=by
 intro w
 unfold part
 rw [Sem.run_bind,run_isAgg ha w]
 simp only [Result.andThen,Bool.false_eq_true,Zaf,hv]
 rfl
theorem PartAt.agg {t:TypeId} {cs:Array Value} {o s:Nat} (ha:aggOf P t=some true) (hs:csz P t=some s) (hle:o+s≤cs.size):PartAt P t cs o (.agg (cs.extract o (o+s))):=by
 intro w
 unfold part
 rw [Sem.run_bind,run_isAgg ha w]
 simp [Result.andThen,Sem.run_bind,run_sizeOf hs,pure,Sem.run]
def EqL (P:Program) (d:Nat) (xs ys:Array Value):List (TypeId × Nat)→Bool→Prop
 | [],b=>b=true
 | (t,o) :: L,b => ∃u v e r,PartAt P t xs o u∧PartAt P t ys o v∧EqR P d t u v e∧EqL P d xs ys L r∧b=(e && r)
theorem eqFields_of {d:Nat} {xs ys:Array Value}:∀(fs:List Field) (L:List (TypeId × Nat)) (b:Bool),(fs.map fun f=>(f.type,f.offset))=L→(fs.all fun f=>f.name != "_")=true→EqL P d xs ys L b →
  ∀w,(Op.eqFields d xs ys fs).run P w = .ok b w:=by
 intro fs
 induction fs with
 | nil =>
  rintro L b rfl _ h w
  simp only [Zab,EqL] at h
  subst h
  rfl
 | cons f fs ih =>
  rintro L b rfl hn ⟨u,v,e,r,hu,hv,he,hr,rfl⟩ w
  simp only [Zav,Zbk,bne_iff_ne] at hn
  unfold Op.eqFields
  rw [if_pos hn.1]
  simp only [Sem.run_bind,hu w,hv w,Result.andThen,he w]
  cases e with
  | true=>simpa using ih _ r rfl hn.2 hr w
  | false=>rfl
theorem EqR.struct {d:Nat} {t:TypeId} {xs ys:Array Value} {L:List (TypeId × Nat)} {b:Bool} (ht:P.underlying t=some (.struct (P.fieldsOf t))) (hp:P.stoodInHeld t=false)
  (hL:((P.fieldsOf t).toList.map fun f=>(f.type,f.offset))=L) (hn:((P.fieldsOf t).toList.all fun f=>f.name != "_")=true) (h:EqL P d xs ys L b):EqR P (d+1) t (.agg xs) (.agg ys) b:=by
 intro w
 rw [run_equalIn_struct (ht:=ht) (hp:=hp)]
 exact eqFields_of _ L b hL hn h w
section
variable {go:Value→World→Prop} {ρ:Env} {ds:List Deferred} {n:Nat} {o:Oper} {w:World} {x y:Operand} {t:TypeId} {xs ys:Array Value} {b:Bool}
theorem rawK_eql_agg (ho:o.op = .binOp .eql t x y t) (hx:inB n x=true) (hy:inB n y=true) (ha:ev ρ x = .agg xs) (hb:ev ρ y = .agg ys) (hg:P.eqGuardType P.depth t=false) (he:EqR P 10000 t (.agg xs) (.agg ys) b) (h:go (.bool b) w):RawK P go ρ ds n o w:=by
 unfold RawK
 simp only [execOp,ho,mkA_eval n ρ ds x hx,mkA_eval n ρ ds y hy,ha,hb,Sem.run_bind,run_eqGuard_agg w .eql t x y _ _ hg,Result.andThen,run_eql_struct,he w]
 exact h
theorem rawK_neq_agg (ho:o.op = .binOp .neq t x y t) (hx:inB n x=true) (hy:inB n y=true) (ha:ev ρ x = .agg xs) (hb:ev ρ y = .agg ys) (hg:P.eqGuardType P.depth t=false) (he:EqR P 10000 t (.agg xs) (.agg ys) b) (h:go (.bool (!b)) w):RawK P go ρ ds n o w:=by
 unfold RawK
 simp only [execOp,ho,mkA_eval n ρ ds x hx,mkA_eval n ρ ds y hy,ha,hb,Sem.run_bind,run_eqGuard_agg w .neq t x y _ _ hg,Result.andThen,run_neq_struct,he w]
 exact h
end
section
variable {go:Value→World→Prop} {ρ:Env} {ds:List Deferred} {n:Nat} {o:Oper} {w:World}
theorem rawK_range {x:Operand} {t:TypeId} {s:ByteArray} (ho:o.op = .range t x) (hx:inB n x=true) (ht:P.underlying t=some .string) (ex:ev ρ x = .string s)
  (h:go (.pointer (some ⟨w.heap.size,0,none⟩)) (w.alloc (.stringIter s 0))):RawK P go ρ ds n o w:=by
 unfold RawK
 simp only [execOp,ho,Sem.run_bind,mkA_eval n ρ ds x hx,ex,run_range_string w t s ht,Result.andThen,pure,Sem.run]
 exact h
theorem rawK_next {x:Operand} {s:ByteArray} {k pos:Nat} {b:UInt8} (ho:o.op = .next x true) (hx:inB n x=true) (ex:ev ρ x = .pointer (some ⟨k,0,none⟩)) (hk:w.heap[k]? = some (.stringIter s pos)) (hb:s.data[pos]? = some b) (ha:b.toNat<128)
  (h:go (.tuple #[.bool true,.int .i64 pos,.int .i32 b.toNat]) (set w k (.stringIter s (pos+1)))):RawK P go ρ ds n o w:=by
 obtain ⟨hlt,he⟩:=Array.getElem?_eq_some_iff.1 hb
 have hlt':pos<s.size:=hlt
 have e:s[pos]'hlt'=b:=he
 have hr:=Lib.run_next_ascii_at (P:=P) w k s pos o.type hk hlt' (by rw [e];exact ha)
 rw [e] at hr
 unfold RawK
 simp only [execOp,ho,Sem.run_bind,mkA_eval n ρ ds x hx,ex,hr,Result.andThen,pure,Sem.run]
 exact h
theorem rawK_nextEnd {x:Operand} {s:ByteArray} {k pos:Nat} (ho:o.op = .next x true) (hx:inB n x=true) (ex:ev ρ x = .pointer (some ⟨k,0,none⟩)) (hk:w.heap[k]? = some (.stringIter s pos)) (hb:s.size≤pos)
  (h:go (.tuple #[.bool false]) w):RawK P go ρ ds n o w:=by
 have hr:=Lib.run_next_end_at (P:=P) w k s pos o.type hk (by omega)
 unfold RawK
 simp only [execOp,ho,Sem.run_bind,mkA_eval n ρ ds x hx,ex,hr,Result.andThen,pure,Sem.run]
 exact h
end
end Go.Vc
namespace Go.VrI
open Go Go.Vc Go.Proofs.Tryz
set_option maxRecDepth 100000
noncomputable def c56:CC:=(.seq (.ops [⟨none,some 0,.mv (.const (.bool false))⟩])
 (.seq (.ops [⟨none,some 1,.call 71 []⟩,mvt 0 1])
 .ret))
abbrev r56:List RV:=[(.tmp 0)]
theorem F56:FnOk prog 56 2 c56 r56:=FnOk.o func56
noncomputable def c74:CC:=(.seq (.ops [⟨none,some 1,.box 126 (.tmp 0)⟩,⟨none,some 2,.mv (.const (.string (.mk #[])))⟩,⟨none,some 3,.mv (.const (.int .i64 0))⟩])
 (.seq (.block 0
 (.seq (.ops [⟨none,some 8,.faddr 0 (.tmp 1)⟩,⟨none,some 9,.load1 (.tmp 8)⟩,⟨none,some 10,.call 93 [.tmp 9]⟩,⟨none,some 11,.not (.tmp 10)⟩,mvt 7 11])
 (.cond (.tmp 7)
 (.seq (.ops [⟨none,some 2,.mv (.const (.string (.mk #[])))⟩,⟨none,some 3,.mv (.const (.int .i64 11))⟩])
 .ret)
 (.seq (.draw 3 (opsOf (sub (bodyOf f74) [1,0,0,1,1,0])) [⟨none,some 13,.loadN 18 (.tmp 1)⟩,⟨none,some 14,.call 94 [.tmp 13]⟩,⟨none,some 15,.loadN 18 (.tmp 1)⟩,⟨none,some 16,.raw 50 (.mk (some 16) (.binOp .neq 126 (.tmp 14) (.tmp 15) 126) 4 "command.go:148" #[.mk 1 .data,.mk 2 .data] none)⟩,mvt 17 16,⟨some (17,false),some 18,.faddr 6 (.tmp 1)⟩,⟨some (17,false),some 19,.faddr 1 (.tmp 18)⟩,⟨some (17,false),some 20,.load1 (.tmp 19)⟩,⟨some (17,false),some 21,.iop .lss (.tmp 20) (.const (.int .i64 0))⟩,⟨none,some 22,.pick (.tmp 17) (.const (.bool true)) (.tmp 21)⟩,mvt 23 22,⟨some (23,false),some 24,.faddr 6 (.tmp 1)⟩,⟨some (23,false),some 25,.faddr 1 (.tmp 24)⟩,⟨some (23,false),some 26,.load1 (.tmp 25)⟩,⟨some (23,false),some 27,.iop .gtr (.tmp 26) (.const (.int .i64 255))⟩,⟨none,some 28,.pick (.tmp 23) (.const (.bool true)) (.tmp 27)⟩,mvt 12 28])
 (.cond (.tmp 12)
 (.seq (.ops [⟨none,some 2,.mv (.const (.string (.mk #[])))⟩,⟨none,some 3,.mv (.const (.int .i64 4))⟩])
 .ret)
 (.seq (.ops [⟨none,some 30,.loadN 18 (.tmp 1)⟩,⟨none,some 31,.call 95 [.tmp 30]⟩,mvt 29 31])
 (.cond (.tmp 29)
 (.seq (.ops [⟨none,some 2,.mv (.const (.string (.mk #[])))⟩,⟨none,some 3,.mv (.const (.int .i64 5))⟩])
 .ret)
 .skip)))))))
 (.seq (.ops [⟨none,some 32,.faddr 0 (.tmp 1)⟩,⟨none,some 33,.load1 (.tmp 32)⟩,⟨none,some 34,.conv .u8 (.tmp 33)⟩,⟨none,some 35,.call 96 [.tmp 34]⟩,mvt 4 35])
 (.seq (.seq (.ops [⟨none,some 36,.faddr 0 (.tmp 1)⟩,⟨none,some 37,.load1 (.tmp 36)⟩,⟨none,some 38,.iaddrA 14 1 (.global 2) (.tmp 37)⟩,⟨none,some 39,.load1 (.tmp 38)⟩,⟨none,some 40,.raw 50 (.mk (some 40) (.range 9 (.tmp 39)) 0 "command.go:154" #[.mk 3 .data] none)⟩])
 (.block 1
 (.loop
 (.seq (.ops [⟨none,some 41,.raw 50 (.mk (some 41) (.next (.tmp 40) true) 0 "command.go:154" #[] none)⟩,⟨none,some 42,.ext (.tmp 41) 0⟩])
 (.seq (.cond (.tmp 42)
 .skip
 (.exit 1))
 (.block 2
 (.seq (.ops [⟨none,some 43,.ext (.tmp 41) 2⟩,mvt 6 43])
 (.ops [mvt 44 4,⟨none,some 45,.loadN 18 (.tmp 1)⟩,mvt 46 6,⟨none,some 47,.call 97 [.tmp 45,.tmp 46]⟩,⟨none,some 48,.sop .add (.tmp 44) (.tmp 47)⟩,mvt 4 48]))))))))
 (.seq (.ops [mvt 49 4,mvt 2 49,⟨none,some 3,.mv (.const (.int .i64 0))⟩])
 .ret)))))
abbrev r74:List RV:=[(.tmp 2),(.tmp 3)]
theorem F74:FnOk prog 74 50 c74 r74:=FnOk.o func74
noncomputable def c71:CC:=(.seq (.ops [⟨none,some 0,.mv (.const (.bool false))⟩])
 (.seq (.ops [⟨none,some 6,.build [.int .i64 0,.string (.mk #[]),.int .u32 0,.int .u64 0,.int .u32 0,.string (.mk #[]),.string (.mk #[]),.int .i64 0,.string (.mk #[]),.string (.mk #[]),.string (.mk #[]),.string (.mk #[]),.string (.mk #[]),.int .u64 0,.int .u64 0,.int .u64 0,.int .u64 0,.bool false] [(0,(1,.const (.int .i64 11))),(16,(1,.const (.int .u64 1)))]⟩,⟨none,some 7,.call 74 [.tmp 6]⟩,mvt 5 7,⟨none,some 8,.ext (.tmp 5) 0⟩,⟨none,some 9,.ext (.tmp 5) 1⟩,mvt 1 8,mvt 2 9])
 (.seq (.ops [mvt 11 1,⟨none,some 12,.call 90 [.tmp 11]⟩,mvt 10 12,⟨none,some 13,.ext (.tmp 10) 0⟩,⟨none,some 14,.ext (.tmp 10) 1⟩,⟨none,some 3,.alloc 126 (.agg #[.int .i64 0,.string (.mk #[]),.int .u32 0,.int .u64 0,.int .u32 0,.string (.mk #[]),.string (.mk #[]),.int .i64 0,.string (.mk #[]),.string (.mk #[]),.string (.mk #[]),.string (.mk #[]),.string (.mk #[]),.int .u64 0,.int .u64 0,.int .u64 0,.int .u64 0,.bool false])⟩,⟨none,none,.storeN 18 (.tmp 3) (.tmp 13)⟩,mvt 4 14])
 (.seq (.ops [mvt 15 2,⟨none,some 16,.iop .eql (.tmp 15) (.const (.int .i64 0))⟩,mvt 17 16,⟨some (17,true),some 18,.mv (.tmp 1)⟩,⟨some (17,true),some 19,.sop .eql (.tmp 18) (.const (.string (.mk #[11,0,0,0,0,0,0,0,1])))⟩,⟨none,some 20,.pick (.tmp 17) (.tmp 19) (.const (.bool false))⟩,mvt 21 20,⟨some (21,true),some 22,.mv (.tmp 4)⟩,⟨some (21,true),some 23,.iop .eql (.tmp 22) (.const (.int .i64 0))⟩,⟨none,some 24,.pick (.tmp 21) (.tmp 23) (.const (.bool false))⟩,mvt 25 24,⟨some (25,true),some 26,.faddr 0 (.tmp 3)⟩,⟨some (25,true),some 27,.load1 (.tmp 26)⟩,⟨some (25,true),some 28,.iop .eql (.tmp 27) (.const (.int .i64 11))⟩,⟨none,some 29,.pick (.tmp 25) (.tmp 28) (.const (.bool false))⟩,mvt 30 29,⟨some (30,true),some 31,.faddr 16 (.tmp 3)⟩,⟨some (30,true),some 32,.load1 (.tmp 31)⟩,⟨some (30,true),some 33,.iop .eql (.tmp 32) (.const (.int .u64 1))⟩,⟨none,some 34,.pick (.tmp 30) (.tmp 33) (.const (.bool false))⟩,mvt 0 34])
 .ret))))
abbrev r71:List RV:=[(.tmp 0)]
theorem F71:FnOk prog 71 35 c71 r71:=FnOk.o func71
noncomputable def c93:CC:=(.seq (.ops [⟨none,some 2,.mv (.const (.bool false))⟩])
 (.seq (.ops [mvt 3 0,⟨none,some 4,.iop .geq (.tmp 3) (.const (.int .i64 1))⟩,mvt 5 4,⟨some (5,true),some 6,.mv (.tmp 0)⟩,⟨some (5,true),some 7,.iop .leq (.tmp 6) (.const (.int .i64 13))⟩,⟨none,some 8,.pick (.tmp 5) (.tmp 7) (.const (.bool false))⟩,mvt 2 8])
 .ret))
abbrev r93:List RV:=[(.tmp 2)]
theorem F93:FnOk prog 93 9 c93 r93:=FnOk.o func93
noncomputable def c94:CC:=(.seq (.ops [⟨none,some 1,.box 126 (.tmp 0)⟩,⟨none,some 2,.alloc 126 (.agg #[.int .i64 0,.string (.mk #[]),.int .u32 0,.int .u64 0,.int .u32 0,.string (.mk #[]),.string (.mk #[]),.int .i64 0,.string (.mk #[]),.string (.mk #[]),.string (.mk #[]),.string (.mk #[]),.string (.mk #[]),.int .u64 0,.int .u64 0,.int .u64 0,.int .u64 0,.bool false])⟩])
 (.seq (.ops [⟨none,some 6,.faddr 0 (.tmp 1)⟩,⟨none,some 7,.load1 (.tmp 6)⟩,⟨none,some 8,.build [.int .i64 0,.string (.mk #[]),.int .u32 0,.int .u64 0,.int .u32 0,.string (.mk #[]),.string (.mk #[]),.int .i64 0,.string (.mk #[]),.string (.mk #[]),.string (.mk #[]),.string (.mk #[]),.string (.mk #[]),.int .u64 0,.int .u64 0,.int .u64 0,.int .u64 0,.bool false] [(0,(1,.tmp 7))]⟩,⟨none,some 3,.alloc 126 (.agg #[.int .i64 0,.string (.mk #[]),.int .u32 0,.int .u64 0,.int .u32 0,.string (.mk #[]),.string (.mk #[]),.int .i64 0,.string (.mk #[]),.string (.mk #[]),.string (.mk #[]),.string (.mk #[]),.string (.mk #[]),.int .u64 0,.int .u64 0,.int .u64 0,.int .u64 0,.bool false])⟩,⟨none,none,.storeN 18 (.tmp 3) (.tmp 8)⟩])
 (.seq (.seq (.ops [⟨none,some 9,.faddr 0 (.tmp 1)⟩,⟨none,some 10,.load1 (.tmp 9)⟩,⟨none,some 11,.iaddrA 14 1 (.global 2) (.tmp 10)⟩,⟨none,some 12,.load1 (.tmp 11)⟩,⟨none,some 13,.raw 76 (.mk (some 13) (.range 9 (.tmp 12)) 0 "command.go:78" #[.mk 3 .data] none)⟩])
 (.block 0
 (.loop
 (.seq (.ops [⟨none,some 14,.raw 76 (.mk (some 14) (.next (.tmp 13) true) 0 "command.go:78" #[] none)⟩,⟨none,some 15,.ext (.tmp 14) 0⟩])
 (.seq (.cond (.tmp 15)
 .skip
 (.exit 0))
 (.block 1
 (.seq (.ops [⟨none,some 16,.ext (.tmp 14) 2⟩,mvt 5 16])
 (.seq (.ops [mvt 17 5])
 (.block 2
 (.seq (.ops [⟨none,some 19,.iop .eql (.tmp 17) (.const (.int .i32 113))⟩,mvt 18 19])
 (.cond (.tmp 18)
 (.ops [⟨none,some 20,.faddr 1 (.tmp 1)⟩,⟨none,some 21,.loadN 5 (.tmp 20)⟩,⟨none,some 22,.faddr 1 (.tmp 3)⟩,⟨none,none,.storeN 5 (.tmp 22) (.tmp 21)⟩])
 (.seq (.ops [⟨none,some 24,.iop .eql (.tmp 17) (.const (.int .i32 110))⟩,mvt 23 24])
 (.cond (.tmp 23)
 (.ops [⟨none,some 25,.faddr 1 (.tmp 1)⟩,⟨none,some 26,.faddr 0 (.tmp 25)⟩,⟨none,some 27,.load1 (.tmp 26)⟩,⟨none,some 28,.faddr 1 (.tmp 3)⟩,⟨none,some 29,.faddr 0 (.tmp 28)⟩,⟨none,none,.store1 (.tmp 29) (.tmp 27)⟩])
 (.seq (.ops [⟨none,some 31,.iop .eql (.tmp 17) (.const (.int .i32 98))⟩,mvt 30 31])
 (.cond (.tmp 30)
 (.ops [⟨none,some 32,.faddr 6 (.tmp 1)⟩,⟨none,some 33,.loadN 4 (.tmp 32)⟩,⟨none,some 34,.faddr 6 (.tmp 3)⟩,⟨none,none,.storeN 4 (.tmp 34) (.tmp 33)⟩])
 (.seq (.ops [⟨none,some 36,.iop .eql (.tmp 17) (.const (.int .i32 120))⟩,mvt 35 36])
 (.cond (.tmp 35)
 (.ops [⟨none,some 37,.faddr 10 (.tmp 1)⟩,⟨none,some 38,.load1 (.tmp 37)⟩,⟨none,some 39,.faddr 10 (.tmp 3)⟩,⟨none,none,.store1 (.tmp 39) (.tmp 38)⟩])
 (.seq (.ops [⟨none,some 41,.iop .eql (.tmp 17) (.const (.int .i32 107))⟩,mvt 40 41])
 (.cond (.tmp 40)
 (.ops [⟨none,some 42,.faddr 11 (.tmp 1)⟩,⟨none,some 43,.load1 (.tmp 42)⟩,⟨none,some 44,.faddr 11 (.tmp 3)⟩,⟨none,none,.store1 (.tmp 44) (.tmp 43)⟩])
 (.seq (.ops [⟨none,some 46,.iop .eql (.tmp 17) (.const (.int .i32 121))⟩,mvt 45 46])
 (.cond (.tmp 45)
 (.ops [⟨none,some 47,.faddr 12 (.tmp 1)⟩,⟨none,some 48,.load1 (.tmp 47)⟩,⟨none,some 49,.faddr 12 (.tmp 3)⟩,⟨none,none,.store1 (.tmp 49) (.tmp 48)⟩])
 (.seq (.ops [⟨none,some 51,.iop .eql (.tmp 17) (.const (.int .i32 105))⟩,mvt 50 51])
 (.cond (.tmp 50)
 (.ops [⟨none,some 52,.faddr 13 (.tmp 1)⟩,⟨none,some 53,.load1 (.tmp 52)⟩,⟨none,some 54,.faddr 13 (.tmp 3)⟩,⟨none,none,.store1 (.tmp 54) (.tmp 53)⟩])
 (.seq (.ops [⟨none,some 56,.iop .eql (.tmp 17) (.const (.int .i32 116))⟩,mvt 55 56])
 (.cond (.tmp 55)
 (.ops [⟨none,some 57,.faddr 14 (.tmp 1)⟩,⟨none,some 58,.load1 (.tmp 57)⟩,⟨none,some 59,.faddr 14 (.tmp 3)⟩,⟨none,none,.store1 (.tmp 59) (.tmp 58)⟩])
 (.seq (.ops [⟨none,some 61,.iop .eql (.tmp 17) (.const (.int .i32 99))⟩,mvt 60 61])
 (.cond (.tmp 60)
 (.ops [⟨none,some 62,.faddr 15 (.tmp 1)⟩,⟨none,some 63,.load1 (.tmp 62)⟩,⟨none,some 64,.faddr 15 (.tmp 3)⟩,⟨none,none,.store1 (.tmp 64) (.tmp 63)⟩])
 (.seq (.ops [⟨none,some 66,.iop .eql (.tmp 17) (.const (.int .i32 109))⟩,mvt 65 66])
 (.cond (.tmp 65)
 (.ops [⟨none,some 67,.faddr 16 (.tmp 1)⟩,⟨none,some 68,.load1 (.tmp 67)⟩,⟨none,some 69,.faddr 16 (.tmp 3)⟩,⟨none,none,.store1 (.tmp 69) (.tmp 68)⟩])
 (.seq (.ops [⟨none,some 71,.iop .eql (.tmp 17) (.const (.int .i32 100))⟩,mvt 70 71])
 (.cond (.tmp 70)
 (.ops [⟨none,some 72,.faddr 17 (.tmp 1)⟩,⟨none,some 73,.load1 (.tmp 72)⟩,⟨none,some 74,.faddr 17 (.tmp 3)⟩,⟨none,none,.store1 (.tmp 74) (.tmp 73)⟩])
 .skip)))))))))))))))))))))))))))))))
 (.seq (.ops [⟨none,some 75,.loadN 18 (.tmp 3)⟩,⟨none,none,.storeN 18 (.tmp 2) (.tmp 75)⟩])
 .ret))))
abbrev r94:List RV:=[(.cN 2 18)]
theorem F94:FnOk prog 94 76 c94 r94:=FnOk.o func94
noncomputable def c95:CC:=(.seq (.ops [⟨none,some 1,.box 126 (.tmp 0)⟩,⟨none,some 2,.mv (.const (.bool false))⟩])
 (.seq (.ops [⟨none,some 4,.faddr 1 (.tmp 1)⟩,⟨none,some 5,.faddr 0 (.tmp 4)⟩,⟨none,some 6,.load1 (.tmp 5)⟩,⟨none,some 7,.lenS (.tmp 6)⟩,⟨none,some 8,.faddr 1 (.tmp 1)⟩,⟨none,some 9,.faddr 4 (.tmp 8)⟩,⟨none,some 10,.load1 (.tmp 9)⟩,⟨none,some 11,.lenS (.tmp 10)⟩,⟨none,some 12,.faddr 6 (.tmp 1)⟩,⟨none,some 13,.faddr 0 (.tmp 12)⟩,⟨none,some 14,.load1 (.tmp 13)⟩,⟨none,some 15,.lenS (.tmp 14)⟩,⟨none,some 16,.faddr 6 (.tmp 1)⟩,⟨none,some 17,.faddr 3 (.tmp 16)⟩,⟨none,some 18,.load1 (.tmp 17)⟩,⟨none,some 19,.lenS (.tmp 18)⟩,⟨none,some 20,.faddr 10 (.tmp 1)⟩,⟨none,some 21,.load1 (.tmp 20)⟩,⟨none,some 22,.lenS (.tmp 21)⟩,⟨none,some 23,.raw 43 (.mk (some 23) (.call (.mk (.builtin .max) #[.tmp 7,.tmp 11,.tmp 15,.tmp 19,.tmp 22] #[3,3,3,3,3])) 3 "command.go:139" #[.mk 3 .data,.mk 7 .data,.mk 11 .data,.mk 15 .data,.mk 18 .data] none)⟩,mvt 3 23])
 (.seq (.ops [mvt 24 3,⟨none,some 25,.iop .gtr (.tmp 24) (.const (.int .i64 32))⟩,mvt 26 25,⟨some (26,false),some 27,.faddr 11 (.tmp 1)⟩,⟨some (26,false),some 28,.load1 (.tmp 27)⟩,⟨some (26,false),some 29,.lenS (.tmp 28)⟩,⟨some (26,false),some 30,.faddr 6 (.tmp 1)⟩,⟨some (26,false),some 31,.faddr 2 (.tmp 30)⟩,⟨some (26,false),some 32,.load1 (.tmp 31)⟩,⟨some (26,false),some 33,.lenS (.tmp 32)⟩,⟨some (26,false),some 34,.raw 43 (.mk (some 34) (.call (.mk (.builtin .max) #[.tmp 29,.tmp 33] #[3,3])) 3 "command.go:140" #[.mk 5 .data,.mk 9 .data,.mk 2 .guard] (some (2,false)))⟩,⟨some (26,false),some 35,.iop .gtr (.tmp 34) (.const (.int .i64 512))⟩,⟨none,some 36,.pick (.tmp 26) (.const (.bool true)) (.tmp 35)⟩,mvt 37 36,⟨some (37,false),some 38,.faddr 12 (.tmp 1)⟩,⟨some (37,false),some 39,.load1 (.tmp 38)⟩,⟨some (37,false),some 40,.lenS (.tmp 39)⟩,⟨some (37,false),some 41,.iop .gtr (.tmp 40) (.const (.int .i64 32768))⟩,⟨none,some 42,.pick (.tmp 37) (.const (.bool true)) (.tmp 41)⟩,mvt 2 42])
 .ret)))
abbrev r95:List RV:=[(.tmp 2)]
theorem F95:FnOk prog 95 43 c95 r95:=FnOk.o func95
noncomputable def c97:CC:=(.seq (.ops [⟨none,some 2,.box 126 (.tmp 0)⟩,⟨none,some 4,.mv (.const (.string (.mk #[])))⟩])
 (.seq (.seq (.draw 1 (opsOf (sub (bodyOf f97) [1,0,0])) [⟨none,some 7,.faddr 1 (.tmp 2)⟩,⟨none,some 8,.loadN 5 (.tmp 7)⟩,⟨none,some 9,.faddr 6 (.tmp 2)⟩,⟨none,some 10,.loadN 4 (.tmp 9)⟩,⟨none,some 5,.alloc 121 (.agg #[.string (.mk #[]),.int .u32 0,.int .u64 0,.int .u32 0,.string (.mk #[])])⟩,⟨none,some 6,.alloc 124 (.agg #[.string (.mk #[]),.int .i64 0,.string (.mk #[]),.string (.mk #[])])⟩,⟨none,none,.storeN 5 (.tmp 5) (.tmp 8)⟩,⟨none,none,.storeN 4 (.tmp 6) (.tmp 10)⟩])
 (.seq (.ops [mvt 11 1])
 (.block 0
 (.seq (.ops [⟨none,some 13,.iop .eql (.tmp 11) (.const (.int .i32 113))⟩,mvt 12 13])
 (.cond (.tmp 12)
 (.seq (.draw 4 (opsOf (sub (bodyOf f97) [1,0,1,1,0,1,0,0])) [⟨none,some 14,.faddr 0 (.tmp 5)⟩,⟨none,some 15,.load1 (.tmp 14)⟩,⟨none,some 16,.call 158 [.tmp 15]⟩,⟨none,some 17,.faddr 1 (.tmp 5)⟩,⟨none,some 18,.load1 (.tmp 17)⟩,⟨none,some 19,.call 159 [.tmp 18]⟩,⟨none,some 20,.sop .add (.tmp 16) (.tmp 19)⟩,⟨none,some 21,.faddr 2 (.tmp 5)⟩,⟨none,some 22,.load1 (.tmp 21)⟩,⟨none,some 23,.call 160 [.tmp 22]⟩,⟨none,some 24,.sop .add (.tmp 20) (.tmp 23)⟩,⟨none,some 25,.faddr 3 (.tmp 5)⟩,⟨none,some 26,.load1 (.tmp 25)⟩,⟨none,some 27,.call 159 [.tmp 26]⟩,⟨none,some 28,.sop .add (.tmp 24) (.tmp 27)⟩,⟨none,some 29,.faddr 4 (.tmp 5)⟩,⟨none,some 30,.load1 (.tmp 29)⟩,⟨none,some 31,.call 158 [.tmp 30]⟩,⟨none,some 32,.sop .add (.tmp 28) (.tmp 31)⟩,mvt 4 32])
 .ret)
 (.seq (.ops [⟨none,some 34,.iop .eql (.tmp 11) (.const (.int .i32 110))⟩,mvt 33 34])
 (.cond (.tmp 33)
 (.seq (.ops [⟨none,some 35,.faddr 0 (.tmp 5)⟩,⟨none,some 36,.load1 (.tmp 35)⟩,⟨none,some 37,.call 158 [.tmp 36]⟩,mvt 4 37])
 .ret)
 (.seq (.ops [⟨none,some 39,.iop .eql (.tmp 11) (.const (.int .i32 98))⟩,mvt 38 39])
 (.cond (.tmp 38)
 (.seq (.draw 8 (opsOf (sub (bodyOf f97) [1,0,1,1,0,1,1,1,1,1,0,0])) [⟨none,some 40,.faddr 0 (.tmp 6)⟩,⟨none,some 41,.load1 (.tmp 40)⟩,⟨none,some 42,.call 158 [.tmp 41]⟩,⟨none,some 43,.faddr 1 (.tmp 6)⟩,⟨none,some 44,.load1 (.tmp 43)⟩,⟨none,some 45,.conv .u8 (.tmp 44)⟩,⟨none,some 46,.call 96 [.tmp 45]⟩,⟨none,some 47,.sop .add (.tmp 42) (.tmp 46)⟩,⟨none,some 48,.faddr 2 (.tmp 6)⟩,⟨none,some 49,.load1 (.tmp 48)⟩,⟨none,some 50,.call 158 [.tmp 49]⟩,⟨none,some 51,.sop .add (.tmp 47) (.tmp 50)⟩,⟨none,some 52,.faddr 3 (.tmp 6)⟩,⟨none,some 53,.load1 (.tmp 52)⟩,⟨none,some 54,.call 158 [.tmp 53]⟩,⟨none,some 55,.sop .add (.tmp 51) (.tmp 54)⟩,mvt 4 55])
 .ret)
 (.seq (.ops [⟨none,some 57,.iop .eql (.tmp 11) (.const (.int .i32 120))⟩,mvt 56 57])
 (.cond (.tmp 56)
 (.seq (.ops [⟨none,some 58,.faddr 10 (.tmp 2)⟩,⟨none,some 59,.load1 (.tmp 58)⟩,⟨none,some 60,.call 158 [.tmp 59]⟩,mvt 4 60])
 .ret)
 (.seq (.ops [⟨none,some 62,.iop .eql (.tmp 11) (.const (.int .i32 107))⟩,mvt 61 62])
 (.cond (.tmp 61)
 (.seq (.ops [⟨none,some 63,.faddr 11 (.tmp 2)⟩,⟨none,some 64,.load1 (.tmp 63)⟩,⟨none,some 65,.call 158 [.tmp 64]⟩,mvt 4 65])
 .ret)
 (.seq (.ops [⟨none,some 67,.iop .eql (.tmp 11) (.const (.int .i32 121))⟩,mvt 66 67])
 (.cond (.tmp 66)
 (.seq (.ops [⟨none,some 68,.faddr 12 (.tmp 2)⟩,⟨none,some 69,.load1 (.tmp 68)⟩,⟨none,some 70,.call 158 [.tmp 69]⟩,mvt 4 70])
 .ret)
 (.seq (.ops [⟨none,some 72,.iop .eql (.tmp 11) (.const (.int .i32 105))⟩,mvt 71 72])
 (.cond (.tmp 71)
 (.seq (.ops [⟨none,some 73,.faddr 13 (.tmp 2)⟩,⟨none,some 74,.load1 (.tmp 73)⟩,⟨none,some 75,.call 160 [.tmp 74]⟩,mvt 4 75])
 .ret)
 (.seq (.ops [⟨none,some 77,.iop .eql (.tmp 11) (.const (.int .i32 116))⟩,mvt 76 77])
 (.cond (.tmp 76)
 (.seq (.ops [⟨none,some 78,.faddr 14 (.tmp 2)⟩,⟨none,some 79,.load1 (.tmp 78)⟩,⟨none,some 80,.call 160 [.tmp 79]⟩,mvt 4 80])
 .ret)
 (.seq (.ops [⟨none,some 82,.iop .eql (.tmp 11) (.const (.int .i32 99))⟩,mvt 81 82])
 (.cond (.tmp 81)
 (.seq (.ops [⟨none,some 83,.faddr 15 (.tmp 2)⟩,⟨none,some 84,.load1 (.tmp 83)⟩,⟨none,some 85,.call 160 [.tmp 84]⟩,mvt 4 85])
 .ret)
 (.seq (.ops [⟨none,some 87,.iop .eql (.tmp 11) (.const (.int .i32 109))⟩,mvt 86 87])
 (.cond (.tmp 86)
 (.seq (.ops [⟨none,some 88,.faddr 16 (.tmp 2)⟩,⟨none,some 89,.load1 (.tmp 88)⟩,⟨none,some 90,.call 160 [.tmp 89]⟩,mvt 4 90])
 .ret)
 .skip)))))))))))))))))))))))
 (.seq (.seq (.ops [⟨none,some 91,.faddr 17 (.tmp 2)⟩,⟨none,some 92,.load1 (.tmp 91)⟩])
 (.cond (.tmp 92)
 (.seq (.ops [⟨none,some 93,.call 96 [.const (.int .u8 1)]⟩,mvt 4 93])
 .ret)
 .skip))
 (.seq (.ops [⟨none,some 94,.call 96 [.const (.int .u8 0)]⟩,mvt 4 94])
 .ret))))
abbrev r97:List RV:=[(.tmp 4)]
theorem F97:FnOk prog 97 95 c97 r97:=FnOk.o func97
noncomputable def c90:CC:=(.seq (.ops [⟨none,some 2,.alloc 126 (.agg #[.int .i64 0,.string (.mk #[]),.int .u32 0,.int .u64 0,.int .u32 0,.string (.mk #[]),.string (.mk #[]),.int .i64 0,.string (.mk #[]),.string (.mk #[]),.string (.mk #[]),.string (.mk #[]),.string (.mk #[]),.int .u64 0,.int .u64 0,.int .u64 0,.int .u64 0,.bool false])⟩,⟨none,some 3,.mv (.const (.int .i64 0))⟩])
 (.seq (.ops [⟨none,some 4,.call 152 []⟩,mvt 5 0,⟨none,some 6,.call 153 [.tmp 4,.tmp 5]⟩,⟨none,some 7,.ext (.tmp 6) 0⟩,⟨none,some 8,.ext (.tmp 6) 1⟩,⟨none,none,.storeN 18 (.tmp 2) (.tmp 7)⟩,mvt 3 8])
 .ret))
abbrev r90:List RV:=[(.cN 2 18),(.tmp 3)]
theorem F90:FnOk prog 90 9 c90 r90:=FnOk.o func90
noncomputable def c152:CC:=(.seq (.ops [⟨none,some 0,.alloc 244 (.agg #[.nilFunc,.nilFunc])⟩])
 (.seq (.ops [⟨none,some 1,(.build [.nilFunc,.nilFunc] [(0,(1,(.func 212))),(1,(1,(.func 213)))])⟩,⟨none,none,.storeN 2 (.tmp 0) (.tmp 1)⟩])
 .ret))
abbrev r152:List RV:=[(.cN 0 2)]
theorem F152:FnOk prog 152 2 c152 r152:=FnOk.o func152
noncomputable def c153:CC:=(.seq (.ops [⟨none,some 2,.box 244 (.tmp 0)⟩,⟨none,some 4,.alloc 126 (.agg #[.int .i64 0,.string (.mk #[]),.int .u32 0,.int .u64 0,.int .u32 0,.string (.mk #[]),.string (.mk #[]),.int .i64 0,.string (.mk #[]),.string (.mk #[]),.string (.mk #[]),.string (.mk #[]),.string (.mk #[]),.int .u64 0,.int .u64 0,.int .u64 0,.int .u64 0,.bool false])⟩,⟨none,some 5,.mv (.const (.int .i64 0))⟩])
 (.seq (.ops [⟨none,some 6,.alloc 126 (.agg #[.int .i64 0,.string (.mk #[]),.int .u32 0,.int .u64 0,.int .u32 0,.string (.mk #[]),.string (.mk #[]),.int .i64 0,.string (.mk #[]),.string (.mk #[]),.string (.mk #[]),.string (.mk #[]),.string (.mk #[]),.int .u64 0,.int .u64 0,.int .u64 0,.int .u64 0,.bool false])⟩])
 (.seq (.seq (.ops [⟨none,some 10,.faddr 1 (.tmp 2)⟩,⟨none,some 11,.load1 (.tmp 10)⟩,⟨none,some 12,.pnil 3 false (.tmp 11)⟩])
 (.cond (.tmp 12)
 (.seq (.ops [⟨none,some 13,.loadN 18 (.tmp 6)⟩,⟨none,none,.storeN 18 (.tmp 4) (.tmp 13)⟩,⟨none,some 5,.mv (.const (.int .i64 2))⟩])
 .ret)
 .skip))
 (.seq (.ops [mvt 14 1,⟨none,some 15,.call 214 [.tmp 14]⟩,mvt 7 15])
 (.seq (.ops [⟨none,some 16,.faddr 1 (.tmp 2)⟩,⟨none,some 17,.load1 (.tmp 16)⟩,mvt 18 7,⟨none,some 19,.callv (.tmp 17) [.tmp 18]⟩,⟨none,some 8,.alloc 126 (.agg #[.int .i64 0,.string (.mk #[]),.int .u32 0,.int .u64 0,.int .u32 0,.string (.mk #[]),.string (.mk #[]),.int .i64 0,.string (.mk #[]),.string (.mk #[]),.string (.mk #[]),.string (.mk #[]),.string (.mk #[]),.int .u64 0,.int .u64 0,.int .u64 0,.int .u64 0,.bool false])⟩,⟨none,none,.storeN 18 (.tmp 8) (.tmp 19)⟩])
 (.seq (.seq (.ops [mvt 20 7,⟨none,some 21,.call 215 [.tmp 20]⟩,mvt 9 21])
 (.seq (.ops [mvt 22 9,⟨none,some 23,.iop .neq (.tmp 22) (.const (.int .i64 0))⟩])
 (.cond (.tmp 23)
 (.seq (.ops [⟨none,some 24,.loadN 18 (.tmp 6)⟩,mvt 25 9,⟨none,none,.storeN 18 (.tmp 4) (.tmp 24)⟩,mvt 5 25])
 .ret)
 .skip)))
 (.seq (.ops [⟨none,some 26,.loadN 18 (.tmp 8)⟩,⟨none,none,.storeN 18 (.tmp 4) (.tmp 26)⟩,⟨none,some 5,.mv (.const (.int .i64 0))⟩])
 .ret)))))))
abbrev r153:List RV:=[(.cN 4 18),(.tmp 5)]
theorem F153:FnOk prog 153 27 c153 r153:=FnOk.o func153
noncomputable def c213:CC:=(.seq (.ops [⟨none,some 2,.alloc 126 (.agg #[.int .i64 0,.string (.mk #[]),.int .u32 0,.int .u64 0,.int .u32 0,.string (.mk #[]),.string (.mk #[]),.int .i64 0,.string (.mk #[]),.string (.mk #[]),.string (.mk #[]),.string (.mk #[]),.string (.mk #[]),.int .u64 0,.int .u64 0,.int .u64 0,.int .u64 0,.bool false])⟩])
 (.seq (.ops [mvt 6 0,⟨none,some 7,.call 261 [.tmp 6]⟩,⟨none,some 8,.conv .i64 (.tmp 7)⟩,⟨none,some 9,.build [.int .i64 0,.string (.mk #[]),.int .u32 0,.int .u64 0,.int .u32 0,.string (.mk #[]),.string (.mk #[]),.int .i64 0,.string (.mk #[]),.string (.mk #[]),.string (.mk #[]),.string (.mk #[]),.string (.mk #[]),.int .u64 0,.int .u64 0,.int .u64 0,.int .u64 0,.bool false] [(0,(1,.tmp 8))]⟩,⟨none,some 3,.alloc 126 (.agg #[.int .i64 0,.string (.mk #[]),.int .u32 0,.int .u64 0,.int .u32 0,.string (.mk #[]),.string (.mk #[]),.int .i64 0,.string (.mk #[]),.string (.mk #[]),.string (.mk #[]),.string (.mk #[]),.string (.mk #[]),.int .u64 0,.int .u64 0,.int .u64 0,.int .u64 0,.bool false])⟩,⟨none,none,.storeN 18 (.tmp 3) (.tmp 9)⟩])
 (.seq (.seq (.ops [mvt 10 0,⟨none,some 11,.call 262 [.tmp 10]⟩,⟨none,some 12,.iop .eql (.tmp 11) (.const (.int .i64 0))⟩,mvt 13 12,⟨some (13,true),some 14,.faddr 0 (.tmp 3)⟩,⟨some (13,true),some 15,.load1 (.tmp 14)⟩,⟨some (13,true),some 16,.call 93 [.tmp 15]⟩,⟨some (13,true),some 17,.not (.tmp 16)⟩,⟨none,some 18,.pick (.tmp 13) (.tmp 17) (.const (.bool false))⟩])
 (.cond (.tmp 18)
 (.ops [mvt 19 0,⟨none,some 20,.call 263 [.tmp 19,.const (.int .i64 11)]⟩])
 .skip))
 (.seq (.seq (.ops [mvt 21 0,⟨none,some 22,.call 262 [.tmp 21]⟩,⟨none,some 23,.iop .neq (.tmp 22) (.const (.int .i64 0))⟩])
 (.cond (.tmp 23)
 (.seq (.ops [⟨none,some 24,.build [.int .i64 0,.string (.mk #[]),.int .u32 0,.int .u64 0,.int .u32 0,.string (.mk #[]),.string (.mk #[]),.int .i64 0,.string (.mk #[]),.string (.mk #[]),.string (.mk #[]),.string (.mk #[]),.string (.mk #[]),.int .u64 0,.int .u64 0,.int .u64 0,.int .u64 0,.bool false] []⟩,⟨none,none,.storeN 18 (.tmp 2) (.tmp 24)⟩])
 .ret)
 .skip))
 (.seq (.seq (.ops [⟨none,some 25,.faddr 0 (.tmp 3)⟩,⟨none,some 26,.load1 (.tmp 25)⟩,⟨none,some 27,.iaddrA 14 1 (.global 2) (.tmp 26)⟩,⟨none,some 28,.load1 (.tmp 27)⟩,⟨none,some 29,.raw 37 (.mk (some 29) (.range 9 (.tmp 28)) 0 "command.go:201" #[.mk 3 .data] none)⟩])
 (.block 0
 (.loop
 (.seq (.ops [⟨none,some 30,.raw 37 (.mk (some 30) (.next (.tmp 29) true) 0 "command.go:201" #[] none)⟩,⟨none,some 31,.ext (.tmp 30) 0⟩])
 (.seq (.cond (.tmp 31)
 .skip
 (.exit 0))
 (.block 1
 (.seq (.ops [⟨none,some 32,.ext (.tmp 30) 2⟩,mvt 5 32])
 (.ops [mvt 33 0,mvt 34 5,⟨none,some 35,.call 264 [.tmp 3,.tmp 33,.tmp 34]⟩]))))))))
 (.seq (.ops [⟨none,some 36,.loadN 18 (.tmp 3)⟩,⟨none,none,.storeN 18 (.tmp 2) (.tmp 36)⟩])
 .ret))))))
abbrev r213:List RV:=[(.cN 2 18)]
theorem F213:FnOk prog 213 37 c213 r213:=FnOk.o func213
noncomputable def c264:CC:=(.seq (.ops [mvt 7 2])
 (.block 0
 (.seq (.ops [⟨none,some 9,.iop .eql (.tmp 7) (.const (.int .i32 113))⟩,mvt 8 9])
 (.cond (.tmp 8)
 (.ops [mvt 10 0,mvt 11 1,⟨none,some 12,.call 226 [.tmp 11,.const (.int .i64 32)]⟩,mvt 13 1,⟨none,some 14,.call 224 [.tmp 13]⟩,mvt 15 1,⟨none,some 16,.call 225 [.tmp 15]⟩,mvt 17 1,⟨none,some 18,.call 224 [.tmp 17]⟩,mvt 19 1,⟨none,some 20,.call 226 [.tmp 19,.const (.int .i64 32)]⟩,⟨none,some 21,.build [.string (.mk #[]),.int .u32 0,.int .u64 0,.int .u32 0,.string (.mk #[])] [(0,(1,.tmp 12)),(1,(1,.tmp 14)),(2,(1,.tmp 16)),(3,(1,.tmp 18)),(4,(1,.tmp 20))]⟩,⟨none,some 22,.nilc (.tmp 10)⟩,⟨none,some 23,.faddr 1 (.tmp 22)⟩,⟨none,none,.storeN 5 (.tmp 23) (.tmp 21)⟩])
 (.seq (.ops [⟨none,some 25,.iop .eql (.tmp 7) (.const (.int .i32 110))⟩,mvt 24 25])
 (.cond (.tmp 24)
 (.ops [mvt 26 0,mvt 27 1,⟨none,some 28,.call 226 [.tmp 27,.const (.int .i64 32)]⟩,⟨none,some 29,.nilc (.tmp 26)⟩,⟨none,some 30,.faddr 1 (.tmp 29)⟩,⟨none,some 31,.faddr 0 (.tmp 30)⟩,⟨none,none,.store1 (.tmp 31) (.tmp 28)⟩])
 (.seq (.ops [⟨none,some 33,.iop .eql (.tmp 7) (.const (.int .i32 98))⟩,mvt 32 33])
 (.cond (.tmp 32)
 (.ops [mvt 34 0,mvt 35 1,⟨none,some 36,.call 226 [.tmp 35,.const (.int .i64 32)]⟩,mvt 37 1,⟨none,some 38,.call 261 [.tmp 37]⟩,⟨none,some 39,.conv .i64 (.tmp 38)⟩,mvt 40 1,⟨none,some 41,.call 226 [.tmp 40,.const (.int .i64 512)]⟩,mvt 42 1,⟨none,some 43,.call 226 [.tmp 42,.const (.int .i64 32)]⟩,⟨none,some 44,.build [.string (.mk #[]),.int .i64 0,.string (.mk #[]),.string (.mk #[])] [(0,(1,.tmp 36)),(1,(1,.tmp 39)),(2,(1,.tmp 41)),(3,(1,.tmp 43))]⟩,⟨none,some 45,.nilc (.tmp 34)⟩,⟨none,some 46,.faddr 6 (.tmp 45)⟩,⟨none,none,.storeN 4 (.tmp 46) (.tmp 44)⟩])
 (.seq (.ops [⟨none,some 48,.iop .eql (.tmp 7) (.const (.int .i32 120))⟩,mvt 47 48])
 (.cond (.tmp 47)
 (.ops [mvt 49 0,mvt 50 1,⟨none,some 51,.call 226 [.tmp 50,.const (.int .i64 32)]⟩,⟨none,some 52,.nilc (.tmp 49)⟩,⟨none,some 53,.faddr 10 (.tmp 52)⟩,⟨none,none,.store1 (.tmp 53) (.tmp 51)⟩])
 (.seq (.ops [⟨none,some 55,.iop .eql (.tmp 7) (.const (.int .i32 107))⟩,mvt 54 55])
 (.cond (.tmp 54)
 (.ops [mvt 56 0,mvt 57 1,⟨none,some 58,.call 226 [.tmp 57,.const (.int .i64 512)]⟩,⟨none,some 59,.nilc (.tmp 56)⟩,⟨none,some 60,.faddr 11 (.tmp 59)⟩,⟨none,none,.store1 (.tmp 60) (.tmp 58)⟩])
 (.seq (.ops [⟨none,some 62,.iop .eql (.tmp 7) (.const (.int .i32 121))⟩,mvt 61 62])
 (.cond (.tmp 61)
 (.ops [mvt 63 0,mvt 64 1,⟨none,some 65,.call 226 [.tmp 64,.const (.int .i64 32768)]⟩,⟨none,some 66,.nilc (.tmp 63)⟩,⟨none,some 67,.faddr 12 (.tmp 66)⟩,⟨none,none,.store1 (.tmp 67) (.tmp 65)⟩])
 (.seq (.ops [⟨none,some 69,.iop .eql (.tmp 7) (.const (.int .i32 105))⟩,mvt 68 69])
 (.cond (.tmp 68)
 (.ops [mvt 70 0,mvt 71 1,⟨none,some 72,.call 225 [.tmp 71]⟩,⟨none,some 73,.nilc (.tmp 70)⟩,⟨none,some 74,.faddr 13 (.tmp 73)⟩,⟨none,none,.store1 (.tmp 74) (.tmp 72)⟩])
 (.seq (.ops [⟨none,some 76,.iop .eql (.tmp 7) (.const (.int .i32 116))⟩,mvt 75 76])
 (.cond (.tmp 75)
 (.ops [mvt 77 0,mvt 78 1,⟨none,some 79,.call 225 [.tmp 78]⟩,⟨none,some 80,.nilc (.tmp 77)⟩,⟨none,some 81,.faddr 14 (.tmp 80)⟩,⟨none,none,.store1 (.tmp 81) (.tmp 79)⟩])
 (.seq (.ops [⟨none,some 83,.iop .eql (.tmp 7) (.const (.int .i32 99))⟩,mvt 82 83])
 (.cond (.tmp 82)
 (.ops [mvt 84 0,mvt 85 1,⟨none,some 86,.call 225 [.tmp 85]⟩,⟨none,some 87,.nilc (.tmp 84)⟩,⟨none,some 88,.faddr 15 (.tmp 87)⟩,⟨none,none,.store1 (.tmp 88) (.tmp 86)⟩])
 (.seq (.ops [⟨none,some 90,.iop .eql (.tmp 7) (.const (.int .i32 109))⟩,mvt 89 90])
 (.cond (.tmp 89)
 (.ops [mvt 91 0,mvt 92 1,⟨none,some 93,.call 225 [.tmp 92]⟩,⟨none,some 94,.nilc (.tmp 91)⟩,⟨none,some 95,.faddr 16 (.tmp 94)⟩,⟨none,none,.store1 (.tmp 95) (.tmp 93)⟩])
 (.seq (.ops [⟨none,some 97,.iop .eql (.tmp 7) (.const (.int .i32 100))⟩,mvt 96 97])
 (.cond (.tmp 96)
 (.seq (.ops [mvt 98 1,⟨none,some 99,.call 261 [.tmp 98]⟩,mvt 6 99])
 (.seq (.ops [mvt 100 0,mvt 101 6,⟨none,some 102,.iop .eql (.tmp 101) (.const (.int .u8 1))⟩,⟨none,some 103,.nilc (.tmp 100)⟩,⟨none,some 104,.faddr 17 (.tmp 103)⟩,⟨none,none,.store1 (.tmp 104) (.tmp 102)⟩])
 (.seq (.ops [mvt 105 6,⟨none,some 106,.iop .gtr (.tmp 105) (.const (.int .u8 1))⟩])
 (.cond (.tmp 106)
 (.ops [mvt 107 1,⟨none,some 108,.call 263 [.tmp 107,.const (.int .i64 4)]⟩])
 .skip))))
 .skip))))))))))))))))))))))))
abbrev r264:List RV:=[]
theorem F264:FnOk prog 264 109 c264 r264:=FnOk.o func264
end Go.VrI
