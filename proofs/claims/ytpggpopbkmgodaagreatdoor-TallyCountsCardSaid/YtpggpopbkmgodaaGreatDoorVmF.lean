import Derived.Test.YtpggpopbkmgodaaGreatDoorVnO
import Derived.Test.YtpggpopbkmgodaaGreatDoorVrK
import Derived.Test.YtpggpopbkmgodaaGreatDoorVmE
set_option linter.unusedSimpArgs false
set_option linter.unusedVariables false
set_option linter.unusedSectionVars false
set_option linter.unnecessarySimpa false
namespace Go.Oct
open Go Go.Vc Go.VrA Go.VrB Go.VrE Go.VrH Go.VrI Go.VrJ Go.VrK Go.VrL Go.Tal
set_option maxRecDepth 100000
end Go.Oct
namespace Go.Oct
open Go Go.Vc Go.VrA Go.VrK Go.VrL Go.Tal Go.Proofs.Tryz
set_option maxRecDepth 100000
def acCells (a:Ac):List Value:=[.string ⟨a.1.toArray⟩,.int .u64 (a.2:Int)]
theorem lists_c (l:List Ac) (v:Value) (w:World) (K:Value→World→Prop) (hv:IsT acCells 2 w v l) (hl:l.length<1048576) (hk:∀a∈l,a.1.length≤maxLen)
  (h:∀w' wb n mw,Mod (fun _=>False) w w'→w.heap.size≤wb→Want w' wb wb n mw→n≤l.length→Lists (lsOf mw) l→K (.map (some wb)) w'):Ok prog 16 #[v] w K:=by
 refine F16.enter (args:=[v]) (by simp) ?_
 unfold c16 r16
 obtain ⟨va,vc',rfl⟩:=hv.1
 simp only [ZB,insVc]
 refine rawK_makeMap rfl ?_
 have hW0:=Want.made w
 have hm2:Mod (fun _=>False) w (w.alloc (.map #[] 0)):=(Mod.refl _ _).alloc _
 simp only [ZB,insVc,lenLK,ne_eq,reduceCtorEq,Zac,Za]
 refine vc_loop (fun k ρ ds u=>ds=[]∧ρ 3 = .map (some w.heap.size)∧ρ 7 = .slice va l.length vc'∧ρ 8 = .int .i64 l.length∧Mod (fun _=>False) w u ∧
  ∃(i n:Nat) (mw:MG Sl),i+k=l.length∧ρ 9 = .int .i64 i∧Want u w.heap.size w.heap.size n mw∧n=i∧Lists (lsOf mw) (l.take i)) l.length ?_ ?_
 ·exact ⟨rfl,by simp only [upd_same,upd_other,ne_eq,not_false_eq_true,Nat.reduceEqDiff],by simp only [upd_same,upd_other,ne_eq,not_false_eq_true,Nat.reduceEqDiff],by simp only [upd_same,upd_other,ne_eq,not_false_eq_true,Nat.reduceEqDiff],hm2,0,0,[],by omega,by simp only [upd_same];rfl,hW0,rfl,Lists.nil⟩
 ·rintro k ρ ds u ⟨rfl,q3,q7,q8,hm,i,n,mw,hik,q9,hW,hn,hL⟩
  simp only [ZB,insVc,iopK,iopV,reduceCtorEq,q8,q9]
  by_cases hi:(i:Int)<l.length
  ·obtain ⟨r,hx⟩:∃r,l[i]? = some r:=⟨_,List.getElem?_eq_getElem (by omega)⟩
   have hrk:=hk r (List.mem_of_getElem? hx)
   obtain ⟨bk,o,cur,t,f,rfl,e1,e2,e3⟩:=(hv.keep hm).at hx
   have h0i:(0:Int)≤(i:Int)∧(i:Int)<(l.length:Int):=by omega
   have hat:l.take (i+1)=l.take i ++ [r]:=by rw [List.take_add_one,hx];rfl
   have wi:IntKind.i64.wrap ((i:Int)+1)=((i+1:Nat):Int):=by rw [wrap_i64 _ (by omega)];rfl
   have e2':o+(i * 2+2)≤cur.size:=by omega
   have e3':cur.extract (o+i * 2) (o+(i * 2+2))=(acCells r).toArray:=by rw [← Nat.add_assoc];exact e3
   have lu:=Nat.lt_add_one u.heap.size
   have hold:oldL (lookG r.1 mw)=numsAt r.1 (l.take i):=by
    have:=hL.get r.1
    rw [lookG_ls] at this
    exact this
   have hadd:∀s:Sl,s.l=oldL (lookG r.1 mw) ++ [r.2]→Lists (lsOf (putG r.1 s mw)) (l.take (i+1)):=by
    intro s hs
    have:=hL.add r
    rw [lsOf_put,hs,hold,hat]
    rw [hL.get r.1] at this
    exact this
   simp only [ZB,insVc,loadNK,storeNK,setMany,iaddrK,isPlain,Value.cells,ne_eq,Nat.reduceEqDiff,Nat.reduceAdd,Nat.reduceLeDiff,Zai,Zak,Zaj,Zal,Zam,Zan,Zaa,Zbj,Zau,Zav,Zax,get_alloc,Zb,Nat.reduceAdd,Nat.reduceEqDiff,hi,h0i,q7,q9,e1,e2',e3',acCells]
   refine vc_genT ?_
   intro c hc
   have hmc:Mod (fun _=>False) u c:=by rw [hc];exact ((Mod.refl _ _).alloc _).set (.inl (Nat.le_refl _))
   have r1:c.heap[u.heap.size]? = some (.cells #[.string ⟨r.1.toArray⟩,.int .u64 (r.2:Int)] 29 (0,0)):=by rw [hc];exact get_set_same _ _ _ (by rw [size_alloc];exact lu)
   clear hc
   have hWc:Want c.drew w.heap.size w.heap.size n mw:=hW.keep hmc.drew (fun _ _ _=>id)
   have r1d:c.drew.heap[u.heap.size]? = some (.cells #[.string ⟨r.1.toArray⟩,.int .u64 (r.2:Int)] 29 (0,0)):=r1
   have hmwc:Mod (fun _=>False) w c.drew:=(hm.trans hmc).drew
   revert hWc r1d hmwc
   obtain ⟨C,hC⟩:∃C,C=c.drew:=⟨_,rfl⟩
   rw [← hC]
   intro hWc r1d hmwc
   obtain ⟨s,x',x'',ha,hu,hsl,hW2,hmx,hmm,hst⟩:=hWc.app r.1 r.2 hrk (by simp only [maxLen];omega) (by rw [hold];exact Nat.lt_of_le_of_lt (numsAt_len _ _) (by rw [List.length_take];omega)) 49
   have hx1:=(hst _ _ _ _ r1d (by decide)).1
   have hlk:=hWc.look r.1 hrk
   have ra:(C.alloc (.cells #[.int .u64 (r.2:Int)] 27)).heap[u.heap.size]? = some (.cells #[.string ⟨r.1.toArray⟩,.int .u64 (r.2:Int)] 29 (0,0)):=by rw [get_alloc_old _ _ _ (lt_of_get r1d)];exact r1d
   have hlka:=(hWc.keep (S:=fun _=>False) ((Mod.refl _ _).alloc (.cells #[.int .u64 (r.2:Int)] 27)) (fun _ _ _=>id)).look r.1 hrk
   refine draw_c (dp:=[[],[],[1],[],[],[4],[3,5],[],[7],[8],[6,9],[0,2,10,10,0,1,2,3,4,5,6,7,8,9,10]]) (N:=11)
    (fun L ρ u'=>RegI [(3,.map (some w.heap.size)),(5,ptr u.heap.size),(7,.slice (some ⟨bk,o,none⟩) l.length vc'),(8,.int .i64 l.length),(9,.int .i64 i)]
     [(0,13,.map (some w.heap.size)),(1,14,ptr u.heap.size),(2,15,.string ⟨r.1.toArray⟩),(3,16,.map (some w.heap.size)),(4,17,ptr u.heap.size),(5,18,.string ⟨r.1.toArray⟩),(6,19,oldV (lookG r.1 mw)),(7,20,.pointer (some ⟨u.heap.size,1,none⟩)),(8,21,.int .u64 (r.2:Int)),(9,22,.slice (some ⟨C.heap.size,0,none⟩) 1 1),(10,23,s.val)] L ρ ∧
     (L 10=false→(L 9=false→u'=C)∧(L 9=true→u'=C.alloc (.cells #[.int .u64 (r.2:Int)] 27)))∧(L 10=true→u'=x'))
    (by kernel_rfl) (by kernel_rfl) (by kernel_rfl) (by kernel_rfl) (by kernel_rfl) (by kernel_rfl) rfl rfl (by kernel_rfl) ?_ ?_ ?_
   ·refine ⟨RegI.start ?_,fun _=>⟨fun _=>hC.symm,fun h=>(Bool.false_ne_true h).elim⟩,fun h=>(Bool.false_ne_true h).elim⟩
    intro q hq
    simp only [Zbo,Zbp,or_false] at hq
    rcases hq with rfl|rfl|rfl|rfl|rfl <;> simp only [upd_same,upd_other,ne_eq,not_false_eq_true,Nat.reduceEqDiff,q3,q7,q8,q9]
   ·rintro L ρ u' k y d hk11 hx' hd hL' hdeps hcl ⟨hI,h10,h11⟩
    have hcell:u'.heap[u.heap.size]? = some (.cells #[.string ⟨r.1.toArray⟩,.int .u64 (r.2:Int)] 29 (0,0)):=by
     cases g:L 10 with
     | true=>rw [h11 g];exact hx1
     | false =>
      cases g2:L 9 with
      | false=>rw [(h10 g).1 g2];exact r1d
      | true=>rw [(h10 g).2 g2];exact ra
    have hlook:L 10=false→(Instr.lookup 44 (.map (some w.heap.size)) (.string ⟨r.1.toArray⟩) false).run prog u' = .ok (oldV (lookG r.1 mw)) u':=by
     intro g
     cases g2:L 9 with
     | false=>rw [(h10 g).1 g2];exact hlk
     | true=>rw [(h10 g).2 g2];exact hlka
    have hn10:∀j,L j=false→(∀d',([6,9]:List Nat)=d'→(L 10=true→∃i∈([3,4,5,6,7,8,9]:List Nat),i=j)→L 10=false):=by
     intro j hj d' _ hin
     cases g:L 10 with
     | false=>rfl
     | true =>
      obtain ⟨i,hi',rfl⟩:=hin g
      have a6:=hcl 10 _ rfl g 6 (by decide)
      have a9:=hcl 10 _ rfl g 9 (by decide)
      have a3:=hcl 6 _ rfl a6 3 (by decide)
      have a5:=hcl 6 _ rfl a6 5 (by decide)
      have a4:=hcl 5 _ rfl a5 4 (by decide)
      have a8:=hcl 9 _ rfl a9 8 (by decide)
      have a7:=hcl 8 _ rfl a8 7 (by decide)
      simp only [Zbo,Zbp,or_false] at hi'
      rcases hi' with rfl|rfl|rfl|rfl|rfl|rfl|rfl
      ·rw [a3] at hj;cases hj
      ·rw [a4] at hj;cases hj
      ·rw [a5] at hj;cases hj
      ·rw [a6] at hj;cases hj
      ·rw [a7] at hj;cases hj
      ·rw [a8] at hj;cases hj
      ·rw [a9] at hj;cases hj
    have hsame:∀j,j≠9→j≠10→((j == 10 || L 10)=L 10)→True:=fun _ _ _ _=>trivial
    obtain rfl|rfl|rfl|rfl|rfl|rfl|rfl|rfl|rfl|rfl|rfl:k=0∨k=1∨k=2∨k=3∨k=4∨k=5∨k=6∨k=7∨k=8∨k=9∨k=10:=by omega
    all_goals (obtain rfl:=Option.some.inj hx';obtain rfl:=Option.some.inj hd)
    ·simp only [updO_some,ev_tmp,insVc,hI.frm (d:=3) (v:=.map (some w.heap.size)) (by simp)]
     exact ⟨hI.put 0 13 _ rfl (by simp) rfl,h10,h11⟩
    ·simp only [updO_some,ev_tmp,insVc,faddrK,Nat.add_zero,hI.frm (d:=5) (v:=ptr u.heap.size) (by simp)]
     exact ⟨hI.put 1 14 _ rfl (by simp) rfl,h10,h11⟩
    ·simp only [ZB,insVc,load1K,Za,Zah,hI.get (k:=1) (d:=14) (v:=ptr u.heap.size) (by simp) (hdeps 1 (by decide)),hcell]
     exact ⟨hI.put 2 15 _ rfl (by simp) rfl,h10,h11⟩
    ·simp only [updO_some,ev_tmp,insVc,hI.frm (d:=3) (v:=.map (some w.heap.size)) (by simp)]
     exact ⟨hI.put 3 16 _ rfl (by simp) rfl,h10,h11⟩
    ·simp only [updO_some,ev_tmp,insVc,faddrK,Nat.add_zero,hI.frm (d:=5) (v:=ptr u.heap.size) (by simp)]
     exact ⟨hI.put 4 17 _ rfl (by simp) rfl,h10,h11⟩
    ·simp only [ZB,insVc,load1K,Za,Zah,hI.get (k:=4) (d:=17) (v:=ptr u.heap.size) (by simp) (hdeps 4 (by decide)),hcell]
     exact ⟨hI.put 5 18 _ rfl (by simp) rfl,h10,h11⟩
    ·have g:=hn10 6 hL' _ rfl (fun _=>⟨6,by decide,rfl⟩)
     simp only [updO_some,insVc]
     refine rawK_lookup rfl rfl rfl (by simpa only [vc_skip,vc_seq,vc_cond,vc_block,vc_exit,vc_ret,vc_ops,vcOps_nil,vcOps_cons,vcOps_gate,gateK_true,gateK_false,gate_true,gate_false,gate_undef,goL_apply,thenQ_normal,thenQ_ret,thenQ_exit,blockQ_normal,blockQ_ret,blockQ_same,blockQ_exit,condP_true,condP_false,upd_same,upd_other,updO_some,updO_none,ev_tmp,ev_const,ev_global,ev_func,endQ_ret,endQ_normal,endK,resK,resN,res1,resO_cells,resNO_cells,packed,initE_at,insVc,pickK,load1K,loadO_cells,loadV_some,loadV_none,loadNK,loadNO_cells,storeK,storeO_cells,storeNK,storeNO_cells,setMany,nilK,nilM,iopK,iopV,sopK,sopV,bopK,nilOf,pnilK,notK,convK,sameK,faddrK,fld1K,fldNK,iaddrK,iaddrAK,sidxK,extK,lenSK,lenLK,callvK,invK,buildK,fillL,buildSK,boundOf,slSK,slLK,slAK,isPlain,Value.cells,ne_eq,not_false_eq_true,not_true_eq_false,Nat.reduceEqDiff,Nat.reduceAdd,Nat.reduceLT,Nat.reduceLeDiff,reduceCtorEq,Bool.not_true,Bool.not_false,Option.map_some,Option.map_none,Option.getD_some,Option.getD_none,List.map_cons,List.map_nil,List.getElem?_cons_zero,List.getElem?_cons_succ,List.getElem?_nil,List.getElem?_toArray,List.size_toArray,List.length_cons,List.length_nil,List.zipIdx_cons,List.zipIdx_nil,List.foldl_cons,List.foldl_nil,List.setIfInBounds_toArray,List.set_cons_zero,List.set_cons_succ,List.append_eq,List.nil_append,List.cons_append,List.append_nil,List.toList_toArray,true_and,and_true,true_or,or_true,or_false,false_or,and_self,if_true,if_false,ite_true,ite_false,Bool.false_eq_true,Nat.zero_add,Nat.add_zero,decide_true,decide_false,Bool.and_true,Bool.and_false,Bool.true_and,Bool.false_and,Option.isNone_some,Option.isNone_none,Int.reduceLT,Int.reduceLE,Int.reduceToNat,Int.toNat_natCast,Int.reduceAdd,Int.reduceSub,Int.reduceMul,Int.reduceNeg,Int.reduceEq,Int.reduceNe,Int.reduceBEq,Int.reduceBNe,Nat.mul_one,List.extract_toArray,List.extract_eq_take_drop,List.drop_zero,List.drop_succ_cons,List.take_zero,List.take_succ_cons,Nat.sub_zero,Nat.add_sub_cancel,Nat.add_sub_cancel_left,vcS_nil,vcS_cons,vcS_gate,gateS_true,gateS_false,stepB_true,stepB_false,pureI,Nat.zero_mul,Nat.one_mul,Nat.reduceMul,Nat.reduceSub,List.all_toArray',List.all_cons,List.all_nil,size_set,size_alloc,size_drew,get_alloc_new,get_set_same,get_drew,Nat.lt_add_one,vcD_nil,vcD_cons,vcD_gate,gateD_true,gateD_false,stepD_pure,stepD_load,stepD_step,kindI,loadI,hI.get (k:=3) (d:=16) (v:=.map (some w.heap.size)) (by simp) (hdeps 3 (by decide)),hI.get (k:=5) (d:=18) (v:=.string ⟨r.1.toArray⟩) (by simp) (hdeps 5 (by decide))] using hlook g) ?_
     exact ⟨hI.put 6 19 _ rfl (by simp) rfl,h10,h11⟩
    ·simp only [updO_some,ev_tmp,insVc,faddrK,Nat.zero_add,hI.frm (d:=5) (v:=ptr u.heap.size) (by simp)]
     exact ⟨hI.put 7 20 _ rfl (by simp) rfl,h10,h11⟩
    ·simp only [ZB,insVc,load1K,Za,Zag,Zah,hI.get (k:=7) (d:=20) (v:=.pointer (some ⟨u.heap.size,1,none⟩)) (by simp) (hdeps 7 (by decide)),hcell]
     exact ⟨hI.put 8 21 _ rfl (by simp) rfl,h10,h11⟩
    ·have g:=hn10 9 hL' _ rfl (fun _=>⟨9,by decide,rfl⟩)
     have hu':=(h10 g).1 hL'
     subst hu'
     simp only [ZB,insVc,fillL,buildSK,Value.cells,Nat.reduceLeDiff,Zai,Zak,Zaj,Zbe,Zbf,Zbd,Zbc,Zal,Zam,Zbh,Zaa,hI.get (k:=8) (d:=21) (v:=.int .u64 (r.2:Int)) (by simp) (hdeps 8 (by decide))]
     exact ⟨hI.put 9 22 _ rfl (by simp) rfl,fun _=>⟨fun h=>by simp at h,fun _=>trivial⟩,fun h=>by simp [g] at h⟩
    ·have hu':=(h10 hL').2 (hdeps 9 (by decide))
     subst hu'
     simp only [updO_some,insVc]
     refine rawK_append rfl rfl rfl (by simpa only [vc_skip,vc_seq,vc_cond,vc_block,vc_exit,vc_ret,vc_ops,vcOps_nil,vcOps_cons,vcOps_gate,gateK_true,gateK_false,gate_true,gate_false,gate_undef,goL_apply,thenQ_normal,thenQ_ret,thenQ_exit,blockQ_normal,blockQ_ret,blockQ_same,blockQ_exit,condP_true,condP_false,upd_same,upd_other,updO_some,updO_none,ev_tmp,ev_const,ev_global,ev_func,endQ_ret,endQ_normal,endK,resK,resN,res1,resO_cells,resNO_cells,packed,initE_at,insVc,pickK,load1K,loadO_cells,loadV_some,loadV_none,loadNK,loadNO_cells,storeK,storeO_cells,storeNK,storeNO_cells,setMany,nilK,nilM,iopK,iopV,sopK,sopV,bopK,nilOf,pnilK,notK,convK,sameK,faddrK,fld1K,fldNK,iaddrK,iaddrAK,sidxK,extK,lenSK,lenLK,callvK,invK,buildK,fillL,buildSK,boundOf,slSK,slLK,slAK,isPlain,Value.cells,ne_eq,not_false_eq_true,not_true_eq_false,Nat.reduceEqDiff,Nat.reduceAdd,Nat.reduceLT,Nat.reduceLeDiff,reduceCtorEq,Bool.not_true,Bool.not_false,Option.map_some,Option.map_none,Option.getD_some,Option.getD_none,List.map_cons,List.map_nil,List.getElem?_cons_zero,List.getElem?_cons_succ,List.getElem?_nil,List.getElem?_toArray,List.size_toArray,List.length_cons,List.length_nil,List.zipIdx_cons,List.zipIdx_nil,List.foldl_cons,List.foldl_nil,List.setIfInBounds_toArray,List.set_cons_zero,List.set_cons_succ,List.append_eq,List.nil_append,List.cons_append,List.append_nil,List.toList_toArray,true_and,and_true,true_or,or_true,or_false,false_or,and_self,if_true,if_false,ite_true,ite_false,Bool.false_eq_true,Nat.zero_add,Nat.add_zero,decide_true,decide_false,Bool.and_true,Bool.and_false,Bool.true_and,Bool.false_and,Option.isNone_some,Option.isNone_none,Int.reduceLT,Int.reduceLE,Int.reduceToNat,Int.toNat_natCast,Int.reduceAdd,Int.reduceSub,Int.reduceMul,Int.reduceNeg,Int.reduceEq,Int.reduceNe,Int.reduceBEq,Int.reduceBNe,Nat.mul_one,List.extract_toArray,List.extract_eq_take_drop,List.drop_zero,List.drop_succ_cons,List.take_zero,List.take_succ_cons,Nat.sub_zero,Nat.add_sub_cancel,Nat.add_sub_cancel_left,vcS_nil,vcS_cons,vcS_gate,gateS_true,gateS_false,stepB_true,stepB_false,pureI,Nat.zero_mul,Nat.one_mul,Nat.reduceMul,Nat.reduceSub,List.all_toArray',List.all_cons,List.all_nil,size_set,size_alloc,size_drew,get_alloc_new,get_set_same,get_drew,Nat.lt_add_one,vcD_nil,vcD_cons,vcD_gate,gateD_true,gateD_false,stepD_pure,stepD_load,stepD_step,kindI,loadI,hI.get (k:=6) (d:=19) (v:=oldV (lookG r.1 mw)) (by simp) (hdeps 6 (by decide)),hI.get (k:=9) (d:=22) (v:=.slice (some ⟨C.heap.size,0,none⟩) 1 1) (by simp) (hdeps 9 (by decide))] using ha) ?_
     exact ⟨hI.put 10 23 _ rfl (by simp) rfl,fun h=>by simp at h,fun _=>rfl⟩
   ·rintro L ρ u' y hall ⟨hI,_,h11⟩ hx'
    obtain rfl:=Option.some.inj hx'
    have hu':=h11 (hall 10 (by decide))
    subst hu'
    have p3:=hI.frm (d:=3) (v:=.map (some w.heap.size)) (by simp)
    have p7:=hI.frm (d:=7) (v:=.slice (some ⟨bk,o,none⟩) l.length vc') (by simp)
    have p8:=hI.frm (d:=8) (v:=.int .i64 l.length) (by simp)
    have p9:=hI.frm (d:=9) (v:=.int .i64 i) (by simp)
    refine rawK_mapUpdate rfl rfl rfl rfl (by simpa only [vc_skip,vc_seq,vc_cond,vc_block,vc_exit,vc_ret,vc_ops,vcOps_nil,vcOps_cons,vcOps_gate,gateK_true,gateK_false,gate_true,gate_false,gate_undef,goL_apply,thenQ_normal,thenQ_ret,thenQ_exit,blockQ_normal,blockQ_ret,blockQ_same,blockQ_exit,condP_true,condP_false,upd_same,upd_other,updO_some,updO_none,ev_tmp,ev_const,ev_global,ev_func,endQ_ret,endQ_normal,endK,resK,resN,res1,resO_cells,resNO_cells,packed,initE_at,insVc,pickK,load1K,loadO_cells,loadV_some,loadV_none,loadNK,loadNO_cells,storeK,storeO_cells,storeNK,storeNO_cells,setMany,nilK,nilM,iopK,iopV,sopK,sopV,bopK,nilOf,pnilK,notK,convK,sameK,faddrK,fld1K,fldNK,iaddrK,iaddrAK,sidxK,extK,lenSK,lenLK,callvK,invK,buildK,fillL,buildSK,boundOf,slSK,slLK,slAK,isPlain,Value.cells,ne_eq,not_false_eq_true,not_true_eq_false,Nat.reduceEqDiff,Nat.reduceAdd,Nat.reduceLT,Nat.reduceLeDiff,reduceCtorEq,Bool.not_true,Bool.not_false,Option.map_some,Option.map_none,Option.getD_some,Option.getD_none,List.map_cons,List.map_nil,List.getElem?_cons_zero,List.getElem?_cons_succ,List.getElem?_nil,List.getElem?_toArray,List.size_toArray,List.length_cons,List.length_nil,List.zipIdx_cons,List.zipIdx_nil,List.foldl_cons,List.foldl_nil,List.setIfInBounds_toArray,List.set_cons_zero,List.set_cons_succ,List.append_eq,List.nil_append,List.cons_append,List.append_nil,List.toList_toArray,true_and,and_true,true_or,or_true,or_false,false_or,and_self,if_true,if_false,ite_true,ite_false,Bool.false_eq_true,Nat.zero_add,Nat.add_zero,decide_true,decide_false,Bool.and_true,Bool.and_false,Bool.true_and,Bool.false_and,Option.isNone_some,Option.isNone_none,Int.reduceLT,Int.reduceLE,Int.reduceToNat,Int.toNat_natCast,Int.reduceAdd,Int.reduceSub,Int.reduceMul,Int.reduceNeg,Int.reduceEq,Int.reduceNe,Int.reduceBEq,Int.reduceBNe,Nat.mul_one,List.extract_toArray,List.extract_eq_take_drop,List.drop_zero,List.drop_succ_cons,List.take_zero,List.take_succ_cons,Nat.sub_zero,Nat.add_sub_cancel,Nat.add_sub_cancel_left,vcS_nil,vcS_cons,vcS_gate,gateS_true,gateS_false,stepB_true,stepB_false,pureI,Nat.zero_mul,Nat.one_mul,Nat.reduceMul,Nat.reduceSub,List.all_toArray',List.all_cons,List.all_nil,size_set,size_alloc,size_drew,get_alloc_new,get_set_same,get_drew,Nat.lt_add_one,vcD_nil,vcD_cons,vcD_gate,gateD_true,gateD_false,stepD_pure,stepD_load,stepD_step,kindI,loadI,hI.get (k:=0) (d:=13) (v:=.map (some w.heap.size)) (by simp) (hall 0 (by decide)),hI.get (k:=2) (d:=15) (v:=.string ⟨r.1.toArray⟩) (by simp) (hall 2 (by decide)),hI.get (k:=10) (d:=23) (v:=s.val) (by simp) (hall 10 (by decide))] using hu) ?_
    simp only [ZB,insVc,iopK,iopV,ne_eq,Nat.reduceEqDiff,reduceCtorEq,p3,p7,p8,p9,wi]
    exact ⟨k-1,by omega,hmwc.then hmm (fun j hj e=>by omega),i+1,n+1,_,by omega,rfl,hW2,by omega,hadd s hsl⟩
  ·have hil:i=l.length:=by omega
   subst hil
   rw [List.take_length] at hL
   simp only [ZB,endK,resK,packed,insVc,ne_eq,Nat.reduceEqDiff,Zad,hi,q3]
   exact h u w.heap.size n mw hm (Nat.le_refl _) hW (by omega) hL
end Go.Oct
namespace Go.Oct
open Go Go.Vc Go.ChangeShapes Go.Tal Go.Proofs.Tryz
set_option maxRecDepth 100000
section
variable {H:Type} {enc:TypeId × Value→H} {W:World} {base:Nat} {spare:Nat→Bool} {held:Bool}
theorem trod_tact (n:Nat) (cs:List Value) (y:DataW H × List MemPlace) (h:DataW.trod enc prog W base spare held n 29 cs=some y) :
  ∃a:Ac,cs=acCells a∧a.2<18446744073709551616∧a.1.length≤maxLen:=by
 have hu:prog.underlying 29=some (.struct (prog.fieldsOf 29)):=by kernel_rfl
 have us:prog.underlying 9=some .string:=by kernel_rfl
 have cs1:prog.cellsOf 9=1:=by kernel_rfl
 have cz:prog.cellsOf 27=1:=by kernel_rfl
 obtain ⟨hl,hf⟩:=trod_fields hu [(9,0),(27,1)] (by kernel_rfl) h
 have c5:prog.cellsOf 29=2:=by kernel_rfl
 rw [c5] at hl
 match cs,hl with
 | [x0,x1],_ =>
  obtain ⟨_,_,h0⟩:=hf _ (List.mem_cons_self)
  obtain ⟨_,_,h1⟩:=hf (27,1) (by simp)
  simp only [cs1,cz,Zaq,Zby,Zas,Zao] at h0 h1
  obtain ⟨s0,e0,_,z0⟩:=DataW.trod_string us h0
  obtain ⟨k1,e1,b1⟩:=trod_u64 _ _ _ h1
  simp only [List.cons.injEq,and_true] at e0 e1
  subst e0 e1
  exact ⟨(s0.data.toList,k1),by simp [acCells],b1,by rw [Array.length_toList];exact z0⟩
end
end Go.Oct
namespace Go.Tal
open Go Go.Oct
theorem foldl_sum:∀(l:List Nat) (s:Nat),s<18446744073709551616→l.foldl (fun a n=>(a+n)%18446744073709551616) s=(s+l.sum)%18446744073709551616
 | [],s,h=>by simp;omega
 | x :: r,s,h=>by
  rw [List.foldl_cons,foldl_sum r _ (Nat.mod_lt _ (by decide)),List.sum_cons]
  omega
theorem sumN_eq (l:List Nat):sumN l=l.sum%18446744073709551616:=by
 unfold sumN
 rw [foldl_sum l 0 (by decide),Nat.zero_add]
theorem foldl_min:∀(l:List Nat) (c x:Nat),l.foldl min (min c x)=min c (l.foldl min x)
 | [],_,_=>rfl
 | y :: r,c,x=>by
  rw [List.foldl_cons,List.foldl_cons,show min (min c x) y=min c (min x y) by omega,foldl_min r]
theorem foldl_max:∀(l:List Nat) (c x:Nat),l.foldl max (max c x)=max c (l.foldl max x)
 | [],_,_=>rfl
 | y :: r,c,x=>by
  rw [List.foldl_cons,List.foldl_cons,show max (max c x) y=max c (max x y) by omega,foldl_max r]
theorem minN_app (a b:List Nat) (ha:a≠[]) (hb:b≠[]):minN (a ++ b)=min (minN a) (minN b):=by
 cases a with
 | nil=>exact (ha rfl).elim
 | cons x r =>
  cases b with
  | nil=>exact (hb rfl).elim
  | cons y s =>
   show (r ++ y :: s).foldl min x=min (r.foldl min x) (s.foldl min y)
   rw [List.foldl_append,List.foldl_cons,foldl_min]
theorem maxN_app (a b:List Nat):maxN (a ++ b)=max (maxN a) (maxN b):=by
 unfold maxN
 rw [List.foldl_append]
 have:=foldl_max b (a.foldl max 0) 0
 rw [Nat.max_zero] at this
 exact this
theorem cl_app (a b:List Nat) (h:a.length+b.length<18446744073709551616):addL ((List.range 65).map (cAt a)) ((List.range 65).map (cAt b))=(List.range 65).map (cAt (a ++ b)):=by
 unfold addL
 rw [List.zipWith_map,List.zipWith_self]
 refine List.map_congr_left (fun i _ => ?_)
 have e:cAt (a ++ b) i=cAt a i+cAt b i:=by unfold cAt;rw [List.countP_append]
 rw [e]
 have h1:cAt a i≤a.length:=List.countP_le_length
 have h2:cAt b i≤b.length:=List.countP_le_length
 exact Nat.mod_eq_of_lt (by omega)
theorem row_app (a b:List Nat) (h:a.length+b.length<18446744073709551616):(rowOf a).plus (rowOf b)=rowOf (a ++ b):=by
 unfold Rw.plus
 by_cases hb:b=[]
 ·subst hb;rw [if_pos (show (rowOf []).c=0 from rfl),List.append_nil]
 have hb':(rowOf b).c≠0:=by simpa [rowOf] using hb
 rw [if_neg hb']
 by_cases ha:a=[]
 ·subst ha;rw [if_pos (show (rowOf []).c=0 from rfl),List.nil_append]
 have ha':(rowOf a).c≠0:=by simpa [rowOf] using ha
 rw [if_neg ha']
 show Rw.mk ((a.length+b.length)%18446744073709551616) ((sumN a+sumN b)%18446744073709551616) (min (minN a) (minN b)) (max (maxN a) (maxN b)) (addL ((List.range 65).map (cAt a)) ((List.range 65).map (cAt b)))=_
 rw [← minN_app a b ha hb,← maxN_app,cl_app a b h]
 unfold rowOf
 rw [List.length_append,Nat.mod_eq_of_lt h,sumN_eq (a ++ b),sumN_eq a,sumN_eq b,List.sum_append]
 congr 1
 omega
def MixC (m:MG Rw) (l l2:List Ac) (mu:MG Rw) (i:Nat):Prop :=
 (keysG m).Nodup∧∀k,lookG k m=if k∈keysG (mu.take i) then some (rowOf (numsAt k l ++ numsAt k l2)) else if numsAt k l=[] then none else some (rowOf (numsAt k l))
theorem MixC.start {m:MG Rw} {l:List Ac} (h:Counts m l) (l2:List Ac) (mu:MG Rw):MixC m l l2 mu 0:=by
 refine ⟨h.1,fun k => ?_⟩
 rw [List.take_zero,if_neg (by simp [keysG])]
 exact h.2 k
theorem MixC.old {m:MG Rw} {l l2:List Ac} {mu:MG Rw} {i:Nat} (h:MixC m l l2 mu i) {k:List UInt8} (hk:k ∉ keysG (mu.take i)):(lookG k m).getD Rw.zero=rowOf (numsAt k l):=by
 rw [h.2 k,if_neg hk]
 by_cases hn:numsAt k l=[]
 ·rw [if_pos hn,hn,rowOf_nil];rfl
 ·rw [if_neg hn];rfl
theorem keys_take {mu:MG Rw} {i:Nat} {p:List UInt8 × Rw} (hp:mu[i]? = some p):keysG (mu.take (i+1))=keysG (mu.take i) ++ [p.1]:=by
 rw [List.take_add_one,hp];simp [keysG]
theorem new_key {mu:MG Rw} (hn:(keysG mu).Nodup) {i:Nat} {p:List UInt8 × Rw} (hp:mu[i]? = some p):p.1 ∉ keysG (mu.take i):=by
 intro hm
 have h1:(keysG (mu.take (i+1))).Nodup:=hn.sublist ((List.take_sublist _ _).map _)
 rw [keys_take hp] at h1
 exact (List.nodup_append.1 h1).2.2 _ hm p.1 (by simp) rfl
theorem MixC.step {m:MG Rw} {l l2:List Ac} {mu:MG Rw} {i:Nat} (h:MixC m l l2 mu i) (hn:(keysG mu).Nodup) {p:List UInt8 × Rw} (hp:mu[i]? = some p) (hr:p.2=rowOf (numsAt p.1 l2)) (hl:l.length+l2.length<18446744073709551616) :
  MixC (putG p.1 (((lookG p.1 m).getD Rw.zero).plus p.2) m) l l2 mu (i+1):=by
 have hk:=new_key hn hp
 refine ⟨nodup_putG _ _ _ h.1,fun k => ?_⟩
 rw [lookG_put,keys_take hp,h.old hk]
 by_cases e:k=p.1
 ·subst e
  rw [if_pos rfl,if_pos (by simp),hr,row_app _ _ (by have:=numsAt_len p.1 l;have:=numsAt_len p.1 l2;omega)]
 ·rw [if_neg e,h.2 k]
  by_cases hm:k∈keysG (mu.take i)
  ·have hm':k∈keysG (mu.take i) ++ [p.1]:=by simp [hm]
   rw [if_pos hm,if_pos hm']
  ·have hm':k ∉ keysG (mu.take i) ++ [p.1]:=by simp [hm,e]
   rw [if_neg hm,if_neg hm']
theorem MixC.done {m:MG Rw} {l l2:List Ac} {mu:MG Rw} (h:MixC m l l2 mu mu.length) (hu:Counts mu l2):Counts m (l ++ l2):=by
 refine ⟨h.1,fun k => ?_⟩
 have hk:k∈keysG mu ↔ numsAt k l2≠[]:=by
  rw [← lookG_mem,hu.2 k]
  by_cases h2:numsAt k l2=[] <;> simp [h2]
 rw [h.2 k,List.take_length,numsAt_append]
 by_cases h2:numsAt k l2=[]
 ·have h3:k ∉ keysG mu:=fun x=>hk.1 x h2
  rw [if_neg h3,h2,List.append_nil]
 ·have h4:¬numsAt k l ++ numsAt k l2=[]:=by simp [h2]
  rw [if_pos (hk.2 h2),if_neg h4]
end Go.Tal
