import Derived.Test.YtpggpopbkmgodaaGreatDoorVnM
import Derived.Test.YtpggpopbkmgodaaGreatDoorVkD
import Derived.Test.YtpggpopbkmgodaaGreatDoorVrK
set_option linter.unusedSimpArgs false
set_option linter.unusedVariables false
set_option linter.unusedSectionVars false
set_option linter.unnecessarySimpa false
namespace Go.Oct
open Go Go.Vc Go.VrA Go.VrK Go.VrL Go.Tal Go.Proofs.Tryz
set_option maxRecDepth 100000
theorem size_own {k:TypeId} {α:Type} {val:α→Value} {R:Value→Option (DataW Value × List MemPlace)} {w:World} {b n:Nat} {m:MG α} (h:w.ownsMap prog k R b n (DG val m)):m.length≤n:=by
 have:=World.ownsMap.size_le h
 rw [sizeG] at this
 exact this
theorem nums_lt {l:List Ac} (hb:∀a∈l,a.2<18446744073709551616) (k:List UInt8):∀x∈numsAt k l,x<18446744073709551616:=by
 intro x hx
 obtain ⟨a,ha,rfl⟩:=List.mem_map.1 hx
 exact hb a (List.mem_filter.1 ha).1
theorem OwnU.ns {w:World} {B:Nat} {s:Sl} (h:OwnU w B s.val s.l):IsNs w s.val s.l:=by
 rcases h.2 with ⟨h0,_⟩|⟨g,cap,cur,hv,_,hb,_,_,_,htake⟩
 ·cases h0
 ·have e:s.b=g:=by simp only [Sl.val,Value.slice.injEq,Option.some.injEq,Addr.mk.injEq] at hv;exact hv.1.1
  refine ⟨⟨_,_,rfl⟩,fun i x hx=>⟨s.b,0,s.cap,cur,_,_,rfl,by rw [e];exact hb, ?_⟩⟩
  have hi:i<s.l.length:=(List.getElem?_eq_some_iff.1 hx).1
  have h1:(cur.toList.take (s.l.length * 1))[i]? = some (.int .u64 (x:Int)):=by rw [htake];simp [numsV,hx]
  rw [List.getElem?_take,if_pos (by omega)] at h1
  simpa using h1
def lastK (m:MG Rw):Nat→List UInt8
 | 0=>[]
 | i+1=>((m[i]?).map (·.1)).getD []
theorem last_lt {m:MG Rw} (hs:SortedG m) {i:Nat} {p:List UInt8 × Rw} (hp:m[i]? = some p) (h0:0<i):(Op.bytesLess p.1 (lastK m i) || p.1 == lastK m i)=false:=by
 obtain ⟨j,rfl⟩:∃j,i=j+1:=⟨i-1,by omega⟩
 have hlt:=(List.getElem?_eq_some_iff.1 hp).1
 obtain ⟨q,hq⟩:∃q,m[j]? = some q:=⟨_,List.getElem?_eq_getElem (by omega)⟩
 have e:lastK m (j+1)=q.1:=by simp [lastK,hq]
 rw [e]
 have hlt2:q.1<p.1:=by
  have:=List.pairwise_iff_getElem.1 hs j (j+1) (by simp [keysG];omega) (by simp [keysG];omega) (by omega)
  have e1:=(List.getElem?_eq_some_iff.1 hq).2
  have e2:=(List.getElem?_eq_some_iff.1 hp).2
  simpa [keysG,e1,e2] using this
 rw [Bool.or_eq_false_iff]
 refine ⟨?_, ?_⟩
 ·rw [Go.Proofs.bytesLess_eq]
  exact decide_eq_false (fun h=>List.lt_irrefl _ (List.lt_trans h hlt2))
 ·simp only [beq_eq_false_iff_ne]
  intro e
  rw [e] at hlt2
  exact List.lt_irrefl _ hlt2
theorem rawK_len {P:Program} {n:Nat} {go:Value→World→Prop} {ρ:Env} {ds:List Deferred} {w:World} {o:Oper} {x:Operand} {t:TypeId} {v:Value} (ho:o.op = .call { callee:=.builtin .len,args:=#[x],argTypes:=#[t] })
  (hx:inB n x=true) (hr:(Builtin.len_ #[t] o.type #[ev ρ x]).run P w = .ok v w) (h:go v w):RawK P go ρ ds n o w:=by
 unfold RawK
 simp only [execOp,ho,resolve,Sem.run_bind,pure,Sem.run,Result.andThen,invoke,builtin]
 have e:(#[x]:Array Operand).map (mkA n ρ ds).eval = #[ev ρ x]:=by simp [mkA_eval n ρ ds x hx]
 rw [e,hr]
 exact h
theorem is_c (tb mb n:Nat) (m:MG Rw) (B wb n2:Nat) (mw:MG Sl) (l:List Ac) (w:World) (K:Value→World→Prop) (ht:TalG w tb mb n m) (hc:Counts m l) (hw:Want w B wb n2 mw) (hL:Lists (lsOf mw) l) (hb:∀a∈l,a.2<18446744073709551616) (hl:l.length<1048576) (hn:n<1048576)
  (h:∀w',Mod (fun _=>False) w w'→K (.bool true) w'):Ok prog 15 #[ptr tb,.map (some wb)] w K:=by
 refine F15.enter (args:=[ptr tb,.map (some wb)]) (by simp) ?_
 unfold c15 r15
 have hmn:m.length≤n:=size_own ht.2.1
 have hlen:m.length=mw.length:=by have:=keys_len hc hL;rw [lsOf_len] at this;exact this
 have hrow:∀p∈m,p.2=rowOf (numsAt p.1 l)∧p.2.good∧∃s,lookG p.1 mw=some s∧s.l=numsAt p.1 l:=by
  intro p hp
  have hk:p.1∈keysG m:=List.mem_map.2 ⟨p,hp,rfl⟩
  obtain ⟨h1,h2⟩:=at_key hc hL hk
  have h3:=look_memG ht.sorted hp
  rw [h3] at h1
  have e:=Option.some.inj h1
  refine ⟨e, ?_, ?_⟩
  ·rw [e];exact row_good _ (by have:=numsAt_len p.1 l;omega) (nums_lt hb _)
  ·rw [lookG_ls] at h2
   exact Option.map_eq_some_iff.1 h2
 have htb:=lt_of_get ht.1
 have hmb:mb<w.heap.size:=World.ownsMap.lt ht.2.1
 have hwb:wb<w.heap.size:=World.ownsMap.lt hw.map
 simp only [ZB,insVc,storeK,isPlain,Value.cells,ne_eq,Nat.reduceEqDiff,Nat.reduceAdd,Nat.reduceLT,Nat.reduceLeDiff,reduceCtorEq,Zac,Zae,Zab,Za,Zag,Zai,Zak,Zaj,Zal,Zam,Zaa,Zaf,Zay,get_alloc,get_set,Zb,Nat.reduceAdd,Zbg,Zba,Nat.reduceEqDiff,Zbr,Nat.reduceLT]
 refine callK_gen ?_
 intro w1 hw1
 have hm1:Mod (fun _=>False) w w1:=by rw [hw1];exact (((((((Mod.refl _ _).alloc _).alloc _).alloc _).alloc _).set (.inl (by omega))).set (.inl (by omega)))
 have a3:w1.heap[w.heap.size]? = some (.cells #[.map (some wb)] 44 (0,0)):=by rw [hw1];simp only [Nat.reduceAdd,Nat.reduceLT,reduceCtorEq,and_true,Zaa,Zaf,size_set,size_alloc,Zay,get_alloc,get_set,size_alloc,size_set,Zb,Nat.reduceAdd,Zbi,Zbr,Nat.reduceLT,Zaz]
 have a4:w1.heap[w.heap.size+1]? = some (.cells #[.bool false] 4 (0,0)):=by rw [hw1];simp only [Nat.reduceEqDiff,Nat.reduceAdd,Nat.reduceLT,and_true,Zaa,Zaf,size_set,size_alloc,Zay,get_alloc,get_set,size_alloc,size_set,Zb,Nat.reduceAdd,Zbg,Zba,Nat.reduceEqDiff,Zbr,Nat.reduceLT,Zaz]
 have a5:w1.heap[w.heap.size+2]? = some (.cells #[.int .i64 0] 3 (0,0)):=by rw [hw1];simp only [Nat.reduceEqDiff,Nat.reduceAdd,Nat.reduceLT,and_true,Zaf,size_set,size_alloc,Zbb,Zay,get_set,size_alloc,size_set,Zb,Nat.reduceAdd,Zbg,Nat.reduceEqDiff,Zbr,Nat.reduceLT]
 have a6:w1.heap[w.heap.size+3]? = some (.cells #[.string ⟨#[]⟩] 9 (0,0)):=by rw [hw1];simp only [Nat.reduceAdd,size_set,size_alloc,Zbb,Zay,size_alloc,size_set,Zb,Nat.reduceAdd]
 clear hw1
 have hz1:=lt_of_get a6
 have ht1:=ht.keep hm1 id id
 have hw1:=hw.keep hm1 (fun _ _ _=>id)
 refine allS_c tb mb n m w1 _ (by omega) (fun p hp=>(hrow p hp).2.1) ?_
 intro w4 gf cap hm4 it
 have hz4:=hm4.size
 have b3:=hm4.keep a3 id
 have b4:=hm4.keep a4 id
 have b5:=hm4.keep a5 id
 have b6:=hm4.keep a6 id
 have ht4:=ht1.keep hm4 id id
 have hw4:=hw1.keep hm4 (fun _ _ _=>id)
 simp only [ZB]
 refine range_iter (by kernel_rfl) (by kernel_rfl) (by kernel_rfl) (gf:=gf) (cap:=cap) (by simp only [upd_same,ev_tmp]) it
  (fun i X u=>Mod (fun k=>k=w.heap.size+2∨k=w.heap.size+3) w4 u∧u.heap[w.heap.size+2]? = some (.cells #[.int .i64 (i:Nat)] 3 (0,0))∧u.heap[w.heap.size+3]? = some (.cells #[.string ⟨(lastK m i).toArray⟩] 9 (0,0)))
  (fun c X u=>False) ?_ ?_ ?_ ?_ ?_ ?_ ?_ ?_
 ·intro X w' hm hsz hX
  exact ⟨hm.mono fun _ _ x=>x.elim,hm.keep b5 id,hm.keep b6 id⟩
 ·rintro i X u ⟨h1,h2,h3⟩
  exact ⟨ht4.keep h1 (by omega) (by omega),h1.size,fun k hk hk'=>h1.get k hk' (by omega)⟩
 ·rintro i X X' a b ⟨h1,h2,h3⟩ hX ha hm hx
  exact ⟨h1.then hm (fun k hk hx=>by have:=hX k hx;omega),hm.keep h2 (fun hx=>by have:=hX _ hx;omega),hm.keep h3 (fun hx=>by have:=hX _ hx;omega)⟩
 ·rintro c X X' a b h
  exact h.elim
 ·intro i hi
  rw [rowRows_len] at hi
  rw [rowRows_at m i _ (List.getElem?_eq_getElem hi)]
  rfl
 ·rintro i hi X a ⟨h1,h2,h3⟩ hX ha
  rw [rowRows_len] at hi
  obtain ⟨p,hp⟩:∃p,m[i]? = some p:=⟨m[i],List.getElem?_eq_getElem hi⟩
  have hpm:p∈m:=List.mem_of_getElem? hp
  obtain ⟨hpr,hpg,s,hs,hsl⟩:=hrow p hpm
  have hpz:p.1.length≤maxLen:=ht.keySize hpm
  have pr:p.2.cells.all isPlain=true:=by simp [Rw.cells,numV,isPlain]
  have se:∀cs:Array Value,cs.size=p.2.cells.length→setMany cs 0 p.2.cells=p.2.cells.toArray:=fun cs h=>setMany_all cs p.2.cells h
  rw [rowRows_at m i p hp]
  simp only [ZB,insVc,load1K,storeNK,isPlain,Value.cells,ne_eq,Nat.reduceEqDiff,Nat.reduceAdd,Nat.reduceLeDiff,Zac,Zai,Zak,Zaj,Zaa,Zau,get_alloc,Nat.reduceAdd,Nat.reduceEqDiff,Zac,updMany,Rw.val,pr,cells_len p.2 hpg,se]
  refine ⟨((Mod.refl _ _).alloc _).set (.inl (Nat.le_refl _)), ?_⟩
  rintro c hmc ⟨g1,g2,g3⟩
  have hxa:¬X a.heap.size:=fun x=>by have:=(hX _ x).2;omega
  have pC:=hmc.keep (get_set_same _ _ (.cells p.2.cells.toArray 42 (0,0)) (by rw [size_alloc];omega)) hxa
  have c3:=g1.keep b3 (by omega)
  have hmwc:Mod (fun _=>False) w c:=(hm1.trans hm4).then g1 (fun k hk hx=>by omega)
  have hwc:=hw.keep hmwc (fun _ _ _=>id)
  have tk:p.2.cells.take 69=p.2.cells:=List.take_of_length_le (by rw [cells_len p.2 hpg];exact Nat.le_refl _)
  have hns:=(hwc.own p.1 s hs).1.ns
  have hslb:∀x∈s.l,x<18446744073709551616:=by rw [hsl];exact nums_lt hb _
  have hsll:s.l.length<1152921504606846976:=by rw [hsl];have:=numsAt_len p.1 l;omega
  have erow:rowOf s.l=p.2:=by rw [hsl,← hpr]
  have hlo:=hwc.look_ok p.1 hpz
  rw [hs] at hlo
  simp only [oldV,Zbn,Zac,Zcd] at hlo
  simp only [ZB,insVc,ne_eq,Nat.reduceEqDiff,Za,Zah,c3]
  refine rawK_lookup rfl rfl rfl (by simpa only [vc_skip,vc_seq,vc_cond,vc_block,vc_exit,vc_ret,vc_ops,vcOps_nil,vcOps_cons,vcOps_gate,gateK_true,gateK_false,gate_true,gate_false,gate_undef,goL_apply,thenQ_normal,thenQ_ret,thenQ_exit,blockQ_normal,blockQ_ret,blockQ_same,blockQ_exit,condP_true,condP_false,upd_same,upd_other,updO_some,updO_none,ev_tmp,ev_const,ev_global,ev_func,endQ_ret,endQ_normal,endK,resK,resN,res1,resO_cells,resNO_cells,packed,initE_at,insVc,pickK,load1K,loadO_cells,loadV_some,loadV_none,loadNK,loadNO_cells,storeK,storeO_cells,storeNK,storeNO_cells,setMany,nilK,nilM,iopK,iopV,sopK,sopV,bopK,nilOf,pnilK,notK,convK,sameK,faddrK,fld1K,fldNK,iaddrK,iaddrAK,sidxK,extK,lenSK,lenLK,callvK,invK,buildK,fillL,buildSK,boundOf,slSK,slLK,slAK,isPlain,Value.cells,ne_eq,not_false_eq_true,not_true_eq_false,Nat.reduceEqDiff,Nat.reduceAdd,Nat.reduceLT,Nat.reduceLeDiff,reduceCtorEq,Bool.not_true,Bool.not_false,Option.map_some,Option.map_none,Option.getD_some,Option.getD_none,List.map_cons,List.map_nil,List.getElem?_cons_zero,List.getElem?_cons_succ,List.getElem?_nil,List.getElem?_toArray,List.size_toArray,List.length_cons,List.length_nil,List.zipIdx_cons,List.zipIdx_nil,List.foldl_cons,List.foldl_nil,List.setIfInBounds_toArray,List.set_cons_zero,List.set_cons_succ,List.append_eq,List.nil_append,List.cons_append,List.append_nil,List.toList_toArray,true_and,and_true,true_or,or_true,or_false,false_or,and_self,if_true,if_false,ite_true,ite_false,Bool.false_eq_true,Nat.zero_add,Nat.add_zero,decide_true,decide_false,Bool.and_true,Bool.and_false,Bool.true_and,Bool.false_and,Option.isNone_some,Option.isNone_none,Int.reduceLT,Int.reduceLE,Int.reduceToNat,Int.toNat_natCast,Int.reduceAdd,Int.reduceSub,Int.reduceMul,Int.reduceNeg,Int.reduceEq,Int.reduceNe,Int.reduceBEq,Int.reduceBNe,Nat.mul_one,List.extract_toArray,List.extract_eq_take_drop,List.drop_zero,List.drop_succ_cons,List.take_zero,List.take_succ_cons,Nat.sub_zero,Nat.add_sub_cancel,Nat.add_sub_cancel_left,vcS_nil,vcS_cons,vcS_gate,gateS_true,gateS_false,stepB_true,stepB_false,pureI,Nat.zero_mul,Nat.one_mul,Nat.reduceMul,Nat.reduceSub,List.all_toArray',List.all_cons,List.all_nil,size_set,size_alloc,size_drew,get_alloc_new,get_set_same,get_drew,Nat.lt_add_one,vcD_nil,vcD_cons,vcD_gate,gateD_true,gateD_false,stepD_pure,stepD_load,stepD_step,kindI,loadI] using hlo) ?_
  simp only [ZB,insVc,extK,ne_eq,Nat.reduceEqDiff,Za,Zag,Zah]
  refine draw_e (by kernel_rfl) (by kernel_rfl) (by kernel_rfl) (by kernel_rfl) ?_
  simp only [ZB,insVc,pickK,loadNK,notK,ne_eq,Nat.reduceEqDiff,Nat.reduceLeDiff,Zae,Zab,Zai,Zaa,Zaf,Zar,Zap,Zaq,Zat,pureI,kindI,loadI,vcE_nil,vcE_cons,vcE_gate,gateE_true,stepE_pure,stepE_load,stepE_step,pC,tk,cells_len p.2 hpg]
  have hmd0:Mod (fun _=>False) c c.drew:=(Mod.refl _ _).drew
  refine of36_c s.l s.val _ _ (hns.keep hmd0) hslb hsll ?_
  intro u1 hu1
  have hmd1:=hmd0.trans hu1
  refine ⟨hmd1, ?_⟩
  rw [erow]
  refine rawK_neq_agg (xs:=p.2.cells.toArray) (ys:=p.2.cells.toArray) rfl rfl rfl (by simp only [ZB,ne_eq,Nat.reduceEqDiff]) (by simp only [upd_same,ev_tmp,Rw.val]) (by kernel_rfl) (rowEqR p.2 p.2 hpg hpg) ?_
  refine ⟨hmd1, ?_⟩
  have wi:IntKind.i64.wrap ((i:Int)+1)=((i+1:Nat):Int):=by rw [wrap_i64 _ (by omega)];rfl
  have elast:lastK m (i+1)=p.1:=by simp [lastK,hp]
  have g2u:=hmd1.keep g2 id
  have g3u:=hmd1.keep g3 id
  have l2:=lt_of_get g2u
  have l3:=lt_of_get g3u
  have n23:w.heap.size+3≠w.heap.size+2:=by omega
  have hcs:=hmd1.size
  have hg1:=g1.size
  have hkf:∀k,X k→u1.heap[k]? = c.heap[k]?∧k≠w.heap.size+3∧k≠w.heap.size+2:=by
   intro k hk
   have hk1:=hX k hk
   have hk2:=hmc.size
   simp only [size_set,size_alloc] at hk2
   exact ⟨hmd1.get k (by omega) id,by omega,by omega⟩
  have hmend:=((g1.trans (hmd1.mono fun _ _ x=>x.elim)).set (b:=w.heap.size+2) (o:=.cells #[.int .i64 ((i+1:Nat):Int)] 3 (0,0)) (.inr (.inl rfl))).set (b:=w.heap.size+3) (o:=.cells #[.string ⟨p.1.toArray⟩] 9 (0,0)) (.inr (.inr rfl))
  by_cases hi0:i=0
  ·have d1:¬((i:Nat):Int) > 0:=by omega
   simp only [ZB,insVc,pickK,load1K,iopK,iopV,ne_eq,Nat.reduceEqDiff,reduceCtorEq,Za,Zah,Zaa,Zaf,pureI,kindI,loadI,gateE_true,gateE_false,stepE_pure,stepE_load,g2,d1]
   simp only [ZB,insVc,storeK,iopK,iopV,isPlain,ne_eq,Nat.reduceEqDiff,Nat.reduceLT,Nat.reduceLeDiff,reduceCtorEq,Za,Zah,Zai,Zak,Zaj,Zal,Zam,Zaf,Zbb,Zay,get_set,Zbg,Nat.reduceEqDiff,Nat.reduceLT,g2u,g3u,l2,l3,n23,wi]
   refine ⟨⟨hcs,fun k hk => ?_⟩,.inl ⟨hmend,by rw [elast]⟩⟩
   obtain ⟨q1,q2,q3⟩:=hkf k hk
   rw [if_neg q2,if_neg q3];exact q1
  ·have d1:((i:Nat):Int) > 0:=by omega
   have d2:=last_lt ht.sorted hp (by omega)
   simp only [ZB,insVc,pickK,load1K,iopK,iopV,ne_eq,Nat.reduceEqDiff,reduceCtorEq,Za,Zah,Zaa,Zaf,pureI,kindI,loadI,gateE_true,stepE_pure,stepE_load,g2,g3,d1,sopK,sopV,ByteArray.toList_eq,d2]
   simp only [ZB,insVc,storeK,iopK,iopV,isPlain,ne_eq,Nat.reduceEqDiff,Nat.reduceLT,Nat.reduceLeDiff,reduceCtorEq,Za,Zah,Zai,Zak,Zaj,Zal,Zam,Zaf,Zbb,Zay,get_set,Zbg,Nat.reduceEqDiff,Nat.reduceLT,g2u,g3u,l2,l3,n23,wi]
   refine ⟨⟨hcs,fun k hk => ?_⟩,.inl ⟨hmend,by rw [elast]⟩⟩
   obtain ⟨q1,q2,q3⟩:=hkf k hk
   rw [if_neg q2,if_neg q3];exact q1
 ·rintro X u ⟨h1,h2,h3⟩ ⟨a1,a2,_⟩
  have hmu:Mod (fun _=>False) w u:=(hm1.trans hm4).then h1 (fun k hk hx=>by omega)
  have u4:=h1.keep b4 (by omega)
  have u3:=h1.keep b3 (by omega)
  rw [rowRows_len] at h2
  simp only [ZB,insVc,storeK,isPlain,Value.cells,ne_eq,Nat.reduceLT,Nat.reduceLeDiff,reduceCtorEq,Zac,Zae,Zab,Za,Zai,Zak,Zaj,Zal,Zam,Zaa,Zay,get_alloc,Nat.reduceLT]
  refine callK_gen ?_
  intro w5 hw5
  have hm5:Mod (fun _=>False) u w5:=by rw [hw5];exact ((Mod.refl _ _).alloc _).set (.inl (Nat.le_refl _))
  have d7:w5.heap[u.heap.size]? = some (.cells #[.int .i64 0] 3 (0,0)):=by rw [hw5];simp only [size_alloc,Zbb,Zay,size_alloc]
  clear hw5
  have hm05:=hmu.trans hm5
  have v2:=hm5.keep h2 id
  have v3:=hm5.keep u3 id
  have v4:=hm5.keep u4 id
  have vd:=hm5.keep a1 id
  have hz5:=hm5.size
  refine keysS_c tb mb n m w5 _ (by omega) ?_
  intro w6 gf2 cap2 hm6 it2
  have ht6:=(ht.keep hm05 id id).keep hm6 id id
  have x2:=hm6.keep v2 id
  have x3:=hm6.keep v3 id
  have x4:=hm6.keep v4 id
  have xd:=hm6.keep vd id
  have x7:=hm6.keep d7 id
  have hz6:=hm6.size
  have ld7:=lt_of_get d7
  simp only [ZB]
  refine range_iter (by kernel_rfl) (by kernel_rfl) (by kernel_rfl) (gf:=gf2) (cap:=cap2) (by simp only [upd_same,ev_tmp]) it2
   (fun i X u'=>Mod (fun k=>k=u.heap.size) w6 u'∧u'.heap[u.heap.size]? = some (.cells #[.int .i64 (i:Nat)] 3 (0,0)))
   (fun c X u=>False) ?_ ?_ ?_ ?_ ?_ ?_ ?_ ?_
  ·intro X w' hm hsz hX
   exact ⟨hm.mono fun _ _ x=>x.elim,hm.keep x7 id⟩
  ·rintro i X u' ⟨h1,h2⟩
   exact ⟨ht6.keep h1 (by omega) (by omega),h1.size,fun k hk hk'=>h1.get k hk' (by omega)⟩
  ·rintro i X X' a b ⟨h1,h2⟩ hX ha hm hx
   exact ⟨h1.then hm (fun k hk hx=>by have:=hX k hx;omega),hm.keep h2 (fun hx=>by have:=hX _ hx;omega)⟩
  ·rintro c X X' a b h
   exact h.elim
  ·intro i hi
   rw [keyRows_len] at hi
   rw [keyRows_at m i _ (List.getElem?_eq_getElem hi)]
   rfl
  ·rintro i hi X a ⟨g1,g2⟩ hX ha
   rw [keyRows_len] at hi
   obtain ⟨p,hp⟩:∃p,m[i]? = some p:=⟨m[i],List.getElem?_eq_getElem hi⟩
   rw [keyRows_at m i p hp]
   simp only [ZB,insVc,load1K,ne_eq,Nat.reduceEqDiff,Zac,Zac,updMany]
   refine ⟨Mod.refl _ _, ?_⟩
   rintro c hmc ⟨g1,g2⟩
   have wi:IntKind.i64.wrap ((i:Int)+1)=((i+1:Nat):Int):=by rw [wrap_i64 _ (by omega)];rfl
   have l2:=lt_of_get g2
   simp only [ZB,insVc,storeK,iopK,iopV,isPlain,ne_eq,Nat.reduceEqDiff,Nat.reduceLT,Nat.reduceLeDiff,reduceCtorEq,Za,Zah,Zai,Zak,Zaj,Zal,Zam,Zbb,Zay,get_set,Nat.reduceEqDiff,Nat.reduceLT,g2,l2,wi]
   refine ⟨⟨Nat.le_refl _,fun k hk => ?_⟩,.inl (g1.set (.inr rfl))⟩
   have:=hX k hk
   rw [if_neg (by omega)]
  ·rintro X u' ⟨g1,g2⟩ ⟨b1,b2,_⟩
   rw [keyRows_len] at g2
   have y2:=g1.keep x2 (by omega)
   have y3:=g1.keep x3 (by omega)
   have y4:=g1.keep x4 (by omega)
   have yd:=g1.keep xd (by omega)
   have hmu':Mod (fun _=>False) w u':=(hm05.trans hm6).then g1 (fun k hk hx=>by omega)
   have hwu:=hw.keep hmu' (fun _ _ _=>id)
   simp only [ZB,insVc,load1K,ne_eq,Nat.reduceEqDiff,Za,Zah,Nat.reduceEqDiff,y2,y3]
   refine rawK_len (v:=.int .i64 (mw.length:Nat)) rfl rfl (by simpa only [vc_skip,vc_seq,vc_cond,vc_block,vc_exit,vc_ret,vc_ops,vcOps_nil,vcOps_cons,vcOps_gate,gateK_true,gateK_false,gate_true,gate_false,gate_undef,goL_apply,thenQ_normal,thenQ_ret,thenQ_exit,blockQ_normal,blockQ_ret,blockQ_same,blockQ_exit,condP_true,condP_false,upd_same,upd_other,updO_some,updO_none,ev_tmp,ev_const,ev_global,ev_func,endQ_ret,endQ_normal,endK,resK,resN,res1,resO_cells,resNO_cells,packed,initE_at,insVc,pickK,load1K,loadO_cells,loadV_some,loadV_none,loadNK,loadNO_cells,storeK,storeO_cells,storeNK,storeNO_cells,setMany,nilK,nilM,iopK,iopV,sopK,sopV,bopK,nilOf,pnilK,notK,convK,sameK,faddrK,fld1K,fldNK,iaddrK,iaddrAK,sidxK,extK,lenSK,lenLK,callvK,invK,buildK,fillL,buildSK,boundOf,slSK,slLK,slAK,isPlain,Value.cells,ne_eq,not_false_eq_true,not_true_eq_false,Nat.reduceEqDiff,Nat.reduceAdd,Nat.reduceLT,Nat.reduceLeDiff,reduceCtorEq,Bool.not_true,Bool.not_false,Option.map_some,Option.map_none,Option.getD_some,Option.getD_none,List.map_cons,List.map_nil,List.getElem?_cons_zero,List.getElem?_cons_succ,List.getElem?_nil,List.getElem?_toArray,List.size_toArray,List.length_cons,List.length_nil,List.zipIdx_cons,List.zipIdx_nil,List.foldl_cons,List.foldl_nil,List.setIfInBounds_toArray,List.set_cons_zero,List.set_cons_succ,List.append_eq,List.nil_append,List.cons_append,List.append_nil,List.toList_toArray,true_and,and_true,true_or,or_true,or_false,false_or,and_self,if_true,if_false,ite_true,ite_false,Bool.false_eq_true,Nat.zero_add,Nat.add_zero,decide_true,decide_false,Bool.and_true,Bool.and_false,Bool.true_and,Bool.false_and,Option.isNone_some,Option.isNone_none,Int.reduceLT,Int.reduceLE,Int.reduceToNat,Int.toNat_natCast,Int.reduceAdd,Int.reduceSub,Int.reduceMul,Int.reduceNeg,Int.reduceEq,Int.reduceNe,Int.reduceBEq,Int.reduceBNe,Nat.mul_one,List.extract_toArray,List.extract_eq_take_drop,List.drop_zero,List.drop_succ_cons,List.take_zero,List.take_succ_cons,Nat.sub_zero,Nat.add_sub_cancel,Nat.add_sub_cancel_left,vcS_nil,vcS_cons,vcS_gate,gateS_true,gateS_false,stepB_true,stepB_false,pureI,Nat.zero_mul,Nat.one_mul,Nat.reduceMul,Nat.reduceSub,List.all_toArray',List.all_cons,List.all_nil,size_set,size_alloc,size_drew,get_alloc_new,get_set_same,get_drew,Nat.lt_add_one,vcD_nil,vcD_cons,vcD_gate,gateD_true,gateD_false,stepD_pure,stepD_load,stepD_step,kindI,loadI] using hwu.len _) ?_
   have e1:((m.length:Int) == (mw.length:Nat))=true:=by rw [hlen];simp
   have e2:((m.length:Int) == (m.length:Nat))=true:=by simp
   have l4:=lt_of_get y4
   have n61:w6.heap.size≠w.heap.size+1:=by omega
   have n41:w4.heap.size≠w.heap.size+1:=by omega
   have n64:w4.heap.size≠w6.heap.size:=by omega
   have n14:w.heap.size+1≠w4.heap.size:=by omega
   have n16:w.heap.size+1≠w6.heap.size:=by omega
   simp only [ZB,endK,resK,res1,packed,insVc,pickK,load1K,storeK,iopK,iopV,isPlain,ne_eq,Nat.reduceEqDiff,Nat.reduceLT,Nat.reduceLeDiff,reduceCtorEq,Za,Zah,Zai,Zak,Zaj,Zal,Zam,Zad,Zaa,Zaf,Zbb,Zay,get_set,Nat.reduceEqDiff,Nat.reduceLT,false_and,y2,y4,g2,e1,e2,l4,markO,b1,yd,n61,n41,n64,n14,n16]
   exact h _ (((hmu'.set (.inl (by omega))).set (.inl (by omega))).set (.inl (by omega)))
  ·rintro c X u h
   exact h.elim
 ·rintro c X u h
  exact h.elim
structure Rz where
 e:Int
 n:Nat
 a1:Option Addr
 l1:Nat
 c1:Nat
 a2:Option Addr
 l2:Nat
 c2:Nat
 a3:Option Addr
 l3:Nat
 c3:Nat
 a4:Option Addr
 l4:Nat
 c4:Nat
def Rz.cells (r:Rz):List Value:=[.int .i64 r.e,.int .u64 r.n,.slice r.a1 r.l1 r.c1,.slice r.a2 r.l2 r.c2,.slice r.a3 r.l3 r.c3,.slice r.a4 r.l4 r.c4]
structure Rz.good (r:Rz):Prop where
 n:r.n<18446744073709551616
theorem addG_c (tb mb n x:Nat) (k:List UInt8) (m:MG Rw) (l:List Ac) (w:World) (K:Value→World→Prop) (ht:TalG w tb mb n m) (hc:Counts m l) (hb:∀a∈l,a.2<18446744073709551616) (hl:l.length<1152921504606846976) (hk:k.length≤maxLen) (hn:n<1152921504606846976) (hx:x<18446744073709551616)
  (h:∀w' v m',Mod (fun i=>i=mb) w w'→TalG w' tb mb (n+1) m'→Counts m' (l ++ [(k,x)])→K v w'):Ok prog 9 #[ptr tb,.string ⟨k.toArray⟩,.int .u64 x] w K:=by
 have hg:=hc.get k
 have hgood:((lookG k m).getD Rw.zero).good:=by rw [hg];exact row_good _ (by have:=numsAt_len k l;omega) (nums_lt hb k)
 refine addSd_c tb mb n x _ _ ((lookG k m).getD Rw.zero) (DG Rw.val m) w K hgood hx ht ?_ (key_ok k hk) (by simp only [maxLen];omega) ?_
 ·rw [DG_at];cases lookG k m <;> rfl
 ·intro w' v hm htd
  rw [DG_put] at htd
  exact h w' v _ hm htd (hc.add (k,x) hx (by omega))
end Go.Oct
