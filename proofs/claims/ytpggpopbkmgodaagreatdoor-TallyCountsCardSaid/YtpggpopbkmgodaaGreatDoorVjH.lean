import Derived.Test.YtpggpopbkmgodaaGreatDoorVcX
import Derived.Test.YtpggpopbkmgodaaGreatDoorVnC
import Derived.Test.YtpggpopbkmgodaaGreatDoorVpF
set_option linter.unusedSimpArgs false
set_option linter.unusedVariables false
set_option linter.unusedSectionVars false
set_option linter.unnecessarySimpa false
namespace Go.Oct
open Go Go.Vc Go.VrA Go.VrB Go.VrE Go.VrH Go.VrI Go.VrJ Go.Proofs.Tryz
set_option maxRecDepth 100000
variable {σ:Type} {St:StoC σ} {tb clock:Nat} {m:Int} {s s':σ} {l:List Le} {v:Value} {w w':World}
def OwnMs (w:World) (B:Nat) (v:Value) (L:List Ms):Prop:=w.ownsRow B 128 5 v L.length (L.flatMap Ms.cells)
theorem OwnMs.form {B:Nat} {v:Value} {L:List Ms} (h:OwnMs w B v L):∃a c,v = .slice a L.length c:=by
 rcases h.2 with ⟨rfl,h0⟩|⟨g,cap,cur,rfl,_⟩
 ·exact ⟨none,0,by rw [h0]⟩
 ·exact ⟨_,_,rfl⟩
theorem OwnMs.cells {B k:Nat} {vi:Value} {li:List Ms} (hv:OwnMs w B vi li) (hk:vi.ownBlock=some k):∃cs,w.heap[k]? = some (.cells cs 128 (0,0)):=by
 rcases hv.2 with ⟨hx,_⟩|⟨g,cap,cur,hx,_,hg,_⟩
 ·rw [hx] at hk;cases hk
 ·rw [hx] at hk
  have hgk:g=k:=Option.some.inj hk
  exact ⟨_,hgk ▸ hg⟩
theorem lend0_c (q:Qu) (ms:Ms) (time rb:Nat) (L:List Ms) (ve vn vi vl vd vm:Value) (s1:σ) (w:World) (K:Value→World→Prop) (he:EntFree St) (hb:BrAt St tb m s l v clock w) (hq0:q.tries=0) (htb:tb≠3∧tb≠2)
  (hr:w.heap[rb]? = some (.cells #[ve,vn,vi,vl,vd,vm] 52 (0,0))) (hvm:OwnMs w 0 vm L) (hib:∀k,vm.ownBlock=some k→¬St.foot k∧k≠rb∧k≠tb∧k≠3∧k≠2) (hrf:¬St.foot rb) (hrt:rb≠tb) (hrg:rb≠3) (hrm:rb≠2)
  (hLl:L.length<2^20) (hlen:(lendE ms.queue ms.id ((clock+time)%18446744073709551616) l).length<2^40) (hlast:bsE (freeE ms.queue ms.id l) ⟨ms.queue,ms.id,(clock+time)%18446744073709551616⟩=(freeE ms.queue ms.id l).length)
  (hp:PureGet St.toSto s) (hs:ms.queue.size<4294967281) (hi:ms.id<2^64) (hmt:ms.tries<4294967295) (hme:ms.expiry<2^64) (hmb:ms.body.size<2^60)
  (hv:(St.get s (messageK ms.queue ms.id).1).1.1.size<2^60)
  (hx:(St.mgetR s ms.queue ms.id).1.queue.size<4294967281∧(St.mgetR s ms.queue ms.id).1.id<2^64∧(St.mgetR s ms.queue ms.id).1.expiry<2^64)
  (hf:∀s',s'=s∨s'=(St.mcut s (St.mgetR s ms.queue ms.id).1).2→St.fit s'∧St.fit (St.put s' (keysR { ms with tries:=ms.tries+1 }).1 (mbytes { ms with tries:=ms.tries+1 })).2)
  (hS:St.msave s { ms with tries:=ms.tries+1 }=(0,s1))
  (h:∀w' v' vm',Mod (fun k=>St.own k∨k=rb∨k=tb∨vm.ownBlock=some k) w w'→BrAt St tb m s1 (lendE ms.queue ms.id ((clock+time)%18446744073709551616) l) v' clock w'→w'.heap[rb]? = some (.cells #[ve,vn,vi,vl,vd,vm'] 52 (0,0)) →
   OwnMs w' 0 vm' (L ++ [{ ms with tries:=ms.tries+1 }])→(∀k,vm'.ownBlock=some k→vm.ownBlock=some k∨w.heap.size≤k)→K (.int .i64 0) w') :
  Ok prog 177 #[ptr tb,q.val,ms.val,.int .u64 time,ptr rb] w K:=by
 refine F177.enter (args:=[ptr tb,q.val,ms.val,.int .u64 time,ptr rb]) (by simp) ?_
 unfold c177 r177
 have z0:((((0:Nat):Int)) != 0)=false:=rfl
 have hw32:IntKind.u32.wrap ((ms.tries:Int)+1)=((ms.tries+1:Nat):Int):=by
  have e:IntKind.u32.wrap ((ms.tries:Int)+1)=((ms.tries:Int)+1)%4294967296:=by rfl
  rw [e];omega
 simp only [ZB,insVc,pickK,load1K,storeK,iopK,iopV,faddrK,isPlain,Value.cells,ne_eq,Nat.reduceEqDiff,Nat.reduceAdd,Nat.reduceLT,Nat.reduceLeDiff,reduceCtorEq,Zac,Za,Zag,Zah,Zai,Zak,Zaj,Zal,Zam,Zan,Zaa,Zaf,get_alloc,Nat.reduceAdd,Zba,Zbi,Nat.reduceEqDiff,Nat.reduceLT,Zaz,Qu.val,Qu.cells,Ms.val,Ms.cells,hq0,z0,hw32]
 refine vc_gen ?_
 intro w1 hw1
 have hm1:Mod (fun _=>False) w w1:=by rw [hw1];exact (((Mod.refl _ _).alloc _).alloc _).set (.inl (by omega))
 have q1:w1.heap[w.heap.size+1]? = some (.cells #[.string ms.queue,.int .u64 ms.id,.int .u32 ((ms.tries+1:Nat):Int),.int .u64 ms.expiry,.string ms.body] 128 (0,0)):=by rw [hw1];simp only [Nat.reduceAdd,size_alloc,Zbb,Zay,size_alloc,Zb,Nat.reduceAdd]
 clear hw1
 have hb1:=hb.keep0 hm1
 have hr1:=hm1.keep hr id
 have hvm1:OwnMs w1 0 vm L:=own_keep' hvm hm1 (fun _ _=>id)
 have hadd:IntKind.u64.wrap ((clock:Int)+(time:Int))=(((clock+time)%18446744073709551616:Nat):Int):=by rw [IntKind.wrap_u64];omega
 refine draw_z' (fun u=>u.heap[tb]? = some (.cells #[.iface St.t St.v,.func (.func 92) #[] #[],v,.int .u64 clock] 144 (0,0))∧u.heap[w.heap.size+1]? = some (.cells #[.string ms.queue,.int .u64 ms.id,.int .u32 ((ms.tries+1:Nat):Int),.int .u64 ms.expiry,.string ms.body] 128 (0,0))) (by kernel_rfl) (by kernel_rfl) (by kernel_rfl) (by kernel_rfl) (by kernel_rfl) (by kernel_rfl) rfl ⟨hb1.st,q1⟩ ?_
 simp only [ZB,List.dropLast,insVc,storeNK,nilK,nilM,iopK,iopV,faddrK,ne_eq,Nat.reduceEqDiff,reduceCtorEq,Zac,Zae,Zab,Za,Zag,Zaa,Zaf,pureI,stepD_pure,stepD_load,stepD_step,loadI,vcF_nil,vcF_cons,kindF,lookI,sliceI,Zc]
 refine loadDN (b:=tb) (o:=1) (v:=.agg #[.func (.func 92) #[] #[],v]) (by simp only [upd_same,ev_tmp]) (fun W hW=>⟨_,_,_,hW.1,by simp,rfl⟩) ?_
 refine loadDN (b:=w.heap.size+1) (o:=0) (v:=({ ms with tries:=ms.tries+1 }:Ms).val) (by simp only [ZB,ne_eq,Nat.reduceEqDiff]) (fun W hW=>⟨_,_,_,hW.2,by simp,rfl⟩) ?_
 refine bkey_c { ms with tries:=ms.tries+1 } w1.drew _ ?_
 intro w2 hm2
 have m2:Mod (fun _=>False) w1 w2:=(Mod.refl _ w1).drew.trans hm2
 have hb2:=hb1.keep0 m2
 have q2:=m2.keep q1 id
 refine ⟨⟨hb2.st,q2⟩, ?_⟩
 simp only []
 refine loadD1 (b:=tb) (o:=3) (v:=.int .u64 clock) (by simp only [upd_same,ev_tmp]) (fun W hW=>⟨_,_,_,hW.1,rfl⟩) ?_
 simp only [true_and,hadd]
 refine llend_c l v ms.queue ms.id ((clock+time)%18446744073709551616) w2 _ hb2.les hb2.ll hlast ?_
 intro w3 v3 hm3 hv3
 have hb3:=hb2.keep0 hm3
 have q3:=hm3.keep q2 id
 refine ⟨⟨hb3.st,q3⟩, ?_⟩
 obtain ⟨a3,c3,rfl,_⟩:=hv3.form
 have hst3:=hb3.st
 obtain ⟨w4,hw4⟩:∃w4,w4=Vc.set w3 tb (.cells #[.iface St.t St.v,.func (.func 92) #[] #[],.slice a3 (lendE ms.queue ms.id ((clock+time)%18446744073709551616) l).length c3,.int .u64 clock] 144):=⟨_,rfl⟩
 have hm4:Mod (fun k=>k=tb) w3 w4:=by rw [hw4];exact (Mod.refl _ _).set (.inr rfl)
 have hb4:=hb3.table hv3 hlen hw4 htb.1 htb.2
 simp only [storeNO_cells,setMany,isPlain,Nat.reduceAdd,Nat.reduceLeDiff,Zai,Zak,Zaj,Zal,Zam,Zan,true_and,and_self,Nat.zero_add,Bool.and_true,Zau,Zav,Zax,tabV,hst3]
 rw [← hw4]
 clear hw4
 have q4:=hm4.keep q3 (by have:=lt_of_get hb.st;omega)
 have hr4:=hm4.keep (hm3.keep (m2.keep hr1 id) id) hrt
 have hvm4:OwnMs w4 0 vm L:=own_keep' (own_keep' (own_keep' hvm1 m2 (fun _ _=>id)) hm3 (fun _ _=>id)) hm4 (fun k hk=>(hib k hk).2.2.1)
 obtain ⟨am,cm,rfl⟩:=hvm.form
 refine draw_z' (fun u=>u.heap[rb]? = some (.cells #[ve,vn,vi,vl,vd,.slice am L.length cm] 52 (0,0))∧u.heap[w.heap.size+1]? = some (.cells #[.string ms.queue,.int .u64 ms.id,.int .u32 ((ms.tries+1:Nat):Int),.int .u64 ms.expiry,.string ms.body] 128 (0,0))) (by kernel_rfl) (by kernel_rfl) (by kernel_rfl) (by kernel_rfl) (by kernel_rfl) (by kernel_rfl) rfl ⟨hr4,q4⟩ ?_
 simp only [ZB,List.dropLast,insVc,storeK,nilK,nilM,faddrK,fillL,buildSK,Value.cells,ne_eq,Nat.reduceEqDiff,Nat.reduceAdd,Nat.reduceLeDiff,Zac,Za,Zag,Zai,Zak,Zaj,Zaa,Zaf,pureI,stepD_pure,stepD_load,stepD_step,loadI,vcF_nil,vcF_cons,kindF,lookI,sliceI,Zc]
 refine loadD1 (b:=rb) (o:=5) (v:=.slice am L.length cm) (by simp only [upd_same,ev_tmp]) (fun W hW=>⟨_,_,_,hW.1,rfl⟩) ?_
 refine loadDN (b:=w.heap.size+1) (o:=0) (v:=({ ms with tries:=ms.tries+1 }:Ms).val) (by simp only [ZB,ne_eq,Nat.reduceEqDiff]) (fun W hW=>⟨_,_,_,hW.2,by simp,rfl⟩) ?_
 have hml:L.flatMap Ms.cells=msFlat (L.map fun x=>(x,0)):=by unfold msFlat;rw [List.flatMap_map]
 obtain ⟨vm5,w5,hr5,ho5,hm5,hbl5⟩:=append_ms 0 (.slice am L.length cm) L.length _ { ms with tries:=ms.tries+1 } w4.drew hvm4 (Nat.zero_le _) hLl 50
 have ho5':OwnMs w5 0 vm5 (L ++ [{ ms with tries:=ms.tries+1 }]):=by
  unfold OwnMs
  rw [List.length_append,List.length_singleton,List.flatMap_append]
  simpa using ho5
 have hma:Mod (fun _=>False) w4 (w4.drew.alloc (.cells ({ ms with tries:=ms.tries+1 }:Ms).cells.toArray 128)):=((Mod.refl _ w4).drew).alloc _
 simp only [Nat.reduceAdd,Zai,Zak,Zaj,Zbe,Zbf,Zbd,Zbc,Zal,Zam,Zan,Zbh,Zaa,Nat.zero_add,Ms.val,Ms.cells]
 refine ⟨⟨hma.keep hr4 id,hma.keep q4 id⟩, ?_⟩
 refine rawK_append rfl rfl rfl (by simp only [ZB,ne_eq,Nat.reduceEqDiff];exact hr5) ?_
 have hm45:Mod (fun k=>(Value.slice am L.length cm).ownBlock=some k) w4 w5:=((Mod.refl _ w4).drew).trans hm5
 have hr5':w5.heap[rb]? = some (.cells #[ve,vn,vi,vl,vd,.slice am L.length cm] 52 (0,0)):=hm5.keep (show w4.drew.heap[rb]? = _ from hr4) (fun hk=>(hib _ hk).2.1 rfl)
 have hb5:BrAt St tb m s _ _ clock w5:=hb4.other hm45 (fun k hk=>by
  obtain ⟨cs,hcs⟩:=hvm4.cells hk
  exact ⟨(hib k hk).2.2.1,fun _=>(hib k hk).1,ownE_ne hb4.les hcs (by decide),(hib k hk).2.2.2.1,(hib k hk).2.2.2.2⟩)
 have hvlt:∀k,(Value.slice am L.length cm).ownBlock=some k→k<w.heap.size:=fun k hk=>(World.ownsRow.lt hvm k hk).2
 have q5:=hm45.keep q4 (fun hk=>by have:=hvlt _ hk;omega)
 refine ⟨⟨hr5',q5⟩, ?_⟩
 obtain ⟨a6,c6,rfl⟩:=ho5'.form
 obtain ⟨w6,hw6⟩:∃w6,w6=Vc.set w5 rb (.cells #[ve,vn,vi,vl,vd,.slice a6 (L ++ [{ ms with tries:=ms.tries+1 }]).length c6] 52):=⟨_,rfl⟩
 have hm6:Mod (fun k=>k=rb) w5 w6:=by rw [hw6];exact (Mod.refl _ _).set (.inr rfl)
 have hr6:w6.heap[rb]? = some (.cells #[ve,vn,vi,vl,vd,.slice a6 (L ++ [{ ms with tries:=ms.tries+1 }]).length c6] 52 (0,0)):=by rw [hw6];exact get_set_same _ _ _ (lt_of_get hr5')
 simp only [storeO_cells,isPlain,Nat.reduceAdd,Nat.reduceLT,Nat.reduceLeDiff,Zai,Zak,Zaj,Zal,Zam,Zan,true_and,and_self,Nat.zero_add,decide_true,decide_false,Bool.and_false,Zay,hr5']
 rw [← hw6]
 clear hw6
 have hb6:=hb5.other hm6 (fun k hk=>by subst hk;exact ⟨hrt,fun _=>hrf,ownE_ne hb5.les hr5' (by decide),hrg,hrm⟩)
 have q6:=hm6.keep q5 (by have:=lt_of_get hr;omega)
 have ho6:OwnMs w6 0 (.slice a6 (L ++ [{ ms with tries:=ms.tries+1 }]).length c6) (L ++ [{ ms with tries:=ms.tries+1 }]):=own_keep' ho5' hm6 (fun k hk hh=>by
  subst hh
  obtain ⟨cs,hcs⟩:=ho5'.cells hk
  rw [hr5'] at hcs;simp at hcs)
 refine draw_d (fun u=>u.heap[tb]? = some (.cells #[.iface St.t St.v,.func (.func 92) #[] #[],.slice a3 (lendE ms.queue ms.id ((clock+time)%18446744073709551616) l).length c3,.int .u64 clock] 144 (0,0))∧u.heap[w.heap.size+1]? = some (.cells #[.string ms.queue,.int .u64 ms.id,.int .u32 ((ms.tries+1:Nat):Int),.int .u64 ms.expiry,.string ms.body] 128 (0,0))) (by kernel_rfl) (by kernel_rfl) (by kernel_rfl) (by kernel_rfl) ⟨hb6.st,q6⟩ ?_
 simp only [ZB,endK,resK,packed,insVc,nilK,nilM,faddrK,ne_eq,Nat.reduceEqDiff,reduceCtorEq,Zac,Zae,Zab,Za,Zad,Zaa,Zaf,pureI,vcD_nil,vcD_cons,stepD_pure,stepD_load,stepD_step,kindI,loadI]
 refine loadD1 (b:=tb) (o:=0) (v:=.iface St.t St.v) (by simp only [upd_same,ev_tmp]) (fun W hW=>⟨_,_,_,hW.1,rfl⟩) ?_
 refine loadDN (b:=w.heap.size+1) (o:=0) (v:=({ ms with tries:=ms.tries+1 }:Ms).val) (by simp only [ZB,ne_eq,Nat.reduceEqDiff]) (fun W hW=>⟨_,_,_,hW.2,by simp,rfl⟩) ?_
 have hb6d:BrAt St tb m s _ _ clock w6.drew:=hb6.keep0 (Mod.refl _ _).drew
 refine msave_c St s hp { ms with tries:=ms.tries+1 } m w6.drew _ hb6d.at_ hb6d.gl hb6d.gl.lt hs hi ⟨by show ms.tries+1<2^32;omega,hme,hmb⟩ hv hx hf ?_
 rw [hS]
 intro w7 hm7 ha7
 have hb7:=hb6d.own he hm7 ha7
 have hr7:=hm7.keep (show w6.drew.heap[rb]? = _ from hr6) (fun x=>hrf (St.ownFoot _ x))
 have hnq:¬St.own (w.heap.size+1):=fun x=>by have:=St.footLt _ _ _ hb.at_ (St.ownFoot _ x);omega
 refine ⟨⟨hb7.st,hm7.keep (show w6.drew.heap[w.heap.size+1]? = _ from q6) hnq⟩, ?_⟩
 simp only []
 have hnew:∀k,(Value.slice a6 (L ++ [{ ms with tries:=ms.tries+1 }]).length c6).ownBlock=some k→(Value.slice am L.length cm).ownBlock=some k∨w.heap.size≤k:=by
  intro k hk
  rcases hbl5 k hk with x|x
  ·exact .inl x
  ·have:=hm1.size
   have:=m2.size
   have:=hm3.size
   have:=hm4.size
   simp only [size_drew] at x
   exact .inr (by omega)
 have hnf:∀k,(Value.slice a6 (L ++ [{ ms with tries:=ms.tries+1 }]).length c6).ownBlock=some k→¬St.own k:=by
  intro k hk ho
  rcases hnew k hk with x|x
  ·exact (hib k x).1 (St.ownFoot _ ho)
  ·have:=St.footLt _ _ _ hb.at_ (St.ownFoot _ ho)
   omega
 refine h w7 _ _ ?_ hb7 hr7 (own_keep' (own_keep' ho6 (Mod.refl (fun _=>False) _).drew (fun _ _=>id)) hm7 hnf) hnew
 have c1:Mod (fun k=>St.own k∨k=rb∨k=tb∨(Value.slice am L.length cm).ownBlock=some k) w w3:=((hm1.trans m2).trans hm3).mono fun _ _ x=>x.elim
 have c2:=c1.then hm4 (fun _ _ x=>.inr (.inr (.inl x)))
 have c3:=c2.then hm45 (fun _ _ x=>.inr (.inr (.inr x)))
 have c4:=c3.then hm6 (fun _ _ x=>.inr (.inl x))
 exact (c4.drew).then hm7 (fun _ _ x=>.inl x)
variable {σ:Type} {St:StoC σ} {tb clock:Nat} {m:Int} {s s':σ} {l:List Le} {v:Value} {w w':World}
theorem deliver1_c (q:Qu) (c:Cm) (ms:Ms) (rb:Nat) (s1:σ) (w:World) (K:Value→World→Prop) (he:EntFree St) (hb:BrAt St tb m s l v clock w) (hq0:q.tries=0) (htb:tb≠3∧tb≠2)
  (hn:1≤c.n∧c.n≤32) (ht:1≤c.time∧c.time≤1099511627776) (hpr:PureRng St.toSto s) (hqs:q.name.size<4294967281)
  (hR:∀r∈(St.rng s (boundsL q.name 0).1 (boundsL q.name 0).2).1,r.1.2.length<2^60) (hL:St.listRows s q.name 0=[(ms,0)]) (hun:untilE ms.queue ms.id l=none)
  (hr:w.heap[rb]? = some (.cells rp0 52 (0,0))) (hrf:¬St.foot rb) (hrt:rb≠tb) (hrg:rb≠3) (hrm:rb≠2)
  (hlen:(lendE ms.queue ms.id ((clock+c.time)%18446744073709551616) l).length<2^40) (hlast:bsE (freeE ms.queue ms.id l) ⟨ms.queue,ms.id,(clock+c.time)%18446744073709551616⟩=(freeE ms.queue ms.id l).length)
  (hp:PureGet St.toSto s) (hs:ms.queue.size<4294967281) (hi:ms.id<2^64) (hmt:ms.tries<4294967295) (hme:ms.expiry<2^64) (hmb:ms.body.size<2^60)
  (hv:(St.get s (messageK ms.queue ms.id).1).1.1.size<2^60)
  (hx:(St.mgetR s ms.queue ms.id).1.queue.size<4294967281∧(St.mgetR s ms.queue ms.id).1.id<2^64∧(St.mgetR s ms.queue ms.id).1.expiry<2^64)
  (hf:∀s',s'=s∨s'=(St.mcut s (St.mgetR s ms.queue ms.id).1).2→St.fit s'∧St.fit (St.put s' (keysR { ms with tries:=ms.tries+1 }).1 (mbytes { ms with tries:=ms.tries+1 })).2)
  (hS:St.msave s { ms with tries:=ms.tries+1 }=(0,s1))
  (h:∀w' v' vm',Mod (fun k=>St.own k∨k=rb∨k=tb) w w'→BrAt St tb m s1 (lendE ms.queue ms.id ((clock+c.time)%18446744073709551616) l) v' clock w'→w'.heap[rb]? = some (.cells #[.int .i64 0,.int .u64 0,.slice none 0 0,.slice none 0 0,.slice none 0 0,vm'] 52 (0,0)) →
   OwnMs w' 0 vm' [{ ms with tries:=ms.tries+1 }]→(∀k,vm'.ownBlock=some k→w.heap.size≤k)→K (.int .i64 0) w') :
  Ok prog 105 #[ptr tb,q.val,c.val,ptr rb] w K:=by
 refine F105.enter (args:=[ptr tb,q.val,c.val,ptr rb]) (by simp) ?_
 unfold c105 r105
 simp only [ZB,insVc,load1K,faddrK,Value.cells,ne_eq,Nat.reduceEqDiff,Zac,Zae,Zab,Za,Zag,Zah,Zaa,Zaf,get_alloc,Zba,Nat.reduceEqDiff,Zaz,Qu.val,Qu.cells,Cm.val,Cm.cells]
 refine callK_gen ?_
 intro w1 hw1
 have hm1:Mod (fun _=>False) w w1:=by rw [hw1];exact ((Mod.refl _ _).alloc _).alloc _
 have q1:w1.heap[w.heap.size]? = some (.cells q.cells.toArray 121 (0,0)):=by rw [hw1];simp only [Zaa,Zaf,size_alloc,get_alloc,size_alloc,Zbi,Zaz];rfl
 have c1:w1.heap[w.heap.size+1]? = some (.cells c.cells.toArray 126 (0,0)):=by rw [hw1];simp only [Zaa,Zaf,size_alloc,get_alloc,size_alloc,Zba,Zaz];rfl
 clear hw1
 have c1':=c1
 simp only [Cm.cells] at c1'
 have q1':=q1
 simp only [Qu.cells] at q1'
 refine within_c c.n 32 w1 _ ?_
 rw [decide_eq_true hn]
 simp only [ZB,insVc,load1K,notK,faddrK,ne_eq,Nat.reduceEqDiff,Zae,Zab,Za,Zag,Zah,c1']
 refine within_c c.time 1099511627776 w1 _ ?_
 rw [decide_eq_true ht]
 simp only [ZB,insVc,pickK,load1K,notK,faddrK,ne_eq,Nat.reduceEqDiff,reduceCtorEq,Zac,Zae,Zab,Za,Zah,Zaf,q1']
 have hb1:=hb.keep0 hm1
 refine ball_c q.name [(ms,0)] hL.symm w1 _ hb1 hpr hqs hR (by simp) ?_
 intro w2 v2 hm2 ho2 _
 have ho2:=ho2 rfl
 have m2:=hm1.trans hm2
 have hb2:=hb1.keep0 hm2
 have q2:=hm2.keep q1' id
 have c2:=hm2.keep c1' id
 have hr2:=m2.keep hr id
 obtain ⟨g,cap,cur,hv2,hg2,hsz,hex⟩:∃g cap cur,v2 = .slice (some ⟨g,0,none⟩) 1 cap∧w2.heap[g]? = some (.cells cur 128 (0,0))∧0+0*5+5≤cur.size∧cur.extract (0+0*5) (0+0*5+5)=ms.cells.toArray:=by
  rcases ho2.2 with ⟨_,h0⟩|⟨g,cap,cur,rfl,_,hg,_,_,hcs,hc⟩
  ·simp at h0
  ·have:=row_at (s:=5) (off:=0) (cells:=Ms.cells) (l:=[ms]) (j:=0) (fun _=>rfl) (by simpa [msFlat] using hc) rfl (by decide)
   exact ⟨g,cap,cur,rfl,hg,this.1,this.2⟩
 subst hv2
 have hfe:firstE [(ms,(0:Int))]=0:=rfl
 rw [hfe]
 simp only [ZB,insVc,extK,lenLK,ne_eq,Nat.reduceEqDiff,Za,Zag,Zah]
 refine vc_rounds 3 ?_
 have k0:(0:Int)<((1:Nat):Int):=by decide
 have k0':(0:Int)≤0∧(0:Int)<((1:Nat):Int):=by decide
 simp only [Zbs,Nat.add_zero,Nat.zero_add] at hsz hex
 simp only [ZB,insVc,loadNK,storeNK,setMany,iopK,iopV,iaddrK,isPlain,Value.cells,ne_eq,Nat.reduceEqDiff,Nat.reduceAdd,Nat.reduceLeDiff,reduceCtorEq,Zai,Zak,Zaj,Zal,Zam,Zan,Int.reduceToNat,Zbs,Zau,Zav,Zax,Zbl,k0,k0',hg2,hsz,hex,Ms.cells]
 refine vc_gen ?_
 intro w3 hw3
 have hm3:Mod (fun _=>False) w2 w3:=by rw [hw3];exact ((Mod.refl _ _).alloc _).set (.inl (Nat.le_refl _))
 have p3:w3.heap[w2.heap.size]? = some (.cells #[.string ms.queue,.int .u64 ms.id,.int .u32 ms.tries,.int .u64 ms.expiry,.string ms.body] 128 (0,0)):=by rw [hw3];exact get_set_same _ _ _ (by rw [size_alloc];omega)
 clear hw3
 have m3:=m2.trans hm3
 have hb3:=hb2.keep0 hm3
 have q3:=hm3.keep q2 id
 have c3:=hm3.keep c2 id
 have hr3:=hm3.keep hr2 id
 have hwl:IntKind.u64.wrap ((0:Nat):Int)=0:=by decide
 have hne:((0:Int) == (c.n:Int))=false:=by simp;omega
 refine draw_e (by kernel_rfl) (by kernel_rfl) (by kernel_rfl) (by kernel_rfl) ?_
 simp only [ZB,insVc,load1K,loadNK,nilK,nilM,iopK,iopV,convK,faddrK,lenLK,ne_eq,Nat.reduceEqDiff,reduceCtorEq,Zac,Za,Zag,Zah,Zaa,Zaf,pureI,kindI,loadI,vcE_nil,vcE_cons,stepE_pure,stepE_load,hr3,c3,hwl,hne]
 have hbd:BrAt St tb m s l v clock w3.drew:=hb3.keep0 (Mod.refl _ _).drew
 simp only [ZB,insVc,ne_eq,Nat.reduceEqDiff,Nat.reduceAdd,Nat.reduceLeDiff,Zae,Zab,Zai,Zak,Zaj,Zar,Zap,Zaq,Zao,Zas,Zat,p3]
 refine lent_c ms w3.drew _ hbd ?_
 rw [hun]
 intro w4 hm4
 have m34:Mod (fun _=>False) w3 w4:=(Mod.refl _ w3).drew.trans hm4
 have hb4:=hb3.keep0 m34
 have q4:=m34.keep q3 id
 have c4:=m34.keep c3 id
 have p4:=m34.keep p3 id
 have hr4:=m34.keep hr3 id
 simp only [ZB,insVc,load1K,loadNK,faddrK,ne_eq,Nat.reduceEqDiff,Nat.reduceAdd,Nat.reduceLeDiff,reduceCtorEq,Zac,Zae,Zab,Za,Zag,Zah,Zai,Zak,Zaj,Zar,Zap,Zaq,Zao,Zas,Zat,Option.isSome_none,q4,p4,c4]
 refine lend0_c q ms c.time rb [] (.int .i64 0) (.int .u64 0) (.slice none 0 0) (.slice none 0 0) (.slice none 0 0) (.slice none 0 0) s1 w4 _ he hb4 hq0 htb hr4 (World.ownsRow_nil _ _ _ _) (fun k hk=>by cases hk) hrf hrt hrg hrm (by decide) hlen hlast hp hs hi hmt hme hmb hv hx hf hS ?_
 intro w5 v5 vm5 hm5 hb5 hr5 ho5 hbl5
 have z0:((0:Int) != 0)=false:=rfl
 have k1:IntKind.i64.wrap (0+1)=1:=by decide
 have k2:¬(1:Int)<((1:Nat):Int):=by decide
 simp only [ZB,insVc,iopK,iopV,ne_eq,Nat.reduceEqDiff,reduceCtorEq,Int.reduceAdd,z0]
 refine round_next ?_
 simp only [ZB,insVc,iopK,iopV,ne_eq,Nat.reduceEqDiff,reduceCtorEq]
 refine h w5 v5 vm5 ?_ hb5 hr5 ho5 ?_
 ·have c1:Mod (fun k=>St.own k∨k=rb∨k=tb) w w4:=(m3.trans m34).mono fun _ _ x=>x.elim
  refine c1.then hm5 (fun k _ x => ?_)
  rcases x with x|x|x|x
  ·exact .inl x
  ·exact .inr (.inl x)
  ·exact .inr (.inr x)
  ·cases x
 ·intro k hk
  rcases hbl5 k hk with x|x
  ·cases x
  ·have:=m3.size
   have:=m34.size
   omega
variable {σ:Type} {St:StoC σ} {tb clock:Nat} {m:Int} {s s':σ} {l:List Le} {v:Value} {w w':World}
theorem ack0_c (c:Cm) (ms:Ms) (r2:Ms) (rb:Nat) (s1:σ) (w:World) (K:Value→World→Prop) (he:EntFree St) (hb:BrAt St tb m s l v clock w) (hk:c.kind=7) (htb:tb≠3∧tb≠2)
  (hp:PureGet St.toSto s) (hqs:c.q.name.size<4294967281) (hci:c.id<2^64) (hv1:(St.get s (messageK c.q.name c.id).1).1.1.size<2^60) (hG:St.mgetR s c.q.name c.id=(ms,0)) (hun:(untilE ms.queue ms.id l).isSome=true) (htr:ms.tries=c.token) (hmt:ms.tries<2^32)
  (hs:ms.queue.size<4294967281) (hi:ms.id<2^64) (hv:(St.get s (messageK ms.queue ms.id).1).1.1.size<2^60)
  (hx:(St.mgetR s ms.queue ms.id).1.queue.size<4294967281∧(St.mgetR s ms.queue ms.id).1.id<2^64∧(St.mgetR s ms.queue ms.id).1.expiry<2^64) (hT:St.mtake s ms.queue ms.id=((r2,0),s1))
  (h:∀w' v',Mod (fun k=>St.own k∨k=tb) w w'→BrAt St tb m s1 (freeE ms.queue ms.id l) v' clock w'→K (.int .i64 0) w') :
  Ok prog 102 #[ptr tb,c.val,ptr rb] w K:=by
 refine F102.enter (args:=[ptr tb,c.val,ptr rb]) (by simp) ?_
 unfold c102 r102
 simp only [ZB,insVc,Value.cells,Zac,Za,Zag,Cm.val,Cm.cells]
 refine vc_gen ?_
 intro w1 hw1
 have hm1:Mod (fun _=>False) w w1:=by rw [hw1];exact (Mod.refl _ _).alloc _
 have c1:w1.heap[w.heap.size]? = some (.cells #[.int .i64 c.kind,.string c.q.name,.int .u32 c.q.most,.int .u64 c.q.ttl,.int .u32 c.q.tries,.string c.q.dead,.string c.b.ex,.int .i64 c.b.kind,.string c.b.key,.string c.b.q,.string c.ex,.string c.key,.string c.body,.int .u64 c.id,.int .u64 c.token,.int .u64 c.n,.int .u64 c.time,.bool c.dead] 126 (0,0)):=by rw [hw1];exact get_alloc_new _ _
 clear hw1
 have hb1:=hb.keep0 hm1
 refine draw_c (dp:=[[],[0],[1],[2],[],[4],[5],[],[7],[3,6,8],[9],[10],[10],[],[13,11,9,0,1,2,3,4,5,6,7,8,9,10,11,13],[12,14,0,1,2,3,4,5,6,7,8,9,10,11,12,13,14]]) (N:=15)
  (GenI w1 (fun _=>False) (fun _=>True) [(0,ptr tb),(2,ptr rb),(4,ptr w.heap.size)]
   [(0,10,ptr tb),(1,11,ptr tb),(2,12,ptr tb),(3,13,.iface St.t St.v),(4,14,.pointer (some ⟨w.heap.size,1,none⟩)),(5,15,.pointer (some ⟨w.heap.size,1,none⟩)),(6,16,.string c.q.name),(7,17,.pointer (some ⟨w.heap.size,13,none⟩)),(8,18,.int .u64 c.id),(9,19,.tuple #[ms.val,.int .i64 0]),(10,9,.tuple #[ms.val,.int .i64 0]),(11,20,ms.val),(12,21,.int .i64 0)] 13 14 7 5 128 ms.cells.toArray)
  (by kernel_rfl) (by kernel_rfl) (by kernel_rfl) (by kernel_rfl) (by kernel_rfl) (by kernel_rfl) rfl rfl (by kernel_rfl) ?_ ?_ ?_
 ·refine GenI.start (Mod.refl _ _).drew trivial ?_
  intro p hp
  simp only [Zbo,Zbp,or_false] at hp
  rcases hp with rfl|rfl|rfl <;> simp only [ZB,ne_eq,Nat.reduceEqDiff,reduceCtorEq,Zac,Za,Zag]
 ·rintro L ρ u k x d hk15 hx' hd hL hdeps hcl hI
  have tu:=hI.1.keep c1 id
  have hbu:=hb1.keep0 hI.1
  obtain rfl|rfl|rfl|rfl|rfl|rfl|rfl|rfl|rfl|rfl|rfl|rfl|rfl|rfl|rfl:k=0∨k=1∨k=2∨k=3∨k=4∨k=5∨k=6∨k=7∨k=8∨k=9∨k=10∨k=11∨k=12∨k=13∨k=14:=by omega
  all_goals (obtain rfl:=Option.some.inj hx';obtain rfl:=Option.some.inj hd)
  ·simp only [updO_some,ev_tmp,insVc,hI.frm (d:=0) (v:=ptr tb) (by simp)]
   exact hI.put 0 10 _ rfl (by simp) rfl rfl
  ·simp only [updO_some,ev_tmp,insVc,nilK,hI.get (k:=0) (d:=10) (v:=ptr tb) (by simp) (hdeps 0 (by decide))]
   exact hI.put 1 11 _ rfl (by simp) rfl rfl
  ·simp only [updO_some,ev_tmp,insVc,faddrK,Nat.add_zero,hI.get (k:=1) (d:=11) (v:=ptr tb) (by simp) (hdeps 1 (by decide))]
   exact hI.put 2 12 _ rfl (by simp) rfl rfl
  ·simp only [ZB,insVc,load1K,Za,Zah,hI.get (k:=2) (d:=12) (v:=ptr tb) (by simp) (hdeps 2 (by decide)),hbu.st]
   exact hI.put 3 13 _ rfl (by simp) rfl rfl
  ·simp only [updO_some,ev_tmp,insVc,faddrK,Nat.zero_add,hI.frm (d:=4) (v:=ptr w.heap.size) (by simp)]
   exact hI.put 4 14 _ rfl (by simp) rfl rfl
  ·simp only [updO_some,ev_tmp,insVc,faddrK,Nat.add_zero,hI.get (k:=4) (d:=14) (v:=.pointer (some ⟨w.heap.size,1,none⟩)) (by simp) (hdeps 4 (by decide))]
   exact hI.put 5 15 _ rfl (by simp) rfl rfl
  ·simp only [ZB,insVc,load1K,Za,Zag,Zah,hI.get (k:=5) (d:=15) (v:=.pointer (some ⟨w.heap.size,1,none⟩)) (by simp) (hdeps 5 (by decide)),tu]
   exact hI.put 6 16 _ rfl (by simp) rfl rfl
  ·simp only [updO_some,ev_tmp,insVc,faddrK,Nat.zero_add,hI.frm (d:=4) (v:=ptr w.heap.size) (by simp)]
   exact hI.put 7 17 _ rfl (by simp) rfl rfl
  ·simp only [ZB,insVc,load1K,Za,Zag,Zah,hI.get (k:=7) (d:=17) (v:=.pointer (some ⟨w.heap.size,13,none⟩)) (by simp) (hdeps 7 (by decide)),tu]
   exact hI.put 8 18 _ rfl (by simp) rfl rfl
  ·simp only [updO_some,ev_tmp,insVc,Zae,Zab,hI.get (k:=3) (d:=13) (v:=.iface St.t St.v) (by simp) (hdeps 3 (by decide)),hI.get (k:=6) (d:=16) (v:=.string c.q.name) (by simp) (hdeps 6 (by decide)),hI.get (k:=8) (d:=18) (v:=.int .u64 c.id) (by simp) (hdeps 8 (by decide))]
   refine msget_c St.toSto s hp c.q.name c.id m u _ hbu.at_ hbu.gl hqs hci hv1 ?_
   rw [hG]
   intro u2 hm2
   exact (hI.world hm2 trivial (fun _ x=>x.elim)).put 9 19 _ rfl (by simp) rfl rfl
  ·simp only [updO_some,ev_tmp,insVc,hI.get (k:=9) (d:=19) (v:=.tuple #[ms.val,.int .i64 0]) (by simp) (hdeps 9 (by decide))]
   exact hI.put 10 9 _ rfl (by simp) rfl rfl
  ·simp only [updO_some,ev_tmp,insVc,loadV_some,extK,Za,Zah,hI.get (k:=10) (d:=9) (v:=.tuple #[ms.val,.int .i64 0]) (by simp) (hdeps 10 (by decide))]
   exact hI.put 11 20 _ rfl (by simp) rfl rfl
  ·simp only [updO_some,ev_tmp,insVc,loadV_some,extK,Za,Zag,Zah,hI.get (k:=10) (d:=9) (v:=.tuple #[ms.val,.int .i64 0]) (by simp) (hdeps 10 (by decide))]
   exact hI.put 12 21 _ rfl (by simp) rfl rfl
  ·simp only [updO_some,insVc,Value.cells]
   refine hI.alloc _ rfl trivial ?_ rfl rfl rfl
   cases h14:L 14 with
   | false=>rfl
   | true=>have:=hcl 14 _ rfl h14 13 (by decide);rw [this] at hL;cases hL
  ·obtain ⟨xb,cs,e1,e2,e3,e4,_⟩:=hI.box (hdeps 13 (by decide))
   have h20:=hI.get (k:=11) (d:=20) (v:=ms.val) (by simp) (hdeps 11 (by decide))
   simp only [insVc,ev_tmp,e1,h20,Ms.val,storeNK,e3,storeNO_cells]
   refine ⟨by refine ⟨?_,by omega, ?_, ?_⟩ <;> simp [Ms.cells,isPlain], ?_⟩
   rw [setMany_all cs ms.cells.toArray.toList (by rw [e4];rfl)]
   exact hI.store (hdeps 13 (by decide)) e1 rfl trivial rfl rfl
 rintro L ρ u x hall hI hx'
 obtain rfl:=Option.some.inj hx'
 obtain ⟨xb,cs,e1,e2,e3,e4,e5⟩:=hI.box (hall 13 (by decide))
 have hcs:=e5 (hall 14 (by decide))
 subst hcs
 have r0:=hI.frm (d:=0) (v:=ptr tb) (by simp)
 have rr2:=hI.frm (d:=2) (v:=ptr rb) (by simp)
 have r4:=hI.frm (d:=4) (v:=ptr w.heap.size) (by simp)
 have r21:=hI.get (k:=12) (d:=21) (v:=.int .i64 0) (by simp) (hall 12 (by decide))
 have hmu:=hI.1
 have tu:=hmu.keep c1 id
 have hbu:=hb1.keep0 hmu
 have z0:((0:Int) != 0)=false:=rfl
 simp only [Ms.cells] at e3
 simp only [ZB,insVc,loadNK,iopK,iopV,ne_eq,Nat.reduceEqDiff,Nat.reduceAdd,Nat.reduceLeDiff,reduceCtorEq,Zae,Zab,Zai,Zak,Zaj,Zar,Zap,Zaq,Zao,Zas,Zat,r0,r21,e1,z0,e3]
 refine lent_c ms u _ hbu ?_
 rw [hun]
 intro u1 hm1'
 have hb2:=hbu.keep0 hm1'
 have t2:=hm1'.keep tu id
 have e32:=hm1'.keep e3 id
 have hcv:IntKind.u64.wrap ((ms.tries:Nat):Int)=((c.token:Nat):Int):=by rw [IntKind.wrap_u64,htr];omega
 have hne:(((c.token:Nat):Int) != (c.token:Int))=false:=by simp
 have n9:((7:Int) == 9)=false:=rfl
 have n8:((7:Int) == 8)=false:=rfl
 simp only [ZB,insVc,pickK,load1K,iopK,iopV,notK,convK,faddrK,ne_eq,Nat.reduceEqDiff,reduceCtorEq,Za,Zag,Zah,Zaf,r4,e1,e32,t2,hcv,hne,hk,n9,n8]
 refine draw_z' (fun u=>u.heap[tb]? = some (.cells #[.iface St.t St.v,.func (.func 92) #[] #[],v,.int .u64 clock] 144 (0,0))∧u.heap[xb]? = some (.cells #[.string ms.queue,.int .u64 ms.id,.int .u32 ms.tries,.int .u64 ms.expiry,.string ms.body] 128 (0,0))) (by kernel_rfl) (by kernel_rfl) (by kernel_rfl) (by kernel_rfl) (by kernel_rfl) (by kernel_rfl) rfl ⟨hb2.st,e32⟩ ?_
 simp only [ZB,List.dropLast,insVc,storeNK,nilK,nilM,faddrK,ne_eq,Nat.reduceEqDiff,reduceCtorEq,Zae,Zab,Zaa,Zaf,pureI,stepD_pure,stepD_load,stepD_step,loadI,vcF_nil,vcF_cons,kindF,lookI,sliceI,Zc,r0]
 refine loadDN (b:=tb) (o:=1) (v:=.agg #[.func (.func 92) #[] #[],v]) (by simp only [upd_same,ev_tmp]) (fun W hW=>⟨_,_,_,hW.1,by simp,rfl⟩) ?_
 refine loadDN (b:=xb) (o:=0) (v:=ms.val) (by simp only [upd_other,ev_tmp,ne_eq,not_false_eq_true,Nat.reduceEqDiff,e1]) (fun W hW=>⟨_,_,_,hW.2,by simp,rfl⟩) ?_
 refine bkey_c ms u1.drew _ ?_
 intro u2 hm2
 have m12:Mod (fun _=>False) u1 u2:=(Mod.refl _ u1).drew.trans hm2
 have hb3:=hb2.keep0 m12
 have e33:=m12.keep e32 id
 refine ⟨⟨hb3.st,e33⟩, ?_⟩
 refine lfree_c l v ms.queue ms.id u2 _ hb3.les hb3.ll ?_
 intro u3 v3 hm3 hv3
 have hb4:=hb3.keep0 hm3
 have e34:=hm3.keep e33 id
 refine ⟨⟨hb4.st,e34⟩, ?_⟩
 obtain ⟨a3,c3,rfl,_⟩:=hv3.form
 have hfl:=freeE_len ms.queue ms.id l
 have hst3:=hb4.st
 obtain ⟨w4,hw4⟩:∃w4,w4=Vc.set u3 tb (.cells #[.iface St.t St.v,.func (.func 92) #[] #[],.slice a3 (freeE ms.queue ms.id l).length c3,.int .u64 clock] 144):=⟨_,rfl⟩
 have hm4:Mod (fun k=>k=tb) u3 w4:=by rw [hw4];exact (Mod.refl _ _).set (.inr rfl)
 have hb5:=hb4.table hv3 (by have:=hb4.ll;omega) hw4 htb.1 htb.2
 simp only [storeNO_cells,setMany,isPlain,Nat.reduceAdd,Nat.reduceLeDiff,Zai,Zak,Zaj,Zal,Zam,Zan,true_and,and_self,Nat.zero_add,Bool.and_true,Zau,Zav,Zax,tabV,hst3]
 rw [← hw4]
 clear hw4
 have hxt:xb≠tb:=by have:=lt_of_get hb1.st;omega
 have e35:=hm4.keep e34 hxt
 refine draw_d (fun u=>u.heap[tb]? = some (.cells #[.iface St.t St.v,.func (.func 92) #[] #[],.slice a3 (freeE ms.queue ms.id l).length c3,.int .u64 clock] 144 (0,0))∧u.heap[xb]? = some (.cells #[.string ms.queue,.int .u64 ms.id,.int .u32 ms.tries,.int .u64 ms.expiry,.string ms.body] 128 (0,0))) (by kernel_rfl) (by kernel_rfl) (by kernel_rfl) (by kernel_rfl) ⟨hb5.st,e35⟩ ?_
 simp only [ZB,endK,resK,packed,insVc,nilK,nilM,faddrK,extK,ne_eq,Nat.reduceEqDiff,reduceCtorEq,Zae,Zab,Zad,Zaa,Zaf,pureI,vcD_nil,vcD_cons,stepD_pure,stepD_load,stepD_step,kindI,loadI,r0,e1]
 refine loadD1 (b:=tb) (o:=0) (v:=.iface St.t St.v) (by simp only [upd_same,ev_tmp]) (fun W hW=>⟨_,_,_,hW.1,rfl⟩) ?_
 refine loadD1 (b:=xb) (o:=0) (v:=.string ms.queue) (by simp only [upd_same,ev_tmp]) (fun W hW=>⟨_,_,_,hW.2,rfl⟩) ?_
 refine loadD1 (b:=xb) (o:=1) (v:=.int .u64 ms.id) (by simp only [upd_same,ev_tmp]) (fun W hW=>⟨_,_,_,hW.2,rfl⟩) ?_
 have hb5d:BrAt St tb m s _ _ clock w4.drew:=hb5.keep0 (Mod.refl _ _).drew
 refine mtake_c St s hp ms.queue ms.id m w4.drew _ hb5d.at_ hb5d.gl hb5d.gl.lt hs hi hv hx ?_
 rw [hT]
 intro w5 hm5 ha5
 have hb6:=hb5d.own he hm5 ha5
 have hnx:¬St.own xb:=fun y=>by have:=St.footLt _ _ _ hb1.at_ (St.ownFoot _ y);omega
 refine ⟨⟨hb6.st,hm5.keep (show w4.drew.heap[xb]? = _ from e35) hnx⟩, ?_⟩
 simp only [loadV_some,Za,Zag,Zah]
 refine h w5 _ ?_ hb6
 have k1:Mod (fun k=>St.own k∨k=tb) w u3:=((((hm1.trans hmu).trans hm1').trans m12).trans hm3).mono fun _ _ x=>x.elim
 have k2:=k1.then hm4 (fun _ _ x=>.inr x)
 exact (k2.drew).then hm5 (fun _ _ x=>.inl x)
variable {σ:Type} {St:StoC σ} {tb clock:Nat} {m:Int} {s s':σ} {l:List Le} {v:Value} {w w':World}
def rpV (n:Nat) (vi vl vd vm:Value):Array Value:=#[.int .i64 0,.int .u64 n,vi,vl,vd,vm]
def IsSlc3 (v:Value):Prop:=∃a k c,v = .slice a k c
theorem do_c (c:Cm) (w:World) (K:Value→World→Prop) (Post:Nat→Nat→Value→Value→Value→Value→World→Prop) (hc:c.fine) (herr:c.err=0) (hb:BrAt St tb m s l v clock w)
  (hact:∀w1 rb (G:Value→World→Prop),Mod (fun _=>False) w w1→BrAt St tb m s l v clock w1→w1.heap[rb]? = some (.cells rp0 52 (0,0))→w.heap.size≤rb →
   (∀w2 n vi vl vd vm,Mod (fun k=>St.own k∨k=rb∨k=tb) w1 w2→w2.heap[rb]? = some (.cells (rpV n vi vl vd vm) 52 (0,0))→IsSlc3 vi∧IsSlc3 vl∧IsSlc3 vd∧IsSlc3 vm→Post rb n vi vl vd vm w2→G (.int .i64 0) w2) →
   Ok prog 75 #[ptr tb,c.val,ptr rb] w1 G)
  (h:∀w2 w3 ob rb n vi vl vd vm,w.heap.size≤ob→ob≠rb→Post rb n vi vl vd vm w2→w2.heap[ob]? = some (.cells rp0 52 (0,0))→w3=Vc.set w2 ob (.cells (rpV n vi vl vd vm) 52 (0,0))→Mod (fun k=>St.own k∨k=tb) w w3→K (.agg (rpV n vi vl vd vm)) w3) :
  Ok prog 58 #[ptr tb,c.val] w K:=by
 refine F58.enter (args:=[ptr tb,c.val]) (by simp) ?_
 unfold c58 r58
 simp only [ZB,insVc,loadNK,Value.cells,ne_eq,Nat.reduceEqDiff,Nat.reduceAdd,Nat.reduceLeDiff,Zac,Zae,Zab,Za,Zag,Zai,Zak,Zaj,Zaa,Zaf,Zar,Zap,Zaq,Zao,Zas,Zat,get_alloc,Nat.reduceAdd,Zbi,Nat.reduceEqDiff,Zaz,Cm.val,Cm.cells]
 refine callK_gen ?_
 intro w1 hw1
 have hm1:Mod (fun _=>False) w w1:=by rw [hw1];exact ((Mod.refl _ _).alloc _).alloc _
 have c1:w1.heap[w.heap.size]? = some (.cells c.cells.toArray 126 (0,0)):=by rw [hw1];simp only [Zaa,Zaf,size_alloc,get_alloc,size_alloc,Zbi,Zaz];rfl
 have o1:w1.heap[w.heap.size+1]? = some (.cells rp0 52 (0,0)):=by rw [hw1];simp only [Zaa,Zaf,size_alloc,get_alloc,size_alloc,Zba,Zaz]
 clear hw1
 have hb1:=hb.keep0 hm1
 refine bytes24_c c w1 _ hc hb1.fm ?_
 intro w2 hm2
 rw [herr]
 have z0:((0:Int) != 0)=false:=rfl
 have c2:=hm2.keep c1 id
 have o2:=hm2.keep o1 id
 have c2':=c2
 simp only [Cm.cells] at c2'
 have hcn:w.heap.size≠w2.heap.size:=by have:=lt_of_get c2;omega
 have htn:tb≠w2.heap.size:=by have:=lt_of_get (hb1.keep0 hm2).st;omega
 simp only [ZB,insVc,loadNK,iopK,iopV,extK,Value.cells,ne_eq,Nat.reduceEqDiff,Nat.reduceAdd,Nat.reduceLeDiff,reduceCtorEq,Zac,Zae,Zab,Za,Zag,Zah,Zai,Zak,Zaj,Zaa,Zaf,Zar,Zap,Zaq,Zao,Zas,Zat,get_alloc,Nat.reduceAdd,Nat.reduceEqDiff,z0,c2',hcn]
 refine callK_gen ?_
 intro w3 hw3
 have hm3:Mod (fun _=>False) w2 w3:=by rw [hw3];exact (Mod.refl _ _).alloc _
 have r3:w3.heap[w2.heap.size]? = some (.cells rp0 52 (0,0)):=by rw [hw3];exact get_alloc_new _ _
 clear hw3
 have m3:=(hm1.trans hm2).trans hm3
 have o3:=hm3.keep o2 id
 refine hact w3 w2.heap.size _ m3 (hb.keep0 m3) r3 (by have:=(hm1.trans hm2).size;omega) ?_
 intro w4 n vi vl vd vm hm4 hr4 hpl hpost
 have hob:w.heap.size+1<w2.heap.size:=lt_of_get o2
 have htb:=lt_of_get hb.st
 have o4:=hm4.keep o3 (by
  rintro (x|x|x)
  ·have:=St.footLt _ _ _ hb.at_ (St.ownFoot _ x);omega
  ·omega
  ·omega)
 have hr4':=hr4
 unfold rpV at hr4'
 obtain ⟨⟨_,_,_,rfl⟩,⟨_,_,_,rfl⟩,⟨_,_,_,rfl⟩,⟨_,_,_,rfl⟩⟩:=hpl
 simp only [ZB,endK,resK,resN,packed,insVc,loadNK,storeNK,setMany,iopK,iopV,isPlain,ne_eq,Nat.reduceEqDiff,Nat.reduceAdd,Nat.reduceLeDiff,reduceCtorEq,Zai,Zak,Zaj,Zal,Zam,Zan,Zad,Zar,Zap,Zaq,Zao,Zas,Zat,Zau,Zav,Zax,z0,hr4',o4,get_set_same _ _ _ (lt_of_get o4)]
 refine h w4 _ (w.heap.size+1) w2.heap.size n _ _ _ _ (by omega) (by omega) hpost o4 rfl ?_
 have k1:Mod (fun k=>St.own k∨k=tb) w w4:=(m3.mono fun _ _ x=>x.elim).then hm4 (fun k hk x=>by
  rcases x with x|x|x
  ·exact .inl x
  ·have:=(hm1.trans hm2).size;omega
  ·exact .inr x)
 exact k1.set (.inl (by omega))
end Go.Oct
