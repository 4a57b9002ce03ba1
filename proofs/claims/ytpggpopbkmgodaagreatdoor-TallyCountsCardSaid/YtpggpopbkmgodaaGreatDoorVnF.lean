import Derived.Test.YtpggpopbkmgodaaGreatDoorVjH
import Derived.Test.YtpggpopbkmgodaaGreatDoorVoP
import Derived.Test.YtpggpopbkmgodaaGreatDoorVcX
import Derived.Test.YtpggpopbkmgodaaGreatDoorVrI
import Derived.Test.YtpggpopbkmgodaaGreatDoorVpD
import Derived.Test.YtpggpopbkmgodaaGreatDoorVlA
set_option linter.unusedSimpArgs false
set_option linter.unusedVariables false
set_option linter.unusedSectionVars false
set_option linter.unnecessarySimpa false
namespace Go.Oct
open Go Go.Vc Go.VrA Go.VrB Go.VrE Go.VrH Go.VrI Go.VrJ Go.Proofs.Tryz
set_option maxRecDepth 100000
variable {σ:Type} {St:StoC σ} {tb clock:Nat} {m:Int} {s s':σ} {l:List Le} {v:Value} {w w':World}
theorem act5_c (c:Cm) (rb:Nat) (w:World) (K:Value→World→Prop) (hk:c.kind=5) (h:∀w1,Mod (fun _=>False) w w1→Ok prog 101 #[ptr tb,c.val,ptr rb] w1 K) :
  Ok prog 75 #[ptr tb,c.val,ptr rb] w K:=by
 refine F75.enter (args:=[ptr tb,c.val,ptr rb]) (by simp) ?_
 unfold c75 r75
 have n1:((5:Int) == 1)=false:=rfl
 have n3:((5:Int) == 3)=false:=rfl
 have n4:((5:Int) == 4)=false:=rfl
 have n5:((5:Int) == 5)=true:=rfl
 simp only [ZB,insVc,load1K,loadNK,iopK,iopV,faddrK,Value.cells,ne_eq,Nat.reduceEqDiff,Nat.reduceAdd,Nat.reduceLeDiff,reduceCtorEq,Zac,Zae,Zab,Za,Zag,Zah,Zai,Zak,Zaj,Zaa,Zar,Zap,Zaq,Zao,Zas,Zat,get_alloc,Nat.reduceAdd,Nat.reduceEqDiff,Cm.val,Cm.cells,hk,n1,n3,n4,n5]
 have h1:=h _ ((Mod.refl _ w).alloc (.cells c.cells.toArray 126))
 unfold Cm.val Cm.cells at h1
 rw [hk] at h1
 refine Ok.mono h1 ?_
 intro v w' hK
 simp only [ZB,endK,resK,packed,insVc,Zad]
 exact hK
theorem act7_c (c:Cm) (rb:Nat) (w:World) (K:Value→World→Prop) (hk:c.kind=7) (h:∀w1,Mod (fun _=>False) w w1→Ok prog 102 #[ptr tb,c.val,ptr rb] w1 K) :
  Ok prog 75 #[ptr tb,c.val,ptr rb] w K:=by
 refine F75.enter (args:=[ptr tb,c.val,ptr rb]) (by simp) ?_
 unfold c75 r75
 have n1:((7:Int) == 1)=false:=rfl
 have n3:((7:Int) == 3)=false:=rfl
 have n4:((7:Int) == 4)=false:=rfl
 have n5:((7:Int) == 5)=false:=rfl
 have n7:((7:Int) == 7)=true:=rfl
 simp only [ZB,insVc,load1K,loadNK,iopK,iopV,faddrK,Value.cells,ne_eq,Nat.reduceEqDiff,Nat.reduceAdd,Nat.reduceLeDiff,reduceCtorEq,Zac,Zae,Zab,Za,Zag,Zah,Zai,Zak,Zaj,Zaa,Zar,Zap,Zaq,Zao,Zas,Zat,get_alloc,Nat.reduceAdd,Nat.reduceEqDiff,Cm.val,Cm.cells,hk,n1,n3,n4,n5,n7]
 have h1:=h _ ((Mod.refl _ w).alloc (.cells c.cells.toArray 126))
 unfold Cm.val Cm.cells at h1
 rw [hk] at h1
 refine Ok.mono h1 ?_
 intro v w' hK
 simp only [ZB,endK,resK,packed,insVc,Zad]
 exact hK
theorem act1_c (c:Cm) (rb:Nat) (s1:σ) (w:World) (K:Value→World→Prop) (he:EntFree St) (hb:BrAt St tb m s l v clock w) (hk:c.kind=1) (hs:c.q.name.size<4294967281) (hq:c.q.good) (hd:c.q.dead.size<4294967281)
  (hv:∀k,(St.get s k).1.1.size<2^60) (hv2:∀k,(St.get (St.find s c.q.name).2 k).1.1.size<2^60) (hf:St.fit (St.find s c.q.name).2) (hf2:St.fit (St.find (St.find s c.q.name).2 c.q.dead).2) (hD:St.declare s c.q=(0,s1))
  (h:∀w1,Mod St.own w w1→BrAt St tb m s1 l v clock w1→K (.int .i64 0) w1):Ok prog 75 #[ptr tb,c.val,ptr rb] w K:=by
 refine F75.enter (args:=[ptr tb,c.val,ptr rb]) (by simp) ?_
 unfold c75 r75
 have n1:((1:Int) == 1)=true:=rfl
 simp only [ZB,insVc,load1K,iopK,iopV,faddrK,Value.cells,ne_eq,Nat.reduceEqDiff,reduceCtorEq,Zac,Za,Zag,Zah,Zaa,get_alloc,Nat.reduceEqDiff,Cm.val,Cm.cells,hk,n1]
 refine vc_gen ?_
 intro w1 hw1
 have hm1:Mod (fun _=>False) w w1:=by rw [hw1];exact (Mod.refl _ _).alloc _
 have b1:w1.heap[w.heap.size]? = some (.cells c.cells.toArray 126 (0,0)):=by rw [hw1];unfold Cm.cells;rw [hk];exact get_alloc_new _ _
 clear hw1
 have hb1:=hb.keep0 hm1
 refine draw_d (fun u=>u.heap[tb]? = some (.cells #[.iface St.t St.v,.func (.func 92) #[] #[],v,.int .u64 clock] 144 (0,0))∧u.heap[w.heap.size]? = some (.cells c.cells.toArray 126 (0,0))) (by kernel_rfl) (by kernel_rfl) (by kernel_rfl) (by kernel_rfl) ⟨hb1.st,b1⟩ ?_
 simp only [ZB,endK,resK,packed,insVc,nilK,nilM,faddrK,ne_eq,Nat.reduceEqDiff,reduceCtorEq,Zac,Zae,Zab,Za,Zad,Zaa,Zaf,pureI,vcD_nil,vcD_cons,stepD_pure,stepD_load,stepD_step,kindI,loadI]
 refine loadD1 (b:=tb) (o:=0) (v:=.iface St.t St.v) (by simp only [upd_same,ev_tmp]) (fun W hW=>⟨_,_,_,hW.1,rfl⟩) ?_
 refine loadDN (b:=w.heap.size) (o:=1) (v:=c.q.val) (by simp only [upd_same,ev_tmp]) (fun W hW=>⟨_,_,_,hW.2,by simp [Cm.cells],rfl⟩) ?_
 have hb1d:BrAt St tb m s l v clock w1.drew:=hb1.keep0 (Mod.refl _ _).drew
 refine declare_c St.toSto s c.q m w1.drew _ hb1d.at_ hb1d.gl hs hq hd hv hv2 hf hf2 ?_
 rw [hD]
 intro w2 hm2 ha2
 have hb2:=hb1d.own he hm2 ha2
 have hnb:¬St.own w.heap.size:=fun x=>by have:=St.footLt _ _ _ hb.at_ (St.ownFoot _ x);omega
 refine ⟨⟨hb2.st,hm2.keep (show w1.drew.heap[w.heap.size]? = _ from b1) hnb⟩, ?_⟩
 simp only []
 exact h w2 (((hm1.trans (Mod.refl _ _).drew).mono fun _ _ x=>x.elim).then hm2 (fun _ _ x=>x)) hb2
theorem act6_c (c:Cm) (q:Qu) (rb:Nat) (w:World) (K:Value→World→Prop) (he:EntFree St) (hb:BrAt St tb m s l v clock w) (hk:c.kind=6) (hs:c.q.name.size<4294967281) (hv:(St.get s (queueK c.q.name).1).1.1.size<2^60) (hF:St.find s c.q.name=((q,0),s))
  (h:∀w1,Mod St.own w w1→BrAt St tb m s l v clock w1→Ok prog 105 #[ptr tb,q.val,c.val,ptr rb] w1 K):Ok prog 75 #[ptr tb,c.val,ptr rb] w K:=by
 refine F75.enter (args:=[ptr tb,c.val,ptr rb]) (by simp) ?_
 unfold c75 r75
 have n1:((6:Int) == 1)=false:=rfl
 have n3:((6:Int) == 3)=false:=rfl
 have n4:((6:Int) == 4)=false:=rfl
 have n5:((6:Int) == 5)=false:=rfl
 have n7:((6:Int) == 7)=false:=rfl
 have n8:((6:Int) == 8)=false:=rfl
 have n9:((6:Int) == 9)=false:=rfl
 have n11:((6:Int) == 11)=false:=rfl
 have n6:((6:Int) == 6)=true:=rfl
 have z0:((0:Int) != 0)=false:=rfl
 simp only [ZB,insVc,load1K,iopK,iopV,faddrK,Value.cells,ne_eq,Nat.reduceEqDiff,reduceCtorEq,Zac,Za,Zag,Zah,Zaa,get_alloc,Nat.reduceEqDiff,Cm.val,Cm.cells,hk,n1,n3,n4,n5,n7,n8,n9,n11]
 refine vc_gen ?_
 intro w1 hw1
 have hm1:Mod (fun _=>False) w w1:=by rw [hw1];exact (Mod.refl _ _).alloc _
 have c1:w1.heap[w.heap.size]? = some (.cells #[.int .i64 6,.string c.q.name,.int .u32 c.q.most,.int .u64 c.q.ttl,.int .u32 c.q.tries,.string c.q.dead,.string c.b.ex,.int .i64 c.b.kind,.string c.b.key,.string c.b.q,.string c.ex,.string c.key,.string c.body,.int .u64 c.id,.int .u64 c.token,.int .u64 c.n,.int .u64 c.time,.bool c.dead] 126 (0,0)):=by rw [hw1];exact get_alloc_new _ _
 clear hw1
 have hb1:=hb.keep0 hm1
 have hown:∀k,St.own k→k<w1.heap.size:=fun k hk=>St.footLt _ _ _ hb1.at_ (St.ownFoot _ hk)
 have hnb:¬St.own w.heap.size:=fun x=>by have:=St.footLt _ _ _ hb.at_ (St.ownFoot _ x);omega
 refine draw_c (dp:=[[],[0],[1],[2],[],[4],[5],[3,6],[7],[8],[8],[],[11,9,7,0,1,2,3,4,5,6,7,8,9,11],[10,12,0,1,2,3,4,5,6,7,8,9,10,11,12]]) (N:=13)
  (GenI w1 St.own (fun u=>BrAt St tb m s l v clock u∧u.heap[w.heap.size]? = some (.cells #[.int .i64 6,.string c.q.name,.int .u32 c.q.most,.int .u64 c.q.ttl,.int .u32 c.q.tries,.string c.q.dead,.string c.b.ex,.int .i64 c.b.kind,.string c.b.key,.string c.b.q,.string c.ex,.string c.key,.string c.body,.int .u64 c.id,.int .u64 c.token,.int .u64 c.n,.int .u64 c.time,.bool c.dead] 126 (0,0))) [(0,ptr tb),(2,ptr rb),(4,ptr w.heap.size)]
   [(0,60,ptr tb),(1,61,ptr tb),(2,62,ptr tb),(3,63,.iface St.t St.v),(4,64,.pointer (some ⟨w.heap.size,1,none⟩)),(5,65,.pointer (some ⟨w.heap.size,1,none⟩)),(6,66,.string c.q.name),(7,67,.tuple #[q.val,.int .i64 0]),(8,59,.tuple #[q.val,.int .i64 0]),(9,68,q.val),(10,69,.int .i64 0)] 11 12 7 5 121 q.cells.toArray)
  (by kernel_rfl) (by kernel_rfl) (by kernel_rfl) (by kernel_rfl) (by kernel_rfl) (by kernel_rfl) rfl rfl (by kernel_rfl) ?_ ?_ ?_
 ·refine GenI.start (Mod.refl _ _).drew ⟨hb1.keep0 (Mod.refl _ _).drew,c1⟩ ?_
  intro p hp
  simp only [Zbo,Zbp,or_false] at hp
  rcases hp with rfl|rfl|rfl <;> simp only [ZB,ne_eq,Nat.reduceEqDiff,reduceCtorEq,Zac,Za,Zag]
 ·rintro L ρ u k x d hk15 hx' hd hL hdeps hcl hI
  obtain ⟨hbu,tu⟩:=hI.2.1
  obtain rfl|rfl|rfl|rfl|rfl|rfl|rfl|rfl|rfl|rfl|rfl|rfl|rfl:k=0∨k=1∨k=2∨k=3∨k=4∨k=5∨k=6∨k=7∨k=8∨k=9∨k=10∨k=11∨k=12:=by omega
  all_goals (obtain rfl:=Option.some.inj hx';obtain rfl:=Option.some.inj hd)
  ·simp only [updO_some,ev_tmp,insVc,hI.frm (d:=0) (v:=ptr tb) (by simp)]
   exact hI.put 0 60 _ rfl (by simp) rfl rfl
  ·simp only [updO_some,ev_tmp,insVc,nilK,hI.get (k:=0) (d:=60) (v:=ptr tb) (by simp) (hdeps 0 (by decide))]
   exact hI.put 1 61 _ rfl (by simp) rfl rfl
  ·simp only [updO_some,ev_tmp,insVc,faddrK,Nat.add_zero,hI.get (k:=1) (d:=61) (v:=ptr tb) (by simp) (hdeps 1 (by decide))]
   exact hI.put 2 62 _ rfl (by simp) rfl rfl
  ·simp only [ZB,insVc,load1K,Za,Zah,hI.get (k:=2) (d:=62) (v:=ptr tb) (by simp) (hdeps 2 (by decide)),hbu.st]
   exact hI.put 3 63 _ rfl (by simp) rfl rfl
  ·simp only [updO_some,ev_tmp,insVc,faddrK,Nat.zero_add,hI.frm (d:=4) (v:=ptr w.heap.size) (by simp)]
   exact hI.put 4 64 _ rfl (by simp) rfl rfl
  ·simp only [updO_some,ev_tmp,insVc,faddrK,Nat.add_zero,hI.get (k:=4) (d:=64) (v:=.pointer (some ⟨w.heap.size,1,none⟩)) (by simp) (hdeps 4 (by decide))]
   exact hI.put 5 65 _ rfl (by simp) rfl rfl
  ·simp only [ZB,insVc,load1K,Za,Zag,Zah,hI.get (k:=5) (d:=65) (v:=.pointer (some ⟨w.heap.size,1,none⟩)) (by simp) (hdeps 5 (by decide)),tu]
   exact hI.put 6 66 _ rfl (by simp) rfl rfl
  ·simp only [updO_some,ev_tmp,insVc,Zae,Zab,hI.get (k:=3) (d:=63) (v:=.iface St.t St.v) (by simp) (hdeps 3 (by decide)),hI.get (k:=6) (d:=66) (v:=.string c.q.name) (by simp) (hdeps 6 (by decide))]
   refine find_c St.toSto s c.q.name m u _ hbu.at_ hbu.gl hs hv ?_
   rw [hF]
   intro u2 hm2 ha2
   exact (hI.world hm2 ⟨hbu.own he hm2 ha2,hm2.keep tu hnb⟩ hown).put 7 67 _ rfl (by simp) rfl rfl
  ·simp only [updO_some,ev_tmp,insVc,hI.get (k:=7) (d:=67) (v:=.tuple #[q.val,.int .i64 0]) (by simp) (hdeps 7 (by decide))]
   exact hI.put 8 59 _ rfl (by simp) rfl rfl
  ·simp only [updO_some,ev_tmp,insVc,loadV_some,extK,Za,Zah,hI.get (k:=8) (d:=59) (v:=.tuple #[q.val,.int .i64 0]) (by simp) (hdeps 8 (by decide))]
   exact hI.put 9 68 _ rfl (by simp) rfl rfl
  ·simp only [updO_some,ev_tmp,insVc,loadV_some,extK,Za,Zag,Zah,hI.get (k:=8) (d:=59) (v:=.tuple #[q.val,.int .i64 0]) (by simp) (hdeps 8 (by decide))]
   exact hI.put 10 69 _ rfl (by simp) rfl rfl
  ·simp only [updO_some,insVc,Value.cells]
   have hma:Mod (fun _=>False) u (u.alloc (.cells #[.string ⟨#[]⟩,.int .u32 0,.int .u64 0,.int .u32 0,.string ⟨#[]⟩] 121)):=(Mod.refl _ _).alloc _
   refine hI.alloc _ rfl ⟨hbu.keep0 hma,hma.keep tu id⟩ ?_ rfl rfl rfl
   cases h14:L 12 with
   | false=>rfl
   | true=>have:=hcl 12 _ rfl h14 11 (by decide);rw [this] at hL;cases hL
  ·obtain ⟨xb,cs,e1,e2,e3,e4,_⟩:=hI.box (hdeps 11 (by decide))
   have h20:=hI.get (k:=9) (d:=68) (v:=q.val) (by simp) (hdeps 9 (by decide))
   simp only [insVc,ev_tmp,e1,h20,Qu.val,storeNK,e3,storeNO_cells]
   refine ⟨by refine ⟨?_,by omega, ?_, ?_⟩ <;> simp [Qu.cells,isPlain], ?_⟩
   rw [setMany_all cs q.cells.toArray.toList (by rw [e4];rfl)]
   have hmx:Mod (fun k=>k=xb) u (Vc.set u xb (.cells q.cells.toArray 121 (0,0))):=(Mod.refl _ _).set (.inr rfl)
   have htb1:=lt_of_get hb1.st
   have hgl1:=hb1.gl.lt
   obtain ⟨_,_,hfo⟩:=hb1.fm
   have hfl:=lt_of_get hfo
   refine hI.store (hdeps 11 (by decide)) e1 rfl ⟨hbu.other hmx (fun k hk => ?_),hmx.keep tu (by have:=lt_of_get c1;omega)⟩ rfl rfl
   subst hk
   exact ⟨by omega,fun _ hf=>by have:=St.footLt _ _ _ hb1.at_ hf;omega,ownE_ne hbu.les e3 (by decide),by omega,by omega⟩
 rintro L ρ u x hall hI hx'
 obtain rfl:=Option.some.inj hx'
 obtain ⟨xb,cs,e1,e2,e3,e4,e5⟩:=hI.box (hall 11 (by decide))
 have hcs:=e5 (hall 12 (by decide))
 subst hcs
 have r0:=hI.frm (d:=0) (v:=ptr tb) (by simp)
 have rr2:=hI.frm (d:=2) (v:=ptr rb) (by simp)
 have r4:=hI.frm (d:=4) (v:=ptr w.heap.size) (by simp)
 have r21:=hI.get (k:=10) (d:=69) (v:=.int .i64 0) (by simp) (hall 10 (by decide))
 obtain ⟨hbu,tu⟩:=hI.2.1
 simp only [Qu.cells] at e3
 simp only [ZB,insVc,load1K,loadNK,iopK,iopV,faddrK,ne_eq,Nat.reduceEqDiff,Nat.reduceAdd,Nat.reduceLeDiff,reduceCtorEq,Zae,Zab,Za,Zah,Zai,Zak,Zaj,Zar,Zap,Zaq,Zao,Zas,Zat,r0,rr2,r4,r21,e1,z0,e3,tu,n6]
 have h1:=h u ((hm1.mono fun _ _ x=>x.elim).trans hI.1) hbu
 unfold Cm.val Cm.cells Qu.val Qu.cells at h1
 rw [hk] at h1
 refine Ok.mono h1 ?_
 intro v w' hK
 simp only [ZB,endK,resK,packed,insVc,Zad]
 exact hK
end Go.Oct
namespace Go.Oct
open Go Go.Vc Go.VrA Go.VrB Go.Proofs.Tryz
set_option maxRecDepth 100000
def qm:Ms:=⟨aB,1,0,5,e0⟩
def mkL:List UInt8:=[2,109,0,0,2,97,0,0,1,0,0,0,0,0,0,0,1]
def tkL:List UInt8:=[2,101,0,0,1,0,0,0,0,0,0,0,5,2,97,0,0,1,0,0,0,0,0,0,0,1]
theorem messageK_a:messageK aB 1=(⟨mkL.toArray⟩,0):=by decide
theorem termK_a:termK 5 aB 1=(⟨tkL.toArray⟩,0):=by decide
theorem keysR_qm:keysR qm=(⟨mkL.toArray⟩,⟨tkL.toArray⟩,0):=by
 unfold keysR
 simp only [show qm.queue=aB from rfl,show qm.id=1 from rfl,show qm.expiry=5 from rfl,messageK_a,termK_a]
 rfl
def MQ:M:=[(tkL,[]),(mkL,(mbytes qm).data.toList)]
theorem put_two:putM tkL [] (putM mkL (mbytes qm).data.toList [])=MQ:=by rfl
theorem under_e:underK ⟨#[101]⟩ []=(⟨#[2,101,0,0]⟩,⟨#[2,101,0,1]⟩):=by decide
theorem under_e5:(underK ⟨#[101]⟩ [num' 5]).1=⟨#[2,101,0,0,1,0,0,0,0,0,0,0,5]⟩:=by decide
theorem under_e6:(underK ⟨#[101]⟩ [num' 6]).1=⟨#[2,101,0,0,1,0,0,0,0,0,0,0,6]⟩:=by decide
theorem rng4:rngM [2,101,0,0] [2,101,0,0,1,0,0,0,0,0,0,0,5] MQ=[]:=by rfl
theorem rng5:rngM [2,101,0,0] [2,101,0,0,1,0,0,0,0,0,0,0,6] MQ=[(tkL,[])]:=by rfl
theorem parts_t:partsR ⟨tkL.toArray⟩=([str ⟨#[101]⟩,num' 5,str aB,num' 1],0):=by rfl
theorem parse_t:parseR ⟨tkL.toArray⟩=({ th0 with sort:=⟨#[101]⟩,at_:=5,queue:=aB,id:=1 },0):=by
 have h:fitsR [num' 5,str aB,num' 1] (shapeR ⟨#[101]⟩)=true:=by
  rw [show shapeR ⟨#[101]⟩=⟨#[110,115,110]⟩ by simp [shapeR,ByteArray.toList_eq]]
  decide
 unfold parseR
 rw [parts_t,if_neg (by simp),parseL_cons,if_neg]
 ·simp [thOf,ByteArray.toList_eq,str,num']
 ·simp only [str] at h ⊢
  rw [h];simp
theorem mread_qm:mread aB 1 (mbytes qm)=(qm,0):=by rfl
theorem madd_new (sb mb:Nat) (h0:3≠mb):(shelf sb mb h0).madd (0,[]) qm=(0,(2,MQ)):=by
 have hg:(shelf sb mb h0).get (0,[]) ⟨mkL.toArray⟩=((⟨#[]⟩,false,0),(0,[])):=rfl
 have hp1:(shelf sb mb h0).put (0,[]) ⟨mkL.toArray⟩ (mbytes qm)=(0,(1,putM mkL (mbytes qm).data.toList [])):=by
  have e:(shelf sb mb h0).put (0,[]) ⟨mkL.toArray⟩ (mbytes qm)=if (⟨mkL.toArray⟩:ByteArray).size > 255∨(mbytes qm).size > 65536 then (5,(0,[])) else (0,(1,putM mkL (mbytes qm).data.toList [])):=rfl
  rw [e,if_neg (by decide)]
 have hp2:(shelf sb mb h0).put (1,putM mkL (mbytes qm).data.toList []) ⟨tkL.toArray⟩ ⟨#[]⟩=(0,(2,MQ)):=by
  have e:(shelf sb mb h0).put (1,putM mkL (mbytes qm).data.toList []) ⟨tkL.toArray⟩ ⟨#[]⟩=if (⟨tkL.toArray⟩:ByteArray).size > 255∨(⟨#[]⟩:ByteArray).size > 65536 then (5,(1,putM mkL (mbytes qm).data.toList [])) else (0,(2,putM tkL [] (putM mkL (mbytes qm).data.toList []))):=rfl
  rw [e,if_neg (by decide),put_two]
 have he:emptyB ⟨tkL.toArray⟩=false:=by simp [emptyB,ByteArray.toList_eq,tkL]
 unfold Sto.madd Sto.mput
 rw [keysR_qm]
 simp only [hg,hp1,he,hp2]
 simp
theorem dueRows4 (sb mb:Nat) (h0:3≠mb):(shelf sb mb h0).dueRows (2,MQ) 4=[]:=by
 unfold Sto.dueRows dueTo
 rw [if_pos (by decide),under_e,under_e5]
 show okRows (rngM [2,101,0,0] [2,101,0,0,1,0,0,0,0,0,0,0,5] MQ)=_
 rw [rng4];rfl
theorem dueRows5 (sb mb:Nat) (h0:3≠mb):(shelf sb mb h0).dueRows (2,MQ) 5=[((tkL,[]),0)]:=by
 unfold Sto.dueRows dueTo
 rw [if_pos (by decide),under_e,under_e6]
 show okRows (rngM [2,101,0,0] [2,101,0,0,1,0,0,0,0,0,0,0,6] MQ)=_
 rw [rng5];rfl
theorem get_mq (sb mb:Nat) (h0:3≠mb):(shelf sb mb h0).get (2,MQ) ⟨mkL.toArray⟩=((mbytes qm,true,0),(2,MQ)):=by
 show (((⟨((lookM mkL MQ).getD []).toArray⟩:ByteArray),(lookM mkL MQ).isSome,(0:Int)),((2,MQ):Nat × M))=_
 have e:lookM mkL MQ=some (mbytes qm).data.toList:=by rfl
 rw [e]
 simp only [Zac,Zcd,mk_toList]
theorem dueL5 (sb mb:Nat) (h0:3≠mb):dueL (shelf sb mb h0) (2,MQ) [((tkL,[]),0)]=[(qm,0)]:=by
 have hm:(shelf sb mb h0).mgetR (2,MQ) aB 1=(qm,0):=by
  unfold Sto.mgetR mfound
  rw [messageK_a]
  simp only [get_mq]
  simp only [mread_qm]
  simp
 have hd:dgot (shelf sb mb h0) (2,MQ) ((tkL,[]),0)=(qm,0):=by
  unfold dgot dueG
  simp only [parse_t,hm]
  simp [qm]
 rw [dueL_cons,hd]
 simp [dueL]
theorem awake62_c (m:Int) (w:World) (K:Value→World→Prop) (hg:Gl m w) (h:∀w',Mod (fun _=>False) w w'→K (.bool true) w'):Ok prog 83 #[] w K:=by
 refine F83.enter (args:=[]) (by simp) ?_
 unfold c83 r83
 simp only [ZB,insVc,Zab]
 refine awake_c m w _ hg ?_
 intro w1 hm1
 simp only [ZB,endK,resK,packed,insVc,Zad]
 exact h w1 hm1
theorem awake22_c (m:Int) (w:World) (K:Value→World→Prop) (hg:Gl m w) (h:∀w',Mod (fun _=>False) w w'→K (.bool true) w'):Ok prog 69 #[] w K:=by
 refine F69.enter (args:=[]) (by simp) ?_
 unfold c69 r69
 simp only [ZB,insVc,Zae,Zab]
 have h0w:3<w.heap.size:=World.block_lt_of_cell? w _ hg
 refine new_c [] _ w _ (.inl ⟨rfl,_,rfl⟩) (by simp) (fun _ h=>by cases h) ?_
 intro w1 sb mb hm1 hsb hmb hs1
 have h0:3≠mb:=by omega
 have hs1':(shelf sb mb h0).At (0,[]) w1:=hs1
 have hown:∀i,(shelf sb mb h0).own i→w.heap.size≤i:=fun i hk=>by have hk':i=mb:=hk;omega
 simp only [ZB,insVc,nilOf,pnilK,Zab,Zaf,Zbq]
 refine awake62_c m w1 _ (hg.mod hm1 id) ?_
 intro w2 hm2
 have hm12:=hm1.trans hm2
 have hs2:=(shelf sb mb h0).keep0 hs1' hm2
 simp only [ZB,insVc,pickK,notK,buildK,fillL,Value.cells,ne_eq,Nat.reduceEqDiff,Nat.reduceAdd,Nat.reduceLeDiff,Zae,Zab,Zai,Zak,Zaj,Zbe,Zbf,Zbd,Zbc,Zal,Zam,Zan,Zbh,Zaa,Zaf]
 refine madd_c (shelf sb mb h0) (0,[]) qm m w2 _ hs2 (hg.mod hm12 id) (by decide) (by decide) ⟨by decide,by decide,by decide⟩ (show (0:Nat)<maxLen by decide) ?_ (by have:=hm12.size;omega) ?_
 ·rw [keysR_qm]
  show (shelf sb mb h0).fit ((shelf sb mb h0).put (0,[]) ⟨mkL.toArray⟩ (mbytes qm)).2
  have e:(shelf sb mb h0).put (0,[]) ⟨mkL.toArray⟩ (mbytes qm)=if (⟨mkL.toArray⟩:ByteArray).size > 255∨(mbytes qm).size > 65536 then (5,(0,[])) else (0,(1,putM mkL (mbytes qm).data.toList [])):=rfl
  rw [e,if_neg (by decide)]
  show (1:Nat)<maxLen
  decide
 rw [madd_new]
 intro w3 hm3 hs3
 have hm13:Mod (fun _=>False) w w3:=hm12.then hm3 (fun i hi hk=>by have:=hown i hk;omega)
 simp only [ZB,insVc,ne_eq,Nat.reduceEqDiff,Zae,Zab]
 have hpg:=pureGet_shelf sb mb h0 (2,MQ)
 have hpr:=pure_shelf sb mb h0 (2,MQ) (show 2*16≤140737488355328 by decide)
 refine due_c (shelf sb mb h0) (2,MQ) hpg hpr 4 m w3 _ hs3 (hg.mod hm13 id) (by decide) (by rw [dueRows4];intro r hr;cases hr) ?_
 rw [dueRows4]
 intro w4 gf cap hm4 it
 have hm14:=hm13.trans hm4
 have hs4:=(shelf sb mb h0).keep0 hs3 hm4
 simp only [ZB,insVc,Zae,Zab]
 have hkp:∀(lo:Nat) (wK:World) (hsK:(shelf sb mb h0).At (2,MQ) wK) (S:Nat→Prop) (a b:World),((shelf sb mb h0).At (2,MQ) a∧Gl m a∧Kept lo wK a)→Mod S a b→(∀k,S k→wK.heap.size≤k)→w.heap.size≤wK.heap.size→((shelf sb mb h0).At (2,MQ) b∧Gl m b∧Kept lo wK b):=by
  rintro lo wK hsK S a b ⟨x1,x2,x3⟩ hm hS hw
  refine ⟨(shelf sb mb h0).keep _ _ a b x1 hm (fun k _ hk hf => ?_),x2.mod hm (fun hk=>by have:=hS _ hk;omega),x3.keep hm (fun k _ hk hk'=>by have:=hS k hk';omega)⟩
  have:=(shelf sb mb h0).footLt _ _ k hsK hf
  have:=hS k hk
  omega
 refine all_c gf cap _ _ w4 _ it (by simp [dueL]) ⟨hs4,hg.mod hm14 id,Kept.refl _ _⟩ (fun S a b x1 x2 x3=>hkp _ w4 hs4 S a b x1 x2 x3 hm14.size) ?_
 intro w5 v5 hm5 hv5 _
 have hm15:=hm14.trans hm5
 have hs5:=(shelf sb mb h0).keep0 hs4 hm5
 have hE0:firstE (dueL (shelf sb mb h0) (2,MQ) [])=0:=rfl
 have ho5:=hv5 hE0
 rw [hE0]
 simp only [ZB,insVc,extK,ne_eq,Nat.reduceEqDiff,Zae,Zab,Za,Zag,Zah]
 refine due_c (shelf sb mb h0) (2,MQ) hpg hpr 5 m w5 _ hs5 (hg.mod hm15 id) (by decide) ?_ ?_
 ·rw [dueRows5]
  intro r hr
  rw [List.mem_singleton.1 hr]
  simp only [parse_t]
  refine ⟨by decide,by decide, ?_⟩
  rw [messageK_a]
  simp only [get_mq]
  decide
 rw [dueRows5,dueL5]
 intro w6 gf6 cap6 hm6 it6
 have hm16:=hm15.trans hm6
 have hs6:=(shelf sb mb h0).keep0 hs5 hm6
 simp only [ZB,insVc,Zae,Zab]
 refine all_c gf6 cap6 _ _ w6 _ it6 (by simp) ⟨hs6,hg.mod hm16 id,Kept.refl _ _⟩ (fun S a b x1 x2 x3=>hkp _ w6 hs6 S a b x1 x2 x3 hm16.size) ?_
 intro w7 v7 hm7 hv7 _
 have hm17:=hm16.trans hm7
 have hE1:firstE [(qm,(0:Int))]=0:=rfl
 have ho7:=hv7 hE1
 rw [hE1]
 have hl5:∃a c,v5 = .slice a 0 c:=by
  rcases ho5.2 with ⟨rfl,_⟩|⟨g,cap,cur,rfl,_⟩ <;> exact ⟨_,_,rfl⟩
 have hl7:∃a c,v7 = .slice a 1 c:=by
  rcases ho7.2 with ⟨_,hx⟩|⟨g,cap,cur,rfl,_⟩
  ·simp at hx
  ·exact ⟨_,_,rfl⟩
 obtain ⟨a5,c5,rfl⟩:=hl5
 obtain ⟨a7,c7,rfl⟩:=hl7
 have z0:(((0:Nat):Int) == 0)=true:=rfl
 have z1:(((1:Nat):Int) == 1)=true:=rfl
 have z2:((0:Int) == 0)=true:=rfl
 simp only [ZB,endK,resK,packed,insVc,pickK,iopK,iopV,extK,lenLK,ne_eq,Nat.reduceEqDiff,reduceCtorEq,Za,Zag,Zah,Zad,Zaa,z0,z1,z2]
 exact h w7 hm17
theorem awake118_c (m:Int) (w:World) (K:Value→World→Prop) (hg:Gl m w) (h:∀w',Mod (fun _=>False) w w'→K (.bool true) w'):Ok prog 54 #[] w K:=by
 refine F54.enter (args:=[]) (by simp) ?_
 unfold c54 r54
 simp only [ZB,insVc,Zab]
 refine awake22_c m w _ hg ?_
 intro w1 hm1
 simp only [ZB,endK,resK,packed,insVc,Zad]
 exact h w1 hm1
end Go.Oct
namespace Go.Oct
open Go Go.Vc Go.VrA Go.VrB Go.VrE Go.VrH Go.VrI Go.VrJ
set_option maxRecDepth 100000
def hiB:ByteArray:=⟨#[104,105]⟩
def ms0':Ms:=⟨aB,1,0,0,hiB⟩
def ms1':Ms:=⟨aB,1,1,0,hiB⟩
def idkL:List UInt8:=[2,99,0,0,2,105,100,0,0]
theorem counterK_id:counterK idB=(⟨idkL.toArray⟩,0):=by decide
def S1:M:=[(qkL,(qbytes qa).data.toList)]
def S2:M:=putM idkL (cbytes 1).data.toList S1
def S3:M:=putM mkL (mbytes ms0').data.toList S2
def S4:M:=putM mkL (mbytes ms1').data.toList S3
def S5:M:=delM mkL S4
theorem lookQ1:lookM qkL S1=some (qbytes qa).data.toList:=by rfl
theorem lookQ3:lookM qkL S3=some (qbytes qa).data.toList:=by rfl
theorem lookI1:lookM idkL S1=none:=by rfl
theorem lookM2:lookM mkL S2=none:=by rfl
theorem lookM3:lookM mkL S3=some (mbytes ms0').data.toList:=by rfl
theorem lookM4:lookM mkL S4=some (mbytes ms1').data.toList:=by rfl
theorem keysR_ms0:keysR ms0'=(⟨mkL.toArray⟩,e0,0):=by
 unfold keysR
 simp only [show ms0'.queue=aB from rfl,show ms0'.id=1 from rfl,messageK_a]
 rw [if_pos (.inr rfl)]
theorem keysR_ms1:keysR ms1'=(⟨mkL.toArray⟩,e0,0):=by
 unfold keysR
 simp only [show ms1'.queue=aB from rfl,show ms1'.id=1 from rfl,messageK_a]
 rw [if_pos (.inr rfl)]
theorem mread_ms0:mread aB 1 (mbytes ms0')=(ms0',0):=by rfl
theorem mread_ms1:mread aB 1 (mbytes ms1')=(ms1',0):=by rfl
theorem empty_e0:emptyB e0=true:=by simp [emptyB,e0,ByteArray.toList_eq]
section
variable (sb mb:Nat) (h0:3≠mb)
theorem sget (n:Nat) (M0:M) (k:List UInt8):(shelf sb mb h0).get (n,M0) ⟨k.toArray⟩=((⟨((lookM k M0).getD []).toArray⟩,(lookM k M0).isSome,0),(n,M0)):=rfl
theorem sput (n:Nat) (M0:M) (k:List UInt8) (x:ByteArray) (hk:k.length≤255) (hx:x.size≤65536):(shelf sb mb h0).put (n,M0) ⟨k.toArray⟩ x=(0,(n+1,putM k x.data.toList M0)):=by
 have e:(shelf sb mb h0).put (n,M0) ⟨k.toArray⟩ x=if (⟨k.toArray⟩:ByteArray).size > 255∨x.size > 65536 then (5,(n,M0)) else (0,(n+1,putM k x.data.toList M0)):=rfl
 have hs:(⟨k.toArray⟩:ByteArray).size=k.length:=mk_size k
 rw [e,if_neg (by rw [hs];omega)]
theorem findQ (n:Nat) (M0:M) (hl:lookM qkL M0=some (qbytes qa).data.toList):(shelf sb mb h0).find (n,M0) aB=((qa,0),(n,M0)):=by
 rw [find_shelf,hl]
 rfl
theorem declare1:(shelf sb mb h0).declare (0,[]) qa=(0,(1,S1)):=by
 rw [declare_shelf,find_new]
 rfl
theorem next1:(shelf sb mb h0).next (1,S1) idB=((1,0),(2,S2)):=by
 unfold Sto.next
 rw [counterK_id,if_neg (by decide)]
 simp only [sget,lookI1,Option.isSome_none,Bool.false_eq_true,Zaf,ne_eq,not_true_eq_false]
 rw [if_neg (by decide),sput sb mb h0 1 S1 idkL (cbytes (0+1)) (by decide) (by decide)]
 rfl
theorem madd1:(shelf sb mb h0).madd (2,S2) ms0'=(0,(3,S3)):=by
 unfold Sto.madd Sto.mput
 rw [keysR_ms0]
 simp only [sget,lookM2]
 rw [sput sb mb h0 2 S2 mkL (mbytes ms0') (by decide) (by decide)]
 simp only [empty_e0]
 rfl
theorem mget3:(shelf sb mb h0).mgetR (3,S3) aB 1=(ms0',0):=by
 unfold Sto.mgetR mfound
 rw [messageK_a,if_neg (by decide)]
 simp only [sget,lookM3,Zac,Zcd]
 rw [if_neg (by decide),if_neg (by decide)]
 exact mread_ms0
theorem mget4:(shelf sb mb h0).mgetR (4,S4) aB 1=(ms1',0):=by
 unfold Sto.mgetR mfound
 rw [messageK_a,if_neg (by decide)]
 simp only [sget,lookM4,Zac,Zcd]
 rw [if_neg (by decide),if_neg (by decide)]
 exact mread_ms1
theorem msave1:(shelfC sb mb h0).msave (3,S3) ms1'=(0,(4,S4)):=by
 unfold StoC.msave
 have hg:(shelfC sb mb h0).mgetR (3,S3) ms1'.queue ms1'.id=(ms0',0):=mget3 sb mb h0
 simp only [hg,keysR_ms1]
 rw [if_neg (by decide),if_neg (by decide),if_pos (show ms0'.expiry=ms1'.expiry from rfl)]
 unfold Sto.mput
 rw [keysR_ms1]
 have hp:(shelfC sb mb h0).put (3,S3) ⟨mkL.toArray⟩ (mbytes ms1')=(0,(4,S4)):=sput sb mb h0 3 S3 mkL (mbytes ms1') (by decide) (by decide)
 simp only [hp,empty_e0]
 rfl
theorem mtake1:(shelfC sb mb h0).mtake (4,S4) aB 1=((ms1',0),(4,S5)):=by
 have hg:(shelfC sb mb h0).mgetR (4,S4) aB 1=(ms1',0):=mget4 sb mb h0
 have hc:(shelfC sb mb h0).mcut (4,S4) ms1'=(0,(4,S5)):=by
  unfold StoC.mcut
  rw [keysR_ms1]
  have hk:(shelfC sb mb h0).cut (4,S4) ⟨mkL.toArray⟩=((true,0),(4,S5)):=by
   show (((lookM mkL S4).isSome,(0:Int)),((4,delM mkL S4):Nat × M))=_
   rw [lookM4];rfl
  simp only [hk,empty_e0]
  rfl
 unfold StoC.mtake
 simp only [hg,hc]
 rfl
theorem bounds_a:boundsL aB 0=(⟨#[2,109,0,0,2,97,0,0,1,0,0,0,0,0,0,0,0]⟩,⟨#[2,109,0,0,2,97,0,1]⟩):=by decide
theorem rng_3:rngM [2,109,0,0,2,97,0,0,1,0,0,0,0,0,0,0,0] [2,109,0,0,2,97,0,1] S3=[(mkL,(mbytes ms0').data.toList)]:=by rfl
theorem parts_m:partsR ⟨mkL.toArray⟩=([str ⟨#[109]⟩,str aB,num' 1],0):=by rfl
theorem parse_m:parseR ⟨mkL.toArray⟩=({ th0 with sort:=⟨#[109]⟩,queue:=aB,id:=1 },0):=by
 have h:fitsR [str aB,num' 1] (shapeR ⟨#[109]⟩)=true:=by
  rw [show shapeR ⟨#[109]⟩=⟨#[115,110]⟩ by simp [shapeR,ByteArray.toList_eq]]
  decide
 unfold parseR
 rw [parts_m,if_neg (by simp),parseL_cons,if_neg]
 ·simp [thOf,ByteArray.toList_eq,str,num']
 ·simp only [str] at h ⊢
  rw [h];simp
theorem lgot_m:lgot ((mkL,(mbytes ms0').data.toList),0)=(ms0',0):=by
 unfold lgot
 simp only [parse_m,mk_self]
 rw [if_neg (by decide),if_neg (by decide)]
 exact mread_ms0
theorem list1:(shelf sb mb h0).listRows (3,S3) aB 0=[(ms0',0)]:=by
 unfold Sto.listRows
 rw [bounds_a,if_neg (by simp [emptyB,ByteArray.toList_eq])]
 show rowL (okRows (rngM [2,109,0,0,2,97,0,0,1,0,0,0,0,0,0,0,0] [2,109,0,0,2,97,0,1] S3))=_
 rw [rng_3]
 show rowL [((mkL,(mbytes ms0').data.toList),0)]=_
 rw [rowL_cons,lgot_m]
 rfl
end
end Go.Oct
namespace Go.Oct
open Go Go.Vc Go.VrA Go.VrB Go.VrE Go.VrH Go.VrI Go.VrJ Go.Proofs.Tryz
set_option maxRecDepth 100000
theorem begun_c (m:Int) (w:World) (K:Value→World→Prop) (hg:Gl m w) (hf:Forms w)
  (h:∀w' tb sb mb (h0:3≠mb),Mod (fun _=>False) w w'→w.heap.size≤tb→w.heap.size≤sb→w.heap.size≤mb→BrAt (shelfC sb mb h0) tb m (0,[]) [] (.slice none 0 0) 0 w'→K (ptr tb) w'):Ok prog 57 #[] w K:=by
 refine F57.enter (args:=[]) (by simp) ?_
 unfold c57 r57
 have hgl:=hg.lt
 have hfl:2<w.heap.size:=by obtain ⟨_,_,hh⟩:=hf;exact lt_of_get hh
 simp only [ZB,insVc,Zae,Zab]
 refine new_c [] _ w _ (.inl ⟨rfl,_,rfl⟩) (by simp) (fun _ h=>by cases h) ?_
 intro w1 sb mb hm1 hsb hmb hs1
 have h0:3≠mb:=by omega
 simp only [ZB,insVc,Zab]
 refine lkeys_c w1 _ ?_
 intro w2 hm2
 have hs2:(shelfC sb mb h0).At (0,[]) w2:=(shelfC sb mb h0).toSto.keep0 hs1 hm2
 have hsl:=(shelfC sb mb h0).footLt _ _ sb hs2 (.inl rfl)
 have hml:=(shelfC sb mb h0).footLt _ _ mb hs2 (.inr rfl)
 simp only [ZB,endK,resK,packed,insVc,buildK,fillL,Value.cells,ne_eq,Nat.reduceEqDiff,Nat.reduceAdd,Nat.reduceLeDiff,Zai,Zak,Zaj,Zbe,Zbf,Zbd,Zbc,Zal,Zam,Zan,Zad,Zbh,Zaa,tabV]
 have hm3:Mod (fun _=>False) w2 (w2.alloc (.cells #[.iface 134 (ptr sb),.func (.func 92) #[] #[],.slice none 0 0,.int .u64 0] 144)):=(Mod.refl _ _).alloc _
 refine h _ w2.heap.size sb mb h0 ((hm1.trans hm2).trans hm3) (hm1.trans hm2).size hsb hmb ?_
 refine ⟨get_alloc_new _ _,(shelfC sb mb h0).toSto.keep0 hs2 hm3,OwnE.nil _ _,((hg.mod hm1 id).mod hm2 id).mod hm3 id,((hf.mod0 hm1).mod0 hm2).mod0 hm3, ?_, ?_,by decide⟩
 ·rintro (x|x) <;> omega
 ·show ¬2=mb
  omega
def cA:Cm:={ cm0 1 with q:=qa }
def cB:Cm:={ cm0 5 with key:=aB,body:=hiB }
def cC:Cm:={ cm0 6 with q:=qa,n:=1,time:=5 }
def cD:Cm:={ cm0 7 with q:=qa,id:=1,token:=1 }
theorem cA_fine:cA.fine:=by constructor <;> decide
theorem cB_fine:cB.fine:=by constructor <;> decide
theorem cC_fine:cC.fine:=by constructor <;> decide
theorem cD_fine:cD.fine:=by constructor <;> decide
theorem cA_err:cA.err=0:=Cm.err_ok cA (by decide) rfl (by decide) (by decide)
theorem cB_err:cB.err=0:=Cm.err_ok cB (by decide) rfl (by decide) (by decide)
theorem cC_err:cC.err=0:=Cm.err_ok cC (by decide) rfl (by decide) (by decide)
theorem cD_err:cD.err=0:=Cm.err_ok cD (by decide) rfl (by decide) (by decide)
def msL:Le:=⟨aB,1,5⟩
theorem untilN:untilE aB 1 []=none:=by rfl
theorem untilY:(untilE aB 1 [msL]).isSome=true:=by simp [untilE,eqKey,msL]
theorem freeY:freeE aB 1 [msL]=[]:=by simp [freeE,findE,eqKey,msL]
section
variable {tb sb mb:Nat} {h0:3≠mb} {m:Int} {v:Value} {w:World}
theorem slc_none:IsSlc3 (.slice none 0 0):=⟨_,_,_,rfl⟩
theorem doA_c (K:Value→World→Prop) (hb:BrAt (shelfC sb mb h0) tb m (0,[]) [] v 0 w)
  (h:∀w',Mod (fun k=>k=mb∨k=tb) w w'→BrAt (shelfC sb mb h0) tb m (1,S1) [] v 0 w'→K (.agg (rpV 0 (.slice none 0 0) (.slice none 0 0) (.slice none 0 0) (.slice none 0 0))) w') :
  Ok prog 58 #[ptr tb,cA.val] w K:=by
 have he:=entFree_shelf sb mb h0
 refine do_c cA w K (fun rb n vi vl vd vm u=>(n=0∧vi = .slice none 0 0∧vl = .slice none 0 0∧vd = .slice none 0 0∧vm = .slice none 0 0)∧BrAt (shelfC sb mb h0) tb m (1,S1) [] v 0 u) cA_fine cA_err hb ?_ ?_
 ·intro w1 rb G hm1 hb1 hr1 hrb hG
  have hgs:∀k,((shelf sb mb h0).get (0,[]) k).1.1.size<2^60:=fun k=>get_size sb mb h0 (0,[]) _ (by decide) (fun p hp=>by cases hp) k
  refine act1_c cA rb (1,S1) w1 G he hb1 rfl (by decide) ⟨by decide,by decide,by decide,by decide⟩ (by decide) hgs (fun k => ?_) ?_ ?_ (declare1 sb mb h0) ?_
  ·show ((shelf sb mb h0).get ((shelf sb mb h0).find (0,[]) aB).2 k).1.1.size<_
   rw [find_state];exact hgs k
  ·show (shelf sb mb h0).fit ((shelf sb mb h0).find (0,[]) aB).2
   rw [find_state];show (0:Nat)<maxLen;decide
  ·show (shelf sb mb h0).fit ((shelf sb mb h0).find ((shelf sb mb h0).find (0,[]) aB).2 _).2
   rw [find_state,find_state];show (0:Nat)<maxLen;decide
  intro w2 hm2 hb2
  refine hG w2 0 _ _ _ _ (hm2.mono fun _ _ x=>.inl x) (hm2.keep hr1 (fun x => ?_)) ⟨slc_none,slc_none,slc_none,slc_none⟩ ⟨⟨rfl,rfl,rfl,rfl,rfl⟩,hb2⟩
  have:=(shelfC sb mb h0).footLt _ _ _ hb.at_ ((shelfC sb mb h0).ownFoot _ x)
  omega
 ·rintro w2 w3 ob rb n vi vl vd vm hob hor ⟨⟨rfl,rfl,rfl,rfl,rfl⟩,hb2⟩ ho hw3 hm3
  have hm:Mod (fun k=>k=ob) w2 w3:=by rw [hw3];exact (Mod.refl _ _).set (.inr rfl)
  have htb:=lt_of_get hb.st
  have hgl:=hb.gl.lt
  have hfl:2<w.heap.size:=by obtain ⟨_,_,hh⟩:=hb.fm;exact lt_of_get hh
  refine h w3 hm3 (hb2.other hm (fun k hk => ?_))
  subst hk
  exact ⟨by omega,fun _ hf=>by have:=(shelfC sb mb h0).footLt _ _ _ hb.at_ hf;omega,ownE_ne hb2.les ho (by decide),by omega,by omega⟩
theorem ownRow_ne {B k n sz:Nat} {e T:TypeId} {xs:List Value} {cs:Array Value} {f:Nat × Nat} {x:Value} (hv:w.ownsRow B e sz x n xs) (hk:w.heap[k]? = some (.cells cs T f)) (hT:T≠e):x.ownBlock≠some k:=by
 intro hh
 rcases hv.2 with ⟨hx,_⟩|⟨g,cap,cur,hx,_,hg,_⟩
 ·rw [hx] at hh;cases hh
 ·rw [hx] at hh
  have hgk:g=k:=Option.some.inj hh
  rw [hgk,hk] at hg
  cases hg
  exact hT rfl
theorem S_small:∀M0,M0=S1∨M0=S2∨M0=S3∨M0=S4→∀p∈M0,p.2.length<2^60:=by
 rintro M0 (rfl|rfl|rfl|rfl) p hp
 ·revert p;decide
 ·revert p;decide
 ·revert p;decide
 ·revert p;decide
theorem doB_c (K:Value→World→Prop) (hb:BrAt (shelfC sb mb h0) tb m (1,S1) [] v 0 w)
  (h:∀w' vi,Mod (fun k=>k=mb∨k=tb) w w'→BrAt (shelfC sb mb h0) tb m (3,S3) [] v 0 w'→OwnU w' 0 vi [1]→(∀k,vi.ownBlock=some k→w.heap.size≤k)→K (.agg (rpV 1 vi (.slice none 0 0) (.slice none 0 0) (.slice none 0 0))) w') :
  Ok prog 58 #[ptr tb,cB.val] w K:=by
 have he:=entFree_shelf sb mb h0
 have htb:=lt_of_get hb.st
 have hgl:=hb.gl.lt
 have hfl:2<w.heap.size:=by obtain ⟨_,_,hh⟩:=hb.fm;exact lt_of_get hh
 refine do_c cB w K (fun rb n vi vl vd vm u=>(n=1∧vl = .slice none 0 0∧vd = .slice none 0 0∧vm = .slice none 0 0)∧(OwnU u 0 vi [1]∧∀k,vi.ownBlock=some k→w.heap.size≤k)∧BrAt (shelfC sb mb h0) tb m (3,S3) [] v 0 u) cB_fine cB_err hb ?_ ?_
 ·intro w1 rb G hm1 hb1 hr1 hrb hG
  refine act5_c cB rb w1 G rfl ?_
  intro w2 hm2
  have hb2:=hb1.keep0 hm2
  have hrf:¬(shelfC sb mb h0).foot rb:=fun x=>by have:=(shelfC sb mb h0).footLt _ _ _ hb.at_ x;omega
  have hms:comeM cB.key cB.body 1 0 cB.time qa.ttl=ms0':=by rfl
  refine publish0_c cB 1 rb qa (1,S1) (2,S2) (3,S3) w2 G he hb2 rfl (by decide) (hm2.keep hr1 id) hrf (by omega) (by omega) (by omega) (by decide) (findQ sb mb h0 1 S1 lookQ1) (findQ sb mb h0 1 S1 lookQ1) rfl (next1 sb mb h0) (by rw [hms];exact madd1 sb mb h0) (by decide) (by decide)
   (get_size sb mb h0 (1,S1) _ (by decide) (S_small _ (.inl rfl)) _) (get_size sb mb h0 (1,S1) _ (by decide) (S_small _ (.inl rfl)) _) (show (1:Nat)<maxLen by decide) (show (2:Nat)<maxLen by decide) ?_ ?_
  ·rw [hms,keysR_ms0]
   have e:=sput sb mb h0 2 S2 mkL (mbytes ms0') (by decide) (by decide)
   show (shelf sb mb h0).fit ((shelf sb mb h0).put (2,S2) ⟨mkL.toArray⟩ (mbytes ms0')).2
   rw [e]
   show (3:Nat)<maxLen;decide
  ·intro w3 vi hm3 hb3 hr3 hvi hbl
   refine hG w3 1 vi _ _ _ ((hm2.mono fun _ _ x=>x.elim).then hm3 (fun _ _ x => ?_)) hr3 ⟨?_,slc_none,slc_none,slc_none⟩ ⟨⟨rfl,rfl,rfl,rfl⟩,⟨hvi,fun k hk=>by have:=hbl k hk;have:=hm1.size;have:=hm2.size;omega⟩,hb3⟩
   ·rcases x with x|x
    ·exact .inl x
    ·exact .inr (.inl x)
   ·obtain ⟨a,c,hx⟩:=hvi.form
    exact ⟨_,_,_,hx⟩
 ·rintro w2 w3 ob rb n vi vl vd vm hob hor ⟨⟨rfl,rfl,rfl,rfl⟩,⟨hvi,hvl⟩,hb2⟩ ho hw3 hm3
  have hm:Mod (fun k=>k=ob) w2 w3:=by rw [hw3];exact (Mod.refl _ _).set (.inr rfl)
  refine h w3 vi hm3 (hb2.other hm (fun k hk => ?_)) (hvi.keep hm (fun k hk x => ?_)) hvl
  ·subst hk
   exact ⟨by omega,fun _ hf=>by have:=(shelfC sb mb h0).footLt _ _ _ hb.at_ hf;omega,ownE_ne hb2.les ho (by decide),by omega,by omega⟩
  ·subst x
   exact ownRow_ne hvi ho (by decide) hk
theorem doC_c (K:Value→World→Prop) (hb:BrAt (shelfC sb mb h0) tb m (3,S3) [] v 0 w)
  (h:∀w' v' vm,Mod (fun k=>k=mb∨k=tb) w w'→BrAt (shelfC sb mb h0) tb m (4,S4) [msL] v' 0 w'→OwnMs w' 0 vm [ms1']→(∀k,vm.ownBlock=some k→w.heap.size≤k)→K (.agg (rpV 0 (.slice none 0 0) (.slice none 0 0) (.slice none 0 0) vm)) w') :
  Ok prog 58 #[ptr tb,cC.val] w K:=by
 have he:=entFree_shelf sb mb h0
 have htb:=lt_of_get hb.st
 have hgl:=hb.gl.lt
 have hfl:2<w.heap.size:=by obtain ⟨_,_,hh⟩:=hb.fm;exact lt_of_get hh
 refine do_c cC w K (fun rb n vi vl vd vm u=>(n=0∧vi = .slice none 0 0∧vl = .slice none 0 0∧vd = .slice none 0 0)∧(OwnMs u 0 vm [ms1']∧∀k,vm.ownBlock=some k→w.heap.size≤k)∧∃v',BrAt (shelfC sb mb h0) tb m (4,S4) [msL] v' 0 u) cC_fine cC_err hb ?_ ?_
 ·intro w1 rb G hm1 hb1 hr1 hrb hG
  refine act6_c cC qa rb w1 G he hb1 rfl (by decide) (get_size sb mb h0 (3,S3) _ (by decide) (S_small _ (.inr (.inr (.inl rfl)))) _) (findQ sb mb h0 3 S3 lookQ3) ?_
  intro w2 hm2 hb2
  have hrf:¬(shelfC sb mb h0).foot rb:=fun x=>by have:=(shelfC sb mb h0).footLt _ _ _ hb.at_ x;omega
  have hto:tb≠3∧tb≠2:=⟨fun x=>by have hh:=hb.gl;have hs:=hb.st;rw [x] at hs;unfold Gl at hh;simp [World.cell?,hs] at hh,fun x=>by obtain ⟨_,_,hh⟩:=hb.fm;rw [← x,hb.st] at hh;cases hh⟩
  have hg3:=mget3 sb mb h0
  have hcut:(shelfC sb mb h0).mcut (3,S3) ms0'=(0,(3,delM mkL S3)):=by
   unfold StoC.mcut
   rw [keysR_ms0]
   have hk:(shelfC sb mb h0).cut (3,S3) ⟨mkL.toArray⟩=((true,0),(3,delM mkL S3)):=by
    show (((lookM mkL S3).isSome,(0:Int)),((3,delM mkL S3):Nat × M))=_
    rw [lookM3];rfl
   simp only [hk,empty_e0]
   rfl
  refine deliver1_c qa cC ms0' rb (4,S4) w2 G he hb2 rfl hto (by decide) (by decide) (pure_shelf sb mb h0 (3,S3) (by decide)) (by decide) ?_ (list1 sb mb h0) untilN (hm2.keep hr1 (fun x=>hrf ((shelfC sb mb h0).ownFoot _ x))) hrf (by omega) (by omega) (by omega) (by decide) (by decide)
   (pureGet_shelf sb mb h0 (3,S3)) (by decide) (by decide) (by decide) (by decide) (by decide) (get_size sb mb h0 (3,S3) _ (by decide) (S_small _ (.inr (.inr (.inl rfl)))) _) ?_ ?_ (msave1 sb mb h0) ?_
  ·intro r hr
   have e:((shelfC sb mb h0).rng (3,S3) (boundsL qa.name 0).1 (boundsL qa.name 0).2).1=okRows (rngM [2,109,0,0,2,97,0,0,1,0,0,0,0,0,0,0,0] [2,109,0,0,2,97,0,1] S3):=by
    show ((shelfC sb mb h0).rng (3,S3) (boundsL aB 0).1 (boundsL aB 0).2).1=_
    rw [bounds_a];rfl
   rw [e,rng_3] at hr
   rw [List.mem_singleton.1 hr]
   decide
  ·have e:(shelfC sb mb h0).mgetR (3,S3) ms0'.queue ms0'.id=(ms0',0):=hg3
   rw [e]
   decide
  ·have e:(shelfC sb mb h0).mgetR (3,S3) ms0'.queue ms0'.id=(ms0',0):=hg3
   have fit:∀n M0,n<10→(shelfC sb mb h0).fit (n,M0):=fun n M0 hn=>Nat.lt_trans hn (by decide:10<maxLen)
   intro s' hs'
   rw [e,hcut] at hs'
   rw [show keysR { ms0' with tries:=ms0'.tries+1 }=(⟨mkL.toArray⟩,e0,0) from keysR_ms1]
   have pu:∀n M0,(shelfC sb mb h0).put (n,M0) ⟨mkL.toArray⟩ (mbytes ms1')=(0,(n+1,putM mkL (mbytes ms1').data.toList M0)):=fun n M0=>sput sb mb h0 n M0 mkL (mbytes ms1') (by decide) (by decide)
   rcases hs' with rfl|rfl
   ·exact ⟨fit _ _ (by decide),by rw [show mbytes { ms0' with tries:=ms0'.tries+1 }=mbytes ms1' from rfl,pu];exact fit _ _ (by decide)⟩
   ·exact ⟨fit _ _ (by decide),by rw [show mbytes { ms0' with tries:=ms0'.tries+1 }=mbytes ms1' from rfl,pu];exact fit _ _ (by decide)⟩
  ·intro w3 v' vm hm3 hb3 hr3 hvm hbl
   refine hG w3 0 _ _ _ vm ((hm2.mono fun _ _ x=>.inl x).then hm3 (fun _ _ x => ?_)) hr3 ⟨slc_none,slc_none,slc_none, ?_⟩ ⟨⟨rfl,rfl,rfl,rfl⟩,⟨hvm,fun k hk=>by have:=hbl k hk;have:=hm1.size;have:=hm2.size;omega⟩,v',hb3⟩
   ·rcases x with x|x|x
    ·exact .inl x
    ·exact .inr (.inl x)
    ·exact .inr (.inr x)
   ·obtain ⟨a,c,hx⟩:=hvm.form
    exact ⟨_,_,_,hx⟩
 ·rintro w2 w3 ob rb n vi vl vd vm hob hor ⟨⟨rfl,rfl,rfl,rfl⟩,⟨hvm,hvl⟩,v',hb2⟩ ho hw3 hm3
  have hm:Mod (fun k=>k=ob) w2 w3:=by rw [hw3];exact (Mod.refl _ _).set (.inr rfl)
  refine h w3 v' vm hm3 (hb2.other hm (fun k hk => ?_)) (own_keep' hvm hm (fun k hk x => ?_)) hvl
  ·subst hk
   exact ⟨by omega,fun _ hf=>by have:=(shelfC sb mb h0).footLt _ _ _ hb.at_ hf;omega,ownE_ne hb2.les ho (by decide),by omega,by omega⟩
  ·subst x
   exact ownRow_ne hvm ho (by decide) hk
theorem doD_c (K:Value→World→Prop) (hb:BrAt (shelfC sb mb h0) tb m (4,S4) [msL] v 0 w)
  (h:∀w' v',Mod (fun k=>k=mb∨k=tb) w w'→BrAt (shelfC sb mb h0) tb m (4,S5) [] v' 0 w'→K (.agg (rpV 0 (.slice none 0 0) (.slice none 0 0) (.slice none 0 0) (.slice none 0 0))) w') :
  Ok prog 58 #[ptr tb,cD.val] w K:=by
 have he:=entFree_shelf sb mb h0
 have htb:=lt_of_get hb.st
 have hgl:=hb.gl.lt
 have hfl:2<w.heap.size:=by obtain ⟨_,_,hh⟩:=hb.fm;exact lt_of_get hh
 have hto:tb≠3∧tb≠2:=⟨fun x=>by have hh:=hb.gl;have hs:=hb.st;rw [x] at hs;unfold Gl at hh;simp [World.cell?,hs] at hh,fun x=>by obtain ⟨_,_,hh⟩:=hb.fm;rw [← x,hb.st] at hh;cases hh⟩
 refine do_c cD w K (fun rb n vi vl vd vm u=>(n=0∧vi = .slice none 0 0∧vl = .slice none 0 0∧vd = .slice none 0 0∧vm = .slice none 0 0)∧∃v',BrAt (shelfC sb mb h0) tb m (4,S5) [] v' 0 u) cD_fine cD_err hb ?_ ?_
 ·intro w1 rb G hm1 hb1 hr1 hrb hG
  refine act7_c cD rb w1 G rfl ?_
  intro w2 hm2
  have hb2:=hb1.keep0 hm2
  have hrf:¬(shelfC sb mb h0).foot rb:=fun x=>by have:=(shelfC sb mb h0).footLt _ _ _ hb.at_ x;omega
  have e:(shelfC sb mb h0).mgetR (4,S4) ms1'.queue ms1'.id=(ms1',0):=mget4 sb mb h0
  have sz:=fun k=>get_size sb mb h0 (4,S4) (2^60) (by decide) (S_small _ (.inr (.inr (.inr rfl)))) k
  refine ack0_c cD ms1' ms1' rb (4,S5) w2 G he hb2 rfl hto (pureGet_shelf sb mb h0 (4,S4)) (by decide) (by decide) (sz _) (mget4 sb mb h0) untilY rfl (by decide) (by decide) (by decide) (sz _) ?_ (mtake1 sb mb h0) ?_
  ·rw [e]
   decide
  ·intro w3 v' hm3 hb3
   rw [show freeE ms1'.queue ms1'.id [msL]=[] from freeY] at hb3
   refine hG w3 0 _ _ _ _ ((hm2.mono fun _ _ x=>x.elim).then hm3 (fun _ _ x => ?_)) (hm3.keep (hm2.keep hr1 id) (fun x => ?_)) ⟨slc_none,slc_none,slc_none,slc_none⟩ ⟨⟨rfl,rfl,rfl,rfl,rfl⟩,v',hb3⟩
   ·rcases x with x|x
    ·exact .inl x
    ·exact .inr (.inr x)
   ·rcases x with x|x
    ·exact hrf ((shelfC sb mb h0).ownFoot _ x)
    ·omega
 ·rintro w2 w3 ob rb n vi vl vd vm hob hor ⟨⟨rfl,rfl,rfl,rfl,rfl⟩,v',hb2⟩ ho hw3 hm3
  have hm:Mod (fun k=>k=ob) w2 w3:=by rw [hw3];exact (Mod.refl _ _).set (.inr rfl)
  refine h w3 v' hm3 (hb2.other hm (fun k hk => ?_))
  subst hk
  exact ⟨by omega,fun _ hf=>by have:=(shelfC sb mb h0).footLt _ _ _ hb.at_ hf;omega,ownE_ne hb2.les ho (by decide),by omega,by omega⟩
end
theorem awake41_c (m:Int) (w:World) (K:Value→World→Prop) (hg:Gl m w) (hf:Forms w) (h:∀w',Mod (fun _=>False) w w'→K (.bool true) w'):Ok prog 41 #[] w K:=by
 refine F41.enter (args:=[]) (by simp) ?_
 unfold c41 r41
 simp only [ZB,insVc,Zab]
 refine awake118_c m w _ hg ?_
 intro w1 hm1
 simp only [ZB,insVc,notK,Zab]
 refine awake55_c w1 _ ?_
 intro w2 hm2
 simp only [ZB,insVc,pickK,notK,ne_eq,Nat.reduceEqDiff,Zab,Zaf]
 refine awake56_c w2 _ ((hf.mod0 hm1).mod0 hm2) ?_
 intro w3 hm3
 simp only [ZB,insVc,pickK,notK,ne_eq,Nat.reduceEqDiff,Zab,Zaf]
 refine begun_c m w3 _ (((hg.mod hm1 id).mod hm2 id).mod hm3 id) (((hf.mod0 hm1).mod0 hm2).mod0 hm3) ?_
 intro w4 tb sb mb h0 hm4 htb hsb hmb hb4
 simp only [ZB,insVc,loadNK,storeNK,setMany,buildK,fillL,isPlain,Value.cells,ne_eq,Nat.reduceEqDiff,Nat.reduceAdd,Nat.reduceLeDiff,Zae,Zab,Zai,Zak,Zaj,Zbe,Zbf,Zbd,Zbc,Zal,Zam,Zan,Zbh,Zaa,Zar,Zap,Zaq,Zao,Zas,Zat,Zau,Zav,Zax,Zbb,Zay,get_alloc,Nat.reduceAdd,Nat.reduceEqDiff]
 refine callK_gen ?_
 intro w5 hw5
 have hm5:Mod (fun _=>False) w4 w5:=by rw [hw5];exact ((Mod.refl _ _).alloc _).set (.inl (Nat.le_refl _))
 have q5:w5.heap[w4.heap.size]? = some (.cells qa.cells.toArray 121 (0,0)):=by rw [hw5];simp only [size_alloc,Zbb,Zay,size_alloc];rfl
 clear hw5
 have n5:¬((w4.heap.size)=mb∨w4.heap.size=tb):=by have:=(shelfC sb mb h0).footLt _ _ mb hb4.at_ (.inr rfl);have:=lt_of_get hb4.st;omega
 refine doA_c (tb:=tb) (sb:=sb) (mb:=mb) (h0:=h0) (m:=m) _ (hb4.keep0 hm5) ?_
 intro w6 hm6 hb6
 have q6:=hm6.keep q5 n5
 simp only [ZB,insVc,storeNK,setMany,buildK,fillL,isPlain,Value.cells,ne_eq,Nat.reduceEqDiff,Nat.reduceAdd,Nat.reduceLeDiff,Zae,Zab,Zai,Zak,Zaj,Zbe,Zbf,Zbd,Zbc,Zal,Zam,Zan,Zbh,Zaa,Zau,Zav,Zax,get_alloc,Nat.reduceAdd,Nat.reduceEqDiff,rpV]
 refine callK_gen ?_
 intro w7 hw7
 have hm7:Mod (fun _=>False) w6 w7:=by rw [hw7];exact ((Mod.refl _ _).alloc _).set (.inl (Nat.le_refl _))
 have r7:w7.heap[w6.heap.size]? = some (.cells (rpV 0 (.slice none 0 0) (.slice none 0 0) (.slice none 0 0) (.slice none 0 0)) 52 (0,0)):=by rw [hw7];simp only [size_alloc,Zbb,Zay,size_alloc];rfl
 clear hw7
 have q7:=hm7.keep q6 id
 refine doB_c (tb:=tb) (sb:=sb) (mb:=mb) (h0:=h0) (m:=m) _ (hb6.keep0 hm7) ?_
 intro w8 vi hm8 hb8 hvi hil
 have q8:=hm8.keep q7 n5
 have t6:=lt_of_get hb6.st
 have m6:=(shelfC sb mb h0).footLt _ _ mb hb6.at_ (.inr rfl)
 have r8:=hm8.keep r7 (by omega)
 obtain ⟨ai,ci,rfl⟩:=hvi.form
 have q8':=q8
 simp only [Qu.cells] at q8'
 have ne8:w4.heap.size≠w8.heap.size:=by have:=lt_of_get q8;omega
 simp only [ZB,insVc,loadNK,storeNK,setMany,buildK,fillL,isPlain,Value.cells,ne_eq,Nat.reduceEqDiff,Nat.reduceAdd,Nat.reduceLeDiff,Zae,Zab,Zai,Zak,Zaj,Zbe,Zbf,Zbd,Zbc,Zal,Zam,Zan,Zbh,Zaa,Zaf,Zar,Zap,Zaq,Zao,Zas,Zat,Zau,Zav,Zax,Zay,get_alloc,get_set,Nat.reduceAdd,Nat.reduceEqDiff,rpV,q8',ne8]
 refine callK_gen ?_
 intro w9 hw9
 have hm9:Mod (fun _=>False) w8 w9:=by rw [hw9];exact ((Mod.refl _ _).alloc _).set (.inl (Nat.le_refl _))
 have s9:w9.heap[w8.heap.size]? = some (.cells (rpV 1 (.slice ai 1 ci) (.slice none 0 0) (.slice none 0 0) (.slice none 0 0)) 52 (0,0)):=by rw [hw9];simp only [size_alloc,Zbb,Zay,size_alloc];rfl
 clear hw9
 have q9:=hm9.keep q8 id
 have r9:=hm9.keep r8 id
 have i9:=own_keep' hvi hm9 (fun _ _ x=>x)
 refine doC_c (tb:=tb) (sb:=sb) (mb:=mb) (h0:=h0) (m:=m) _ (hb8.keep0 hm9) ?_
 intro w10 v10 vm hm10 hb10 hvm hml
 have q10:=hm10.keep q9 n5
 have t8:=lt_of_get hb8.st
 have m8:=(shelfC sb mb h0).footLt _ _ mb hb8.at_ (.inr rfl)
 have r10:=hm10.keep r9 (by omega)
 have s10:=hm10.keep s9 (by omega)
 obtain ⟨am,cm,rfl⟩:=hvm.form
 have q10':=q10
 simp only [Qu.cells] at q10'
 have ne10:w4.heap.size≠w10.heap.size:=by have:=lt_of_get q10;omega
 simp only [ZB,insVc,loadNK,storeNK,setMany,buildK,fillL,isPlain,Value.cells,ne_eq,Nat.reduceEqDiff,Nat.reduceAdd,Nat.reduceLeDiff,Zae,Zab,Zai,Zak,Zaj,Zbe,Zbf,Zbd,Zbc,Zal,Zam,Zan,Zbh,Zaa,Zaf,Zar,Zap,Zaq,Zao,Zas,Zat,Zau,Zav,Zax,Zay,get_alloc,get_set,Nat.reduceAdd,Nat.reduceEqDiff,rpV,q10',ne10]
 refine callK_gen ?_
 intro w11 hw11
 have hm11:Mod (fun _=>False) w10 w11:=by rw [hw11];exact ((Mod.refl _ _).alloc _).set (.inl (Nat.le_refl _))
 have u11:w11.heap[w10.heap.size]? = some (.cells (rpV 0 (.slice none 0 0) (.slice none 0 0) (.slice none 0 0) (.slice am 1 cm)) 52 (0,0)):=by rw [hw11];simp only [size_alloc,Zbb,Zay,size_alloc];rfl
 clear hw11
 have r11:=hm11.keep r10 id
 have s11:=hm11.keep s10 id
 have m11:=own_keep' hvm hm11 (fun _ _ x=>x)
 refine doD_c (tb:=tb) (sb:=sb) (mb:=mb) (h0:=h0) (m:=m) _ (hb10.keep0 hm11) ?_
 intro w12 v12 hm12 hb12
 have t10:=lt_of_get hb10.st
 have m10:=(shelfC sb mb h0).footLt _ _ mb hb10.at_ (.inr rfl)
 have r12:=hm12.keep r11 (by omega)
 have s12:=hm12.keep s11 (by omega)
 have u12:=hm12.keep u11 (by omega)
 have l1:=lt_of_get r12
 have l2:=lt_of_get s12
 have l3:=lt_of_get u12
 have ner:w6.heap.size≠w12.heap.size:=by omega
 have nes:w8.heap.size≠w12.heap.size:=by omega
 have neu:w10.heap.size≠w12.heap.size:=by omega
 have r12':=r12
 have s12':=s12
 have u12':=u12
 simp only [rpV] at r12' s12' u12'
 have z7:=hm7.size
 have z8:=hm8.size
 have z9:=hm9.size
 have z10:=hm10.size
 have z11:=hm11.size
 have z12:=hm12.size
 have i10:=own_keep' i9 hm10 (fun k hk x=>by have:=hil k hk;omega)
 have i12:=own_keep' (own_keep' i10 hm11 (fun _ _ x=>x)) hm12 (fun k hk x=>by have:=hil k hk;omega)
 have m12:=own_keep' m11 hm12 (fun k hk x=>by have:=hml k hk;omega)
 rcases i12.2 with ⟨hx,_⟩|⟨gi,cpi,curi,hx,_,hgi,_,_,hzi,hci⟩
 ·cases hx
 rcases m12.2 with ⟨hx2,_⟩|⟨gm,cpm,curm,hx2,_,hgm,_,_,hzm,hcm⟩
 ·cases hx2
 cases hx
 cases hx2
 have k11:(((1:Nat):Int) == 1)=true:=rfl
 have li:=lt_of_get hgi
 have lm:=lt_of_get hgm
 have nei:gi≠w12.heap.size:=by omega
 have k01:(0:Int)<((1:Nat):Int):=by decide
 have ci0:curi[0]? = some (.int .u64 1):=by
  have e:(curi.toList.take 1)[0]? = (numsV [1])[0]?:=by rw [← hci];rfl
  rw [List.getElem?_take_of_lt (by decide),Array.getElem?_toList] at e
  rw [e];rfl
 have cm2:curm[2]? = some (.int .u32 1):=by
  have e:(curm.toList.take 5)[2]? = ([ms1'].flatMap Ms.cells)[2]?:=by rw [← hcm];rfl
  rw [List.getElem?_take_of_lt (by decide),Array.getElem?_toList] at e
  rw [e];rfl
 have nem:gm≠w12.heap.size:=by omega
 simp only [ZB,endK,resK,packed,insVc,pickK,load1K,storeNK,setMany,iopK,iopV,faddrK,iaddrK,lenLK,isPlain,Value.cells,ne_eq,Nat.reduceEqDiff,Nat.reduceAdd,Nat.reduceLeDiff,reduceCtorEq,Za,Zag,Zah,Zai,Zak,Zaj,Zal,Zam,Zan,Zad,Zaa,Zaf,Int.reduceLE,Int.reduceToNat,Int.reduceBEq,Zbm,Zbs,Zau,Zav,Zax,Zbb,Zay,get_alloc,get_set,Nat.reduceAdd,Nat.reduceEqDiff,rpV,r12',s12',u12',ner,nes,neu,k11,nei,nem,hgi,hgm,k01,ci0,cm2]
 have A:=((hm1.trans hm2).trans hm3)
 have zA:=A.size
 have B:=(A.trans hm4).trans hm5
 have C:=B.then hm6 (fun k hk x=>by omega)
 have D:=(C.trans hm7).then hm8 (fun k hk x=>by omega)
 have E:=(D.trans hm9).then hm10 (fun k hk x=>by omega)
 have F:=(E.trans hm11).then hm12 (fun k hk x=>by omega)
 exact h _ ((F.alloc _).set (.inl (by have:=F.size;omega)))
theorem awake28_c (m:Int) (w:World) (K:Value→World→Prop) (hg:Gl m w) (hf:Forms w) (h:∀w',Mod (fun _=>False) w w'→K (.bool true) w'):Ok prog 28 #[] w K:=by
 refine F28.enter (args:=[]) (by simp) ?_
 unfold c28 r28
 simp only [ZB,insVc,Zab]
 refine awake41_c m w _ hg hf ?_
 intro w1 hm1
 simp only [ZB,endK,resK,packed,insVc,Zad]
 exact h w1 hm1
end Go.Oct
namespace Go.Oct
open Go Go.Vc Go.VrA Go.VrB Go.VrE Go.VrH Go.VrI Go.VrJ Go.VrK Go.VrL Go.Tal Go.Proofs.Tryz
set_option maxRecDepth 100000
theorem zero_good:Rw.zero.good:=by
 refine ⟨by decide,by decide,by decide,by decide,by decide, ?_⟩
 intro n hn
 have:=List.eq_of_mem_replicate (show n∈zs from hn)
 omega
theorem awake36_c (m:Int) (w:World) (K:Value→World→Prop) (hg:Gl m w) (hf:Forms w) (h:∀w',Mod (fun _=>False) w w'→K (.bool true) w'):Ok prog 7 #[] w K:=by
 refine F7.enter (args:=[]) (by simp) ?_
 unfold c7 r7
 simp only [ZB,insVc,Zab]
 refine newS_c w _ ?_
 intro w1 tb mb hm1 htb hmb ht1
 simp only [ZB,insVc,nilOf,pnilK,Zab,Zaf,Zbq]
 refine awake28_c m w1 _ (hg.mod hm1 id) (hf.mod0 hm1) ?_
 intro w2 hm2
 simp only [ZB,insVc,pickK,notK,ne_eq,Nat.reduceEqDiff,Zae,Zab,Zaf]
 have hk:keyOf prog 9 (.string ⟨#[97]⟩)=some (.string [97]):=WideMaps.keyOf_string_mk tKeyS (by decide)
 refine addS_c tb mb 0 5 _ (.string [97]) Rw.zero w2 _ zero_good (by decide) ((ht1 _).keep hm2 id id) hk trivial (by decide) ?_
 intro w3 v hm3 ht3
 have e1:Rw.zero.plus (Rw.one 5)=Rw.one 5:=by rfl
 rw [e1] at ht3
 simp only [ZB,insVc,Zae,Zab]
 refine class_c 5 w3 _ (by decide) ?_
 have hc5:cls 5=3:=by decide
 rw [hc5]
 have z3:(((3:Nat):Int) == 3)=true:=rfl
 simp only [ZB,insVc,iopK,iopV,ne_eq,Nat.reduceEqDiff,reduceCtorEq,Zae,Zab,z3]
 have g5:=one_good 5 (by decide)
 refine ofS_c tb mb 1 _ (.string [97]) (Rw.one 5) w3 _ g5 ht3 hk ?_
 intro w4 hm4
 have z1:((1:Int) == 1)=true:=rfl
 have f0:(Rw.one 5).cells.toArray[0]? = some (.int .u64 1):=rfl
 simp only [ZB,insVc,pickK,iopK,iopV,fld1K,ne_eq,Nat.reduceEqDiff,reduceCtorEq,Zae,Zab,Zaa,Rw.val,f0,z1]
 refine ofS_c tb mb 1 _ (.string [97]) (Rw.one 5) w4 _ g5 (ht3.keep hm4 id id) hk ?_
 intro w5 hm5
 have hsz:(Rw.one 5).cells.toArray.size=69:=by decide
 have fe:=cells_ext (Rw.one 5) g5
 simp only [ZB,insVc,fldNK,ne_eq,Nat.reduceEqDiff,Nat.reduceAdd,Rw.val,fe]
 refine rawK_index (v:=.int .u64 1) (w':=w5) rfl rfl rfl (by simp only [upd_same,ev_tmp,ev_const];exact run_index_cls (numV (Rw.one 5).cl).toArray 3 (by decide) (.int .u64 1) rfl w5) ?_
 simp only [ZB,endK,resK,packed,insVc,pickK,iopK,iopV,ne_eq,Nat.reduceEqDiff,reduceCtorEq,Zad,Zaa,z1]
 exact h w5 ((((hm1.trans hm2).then hm3 (fun k hk x=>by omega)).trans hm4).trans hm5)
end Go.Oct
