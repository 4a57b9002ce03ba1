import Derived.Test.YtcbacomljnjacaaGreatDoorVjF
import Derived.Test.YtcbacomljnjacaaGreatDoorVdC
import Derived.Test.YtcbacomljnjacaaGreatDoorVzC
set_option linter.unusedSimpArgs false
set_option linter.unusedVariables false
set_option linter.unusedSectionVars false
set_option linter.unnecessarySimpa false
namespace Go.Oct
open Go Go.Vc Go.VrA Go.VrB Go.VrE Go.VrH Go.VrI Go.VrJ
set_option maxRecDepth 100000
variable {σ : Type} {St : StoC σ} {tb clock : Nat} {m : Int} {s s' : σ} {l : List Le} {v : Value} {w w' : World}
theorem ack0_c (c : Cm) (ms : Ms) (r2 : Ms) (rb : Nat) (s1 : σ) (w : World) (K : Value→World→Prop) (he : EntFree St) (hb : BrAt St tb m s l v clock w) (hk : c.kind = 7) (htb : tb≠3∧tb≠2)
    (hp : PureGet St.toSto s) (hqs : c.q.name.size < 4294967281) (hci : c.id < 2 ^ 64) (hv1 : (St.get s (messageK c.q.name c.id).1).1.1.size < 2 ^ 60) (hG : St.mgetR s c.q.name c.id = (ms,0)) (hun : (untilE ms.queue ms.id l).isSome = true) (htr : ms.tries = c.token) (hmt : ms.tries < 2 ^ 32)
    (hs : ms.queue.size < 4294967281) (hi : ms.id < 2 ^ 64) (hv : (St.get s (messageK ms.queue ms.id).1).1.1.size < 2 ^ 60)
    (hx : (St.mgetR s ms.queue ms.id).1.queue.size < 4294967281∧(St.mgetR s ms.queue ms.id).1.id < 2 ^ 64∧(St.mgetR s ms.queue ms.id).1.expiry < 2 ^ 64) (hT : St.mtake s ms.queue ms.id = ((r2,0),s1))
    (h : ∀ w' v',Mod (fun k=>St.own k∨k = tb) w w'→BrAt St tb m s1 (freeE ms.queue ms.id l) v' clock w'→K (.int .i64 0) w') :
    Ok Proofs.Tryz.prog 102 #[ptr tb,c.val,ptr rb] w K:=by
  refine F102.enter (args:=[ptr tb,c.val,ptr rb]) (by simp) ?_
  unfold c102 r102
  simp only [ZB,insVc,Value.cells,Zaf,Za,Zag,Cm.val,Cm.cells]
  refine vc_gen ?_
  intro w1 hw1
  have hm1 : Mod (fun _=>False) w w1:=by rw [hw1]; exact (Mod.refl _ _).alloc _
  have c1 : w1.heap[w.heap.size]? = some (.cells #[.int .i64 c.kind,.string c.q.name,.int .u32 c.q.most,.int .u64 c.q.ttl,.int .u32 c.q.tries,.string c.q.dead,.string c.b.ex,.int .i64 c.b.kind,.string c.b.key,.string c.b.q,.string c.ex,.string c.key,.string c.body,.int .u64 c.id,.int .u64 c.token,.int .u64 c.n,.int .u64 c.time,.bool c.dead] 126 (0,0)):=by rw [hw1]; exact get_alloc_new _ _
  clear hw1
  have hb1:=hb.keep0 hm1
  refine draw_c (dp:=[[],[0],[1],[2],[],[4],[5],[],[7],[3,6,8],[9],[10],[10],[],[13,11,9,0,1,2,3,4,5,6,7,8,9,10,11,13],[12,14,0,1,2,3,4,5,6,7,8,9,10,11,12,13,14]]) (N:=15)
    (GenI w1 (fun _=>False) (fun _=>True) [(0,ptr tb),(2,ptr rb),(4,ptr w.heap.size)]
      [(0,10,ptr tb),(1,11,ptr tb),(2,12,ptr tb),(3,13,.iface St.t St.v),(4,14,.pointer (some ⟨w.heap.size,1,none⟩)),(5,15,.pointer (some ⟨w.heap.size,1,none⟩)),(6,16,.string c.q.name),(7,17,.pointer (some ⟨w.heap.size,13,none⟩)),(8,18,.int .u64 c.id),(9,19,.tuple #[ms.val,.int .i64 0]),(10,9,.tuple #[ms.val,.int .i64 0]),(11,20,ms.val),(12,21,.int .i64 0)] 13 14 7 5 128 ms.cells.toArray)
    (by kernel_rfl) (by kernel_rfl) (by kernel_rfl) (by kernel_rfl) (by kernel_rfl) (by kernel_rfl) rfl rfl (by kernel_rfl) ?_ ?_ ?_
  · refine GenI.start (Mod.refl _ _).drew trivial ?_
    intro p hp
    simp only [Zbo,Zbp,or_false] at hp
    rcases hp with rfl | rfl | rfl <;> simp only [ZB,ne_eq,Nat.reduceEqDiff,reduceCtorEq,Zaf,Za,Zag]
  · rintro L ρ u k x d hk15 hx' hd hL hdeps hcl hI
    have tu:=hI.1.keep c1 id
    have hbu:=hb1.keep0 hI.1
    obtain rfl | rfl | rfl | rfl | rfl | rfl | rfl | rfl | rfl | rfl | rfl | rfl | rfl | rfl | rfl : k = 0∨k = 1∨k = 2∨k = 3∨k = 4∨k = 5∨k = 6∨k = 7∨k = 8∨k = 9∨k = 10∨k = 11∨k = 12∨k = 13∨k = 14:=by omega
    all_goals (obtain rfl:=Option.some.inj hx'; obtain rfl:=Option.some.inj hd)
    · simp only [ZB,insVc,hI.frm (d:=0) (v:=ptr tb) (by simp)]
      exact hI.put 0 10 _ rfl (by simp) rfl rfl
    · simp only [ZB,insVc,nilK,hI.get (k:=0) (d:=10) (v:=ptr tb) (by simp) (hdeps 0 (by decide))]
      exact hI.put 1 11 _ rfl (by simp) rfl rfl
    · simp only [ZB,insVc,faddrK,hI.get (k:=1) (d:=11) (v:=ptr tb) (by simp) (hdeps 1 (by decide))]
      exact hI.put 2 12 _ rfl (by simp) rfl rfl
    · simp only [ZB,insVc,load1K,Za,Zah,hI.get (k:=2) (d:=12) (v:=ptr tb) (by simp) (hdeps 2 (by decide)),hbu.st]
      exact hI.put 3 13 _ rfl (by simp) rfl rfl
    · simp only [ZB,insVc,faddrK,hI.frm (d:=4) (v:=ptr w.heap.size) (by simp)]
      exact hI.put 4 14 _ rfl (by simp) rfl rfl
    · simp only [ZB,insVc,faddrK,hI.get (k:=4) (d:=14) (v:=.pointer (some ⟨w.heap.size,1,none⟩)) (by simp) (hdeps 4 (by decide))]
      exact hI.put 5 15 _ rfl (by simp) rfl rfl
    · simp only [ZB,insVc,load1K,Za,Zag,Zah,hI.get (k:=5) (d:=15) (v:=.pointer (some ⟨w.heap.size,1,none⟩)) (by simp) (hdeps 5 (by decide)),tu]
      exact hI.put 6 16 _ rfl (by simp) rfl rfl
    · simp only [ZB,insVc,faddrK,hI.frm (d:=4) (v:=ptr w.heap.size) (by simp)]
      exact hI.put 7 17 _ rfl (by simp) rfl rfl
    · simp only [ZB,insVc,load1K,Za,Zag,Zah,hI.get (k:=7) (d:=17) (v:=.pointer (some ⟨w.heap.size,13,none⟩)) (by simp) (hdeps 7 (by decide)),tu]
      exact hI.put 8 18 _ rfl (by simp) rfl rfl
    · simp only [ZB,insVc,Zad,Zac,hI.get (k:=3) (d:=13) (v:=.iface St.t St.v) (by simp) (hdeps 3 (by decide)),hI.get (k:=6) (d:=16) (v:=.string c.q.name) (by simp) (hdeps 6 (by decide)),hI.get (k:=8) (d:=18) (v:=.int .u64 c.id) (by simp) (hdeps 8 (by decide))]
      refine msget_c St.toSto s hp c.q.name c.id m u _ hbu.at_ hbu.gl hqs hci hv1 ?_
      rw [hG]
      intro u2 hm2
      exact (hI.world hm2 trivial (fun _ x=>x.elim)).put 9 19 _ rfl (by simp) rfl rfl
    · simp only [ZB,insVc,hI.get (k:=9) (d:=19) (v:=.tuple #[ms.val,.int .i64 0]) (by simp) (hdeps 9 (by decide))]
      exact hI.put 10 9 _ rfl (by simp) rfl rfl
    · simp only [ZB,insVc,extK,Za,Zah,hI.get (k:=10) (d:=9) (v:=.tuple #[ms.val,.int .i64 0]) (by simp) (hdeps 10 (by decide))]
      exact hI.put 11 20 _ rfl (by simp) rfl rfl
    · simp only [ZB,insVc,extK,Za,Zag,Zah,hI.get (k:=10) (d:=9) (v:=.tuple #[ms.val,.int .i64 0]) (by simp) (hdeps 10 (by decide))]
      exact hI.put 12 21 _ rfl (by simp) rfl rfl
    · simp only [ZB,insVc,Value.cells]
      refine hI.alloc _ rfl trivial ?_ rfl rfl rfl
      cases h14 : L 14 with
      | false=>rfl
      | true=>have:=hcl 14 _ rfl h14 13 (by decide); rw [this] at hL; cases hL
    · obtain ⟨xb,cs,e1,e2,e3,e4,_⟩:=hI.box (hdeps 13 (by decide))
      have h20:=hI.get (k:=11) (d:=20) (v:=ms.val) (by simp) (hdeps 11 (by decide))
      simp only [insVc,ev_tmp,e1,h20,Ms.val,storeNK,e3,storeNO_cells]
      refine ⟨by refine ⟨?_,by omega, ?_, ?_⟩ <;> simp [Ms.cells,isPlain], ?_⟩
      rw [setMany_all cs ms.cells.toArray.toList (by rw [e4]; rfl)]
      exact hI.store (hdeps 13 (by decide)) e1 rfl trivial rfl rfl
  rintro L ρ u x hall hI hx'
  obtain rfl:=Option.some.inj hx'
  obtain ⟨xb,cs,e1,e2,e3,e4,e5⟩:=hI.box (hall 13 (by decide))
  have hcs:=e5 (hall 14 (by decide))
  subst hcs
  have r0:=hI.frm (d:=0) (v:=ptr tb) (by simp)
  have rr2:=hI.frm (d:=2) (v:=ptr rb) (by simp)
  have r4:=hI.frm (d:=4) (v:=ptr w.heap.size) (by simp)
  have r21:=hI.get (k:=12) (d:=21) (v:=.int .i64 0) (by simp) (hall 12 (by decide))
  have hmu:=hI.1
  have tu:=hmu.keep c1 id
  have hbu:=hb1.keep0 hmu
  have z0 : ((0 : Int) != 0) = false:=rfl
  simp only [Ms.cells] at e3
  simp only [ZB,insVc,loadNK,iopK,iopV,ne_eq,Nat.reduceEqDiff,Nat.reduceAdd,Nat.reduceLeDiff,reduceCtorEq,Zad,Zac,Zai,Zaj,Zak,Zaq,Zap,Zar,Zao,Zas,Zat,r0,r21,e1,z0,e3]
  refine lent_c ms u _ hbu ?_
  rw [hun]
  intro u1 hm1'
  have hb2:=hbu.keep0 hm1'
  have t2:=hm1'.keep tu id
  have e32:=hm1'.keep e3 id
  have hcv : IntKind.u64.wrap ((ms.tries : Nat) : Int) = ((c.token : Nat) : Int):=by rw [IntKind.wrap_u64,htr]; omega
  have hne : (((c.token : Nat) : Int) != (c.token : Int)) = false:=by simp
  have n9 : ((7 : Int) == 9) = false:=rfl
  have n8 : ((7 : Int) == 8) = false:=rfl
  simp only [ZB,insVc,pickK,load1K,iopK,iopV,notK,convK,faddrK,ne_eq,Nat.reduceEqDiff,reduceCtorEq,Za,Zag,Zah,Zae,r4,e1,e32,t2,hcv,hne,hk,n9,n8]
  refine draw_z' (fun u=>u.heap[tb]? = some (.cells #[.iface St.t St.v,.func (.func 92) #[] #[],v,.int .u64 clock] 144 (0,0))∧u.heap[xb]? = some (.cells #[.string ms.queue,.int .u64 ms.id,.int .u32 ms.tries,.int .u64 ms.expiry,.string ms.body] 128 (0,0))) (by kernel_rfl) (by kernel_rfl) (by kernel_rfl) (by kernel_rfl) (by kernel_rfl) (by kernel_rfl) rfl ⟨hb2.st,e32⟩ ?_
  simp only [ZB,List.dropLast,insVc,storeNK,nilK,nilM,faddrK,ne_eq,Nat.reduceEqDiff,reduceCtorEq,Zad,Zac,Zab,Zae,pureI,stepD_pure,stepD_load,stepD_step,loadI,vcF_nil,vcF_cons,kindF,lookI,sliceI,Bool.or_false,r0]
  refine loadDN (b:=tb) (o:=1) (v:=.agg #[.func (.func 92) #[] #[],v]) (by simp only [ZB]) (fun W hW=>⟨_,_,_,hW.1,by simp,rfl⟩) ?_
  refine loadDN (b:=xb) (o:=0) (v:=ms.val) (by simp only [ZB,ne_eq,Nat.reduceEqDiff,e1]) (fun W hW=>⟨_,_,_,hW.2,by simp,rfl⟩) ?_
  refine bkey_c ms u1.drew _ ?_
  intro u2 hm2
  have m12 : Mod (fun _=>False) u1 u2:=(Mod.refl _ u1).drew.trans hm2
  have hb3:=hb2.keep0 m12
  have e33:=m12.keep e32 id
  refine ⟨⟨hb3.st,e33⟩, ?_⟩
  refine lfree_c l v ms.queue ms.id u2 _ hb3.les hb3.ll ?_
  intro u3 v3 hm3 hv3
  have hb4:=hb3.keep0 hm3
  have e34:=hm3.keep e33 id
  refine ⟨⟨hb4.st,e34⟩, ?_⟩
  obtain ⟨a3,c3,rfl,_⟩:=hv3.form
  have hfl:=freeE_len ms.queue ms.id l
  have hst3:=hb4.st
  obtain ⟨w4,hw4⟩ : ∃ w4,w4 = Vc.set u3 tb (.cells #[.iface St.t St.v,.func (.func 92) #[] #[],.slice a3 (freeE ms.queue ms.id l).length c3,.int .u64 clock] 144):=⟨_,rfl⟩
  have hm4 : Mod (fun k=>k = tb) u3 w4:=by rw [hw4]; exact (Mod.refl _ _).set (.inr rfl)
  have hb5:=hb4.table hv3 (by have:=hb4.ll; omega) hw4 htb.1 htb.2
  simp only [storeNO_cells,setMany,isPlain,Nat.reduceAdd,Nat.reduceLeDiff,Zai,Zaj,Zak,Zal,Zam,Zan,true_and,and_self,Nat.zero_add,Bool.and_true,Zau,Zaw,Zax,tabV,hst3]
  rw [← hw4]
  clear hw4
  have hxt : xb≠tb:=by have:=lt_of_get hb1.st; omega
  have e35:=hm4.keep e34 hxt
  refine draw_d (fun u=>u.heap[tb]? = some (.cells #[.iface St.t St.v,.func (.func 92) #[] #[],.slice a3 (freeE ms.queue ms.id l).length c3,.int .u64 clock] 144 (0,0))∧u.heap[xb]? = some (.cells #[.string ms.queue,.int .u64 ms.id,.int .u32 ms.tries,.int .u64 ms.expiry,.string ms.body] 128 (0,0))) (by kernel_rfl) (by kernel_rfl) (by kernel_rfl) (by kernel_rfl) ⟨hb5.st,e35⟩ ?_
  simp only [ZB,endK,resK,packed,insVc,nilK,nilM,faddrK,extK,ne_eq,Nat.reduceEqDiff,reduceCtorEq,Zad,Zac,Zaa,Zab,Zae,pureI,vcD_nil,vcD_cons,stepD_pure,stepD_load,stepD_step,kindI,loadI,r0,e1]
  refine loadD1 (b:=tb) (o:=0) (v:=.iface St.t St.v) (by simp only [ZB]) (fun W hW=>⟨_,_,_,hW.1,rfl⟩) ?_
  refine loadD1 (b:=xb) (o:=0) (v:=.string ms.queue) (by simp only [ZB]) (fun W hW=>⟨_,_,_,hW.2,rfl⟩) ?_
  refine loadD1 (b:=xb) (o:=1) (v:=.int .u64 ms.id) (by simp only [ZB]) (fun W hW=>⟨_,_,_,hW.2,rfl⟩) ?_
  have hb5d : BrAt St tb m s _ _ clock w4.drew:=hb5.keep0 (Mod.refl _ _).drew
  refine mtake_c St s hp ms.queue ms.id m w4.drew _ hb5d.at_ hb5d.gl hb5d.gl.lt hs hi hv hx ?_
  rw [hT]
  intro w5 hm5 ha5
  have hb6:=hb5d.own he hm5 ha5
  have hnx : ¬ St.own xb:=fun y=>by have:=St.footLt _ _ _ hb1.at_ (St.ownFoot _ y); omega
  refine ⟨⟨hb6.st,hm5.keep (show w4.drew.heap[xb]? = _ from e35) hnx⟩, ?_⟩
  simp only [loadV_some,Za,Zag,Zah]
  refine h w5 _ ?_ hb6
  have k1 : Mod (fun k=>St.own k∨k = tb) w u3:=((((hm1.trans hmu).trans hm1').trans m12).trans hm3).mono fun _ _ x=>x.elim
  have k2:=k1.then hm4 (fun _ _ x=>.inr x)
  exact (k2.drew).then hm5 (fun _ _ x=>.inl x)
end Go.Oct
namespace Go.Oct
open Go Go.Vc Go.VrA Go.VrB Go.VrE Go.VrH Go.VrI Go.VrJ
set_option maxRecDepth 100000
variable {σ : Type} {St : StoC σ} {tb clock : Nat} {m : Int} {s s' : σ} {l : List Le} {v : Value} {w w' : World}
def rpV (n : Nat) (vi vl vd vm : Value) : Array Value:=#[.int .i64 0,.int .u64 n,vi,vl,vd,vm]
def IsSlc3 (v : Value) : Prop:=∃ a k c,v = .slice a k c
theorem do_c (c : Cm) (w : World) (K : Value→World→Prop) (Post : Nat→Nat→Value→Value→Value→Value→World→Prop) (hc : c.fine) (herr : c.err = 0) (hb : BrAt St tb m s l v clock w)
    (hact : ∀ w1 rb (G : Value→World→Prop),Mod (fun _=>False) w w1→BrAt St tb m s l v clock w1→w1.heap[rb]? = some (.cells rp0 52 (0,0))→w.heap.size≤rb →
      (∀ w2 n vi vl vd vm,Mod (fun k=>St.own k∨k = rb∨k = tb) w1 w2→w2.heap[rb]? = some (.cells (rpV n vi vl vd vm) 52 (0,0))→IsSlc3 vi∧IsSlc3 vl∧IsSlc3 vd∧IsSlc3 vm→Post rb n vi vl vd vm w2→G (.int .i64 0) w2) →
      Ok Proofs.Tryz.prog 75 #[ptr tb,c.val,ptr rb] w1 G)
    (h : ∀ w2 w3 ob rb n vi vl vd vm,w.heap.size≤ob→ob≠rb→Post rb n vi vl vd vm w2→w2.heap[ob]? = some (.cells rp0 52 (0,0))→w3 = Vc.set w2 ob (.cells (rpV n vi vl vd vm) 52 (0,0))→Mod (fun k=>St.own k∨k = tb) w w3→K (.agg (rpV n vi vl vd vm)) w3) :
    Ok Proofs.Tryz.prog 58 #[ptr tb,c.val] w K:=by
  refine F58.enter (args:=[ptr tb,c.val]) (by simp) ?_
  unfold c58 r58
  simp only [ZB,insVc,loadNK,Value.cells,ne_eq,Nat.reduceEqDiff,Nat.reduceAdd,Nat.reduceLeDiff,Zaf,Zad,Zac,Za,Zag,Zai,Zaj,Zak,Zab,Zae,Zaq,Zap,Zar,Zao,Zas,Zat,get_alloc,Nat.reduceAdd,Zbi,Nat.reduceEqDiff,Zay,Cm.val,Cm.cells]
  refine callK_gen ?_
  intro w1 hw1
  have hm1 : Mod (fun _=>False) w w1:=by rw [hw1]; exact ((Mod.refl _ _).alloc _).alloc _
  have c1 : w1.heap[w.heap.size]? = some (.cells c.cells.toArray 126 (0,0)):=by rw [hw1]; simp only [Zab,Zae,size_alloc,get_alloc,size_alloc,Zbi,Zay]; rfl
  have o1 : w1.heap[w.heap.size + 1]? = some (.cells rp0 52 (0,0)):=by rw [hw1]; simp only [Zab,Zae,size_alloc,get_alloc,size_alloc,Zba,Zay]
  clear hw1
  have hb1:=hb.keep0 hm1
  refine bytes24_c c w1 _ hc hb1.fm ?_
  intro w2 hm2
  rw [herr]
  have z0 : ((0 : Int) != 0) = false:=rfl
  have c2:=hm2.keep c1 id
  have o2:=hm2.keep o1 id
  have c2':=c2
  simp only [Cm.cells] at c2'
  have hcn : w.heap.size≠w2.heap.size:=by have:=lt_of_get c2; omega
  have htn : tb≠w2.heap.size:=by have:=lt_of_get (hb1.keep0 hm2).st; omega
  simp only [ZB,insVc,loadNK,iopK,iopV,extK,Value.cells,ne_eq,Nat.reduceEqDiff,Nat.reduceAdd,Nat.reduceLeDiff,reduceCtorEq,Zaf,Zad,Zac,Za,Zag,Zah,Zai,Zaj,Zak,Zab,Zae,Zaq,Zap,Zar,Zao,Zas,Zat,get_alloc,Nat.reduceAdd,Nat.reduceEqDiff,z0,c2',hcn]
  refine callK_gen ?_
  intro w3 hw3
  have hm3 : Mod (fun _=>False) w2 w3:=by rw [hw3]; exact (Mod.refl _ _).alloc _
  have r3 : w3.heap[w2.heap.size]? = some (.cells rp0 52 (0,0)):=by rw [hw3]; exact get_alloc_new _ _
  clear hw3
  have m3:=(hm1.trans hm2).trans hm3
  have o3:=hm3.keep o2 id
  refine hact w3 w2.heap.size _ m3 (hb.keep0 m3) r3 (by have:=(hm1.trans hm2).size; omega) ?_
  intro w4 n vi vl vd vm hm4 hr4 hpl hpost
  have hob : w.heap.size + 1 < w2.heap.size:=lt_of_get o2
  have htb:=lt_of_get hb.st
  have o4:=hm4.keep o3 (by
    rintro (x | x | x)
    · have:=St.footLt _ _ _ hb.at_ (St.ownFoot _ x); omega
    · omega
    · omega)
  have hr4':=hr4
  unfold rpV at hr4'
  obtain ⟨⟨_,_,_,rfl⟩,⟨_,_,_,rfl⟩,⟨_,_,_,rfl⟩,⟨_,_,_,rfl⟩⟩:=hpl
  simp only [ZB,endK,resK,resN,packed,insVc,loadNK,storeNK,setMany,iopK,iopV,isPlain,ne_eq,Nat.reduceEqDiff,Nat.reduceAdd,Nat.reduceLeDiff,reduceCtorEq,Zai,Zaj,Zak,Zal,Zam,Zan,Zaa,Zaq,Zap,Zar,Zao,Zas,Zat,Zau,Zaw,Zax,z0,hr4',o4,get_set_same _ _ _ (lt_of_get o4)]
  refine h w4 _ (w.heap.size + 1) w2.heap.size n _ _ _ _ (by omega) (by omega) hpost o4 rfl ?_
  have k1 : Mod (fun k=>St.own k∨k = tb) w w4:=(m3.mono fun _ _ x=>x.elim).then hm4 (fun k hk x=>by
    rcases x with x | x | x
    · exact .inl x
    · have:=(hm1.trans hm2).size; omega
    · exact .inr x)
  exact k1.set (.inl (by omega))
end Go.Oct
