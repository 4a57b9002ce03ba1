import Derived.Test.YtpggpopbkmgodaaGreatDoorVkB
import Derived.Test.YtpggpopbkmgodaaGreatDoorVnC
import Derived.Test.YtpggpopbkmgodaaGreatDoorVoB
set_option linter.unusedSimpArgs false
set_option linter.unusedVariables false
set_option linter.unusedSectionVars false
set_option linter.unnecessarySimpa false
namespace Go.Oct
open Go Go.Vc Go.VrA Go.VrI Go.Proofs.Tryz
set_option maxRecDepth 100000
def fieldB (c:Cm) (f:Nat):ByteArray :=
 if f=113 then textB c.q.name ++ big c.q.most 4 ++ big c.q.ttl 8 ++ big c.q.tries 4 ++ textB c.q.dead else if f=110 then textB c.q.name else
 if f=98 then textB c.b.ex ++ big (c.b.kind%256).toNat 1 ++ textB c.b.key ++ textB c.b.q else if f=120 then textB c.ex else if f=107 then textB c.key else if f=121 then textB c.body else
 if f=105 then big c.id 8 else if f=116 then big c.token 8 else if f=99 then big c.n 8 else if f=109 then big c.time 8 else if c.dead=true then big 1 1 else big 0 1
structure Cm.fine (c:Cm):Prop where
 name:c.q.name.size<2^60
 qd:c.q.dead.size<2^60
 most:c.q.most<2^32
 ttl:c.q.ttl<2^64
 tries:c.q.tries<2^32
 bex:c.b.ex.size<2^60
 bkey:c.b.key.size<2^60
 bq:c.b.q.size<2^60
 ex:c.ex.size<2^60
 key:c.key.size<2^60
 body:c.body.size<2^60
 id:c.id<2^64
 token:c.token<2^64
 n:c.n<2^64
 time:c.time<2^64
def FieldI (c:Cm) (f:Int) (w0:World) (tb:Nat) (L:Nat→Bool) (ρ:Env) (u:World):Prop :=
 Mod (fun _=>False) w0 u∧ρ 1 = .int .i32 f∧ρ 2=ptr tb∧(L 0=true→ρ 7 = .pointer (some ⟨tb,1,none⟩))∧(L 1=true→ρ 8 = .agg c.q.cells.toArray)∧(L 2=true→ρ 9 = .pointer (some ⟨tb,6,none⟩))∧(L 3=true→ρ 10 = .agg c.b.cells.toArray) ∧
  (L 4=true→∃x cs,ρ 5=ptr x∧w0.heap.size≤x∧u.heap[x]? = some (.cells cs 121 (0,0))∧cs.size=5∧(L 6=true→cs=c.q.cells.toArray)∧(L 5=true→ρ 6≠ptr x)) ∧
  (L 5=true→∃y,ρ 6=ptr y∧w0.heap.size≤y∧u.heap[y]? = some (.cells zb 124 (0,0)))
theorem setMany5 (cs:Array Value) (hc:cs.size=5) (a b c d e:Value):setMany cs 0 [a,b,c,d,e] = #[a,b,c,d,e]:=by
 obtain ⟨l⟩:=cs
 match l,hc with
 | [x1,x2,x3,x4,x5],_=>rfl
theorem field_c (c:Cm) (f:Nat) (w:World) (K:Value→World→Prop) (hc:c.fine) (h:∀w',Mod (fun _=>False) w w'→K (.string (fieldB c f)) w') :
  Ok prog 97 #[c.val,.int .i32 f] w K:=by
 refine F97.enter (args:=[c.val,.int .i32 f]) (by simp) ?_
 unfold c97 r97
 obtain ⟨w0,hw0⟩:∃w0,w0=w.alloc (.cells #[.int .i64 c.kind,.string c.q.name,.int .u32 c.q.most,.int .u64 c.q.ttl,.int .u32 c.q.tries,.string c.q.dead,.string c.b.ex,.int .i64 c.b.kind,.string c.b.key,.string c.b.q,.string c.ex,.string c.key,.string c.body,.int .u64 c.id,.int .u64 c.token,.int .u64 c.n,.int .u64 c.time,.bool c.dead] 126):=⟨_,rfl⟩
 have hm0:Mod (fun _=>False) w w0:=by rw [hw0];exact (Mod.refl _ _).alloc _
 have t0:w0.heap[w.heap.size]? = some (.cells #[.int .i64 c.kind,.string c.q.name,.int .u32 c.q.most,.int .u64 c.q.ttl,.int .u32 c.q.tries,.string c.q.dead,.string c.b.ex,.int .i64 c.b.kind,.string c.b.key,.string c.b.q,.string c.ex,.string c.key,.string c.body,.int .u64 c.id,.int .u64 c.token,.int .u64 c.n,.int .u64 c.time,.bool c.dead] 126 (0,0)):=by rw [hw0];exact get_alloc_new _ _
 simp only [ZB,insVc,Value.cells,Zac,Za,Cm.val,Cm.cells]
 rw [← hw0]
 clear hw0
 refine draw_c (dp:=[[],[0],[],[2],[],[],[4,1,0,1,4,5],[5,3,6,0,1,2,3,4,5,6]]) (N:=7) (FieldI c f w0 w.heap.size)
  (by kernel_rfl) (by kernel_rfl) (by kernel_rfl) (by kernel_rfl) (by kernel_rfl) (by kernel_rfl) rfl rfl (by kernel_rfl) ?_ ?_ ?_
 ·have no:∀ {p:Prop},false=true→p:=fun h=>(Bool.false_ne_true h).elim
  exact ⟨(Mod.refl _ _).drew,by simp only [upd_other,initE_at,ne_eq,not_false_eq_true,Nat.reduceEqDiff,Zac,Za,Zag],by simp only [upd_same,upd_other,ne_eq,not_false_eq_true,Nat.reduceEqDiff],no,no,no,no,no,no⟩
 ·rintro L ρ u k x d hk7 hx hd hL hdeps hcl ⟨hmu,r1,r2,H0,H1,H2,H3,H4,H5⟩
  have tu:=hmu.keep t0 id
  obtain rfl|rfl|rfl|rfl|rfl|rfl|rfl:k=0∨k=1∨k=2∨k=3∨k=4∨k=5∨k=6:=by omega
  all_goals (obtain rfl:=Option.some.inj hx;obtain rfl:=Option.some.inj hd)
  ·simp only [updO_some,ev_tmp,insVc,faddrK,Nat.zero_add,r2]
   exact ⟨hmu,r1,r2,fun _=>rfl,H1,H2,H3,H4,H5⟩
  ·simp only [ZB,insVc,loadNK,Nat.reduceAdd,Nat.reduceLeDiff,Zai,Zak,Zaj,Zar,Zap,Zaq,Zby,Zao,Zas,Nat.reduceSub,H0 (hdeps 0 (by decide)),tu]
   exact ⟨hmu,r1,r2,H0,fun _=>rfl,H2,H3,H4,H5⟩
  ·simp only [updO_some,ev_tmp,insVc,faddrK,Nat.zero_add,r2]
   exact ⟨hmu,r1,r2,H0,H1,fun _=>rfl,H3,H4,H5⟩
  ·simp only [ZB,insVc,loadNK,Nat.reduceAdd,Nat.reduceLeDiff,Zai,Zak,Zaj,Zar,Zap,Zaq,Zby,Zao,Zas,Nat.reduceSub,H2 (hdeps 2 (by decide)),tu]
   exact ⟨hmu,r1,r2,H0,H1,H2,fun _=>rfl,H4,H5⟩
  ·simp only [updO_some,insVc,Value.cells]
   have hma:Mod (fun _=>False) u (u.alloc (.cells #[.string ⟨#[]⟩,.int .u32 0,.int .u64 0,.int .u32 0,.string ⟨#[]⟩] 121)):=(Mod.refl _ _).alloc _
   refine ⟨hmu.trans hma,r1,r2,H0,H1,H2,H3,fun _=>⟨u.heap.size,_,rfl,hmu.size,get_alloc_new _ _,rfl,fun a6 => ?_,fun a5 => ?_⟩,fun a5 => ?_⟩
   ·have a6':L 6=true:=a6
    have:=hcl 6 _ rfl a6' 4 (by decide)
    rw [this] at hL;cases hL
   ·obtain ⟨y,e1,e2,e3⟩:=H5 a5
    show ρ 6≠_
    rw [e1]
    intro hh
    have:y=u.heap.size:=by simpa using hh
    have:=lt_of_get e3
    omega
   ·obtain ⟨y,e1,e2,e3⟩:=H5 a5
    exact ⟨y,e1,e2,hma.keep e3 id⟩
  ·simp only [updO_some,insVc,Value.cells]
   have hma:Mod (fun _=>False) u (u.alloc (.cells zb 124)):=(Mod.refl _ _).alloc _
   refine ⟨hmu.trans hma,r1,r2,H0,H1,H2,H3,fun a4 => ?_,fun _=>⟨u.heap.size,rfl,hmu.size,get_alloc_new _ _⟩⟩
   obtain ⟨x,cs,e1,e2,e3,e4,e5,_⟩:=H4 a4
   refine ⟨x,cs,e1,e2,hma.keep e3 id,e4,e5,fun _ hh => ?_⟩
   have hh':ptr u.heap.size=ptr x:=hh
   have:u.heap.size=x:=by simpa using hh'
   have:=lt_of_get e3
   omega
  ·obtain ⟨x,cs,e1,e2,e3,e4,e5,e6⟩:=H4 (hdeps 4 (by decide))
   have h8:=H1 (hdeps 1 (by decide))
   have a5:=hdeps 5 (by decide)
   obtain ⟨y,g1,g2,g3⟩:=H5 a5
   have hne:=e6 a5
   rw [g1] at hne
   have hxy:y≠x:=fun hh=>hne (by rw [hh])
   have hlen:0+5≤cs.size:=by omega
   have hmx:Mod (fun k=>k=x) u (Vc.set u x (.cells c.q.cells.toArray 121)):=(Mod.refl _ _).set (.inr rfl)
   have s5:=setMany5 cs e4 (.string c.q.name) (.int .u32 c.q.most) (.int .u64 c.q.ttl) (.int .u32 c.q.tries) (.string c.q.dead)
   simp only [insVc,ev_tmp,e1,h8,storeNK,e3,storeNO_cells]
   refine ⟨by refine ⟨?_,hlen, ?_, ?_⟩ <;> simp [Qu.cells,isPlain], ?_⟩
   have hsm:setMany cs 0 c.q.cells.toArray.toList=c.q.cells.toArray:=s5
   rw [hsm]
   refine ⟨hmu.then hmx (fun i hi hk=>by omega),r1,r2,H0,H1,H2,H3,fun _=>⟨x,_,e1,e2,get_set_same _ _ _ (lt_of_get e3),rfl,fun _=>rfl,fun _ => ?_⟩,fun _=>⟨y,g1,g2,hmx.keep g3 hxy⟩⟩
   show ρ 6≠_
   rw [g1];exact hne
 rintro L ρ u x hall ⟨hmu,r1,r2,H0,H1,H2,H3,H4,H5⟩ hx
 obtain rfl:=Option.some.inj hx
 obtain ⟨qb,cs,e1,e2,e3,e4,e5,e6⟩:=H4 (hall 4 (by decide))
 have hcs:=e5 (hall 6 (by decide))
 subst hcs
 have a5:=hall 5 (by decide)
 obtain ⟨yb,g1,g2,g3⟩:=H5 a5
 have h10:=H3 (hall 3 (by decide))
 have hne:=e6 a5
 rw [g1] at hne
 have hyq:yb≠qb:=fun hh=>hne (by rw [hh])
 have tu:=hmu.keep t0 id
 have twl:=lt_of_get t0
 have hmy:Mod (fun k=>k=yb) u (Vc.set u yb (.cells #[.string c.b.ex,.int .i64 c.b.kind,.string c.b.key,.string c.b.q] 124)):=(Mod.refl _ _).set (.inr rfl)
 have v1:=hmy.keep e3 (fun hh=>hyq hh.symm)
 have v2:=get_set_same u yb (.cells #[.string c.b.ex,.int .i64 c.b.kind,.string c.b.key,.string c.b.q] 124) (lt_of_get g3)
 have v3:=hmy.keep tu (by omega)
 have hmv:Mod (fun _=>False) w (Vc.set u yb (.cells #[.string c.b.ex,.int .i64 c.b.kind,.string c.b.key,.string c.b.q] 124)):=(hm0.trans hmu).then hmy (fun i hi hk=>by have:=hm0.size;omega)
 obtain ⟨x,hx⟩:∃x:Int,x=(f:Int):=⟨_,rfl⟩
 rw [← hx] at r1
 have hadd:∀a b:ByteArray,a.size+b.size<2^63→(((a.size+b.size:Nat):Int) > IntKind.i64.max)=False:=by
  intro a b hab
  have e:IntKind.i64.max=9223372036854775807:=rfl
  rw [e]
  simp only [eq_iff_iff,iff_false]
  omega
 simp only [Qu.cells] at v1
 simp only [ZB,insVc,storeNK,setMany,iopK,iopV,isPlain,Nat.reduceAdd,Nat.reduceLeDiff,reduceCtorEq,Zai,Zak,Zaj,Zal,Zam,Zan,Zau,Zav,Zax,g1,h10,Bi.cells,g3,r1]
 revert v1 v2 v3 hmv
 generalize Vc.set u yb (.cells #[.string c.b.ex,.int .i64 c.b.kind,.string c.b.key,.string c.b.q] 124)=v
 intro v1 v2 v3 hmv
 have n1:=hc.name
 have n2:=hc.qd
 by_cases f1:x=113
 ·subst f1
  have ef:f=113:=by omega
  have hK:=h
  simp only [fieldB,ef,Zaa] at hK
  simp only [vc_seq,condP_true,Int.reduceBEq]
  refine draw_e (by kernel_rfl) (by kernel_rfl) (by kernel_rfl) (by kernel_rfl) ?_
  simp only [ZB,endK,resK,packed,insVc,load1K,faddrK,ne_eq,Nat.reduceEqDiff,Zae,Zab,Za,Zag,Zah,Zad,Zaa,Zaf,pureI,kindI,loadI,vcE_nil,vcE_cons,stepE_pure,stepE_load,stepE_step,e1,v1]
  refine wtext_c c.q.name _ _ (by omega) ?_
  intro u1 hu1
  have m1:Mod (fun _=>False) v u1:=(Mod.refl _ v).drew.trans hu1
  refine ⟨m1, ?_⟩
  refine wfour_c c.q.most _ _ hc.most ?_
  intro u2 hu2
  have m2:=m1.trans hu2
  refine ⟨m2, ?_⟩
  have s1:=hadd (textB c.q.name) (big c.q.most 4) (by rw [textB_size,big_size];omega)
  simp only [loadV_some,Zaf,sopK,sopV,s1]
  refine weight_c c.q.ttl _ _ hc.ttl ?_
  intro u3 hu3
  have m3:=m2.trans hu3
  refine ⟨m3, ?_⟩
  have s2:=hadd (textB c.q.name ++ big c.q.most 4) (big c.q.ttl 8) (by simp only [Zbt,textB_size,big_size];omega)
  simp only [loadV_some,Zaf,s2]
  refine wfour_c c.q.tries _ _ hc.tries ?_
  intro u4 hu4
  have m4:=m3.trans hu4
  refine ⟨m4, ?_⟩
  have s3:=hadd (textB c.q.name ++ big c.q.most 4 ++ big c.q.ttl 8) (big c.q.tries 4) (by simp only [Zbt,textB_size,big_size];omega)
  simp only [loadV_some,Zaf,s3]
  refine wtext_c c.q.dead _ _ (by omega) ?_
  intro u5 hu5
  have m5:=m4.trans hu5
  refine ⟨m5, ?_⟩
  have s4:=hadd (textB c.q.name ++ big c.q.most 4 ++ big c.q.ttl 8 ++ big c.q.tries 4) (textB c.q.dead) (by simp only [Zbt,textB_size,big_size];omega)
  simp only [loadV_some,Zaf,s4]
  exact hK _ (hmv.trans m5)
 have d1:(x == 113)=false:=by simpa using f1
 by_cases f2:x=110
 ·subst f2
  have ef:f=110:=by omega
  have hK:=h
  simp [fieldB,ef] at hK
  simp only [ZB,insVc,load1K,iopK,iopV,faddrK,ne_eq,Nat.reduceEqDiff,reduceCtorEq,Zae,Zab,Za,Zah,Int.reduceBEq,d1,e1,v1]
  refine wtext_c c.q.name _ _ (by have:=hc.name;omega) ?_
  intro u1 hu1
  simp only [ZB,endK,resK,packed,insVc,Zad]
  exact hK _ (hmv.trans hu1)
 have d2:(x == 110)=false:=by simpa using f2
 by_cases f3:x=98
 ·subst f3
  have ef:f=98:=by omega
  have hK:=h
  simp [fieldB,ef] at hK
  simp only [ZB,insVc,iopK,iopV,ne_eq,Nat.reduceEqDiff,reduceCtorEq,Int.reduceBEq,d1,d2]
  refine draw_e (by kernel_rfl) (by kernel_rfl) (by kernel_rfl) (by kernel_rfl) ?_
  have q1:=hc.bex
  have q2:=hc.bkey
  have q3:=hc.bq
  have hwr:IntKind.u8.wrap c.b.kind=(((c.b.kind%256).toNat:Nat):Int):=by
   have e:IntKind.u8.wrap c.b.kind=c.b.kind%256:=by rfl
   rw [e];omega
  simp only [ZB,endK,resK,packed,insVc,load1K,convK,faddrK,ne_eq,Nat.reduceEqDiff,Zae,Zab,Za,Zag,Zah,Zad,Zaa,Zaf,pureI,kindI,loadI,vcE_nil,vcE_cons,stepE_pure,stepE_load,stepE_step,g1,v2]
  refine wtext_c c.b.ex _ _ (by omega) ?_
  intro u1 hu1
  have m1:Mod (fun _=>False) v u1:=(Mod.refl _ v).drew.trans hu1
  refine ⟨m1, ?_⟩
  simp only [hwr]
  refine wone_c (c.b.kind%256).toNat _ _ (by omega) ?_
  intro u2 hu2
  have m2:=m1.trans hu2
  refine ⟨m2, ?_⟩
  have s1:=hadd (textB c.b.ex) (big (c.b.kind%256).toNat 1) (by rw [textB_size,big_size];omega)
  simp only [loadV_some,Zaf,sopK,sopV,s1]
  refine wtext_c c.b.key _ _ (by omega) ?_
  intro u3 hu3
  have m3:=m2.trans hu3
  refine ⟨m3, ?_⟩
  have s2:=hadd (textB c.b.ex ++ big (c.b.kind%256).toNat 1) (textB c.b.key) (by simp only [Zbt,textB_size,big_size];omega)
  simp only [loadV_some,Zaf,s2]
  refine wtext_c c.b.q _ _ (by omega) ?_
  intro u4 hu4
  have m4:=m3.trans hu4
  refine ⟨m4, ?_⟩
  have s3:=hadd (textB c.b.ex ++ big (c.b.kind%256).toNat 1 ++ textB c.b.key) (textB c.b.q) (by simp only [Zbt,textB_size,big_size];omega)
  simp only [loadV_some,Zaf,s3]
  exact hK _ (hmv.trans m4)
 have d3:(x == 98)=false:=by simpa using f3
 by_cases f4:x=120
 ·subst f4
  have ef:f=120:=by omega
  have hK:=h
  simp [fieldB,ef] at hK
  simp only [ZB,insVc,load1K,iopK,iopV,faddrK,ne_eq,Nat.reduceEqDiff,reduceCtorEq,Zae,Zab,Za,Zag,Zah,Int.reduceBEq,d1,d2,d3,r2,v3]
  refine wtext_c c.ex _ _ (by have:=hc.ex;omega) ?_
  intro u1 hu1
  simp only [ZB,endK,resK,packed,insVc,Zad]
  exact hK _ (hmv.trans hu1)
 have d4:(x == 120)=false:=by simpa using f4
 by_cases f5:x=107
 ·subst f5
  have ef:f=107:=by omega
  have hK:=h
  simp [fieldB,ef] at hK
  simp only [ZB,insVc,load1K,iopK,iopV,faddrK,ne_eq,Nat.reduceEqDiff,reduceCtorEq,Zae,Zab,Za,Zag,Zah,Int.reduceBEq,d1,d2,d3,d4,r2,v3]
  refine wtext_c c.key _ _ (by have:=hc.key;omega) ?_
  intro u1 hu1
  simp only [ZB,endK,resK,packed,insVc,Zad]
  exact hK _ (hmv.trans hu1)
 have d5:(x == 107)=false:=by simpa using f5
 by_cases f6:x=121
 ·subst f6
  have ef:f=121:=by omega
  have hK:=h
  simp [fieldB,ef] at hK
  simp only [ZB,insVc,load1K,iopK,iopV,faddrK,ne_eq,Nat.reduceEqDiff,reduceCtorEq,Zae,Zab,Za,Zag,Zah,Int.reduceBEq,d1,d2,d3,d4,d5,r2,v3]
  refine wtext_c c.body _ _ (by have:=hc.body;omega) ?_
  intro u1 hu1
  simp only [ZB,endK,resK,packed,insVc,Zad]
  exact hK _ (hmv.trans hu1)
 have d6:(x == 121)=false:=by simpa using f6
 by_cases f7:x=105
 ·subst f7
  have ef:f=105:=by omega
  have hK:=h
  simp [fieldB,ef] at hK
  simp only [ZB,insVc,load1K,iopK,iopV,faddrK,ne_eq,Nat.reduceEqDiff,reduceCtorEq,Zae,Zab,Za,Zag,Zah,Int.reduceBEq,d1,d2,d3,d4,d5,d6,r2,v3]
  refine weight_c c.id _ _ (by have:=hc.id;omega) ?_
  intro u1 hu1
  simp only [ZB,endK,resK,packed,insVc,Zad]
  exact hK _ (hmv.trans hu1)
 have d7:(x == 105)=false:=by simpa using f7
 by_cases f8:x=116
 ·subst f8
  have ef:f=116:=by omega
  have hK:=h
  simp [fieldB,ef] at hK
  simp only [ZB,insVc,load1K,iopK,iopV,faddrK,ne_eq,Nat.reduceEqDiff,reduceCtorEq,Zae,Zab,Za,Zag,Zah,Int.reduceBEq,d1,d2,d3,d4,d5,d6,d7,r2,v3]
  refine weight_c c.token _ _ (by have:=hc.token;omega) ?_
  intro u1 hu1
  simp only [ZB,endK,resK,packed,insVc,Zad]
  exact hK _ (hmv.trans hu1)
 have d8:(x == 116)=false:=by simpa using f8
 by_cases f9:x=99
 ·subst f9
  have ef:f=99:=by omega
  have hK:=h
  simp [fieldB,ef] at hK
  simp only [ZB,insVc,load1K,iopK,iopV,faddrK,ne_eq,Nat.reduceEqDiff,reduceCtorEq,Zae,Zab,Za,Zag,Zah,Int.reduceBEq,d1,d2,d3,d4,d5,d6,d7,d8,r2,v3]
  refine weight_c c.n _ _ (by have:=hc.n;omega) ?_
  intro u1 hu1
  simp only [ZB,endK,resK,packed,insVc,Zad]
  exact hK _ (hmv.trans hu1)
 have d9:(x == 99)=false:=by simpa using f9
 by_cases f10:x=109
 ·subst f10
  have ef:f=109:=by omega
  have hK:=h
  simp [fieldB,ef] at hK
  simp only [ZB,insVc,load1K,iopK,iopV,faddrK,ne_eq,Nat.reduceEqDiff,reduceCtorEq,Zae,Zab,Za,Zag,Zah,Int.reduceBEq,d1,d2,d3,d4,d5,d6,d7,d8,d9,r2,v3]
  refine weight_c c.time _ _ (by have:=hc.time;omega) ?_
  intro u1 hu1
  simp only [ZB,endK,resK,packed,insVc,Zad]
  exact hK _ (hmv.trans hu1)
 have d10:(x == 109)=false:=by simpa using f10
 have hf:fieldB c f=if c.dead=true then big 1 1 else big 0 1:=by
  unfold fieldB
  rw [if_neg (by omega),if_neg (by omega),if_neg (by omega),if_neg (by omega),if_neg (by omega),if_neg (by omega),if_neg (by omega),if_neg (by omega),if_neg (by omega),if_neg (by omega)]
 rw [hf] at h
 simp only [ZB,insVc,load1K,iopK,iopV,faddrK,ne_eq,Nat.reduceEqDiff,reduceCtorEq,Za,Zag,Zah,d1,d2,d3,d4,d5,d6,d7,d8,d9,d10,r2,v3]
 cases hd:c.dead with
 | true =>
  rw [hd,if_pos rfl] at h
  simp only [ZB,insVc,Zae,Zab]
  refine wone_c 1 _ _ (by omega) ?_
  intro u1 hu1
  simp only [ZB,endK,resK,packed,insVc,Zad]
  exact h _ (hmv.trans hu1)
 | false =>
  rw [hd,if_neg (by decide)] at h
  simp only [ZB,insVc,Zae,Zab]
  refine wone_c 0 _ _ (by omega) ?_
  intro u1 hu1
  simp only [ZB,endK,resK,packed,insVc,Zad]
  exact h _ (hmv.trans hu1)
def Cm.err (c:Cm):Int :=
 if ¬(1≤c.kind∧c.kind≤13) then 11 else if (!eqCm c.only c)=true∨c.b.kind<0∨c.b.kind > 255 then 4 else if c.long=true then 5 else 0
def Cm.bytes (c:Cm):ByteArray:=(frm c.kind.toNat).data.toList.foldl (fun s f=>s ++ fieldB c f.toNat) (big c.kind.toNat 1)
theorem fieldB_size (c:Cm) (f:Nat) (h:c.long=false):(fieldB c f).size≤40000:=by
 unfold Cm.long at h
 simp only [Bool.or_eq_false_iff,decide_eq_false_iff_not] at h
 unfold fieldB
 repeat' split
 all_goals simp only [Zbt,textB_size,big_size]
 all_goals omega
def BytesI (c:Cm) (w:World) (s:ByteArray) (ib:Nat) (m:Nat) (ρ:Env) (ds:List Deferred) (u:World):Prop :=
 ∃pos,pos≤s.size∧m=s.size-pos∧ds=[]∧(ρ 1=ptr w.heap.size∧ρ 40=ptr ib∧ρ 4 = .string ((s.data.toList.take pos).foldl (fun s f=>s ++ fieldB c f.toNat) (big c.kind.toNat 1)))∧Mod (fun _=>False) w u ∧
  u.heap[w.heap.size]? = some (.cells c.cells.toArray 126 (0,0))∧u.heap[ib]? = some (.stringIter s pos)
theorem acc_size (c:Cm) (hl:c.long=false):∀(l:List UInt8) (a:ByteArray),(l.foldl (fun s f=>s ++ fieldB c f.toNat) a).size≤a.size+l.length * 40000:=by
 intro l
 induction l with
 | nil=>intro a;simp
 | cons b r ih =>
  intro a
  rw [List.foldl_cons]
  refine Nat.le_trans (ih _) ?_
  rw [ByteArray.size_append,List.length_cons]
  have:=fieldB_size c b.toNat hl
  omega
theorem bytes24_c (c:Cm) (w:World) (K:Value→World→Prop) (hc:c.fine) (hf:Forms w)
  (h:∀w',Mod (fun _=>False) w w'→K (.tuple #[.string (if c.err=0 then c.bytes else e0),.int .i64 c.err]) w'):Ok prog 74 #[c.val] w K:=by
 refine F74.enter (args:=[c.val]) (by simp) ?_
 unfold c74 r74
 obtain ⟨w0,hw0⟩:∃w0,w0=w.alloc (.cells #[.int .i64 c.kind,.string c.q.name,.int .u32 c.q.most,.int .u64 c.q.ttl,.int .u32 c.q.tries,.string c.q.dead,.string c.b.ex,.int .i64 c.b.kind,.string c.b.key,.string c.b.q,.string c.ex,.string c.key,.string c.body,.int .u64 c.id,.int .u64 c.token,.int .u64 c.n,.int .u64 c.time,.bool c.dead] 126):=⟨_,rfl⟩
 have hm0:Mod (fun _=>False) w w0:=by rw [hw0];exact (Mod.refl _ _).alloc _
 have t0:w0.heap[w.heap.size]? = some (.cells #[.int .i64 c.kind,.string c.q.name,.int .u32 c.q.most,.int .u64 c.q.ttl,.int .u32 c.q.tries,.string c.q.dead,.string c.b.ex,.int .i64 c.b.kind,.string c.b.key,.string c.b.q,.string c.ex,.string c.key,.string c.body,.int .u64 c.id,.int .u64 c.token,.int .u64 c.n,.int .u64 c.time,.bool c.dead] 126 (0,0)):=by rw [hw0];exact get_alloc_new _ _
 simp only [ZB,insVc,load1K,faddrK,Value.cells,ne_eq,Nat.reduceEqDiff,Zac,Zae,Zab,Za,Zah,Zaa,get_alloc,Nat.reduceEqDiff,Cm.val,Cm.cells]
 rw [← hw0]
 clear hw0
 refine known_c c.kind w0 _ ?_
 by_cases hk:1≤c.kind∧c.kind≤13
 ·rw [decide_eq_true hk]
  obtain ⟨k,hkk⟩:∃k:Nat,c.kind=(k:Int):=⟨c.kind.toNat,by omega⟩
  have hkn:c.kind.toNat=k:=by omega
  simp only [ZB,insVc,notK]
  refine draw_e (by kernel_rfl) (by kernel_rfl) (by kernel_rfl) (by kernel_rfl) ?_
  simp only [ZB,insVc,pickK,loadNK,ne_eq,Nat.reduceEqDiff,Nat.reduceAdd,Nat.reduceLeDiff,Zae,Zab,Zai,Zak,Zaj,Zaa,Zaf,Zar,Zap,Zaq,Zao,Zas,Zat,pureI,kindI,loadI,vcE_nil,vcE_cons,vcE_gate,stepE_pure,stepE_load,stepE_step,t0]
  refine only_c c w0.drew _ hk (hf.mod0 (hm0.trans (Mod.refl _ _).drew)) ?_
  intro w1 hm1
  have m1:Mod (fun _=>False) w0 w1:=(Mod.refl _ w0).drew.trans hm1
  refine ⟨m1, ?_⟩
  refine rawK_neq_agg (xs:=c.only.cells.toArray) (ys:=c.cells.toArray) rfl rfl rfl (by simp only [ZB,ne_eq,Nat.reduceEqDiff] <;> rfl) (by simp only [upd_same,ev_tmp] <;> rfl) (by kernel_rfl) (eqr_cm c.only c) ?_
  refine ⟨m1, ?_⟩
  have fin:∀e:Int,c.err=e→e≠0→K (.tuple #[.string ⟨#[]⟩,.int .i64 e]) w1:=by
   intro e he hne
   have:=h _ (hm0.trans m1)
   rw [he,if_neg hne] at this
   exact this
  by_cases c1:(!eqCm c.only c)=true
  ·simp only [ZB,endK,resK,packed,insVc,ne_eq,Nat.reduceEqDiff,Zad,Zaw,Zaa,gateE_false,c1]
   exact fin 4 (by unfold Cm.err;rw [if_neg (fun hh=>hh hk),if_pos (.inl c1)]) (by decide)
  have c1':(!eqCm c.only c)=false:=by simpa using c1
  by_cases c2:c.b.kind<0
  ·simp only [ZB,endK,resK,packed,insVc,load1K,iopK,iopV,faddrK,ne_eq,Nat.reduceEqDiff,Nat.reduceAdd,reduceCtorEq,Za,Zag,Zah,Zad,Zaw,Zaa,Zaf,pureI,kindI,loadI,gateE_true,gateE_false,stepE_pure,stepE_load,c1',c2,t0]
   exact fin 4 (by unfold Cm.err;rw [if_neg (fun hh=>hh hk),if_pos (.inr (.inl c2))]) (by decide)
  by_cases c3:c.b.kind > 255
  ·simp only [ZB,endK,resK,packed,insVc,load1K,iopK,iopV,faddrK,ne_eq,Nat.reduceEqDiff,Nat.reduceAdd,reduceCtorEq,Za,Zag,Zah,Zad,Zaw,Zaa,Zaf,pureI,kindI,loadI,gateE_true,stepE_pure,stepE_load,c1',c2,c3,t0]
   exact fin 4 (by unfold Cm.err;rw [if_neg (fun hh=>hh hk),if_pos (.inr (.inr c3))]) (by decide)
  simp only [ZB,insVc,load1K,loadNK,iopK,iopV,faddrK,ne_eq,Nat.reduceEqDiff,Nat.reduceAdd,reduceCtorEq,Za,Zag,Zah,Zaa,Zaf,pureI,kindI,loadI,gateE_true,stepE_pure,stepE_load,c1',c2,c3,t0]
  have t1:=m1.keep t0 id
  simp only [ZB,insVc,Nat.reduceAdd,Nat.reduceLeDiff,Zae,Zab,Zai,Zak,Zaj,Zar,Zap,Zaq,Zao,Zas,Zat,t1]
  refine long_c c w1 _ ?_
  intro w2 hm2
  have m2:=m1.trans hm2
  have t2:=m2.keep t0 id
  have h4:¬((!eqCm c.only c)=true∨c.b.kind<0∨c.b.kind > 255):=by rintro (x|x|x);exact c1 x;exact c2 x;exact c3 x
  cases hl:c.long with
  | true =>
   have he:c.err=5:=by unfold Cm.err;rw [if_neg (fun hh=>hh hk),if_neg h4,if_pos hl]
   simp only [ZB,endK,resK,packed,insVc,ne_eq,Nat.reduceEqDiff,Zad,Zaw]
   have:=h _ (hm0.trans m2)
   rw [he] at this
   exact this
  | false =>
   have he:c.err=0:=by unfold Cm.err;rw [if_neg (fun hh=>hh hk),if_neg h4,if_neg (by rw [hl];decide)]
   rw [he,if_pos rfl] at h
   have hwr:IntKind.u8.wrap c.kind=((c.kind.toNat:Nat):Int):=by
    have e:IntKind.u8.wrap c.kind=c.kind%256:=by rfl
    rw [e];omega
   simp only [ZB,insVc,load1K,convK,faddrK,ne_eq,Nat.reduceEqDiff,Zae,Zab,Za,Zah,t2,hwr]
   refine wone_c c.kind.toNat w2 _ (by omega) ?_
   intro w3 hm3
   have m3:=m2.trans hm3
   have t3:=m3.keep t0 id
   obtain ⟨ft,ff,hfw⟩:=hf.mod0 (hm0.trans m3)
   have hk14:k<14:=by omega
   have hr:(0:Int)≤(k:Int)∧(k:Int)<((14:Nat):Int):=by omega
   have hfa:=frmV_at k hk14
   have hasc:=frm_ascii k hk14
   have hfs:=frm_size k hk14
   have hby:c.bytes=(frm k).data.toList.foldl (fun s f=>s ++ fieldB c f.toNat) (big c.kind.toNat 1):=by unfold Cm.bytes;rw [hkn]
   rw [hby] at h
   obtain ⟨s,hs⟩:∃s,s=frm k:=⟨_,rfl⟩
   rw [← hs] at h hfa hasc hfs
   simp only [ZB,insVc,load1K,faddrK,iaddrAK,ne_eq,Nat.reduceEqDiff,Za,Zah,Zbj,Zbm,t3,hkk,hfw,hr,hfa]
   refine Go.Vc.rawK_range (s:=s) rfl rfl (by kernel_rfl) (by simp only [upd_same,ev_tmp]) ?_
   have hw3:w.heap.size<w3.heap.size:=lt_of_get t3
   simp only [ZB]
   refine vc_loop (BytesI c w s w3.heap.size) s.size ?_ ?_
   ·refine ⟨0,Nat.zero_le _,rfl,rfl,⟨by simp only [upd_same,upd_other,ne_eq,not_false_eq_true,Nat.reduceEqDiff],by simp only [upd_same], ?_⟩,(hm0.trans m3).alloc _, ?_,get_alloc_new _ _⟩
    ·simp only [upd_same,upd_other,ne_eq,not_false_eq_true,Nat.reduceEqDiff,Zbc,Zao,hkn,Zbc]
    ·exact (((Mod.refl (fun _=>False) w3).alloc _).keep t3 id)
   ·rintro m ρ ds u ⟨pos,hpos,rfl,rfl,⟨r1,r40,r4⟩,hmu,u0,u1⟩
    obtain ⟨a,ha⟩:∃a,a=(s.data.toList.take pos).foldl (fun s f=>s ++ fieldB c f.toNat) (big c.kind.toNat 1):=⟨_,rfl⟩
    rw [← ha] at r4
    have has:a.size≤1+4*40000:=by
     rw [ha]
     refine Nat.le_trans (acc_size c hl _ _) ?_
     rw [big_size,List.length_take]
     have:min pos s.data.toList.length≤4:=by rw [Array.length_toList];show min pos s.size≤4;omega
     omega
    by_cases hlt:pos<s.size
    ·obtain ⟨b,hb⟩:∃b,s.data[pos]? = some b:=⟨_,Array.getElem?_eq_getElem hlt⟩
     have hba:=hasc b (by have:=List.mem_of_getElem? (l:=s.data.toList) (i:=pos) (a:=b) (by simpa using hb);exact this)
     have htk:=take_snoc s pos b hb
     have hfo:(s.data.toList.take (pos+1)).foldl (fun s f=>s ++ fieldB c f.toNat) (big c.kind.toNat 1)=a ++ fieldB c b.toNat:=by rw [htk,List.foldl_append,ha];rfl
     simp only [vc_seq,vc_ops,vcOps_cons,insVc]
     refine Go.Vc.rawK_next (s:=s) (pos:=pos) (b:=b) rfl rfl (by simp only [ev_tmp];exact r40) u1 hb hba ?_
     have hms:Mod (fun k=>k=w3.heap.size) u (Vc.set u w3.heap.size (.stringIter s (pos+1))):=(Mod.refl _ _).set (.inr rfl)
     have v0:=hms.keep u0 (by omega)
     have v1:(Vc.set u w3.heap.size (.stringIter s (pos+1))).heap[w3.heap.size]? = some (.stringIter s (pos+1)):=get_set_same _ _ _ (lt_of_get u1)
     have hmv:Mod (fun _=>False) w (Vc.set u w3.heap.size (.stringIter s (pos+1))):=hmu.set (.inl (by omega))
     revert v0 v1 hmv
     generalize Vc.set u w3.heap.size (.stringIter s (pos+1))=v
     intro v0 v1 hmv
     have v0':=v0
     simp only [Cm.cells] at v0'
     simp only [ZB,insVc,loadNK,extK,ne_eq,Nat.reduceEqDiff,Nat.reduceAdd,Nat.reduceLeDiff,Zae,Zab,Za,Zag,Zah,Zai,Zak,Zaj,Zar,Zap,Zaq,Zao,Zas,Zat,r1,r4,v0']
     refine field_c c b.toNat v _ hc ?_
     intro u2 hm2
     have hfz:=fieldB_size c b.toNat hl
     have hadd:(((a.size+(fieldB c b.toNat).size:Nat):Int) > IntKind.i64.max)=False:=by
      have e:IntKind.i64.max=9223372036854775807:=rfl
      rw [e]
      simp only [eq_iff_iff,iff_false]
      omega
     simp only [ZB,insVc,sopK,sopV,ne_eq,Nat.reduceEqDiff,Zaf,hadd]
     refine ⟨s.size-(pos+1),by omega,pos+1,by omega,rfl,rfl,⟨by simp only [upd_other,ne_eq,not_false_eq_true,Nat.reduceEqDiff,r1],by simp only [upd_other,ne_eq,not_false_eq_true,Nat.reduceEqDiff,r40], ?_⟩,hmv.trans hm2,hm2.keep v0 id,hm2.keep v1 id⟩
     rw [hfo]
     simp only [upd_same]
    ·have hp:pos=s.size:=by omega
     subst hp
     rw [List.take_of_length_le (by rw [Array.length_toList];exact Nat.le_refl _)] at ha
     rw [← ha] at h
     simp only [vc_seq,vc_ops,vcOps_cons,insVc]
     refine rawK_nextEnd (s:=s) (pos:=s.size) rfl rfl (by simp only [ev_tmp];exact r40) u1 (Nat.le_refl _) ?_
     simp only [ZB,endK,resK,packed,insVc,extK,ne_eq,Nat.reduceEqDiff,Za,Zah,Zad,Zaw,r4]
     exact h _ hmu
 ·have he:c.err=11:=by unfold Cm.err;rw [if_pos hk]
  rw [decide_eq_false hk]
  simp only [ZB,endK,resK,packed,insVc,notK,ne_eq,Nat.reduceEqDiff,Zad,Zaw]
  have:=h _ hm0
  rw [he] at this
  exact this
end Go.Oct
