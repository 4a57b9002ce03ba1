import Derived.Test.YtcbacomljnjacaaGreatDoorVkB
import Derived.Test.YtcbacomljnjacaaGreatDoorVdC
import Derived.Test.YtcbacomljnjacaaGreatDoorVoB
set_option linter.unusedSimpArgs false
set_option linter.unusedVariables false
set_option linter.unusedSectionVars false
set_option linter.unnecessarySimpa false
namespace Go.Oct
open Go Go.Vc Go.VrA Go.VrI
set_option maxRecDepth 100000
def fieldB (c : Cm) (f : Nat) : ByteArray :=
  if f = 113 then textB c.q.name ++ big c.q.most 4 ++ big c.q.ttl 8 ++ big c.q.tries 4 ++ textB c.q.dead else if f = 110 then textB c.q.name else
  if f = 98 then textB c.b.ex ++ big (c.b.kind % 256).toNat 1 ++ textB c.b.key ++ textB c.b.q else if f = 120 then textB c.ex else if f = 107 then textB c.key else if f = 121 then textB c.body else
  if f = 105 then big c.id 8 else if f = 116 then big c.token 8 else if f = 99 then big c.n 8 else if f = 109 then big c.time 8 else if c.dead = true then big 1 1 else big 0 1
structure Cm.fine (c : Cm) : Prop where
  name : c.q.name.size < 2 ^ 60
  qd : c.q.dead.size < 2 ^ 60
  most : c.q.most < 2 ^ 32
  ttl : c.q.ttl < 2 ^ 64
  tries : c.q.tries < 2 ^ 32
  bex : c.b.ex.size < 2 ^ 60
  bkey : c.b.key.size < 2 ^ 60
  bq : c.b.q.size < 2 ^ 60
  ex : c.ex.size < 2 ^ 60
  key : c.key.size < 2 ^ 60
  body : c.body.size < 2 ^ 60
  id : c.id < 2 ^ 64
  token : c.token < 2 ^ 64
  n : c.n < 2 ^ 64
  time : c.time < 2 ^ 64
def FieldI (c : Cm) (f : Int) (w0 : World) (tb : Nat) (L : Nat→Bool) (ρ : Env) (u : World) : Prop :=
  Mod (fun _=>False) w0 u∧ρ 1 = .int .i32 f∧ρ 2 = ptr tb∧(L 0 = true→ρ 7 = .pointer (some ⟨tb,1,none⟩))∧(L 1 = true→ρ 8 = .agg c.q.cells.toArray)∧(L 2 = true→ρ 9 = .pointer (some ⟨tb,6,none⟩))∧(L 3 = true→ρ 10 = .agg c.b.cells.toArray) ∧
    (L 4 = true→∃ x cs,ρ 5 = ptr x∧w0.heap.size≤x∧u.heap[x]? = some (.cells cs 121 (0,0))∧cs.size = 5∧(L 6 = true→cs = c.q.cells.toArray)∧(L 5 = true→ρ 6≠ptr x)) ∧
    (L 5 = true→∃ y,ρ 6 = ptr y∧w0.heap.size≤y∧u.heap[y]? = some (.cells zb 124 (0,0)))
theorem setMany5 (cs : Array Value) (hc : cs.size = 5) (a b c d e : Value) : setMany cs 0 [a,b,c,d,e] = #[a,b,c,d,e]:=by
  obtain ⟨l⟩:=cs
  match l,hc with
  | [x1,x2,x3,x4,x5],_=>rfl
theorem field_c (c : Cm) (f : Nat) (w : World) (K : Value→World→Prop) (hc : c.fine) (h : ∀ w',Mod (fun _=>False) w w'→K (.string (fieldB c f)) w') :
    Ok Proofs.Tryz.prog 97 #[c.val,.int .i32 f] w K:=by
  refine F97.enter (args:=[c.val,.int .i32 f]) (by simp) ?_
  unfold c97 r97
  obtain ⟨w0,hw0⟩ : ∃ w0,w0 = w.alloc (.cells #[.int .i64 c.kind,.string c.q.name,.int .u32 c.q.most,.int .u64 c.q.ttl,.int .u32 c.q.tries,.string c.q.dead,.string c.b.ex,.int .i64 c.b.kind,.string c.b.key,.string c.b.q,.string c.ex,.string c.key,.string c.body,.int .u64 c.id,.int .u64 c.token,.int .u64 c.n,.int .u64 c.time,.bool c.dead] 126):=⟨_,rfl⟩
  have hm0 : Mod (fun _=>False) w w0:=by rw [hw0]; exact (Mod.refl _ _).alloc _
  have t0 : w0.heap[w.heap.size]? = some (.cells #[.int .i64 c.kind,.string c.q.name,.int .u32 c.q.most,.int .u64 c.q.ttl,.int .u32 c.q.tries,.string c.q.dead,.string c.b.ex,.int .i64 c.b.kind,.string c.b.key,.string c.b.q,.string c.ex,.string c.key,.string c.body,.int .u64 c.id,.int .u64 c.token,.int .u64 c.n,.int .u64 c.time,.bool c.dead] 126 (0,0)):=by rw [hw0]; exact get_alloc_new _ _
  simp only [ZB,insVc,Value.cells,Zaf,Za,Cm.val,Cm.cells]
  rw [← hw0]
  clear hw0
  refine draw_c (dp:=[[],[0],[],[2],[],[],[4,1,0,1,4,5],[5,3,6,0,1,2,3,4,5,6]]) (N:=7) (FieldI c f w0 w.heap.size)
    (by kernel_rfl) (by kernel_rfl) (by kernel_rfl) (by kernel_rfl) (by kernel_rfl) (by kernel_rfl) rfl rfl (by kernel_rfl) ?_ ?_ ?_
  · have no : ∀ {p : Prop},false = true→p:=fun h=>(Bool.false_ne_true h).elim
    exact ⟨(Mod.refl _ _).drew,by simp only [ZB,ne_eq,Nat.reduceEqDiff,Zaf,Za,Zag],by simp only [ZB,ne_eq,Nat.reduceEqDiff],no,no,no,no,no,no⟩
  · rintro L ρ u k x d hk7 hx hd hL hdeps hcl ⟨hmu,r1,r2,H0,H1,H2,H3,H4,H5⟩
    have tu:=hmu.keep t0 id
    obtain rfl | rfl | rfl | rfl | rfl | rfl | rfl : k = 0∨k = 1∨k = 2∨k = 3∨k = 4∨k = 5∨k = 6:=by omega
    all_goals (obtain rfl:=Option.some.inj hx; obtain rfl:=Option.some.inj hd)
    · simp only [ZB,insVc,faddrK,r2]
      exact ⟨hmu,r1,r2,fun _=>rfl,H1,H2,H3,H4,H5⟩
    · simp only [ZB,insVc,loadNK,Nat.reduceAdd,Nat.reduceLeDiff,Zai,Zaj,Zak,Zaq,Zap,Zar,Zby,Zao,Zas,Nat.reduceSub,H0 (hdeps 0 (by decide)),tu]
      exact ⟨hmu,r1,r2,H0,fun _=>rfl,H2,H3,H4,H5⟩
    · simp only [ZB,insVc,faddrK,r2]
      exact ⟨hmu,r1,r2,H0,H1,fun _=>rfl,H3,H4,H5⟩
    · simp only [ZB,insVc,loadNK,Nat.reduceAdd,Nat.reduceLeDiff,Zai,Zaj,Zak,Zaq,Zap,Zar,Zby,Zao,Zas,Nat.reduceSub,H2 (hdeps 2 (by decide)),tu]
      exact ⟨hmu,r1,r2,H0,H1,H2,fun _=>rfl,H4,H5⟩
    · simp only [ZB,insVc,Value.cells]
      have hma : Mod (fun _=>False) u (u.alloc (.cells #[.string ⟨#[]⟩,.int .u32 0,.int .u64 0,.int .u32 0,.string ⟨#[]⟩] 121)):=(Mod.refl _ _).alloc _
      refine ⟨hmu.trans hma,r1,r2,H0,H1,H2,H3,fun _=>⟨u.heap.size,_,rfl,hmu.size,get_alloc_new _ _,rfl,fun a6 => ?_,fun a5 => ?_⟩,fun a5 => ?_⟩
      · have a6' : L 6 = true:=a6
        have:=hcl 6 _ rfl a6' 4 (by decide)
        rw [this] at hL; cases hL
      · obtain ⟨y,e1,e2,e3⟩:=H5 a5
        show ρ 6≠_
        rw [e1]
        intro hh
        have : y = u.heap.size:=by simpa using hh
        have:=lt_of_get e3
        omega
      · obtain ⟨y,e1,e2,e3⟩:=H5 a5
        exact ⟨y,e1,e2,hma.keep e3 id⟩
    · simp only [ZB,insVc,Value.cells]
      have hma : Mod (fun _=>False) u (u.alloc (.cells zb 124)):=(Mod.refl _ _).alloc _
      refine ⟨hmu.trans hma,r1,r2,H0,H1,H2,H3,fun a4 => ?_,fun _=>⟨u.heap.size,rfl,hmu.size,get_alloc_new _ _⟩⟩
      obtain ⟨x,cs,e1,e2,e3,e4,e5,_⟩:=H4 a4
      refine ⟨x,cs,e1,e2,hma.keep e3 id,e4,e5,fun _ hh => ?_⟩
      have hh' : ptr u.heap.size = ptr x:=hh
      have : u.heap.size = x:=by simpa using hh'
      have:=lt_of_get e3
      omega
    · obtain ⟨x,cs,e1,e2,e3,e4,e5,e6⟩:=H4 (hdeps 4 (by decide))
      have h8:=H1 (hdeps 1 (by decide))
      have a5:=hdeps 5 (by decide)
      obtain ⟨y,g1,g2,g3⟩:=H5 a5
      have hne:=e6 a5
      rw [g1] at hne
      have hxy : y≠x:=fun hh=>hne (by rw [hh])
      have hlen : 0 + 5≤cs.size:=by omega
      have hmx : Mod (fun k=>k = x) u (Vc.set u x (.cells c.q.cells.toArray 121)):=(Mod.refl _ _).set (.inr rfl)
      have s5:=setMany5 cs e4 (.string c.q.name) (.int .u32 c.q.most) (.int .u64 c.q.ttl) (.int .u32 c.q.tries) (.string c.q.dead)
      simp only [insVc,ev_tmp,e1,h8,storeNK,e3,storeNO_cells]
      refine ⟨by refine ⟨?_,hlen, ?_, ?_⟩ <;> simp [Qu.cells,isPlain], ?_⟩
      have hsm : setMany cs 0 c.q.cells.toArray.toList = c.q.cells.toArray:=s5
      rw [hsm]
      refine ⟨hmu.then hmx (fun i hi hk=>by omega),r1,r2,H0,H1,H2,H3,fun _=>⟨x,_,e1,e2,get_set_same _ _ _ (lt_of_get e3),rfl,fun _=>rfl,fun _ => ?_⟩,fun _=>⟨y,g1,g2,hmx.keep g3 hxy⟩⟩
      show ρ 6≠_
      rw [g1]; exact hne
  rintro L ρ u x hall ⟨hmu,r1,r2,H0,H1,H2,H3,H4,H5⟩ hx
  obtain rfl:=Option.some.inj hx
  obtain ⟨qb,cs,e1,e2,e3,e4,e5,e6⟩:=H4 (hall 4 (by decide))
  have hcs:=e5 (hall 6 (by decide))
  subst hcs
  have a5:=hall 5 (by decide)
  obtain ⟨yb,g1,g2,g3⟩:=H5 a5
  have h10:=H3 (hall 3 (by decide))
  have hne:=e6 a5
  rw [g1] at hne
  have hyq : yb≠qb:=fun hh=>hne (by rw [hh])
  have tu:=hmu.keep t0 id
  have twl:=lt_of_get t0
  have hmy : Mod (fun k=>k = yb) u (Vc.set u yb (.cells #[.string c.b.ex,.int .i64 c.b.kind,.string c.b.key,.string c.b.q] 124)):=(Mod.refl _ _).set (.inr rfl)
  have v1:=hmy.keep e3 (fun hh=>hyq hh.symm)
  have v2:=get_set_same u yb (.cells #[.string c.b.ex,.int .i64 c.b.kind,.string c.b.key,.string c.b.q] 124) (lt_of_get g3)
  have v3:=hmy.keep tu (by omega)
  have hmv : Mod (fun _=>False) w (Vc.set u yb (.cells #[.string c.b.ex,.int .i64 c.b.kind,.string c.b.key,.string c.b.q] 124)):=(hm0.trans hmu).then hmy (fun i hi hk=>by have:=hm0.size; omega)
  obtain ⟨x,hx⟩ : ∃ x : Int,x = (f : Int):=⟨_,rfl⟩
  rw [← hx] at r1
  have hadd : ∀ a b : ByteArray,a.size + b.size < 2 ^ 63→(((a.size + b.size : Nat) : Int) > IntKind.i64.max) = False:=by
    intro a b hab
    have e : IntKind.i64.max = 9223372036854775807:=rfl
    rw [e]
    simp only [eq_iff_iff,iff_false]
    omega
  simp only [Qu.cells] at v1
  simp only [ZB,insVc,storeNK,setMany,iopK,iopV,isPlain,Nat.reduceAdd,Nat.reduceLeDiff,reduceCtorEq,Zai,Zaj,Zak,Zal,Zam,Zan,Zau,Zaw,Zax,g1,h10,Bi.cells,g3,r1]
  revert v1 v2 v3 hmv
  generalize Vc.set u yb (.cells #[.string c.b.ex,.int .i64 c.b.kind,.string c.b.key,.string c.b.q] 124) = v
  intro v1 v2 v3 hmv
  have n1:=hc.name
  have n2:=hc.qd
  by_cases f1 : x = 113
  · subst f1
    have ef : f = 113:=by omega
    have hK:=h
    simp only [fieldB,ef,Zab] at hK
    simp only [ZB,Int.reduceBEq]
    refine draw_e (by kernel_rfl) (by kernel_rfl) (by kernel_rfl) (by kernel_rfl) ?_
    simp only [ZB,endK,resK,packed,insVc,load1K,faddrK,ne_eq,Nat.reduceEqDiff,Zad,Zac,Za,Zag,Zah,Zaa,Zab,Zae,pureI,kindI,loadI,vcE_nil,vcE_cons,stepE_pure,stepE_load,stepE_step,e1,v1]
    refine wtext_c c.q.name _ _ (by omega) ?_
    intro u1 hu1
    have m1 : Mod (fun _=>False) v u1:=(Mod.refl _ v).drew.trans hu1
    refine ⟨m1, ?_⟩
    refine wfour_c c.q.most _ _ hc.most ?_
    intro u2 hu2
    have m2:=m1.trans hu2
    refine ⟨m2, ?_⟩
    have s1:=hadd (textB c.q.name) (big c.q.most 4) (by rw [textB_size,big_size]; omega)
    simp only [loadV_some,Zae,sopK,sopV,s1]
    refine weight_c c.q.ttl _ _ hc.ttl ?_
    intro u3 hu3
    have m3:=m2.trans hu3
    refine ⟨m3, ?_⟩
    have s2:=hadd (textB c.q.name ++ big c.q.most 4) (big c.q.ttl 8) (by simp only [Zbs,textB_size,big_size]; omega)
    simp only [loadV_some,Zae,s2]
    refine wfour_c c.q.tries _ _ hc.tries ?_
    intro u4 hu4
    have m4:=m3.trans hu4
    refine ⟨m4, ?_⟩
    have s3:=hadd (textB c.q.name ++ big c.q.most 4 ++ big c.q.ttl 8) (big c.q.tries 4) (by simp only [Zbs,textB_size,big_size]; omega)
    simp only [loadV_some,Zae,s3]
    refine wtext_c c.q.dead _ _ (by omega) ?_
    intro u5 hu5
    have m5:=m4.trans hu5
    refine ⟨m5, ?_⟩
    have s4:=hadd (textB c.q.name ++ big c.q.most 4 ++ big c.q.ttl 8 ++ big c.q.tries 4) (textB c.q.dead) (by simp only [Zbs,textB_size,big_size]; omega)
    simp only [loadV_some,Zae,s4]
    exact hK _ (hmv.trans m5)
  have d1 : (x == 113) = false:=by simpa using f1
  by_cases f2 : x = 110
  · subst f2
    have ef : f = 110:=by omega
    have hK:=h
    simp [fieldB,ef] at hK
    simp only [ZB,insVc,load1K,iopK,iopV,faddrK,ne_eq,Nat.reduceEqDiff,reduceCtorEq,Zad,Zac,Za,Zah,Int.reduceBEq,d1,e1,v1]
    refine wtext_c c.q.name _ _ (by have:=hc.name; omega) ?_
    intro u1 hu1
    simp only [ZB,endK,resK,packed,insVc,Zaa]
    exact hK _ (hmv.trans hu1)
  have d2 : (x == 110) = false:=by simpa using f2
  by_cases f3 : x = 98
  · subst f3
    have ef : f = 98:=by omega
    have hK:=h
    simp [fieldB,ef] at hK
    simp only [ZB,insVc,iopK,iopV,ne_eq,Nat.reduceEqDiff,reduceCtorEq,Int.reduceBEq,d1,d2]
    refine draw_e (by kernel_rfl) (by kernel_rfl) (by kernel_rfl) (by kernel_rfl) ?_
    have q1:=hc.bex
    have q2:=hc.bkey
    have q3:=hc.bq
    have hwr : IntKind.u8.wrap c.b.kind = (((c.b.kind % 256).toNat : Nat) : Int):=by
      have e : IntKind.u8.wrap c.b.kind = c.b.kind % 256:=by rfl
      rw [e]; omega
    simp only [ZB,endK,resK,packed,insVc,load1K,convK,faddrK,ne_eq,Nat.reduceEqDiff,Zad,Zac,Za,Zag,Zah,Zaa,Zab,Zae,pureI,kindI,loadI,vcE_nil,vcE_cons,stepE_pure,stepE_load,stepE_step,g1,v2]
    refine wtext_c c.b.ex _ _ (by omega) ?_
    intro u1 hu1
    have m1 : Mod (fun _=>False) v u1:=(Mod.refl _ v).drew.trans hu1
    refine ⟨m1, ?_⟩
    simp only [hwr]
    refine wone_c (c.b.kind % 256).toNat _ _ (by omega) ?_
    intro u2 hu2
    have m2:=m1.trans hu2
    refine ⟨m2, ?_⟩
    have s1:=hadd (textB c.b.ex) (big (c.b.kind % 256).toNat 1) (by rw [textB_size,big_size]; omega)
    simp only [loadV_some,Zae,sopK,sopV,s1]
    refine wtext_c c.b.key _ _ (by omega) ?_
    intro u3 hu3
    have m3:=m2.trans hu3
    refine ⟨m3, ?_⟩
    have s2:=hadd (textB c.b.ex ++ big (c.b.kind % 256).toNat 1) (textB c.b.key) (by simp only [Zbs,textB_size,big_size]; omega)
    simp only [loadV_some,Zae,s2]
    refine wtext_c c.b.q _ _ (by omega) ?_
    intro u4 hu4
    have m4:=m3.trans hu4
    refine ⟨m4, ?_⟩
    have s3:=hadd (textB c.b.ex ++ big (c.b.kind % 256).toNat 1 ++ textB c.b.key) (textB c.b.q) (by simp only [Zbs,textB_size,big_size]; omega)
    simp only [loadV_some,Zae,s3]
    exact hK _ (hmv.trans m4)
  have d3 : (x == 98) = false:=by simpa using f3
  by_cases f4 : x = 120
  · subst f4
    have ef : f = 120:=by omega
    have hK:=h
    simp [fieldB,ef] at hK
    simp only [ZB,insVc,load1K,iopK,iopV,faddrK,ne_eq,Nat.reduceEqDiff,reduceCtorEq,Zad,Zac,Za,Zag,Zah,Int.reduceBEq,d1,d2,d3,r2,v3]
    refine wtext_c c.ex _ _ (by have:=hc.ex; omega) ?_
    intro u1 hu1
    simp only [ZB,endK,resK,packed,insVc,Zaa]
    exact hK _ (hmv.trans hu1)
  have d4 : (x == 120) = false:=by simpa using f4
  by_cases f5 : x = 107
  · subst f5
    have ef : f = 107:=by omega
    have hK:=h
    simp [fieldB,ef] at hK
    simp only [ZB,insVc,load1K,iopK,iopV,faddrK,ne_eq,Nat.reduceEqDiff,reduceCtorEq,Zad,Zac,Za,Zag,Zah,Int.reduceBEq,d1,d2,d3,d4,r2,v3]
    refine wtext_c c.key _ _ (by have:=hc.key; omega) ?_
    intro u1 hu1
    simp only [ZB,endK,resK,packed,insVc,Zaa]
    exact hK _ (hmv.trans hu1)
  have d5 : (x == 107) = false:=by simpa using f5
  by_cases f6 : x = 121
  · subst f6
    have ef : f = 121:=by omega
    have hK:=h
    simp [fieldB,ef] at hK
    simp only [ZB,insVc,load1K,iopK,iopV,faddrK,ne_eq,Nat.reduceEqDiff,reduceCtorEq,Zad,Zac,Za,Zag,Zah,Int.reduceBEq,d1,d2,d3,d4,d5,r2,v3]
    refine wtext_c c.body _ _ (by have:=hc.body; omega) ?_
    intro u1 hu1
    simp only [ZB,endK,resK,packed,insVc,Zaa]
    exact hK _ (hmv.trans hu1)
  have d6 : (x == 121) = false:=by simpa using f6
  by_cases f7 : x = 105
  · subst f7
    have ef : f = 105:=by omega
    have hK:=h
    simp [fieldB,ef] at hK
    simp only [ZB,insVc,load1K,iopK,iopV,faddrK,ne_eq,Nat.reduceEqDiff,reduceCtorEq,Zad,Zac,Za,Zag,Zah,Int.reduceBEq,d1,d2,d3,d4,d5,d6,r2,v3]
    refine weight_c c.id _ _ (by have:=hc.id; omega) ?_
    intro u1 hu1
    simp only [ZB,endK,resK,packed,insVc,Zaa]
    exact hK _ (hmv.trans hu1)
  have d7 : (x == 105) = false:=by simpa using f7
  by_cases f8 : x = 116
  · subst f8
    have ef : f = 116:=by omega
    have hK:=h
    simp [fieldB,ef] at hK
    simp only [ZB,insVc,load1K,iopK,iopV,faddrK,ne_eq,Nat.reduceEqDiff,reduceCtorEq,Zad,Zac,Za,Zag,Zah,Int.reduceBEq,d1,d2,d3,d4,d5,d6,d7,r2,v3]
    refine weight_c c.token _ _ (by have:=hc.token; omega) ?_
    intro u1 hu1
    simp only [ZB,endK,resK,packed,insVc,Zaa]
    exact hK _ (hmv.trans hu1)
  have d8 : (x == 116) = false:=by simpa using f8
  by_cases f9 : x = 99
  · subst f9
    have ef : f = 99:=by omega
    have hK:=h
    simp [fieldB,ef] at hK
    simp only [ZB,insVc,load1K,iopK,iopV,faddrK,ne_eq,Nat.reduceEqDiff,reduceCtorEq,Zad,Zac,Za,Zag,Zah,Int.reduceBEq,d1,d2,d3,d4,d5,d6,d7,d8,r2,v3]
    refine weight_c c.n _ _ (by have:=hc.n; omega) ?_
    intro u1 hu1
    simp only [ZB,endK,resK,packed,insVc,Zaa]
    exact hK _ (hmv.trans hu1)
  have d9 : (x == 99) = false:=by simpa using f9
  by_cases f10 : x = 109
  · subst f10
    have ef : f = 109:=by omega
    have hK:=h
    simp [fieldB,ef] at hK
    simp only [ZB,insVc,load1K,iopK,iopV,faddrK,ne_eq,Nat.reduceEqDiff,reduceCtorEq,Zad,Zac,Za,Zag,Zah,Int.reduceBEq,d1,d2,d3,d4,d5,d6,d7,d8,d9,r2,v3]
    refine weight_c c.time _ _ (by have:=hc.time; omega) ?_
    intro u1 hu1
    simp only [ZB,endK,resK,packed,insVc,Zaa]
    exact hK _ (hmv.trans hu1)
  have d10 : (x == 109) = false:=by simpa using f10
  have hf : fieldB c f = if c.dead = true then big 1 1 else big 0 1:=by
    unfold fieldB
    rw [if_neg (by omega),if_neg (by omega),if_neg (by omega),if_neg (by omega),if_neg (by omega),if_neg (by omega),if_neg (by omega),if_neg (by omega),if_neg (by omega),if_neg (by omega)]
  rw [hf] at h
  simp only [ZB,insVc,load1K,iopK,iopV,faddrK,ne_eq,Nat.reduceEqDiff,reduceCtorEq,Za,Zag,Zah,d1,d2,d3,d4,d5,d6,d7,d8,d9,d10,r2,v3]
  cases hd : c.dead with
  | true =>
    rw [hd,if_pos rfl] at h
    simp only [ZB,insVc,Zad,Zac]
    refine wone_c 1 _ _ (by omega) ?_
    intro u1 hu1
    simp only [ZB,endK,resK,packed,insVc,Zaa]
    exact h _ (hmv.trans hu1)
  | false =>
    rw [hd,if_neg (by decide)] at h
    simp only [ZB,insVc,Zad,Zac]
    refine wone_c 0 _ _ (by omega) ?_
    intro u1 hu1
    simp only [ZB,endK,resK,packed,insVc,Zaa]
    exact h _ (hmv.trans hu1)
end Go.Oct
