import Derived.Test.YtpggpopbkmgodaaGreatDoorVrI
import Derived.Test.YtpggpopbkmgodaaGreatDoorVlA
import Derived.Test.YtpggpopbkmgodaaGreatDoorVnC
set_option linter.unusedSimpArgs false
set_option linter.unusedVariables false
set_option linter.unusedSectionVars false
set_option linter.unnecessarySimpa false
namespace Go.Oct
open Go Go.Vc Go.VrA Go.VrI Go.Proofs.Tryz
set_option maxRecDepth 100000
structure Cm where
 kind:Int
 q:Qu
 b:Bi
 ex:ByteArray
 key:ByteArray
 body:ByteArray
 id:Nat
 token:Nat
 n:Nat
 time:Nat
 dead:Bool
def Cm.cells (c:Cm):List Value:=[.int .i64 c.kind,.string c.q.name,.int .u32 c.q.most,.int .u64 c.q.ttl,.int .u32 c.q.tries,.string c.q.dead,.string c.b.ex,.int .i64 c.b.kind,.string c.b.key,.string c.b.q,
 .string c.ex,.string c.key,.string c.body,.int .u64 c.id,.int .u64 c.token,.int .u64 c.n,.int .u64 c.time,.bool c.dead]
def Cm.val (c:Cm):Value:=.agg c.cells.toArray
def cm0 (k:Int):Cm:=⟨k,q0,b0,e0,e0,e0,0,0,0,0,false⟩
def frmL:List ByteArray:=[e0,⟨#[113]⟩,⟨#[110]⟩,⟨#[98]⟩,⟨#[98]⟩,⟨#[120,107,121,109]⟩,⟨#[110,99,109]⟩,⟨#[110,105,116]⟩,⟨#[110,105,116,100]⟩,⟨#[110,105,116,109]⟩,⟨#[110]⟩,⟨#[109]⟩,⟨#[110]⟩,⟨#[110,105,99]⟩]
def frm (k:Nat):ByteArray:=frmL[k]?.getD e0
def frmV:Array Value:=(frmL.map Value.string).toArray
def Forms (w:World):Prop:=∃t f,w.heap[2]? = some (.cells frmV t f)
theorem Forms.mod {w w':World} {S:Nat→Prop} (h:Forms w) (hm:Mod S w w') (hs:¬S 2):Forms w':=by
 obtain ⟨t,f,h⟩:=h
 exact ⟨t,f,hm.keep h hs⟩
theorem Forms.mod0 {w w':World} (h:Forms w) (hm:Mod (fun _=>False) w w'):Forms w':=h.mod hm id
theorem frmV_at (k:Nat) (hk:k<14):frmV[k]? = some (.string (frm k)):=by
 have:∀k,k<14→frmV[k]? = some (.string (frm k)):=by
  intro k hk
  rcases k with _|_|_|_|_|_|_|_|_|_|_|_|_|_|k
  all_goals first|rfl|omega
 exact this k hk
theorem frm_ascii:∀k,k<14→∀b∈(frm k).data.toList,b.toNat<128:=by decide
theorem frm_size:∀k,k<14→(frm k).size≤4:=by decide
theorem known_c (k:Int) (w:World) (K:Value→World→Prop) (h:K (.bool (decide (1≤k∧k≤13))) w):Ok prog 93 #[.int .i64 k] w K:=by
 refine F93.enter (args:=[.int .i64 k]) (by simp) ?_
 unfold c93 r93
 by_cases h1:1≤k
 ·have d1:k ≥ 1:=h1
  by_cases h2:k≤13
  ·simp only [ZB,endK,resK,packed,insVc,pickK,iopK,iopV,ne_eq,Nat.reduceEqDiff,reduceCtorEq,Zac,Za,Zad,Zaa,d1,h2]
   simpa [h1,h2] using h
  ·simp only [ZB,endK,resK,packed,insVc,pickK,iopK,iopV,ne_eq,Nat.reduceEqDiff,reduceCtorEq,Zac,Za,Zad,Zaa,d1,h2]
   simpa [h1,h2] using h
 ·have d1:¬k ≥ 1:=h1
  simp only [ZB,endK,resK,packed,insVc,pickK,iopK,iopV,ne_eq,Nat.reduceEqDiff,reduceCtorEq,Zac,Za,Zad,Zaf,d1]
  simpa [h1] using h
def onlyStep (c o:Cm) (f:Nat):Cm :=
 if f=113 then { o with q:=c.q } else if f=110 then { o with q:={ o.q with name:=c.q.name } } else if f=98 then { o with b:=c.b } else if f=120 then { o with ex:=c.ex } else
 if f=107 then { o with key:=c.key } else if f=121 then { o with body:=c.body } else if f=105 then { o with id:=c.id } else if f=116 then { o with token:=c.token } else
 if f=99 then { o with n:=c.n } else if f=109 then { o with time:=c.time } else if f=100 then { o with dead:=c.dead } else o
def Cm.only (c:Cm):Cm:=(frm c.kind.toNat).data.toList.foldl (fun o f=>onlyStep c o f.toNat) (cm0 c.kind)
def OnlyI (c:Cm) (w:World) (s:ByteArray) (m:Nat) (ρ:Env) (ds:List Deferred) (u:World):Prop :=
 ∃pos,pos≤s.size∧m=s.size-pos∧ds=[]∧(ρ 1=ptr w.heap.size∧ρ 2=ptr (w.heap.size+1)∧ρ 3=ptr (w.heap.size+2)∧ρ 13=ptr (w.heap.size+3))∧Mod (fun _=>False) w u ∧
  u.heap[w.heap.size]? = some (.cells c.cells.toArray 126 (0,0))∧u.heap[w.heap.size+1]? = some (.cells (cm0 0).cells.toArray 126 (0,0)) ∧
  u.heap[w.heap.size+2]? = some (.cells ((s.data.toList.take pos).foldl (fun o f=>onlyStep c o f.toNat) (cm0 c.kind)).cells.toArray 126 (0,0))∧u.heap[w.heap.size+3]? = some (.stringIter s pos)
theorem only_c (c:Cm) (w:World) (K:Value→World→Prop) (hk:1≤c.kind∧c.kind≤13) (hf:Forms w) (h:∀w',Mod (fun _=>False) w w'→K c.only.val w') :
  Ok prog 94 #[c.val] w K:=by
 refine F94.enter (args:=[c.val]) (by simp) ?_
 unfold c94 r94
 obtain ⟨k,hkk⟩:∃k:Nat,c.kind=(k:Int):=⟨c.kind.toNat,by omega⟩
 have hk14:k<14:=by omega
 have hkn:c.kind.toNat=k:=by omega
 obtain ⟨ft,ff,hfw⟩:=hf
 have hfl:=lt_of_get hfw
 have hfne:2≠w.heap.size∧2≠w.heap.size+1∧2≠w.heap.size+2:=by omega
 have hr:(0:Int)≤(k:Int)∧(k:Int)<((14:Nat):Int):=by omega
 have hfa:=frmV_at k hk14
 have honly:c.only=(frm k).data.toList.foldl (fun o f=>onlyStep c o f.toNat) (cm0 c.kind):=by unfold Cm.only;rw [hkn]
 have hasc:=frm_ascii k hk14
 rw [honly] at h
 obtain ⟨s,hs⟩:∃s,s=frm k:=⟨_,rfl⟩
 rw [← hs] at h hfa hasc
 simp only [ZB,insVc,load1K,storeNK,setMany,faddrK,iaddrAK,buildK,fillL,isPlain,Value.cells,ne_eq,Nat.reduceEqDiff,Nat.reduceAdd,Nat.reduceLeDiff,reduceCtorEq,Zac,Za,Zah,Zai,Zak,Zaj,Zbe,Zbf,Zbd,Zbc,Zal,Zam,Zan,Zbh,Zaa,Zaf,Zbj,Zbm,Zau,Zav,Zax,Zay,get_alloc,get_set,Zb,Nat.reduceAdd,Zbg,Zba,Zbi,Nat.reduceEqDiff,Zaz,Cm.val,Cm.cells,hkk,hfw,hfne.1,hfne.2.1,hfne.2.2,hr,hfa]
 refine Go.Vc.rawK_range (s:=s) rfl rfl (by kernel_rfl) (by simp only [upd_same,ev_tmp]) ?_
 simp only [ZB,Nat.reduceAdd,Zb,Nat.reduceAdd]
 refine vc_loop (OnlyI c w s) s.size ?_ ?_
 ·refine ⟨0,Nat.zero_le _,rfl,rfl,⟨by simp only [upd_same,upd_other,ne_eq,not_false_eq_true,Nat.reduceEqDiff],by simp only [upd_same,upd_other,ne_eq,not_false_eq_true,Nat.reduceEqDiff,Nat.reduceEqDiff],by simp only [upd_same,upd_other,ne_eq,not_false_eq_true,Nat.reduceEqDiff,Nat.reduceEqDiff],by simp only [upd_same]⟩,(((((Mod.refl _ _).alloc _).alloc _).alloc _).set (.inl (by omega))).alloc _, ?_, ?_, ?_, ?_⟩
  ·simp only [Nat.reduceAdd,reduceCtorEq,and_true,Zaa,Zaf,size_set,size_alloc,Zay,get_alloc,get_set,size_alloc,size_set,Zb,Nat.reduceAdd,Zbi,Zaz,Cm.cells,hkk]
  ·simp only [Nat.reduceEqDiff,Nat.reduceAdd,and_true,Zaa,Zaf,size_set,size_alloc,Zay,get_alloc,get_set,size_alloc,size_set,Zb,Nat.reduceAdd,Zbg,Zba,Nat.reduceEqDiff,Zaz];rfl
  ·simp only [Nat.reduceEqDiff,Nat.reduceAdd,Zbc,Zaf,Zao,size_set,size_alloc,Zbb,Zay,get_alloc,size_alloc,size_set,Zb,Nat.reduceAdd,Zbg,Nat.reduceEqDiff,hkk];rfl
  ·simp only [Nat.reduceEqDiff,Nat.reduceAdd,reduceCtorEq,and_true,Zaa,Zaf,size_set,size_alloc,Zay,get_alloc,get_set,size_alloc,size_set,Zb,Nat.reduceAdd,Zbg,Zba,Nat.reduceEqDiff]
 ·rintro m ρ ds u ⟨pos,hpos,rfl,rfl,⟨r1,r2,r3,r13⟩,hmu,u0,u1,u2,u3⟩
  obtain ⟨o,ho⟩:∃o,o=(s.data.toList.take pos).foldl (fun o f=>onlyStep c o f.toNat) (cm0 c.kind):=⟨_,rfl⟩
  rw [← ho] at u2
  by_cases hlt:pos<s.size
  ·obtain ⟨b,hb⟩:∃b,s.data[pos]? = some b:=⟨_,Array.getElem?_eq_getElem hlt⟩
   have hba:=hasc b (by have:=List.mem_of_getElem? (l:=s.data.toList) (i:=pos) (a:=b) (by simpa using hb);exact this)
   have htk:=take_snoc s pos b hb
   have hfo:(s.data.toList.take (pos+1)).foldl (fun o f=>onlyStep c o f.toNat) (cm0 c.kind)=onlyStep c o b.toNat:=by rw [htk,List.foldl_append,ho];rfl
   simp only [vc_seq,vc_ops,vcOps_cons,insVc]
   refine Go.Vc.rawK_next (s:=s) (pos:=pos) (b:=b) rfl rfl (by simp only [ev_tmp];exact r13) u3 hb hba ?_
   have hms:Mod (fun k=>k=w.heap.size+3) u (Vc.set u (w.heap.size+3) (.stringIter s (pos+1))):=(Mod.refl _ _).set (.inr rfl)
   have v0:=hms.keep u0 (by omega)
   have v1:=hms.keep u1 (by omega)
   have v2:=hms.keep u2 (by omega)
   have v3:(Vc.set u (w.heap.size+3) (.stringIter s (pos+1))).heap[w.heap.size+3]? = some (.stringIter s (pos+1)):=get_set_same _ _ _ (lt_of_get u3)
   have hmv:Mod (fun _=>False) w (Vc.set u (w.heap.size+3) (.stringIter s (pos+1))):=hmu.set (.inl (by omega))
   revert v0 v1 v2 v3 hmv
   generalize Vc.set u (w.heap.size+3) (.stringIter s (pos+1))=v
   intro v0 v1 v2 v3 hmv
   have fin:∀(ρ':Env) (o':Cm),(ρ' 1=ptr w.heap.size∧ρ' 2=ptr (w.heap.size+1)∧ρ' 3=ptr (w.heap.size+2)∧ρ' 13=ptr (w.heap.size+3))→o'=onlyStep c o b.toNat →
     ∃m',m'<s.size-pos∧OnlyI c w s m' ρ' [] (Vc.set v (w.heap.size+2) (.cells o'.cells.toArray 126 (0,0))):=by
    intro ρ' o' hρ hoo
    have hm2:Mod (fun k=>k=w.heap.size+2) v (Vc.set v (w.heap.size+2) (.cells o'.cells.toArray 126 (0,0))):=(Mod.refl _ _).set (.inr rfl)
    refine ⟨s.size-(pos+1),by omega,pos+1,by omega,rfl,rfl,hρ,hmv.set (.inl (by omega)),hm2.keep v0 (by omega),hm2.keep v1 (by omega), ?_,hm2.keep v3 (by omega)⟩
    rw [hfo,← hoo]
    exact get_set_same _ _ _ (lt_of_get v2)
   have hself:Vc.set v (w.heap.size+2) (.cells o.cells.toArray 126 (0,0))=v:=by
    have:=lt_of_get v2
    unfold Vc.set
    congr 1
    apply Array.ext
    ·simp
    ·intro i h1 h2
     rw [Array.getElem_setIfInBounds]
     split
     ·rename_i e
      subst e
      have:=(Array.getElem?_eq_some_iff.1 v2).2
      exact this.symm
     ·rfl
   have fin2:∀(ρ':Env),(ρ' 1=ptr w.heap.size∧ρ' 2=ptr (w.heap.size+1)∧ρ' 3=ptr (w.heap.size+2)∧ρ' 13=ptr (w.heap.size+3))→o=onlyStep c o b.toNat →
     ∃m',m'<s.size-pos∧OnlyI c w s m' ρ' [] v:=by
    intro ρ' hρ hoo
    have:=fin ρ' o hρ hoo
    rwa [hself] at this
   simp only [Cm.cells] at v0 v1 v2
   have l2:=lt_of_get v2
   obtain ⟨x,hx⟩:∃x:Int,x=((b.toNat:Nat):Int):=⟨_,rfl⟩
   simp only [ZB,insVc,iopK,iopV,extK,ne_eq,Nat.reduceEqDiff,reduceCtorEq,Za,Zag,Zah,← hx]
   by_cases e1:x=113
   ·subst e1
    have eb:b.toNat=113:=by omega
    simp only [ZB,insVc,loadNK,storeNK,setMany,faddrK,isPlain,ne_eq,Nat.reduceEqDiff,Nat.reduceAdd,Nat.reduceLeDiff,Zai,Zak,Zaj,Zal,Zam,Zan,Int.reduceBEq,Zar,Zap,Zaq,Zby,Zao,Zas,Nat.reduceSub,Zau,Zav,Zax,r1,r3,v0,v2]
    exact fin _ { o with q:=c.q } ⟨by simp only [upd_other,ne_eq,not_false_eq_true,Nat.reduceEqDiff,r1],by simp only [upd_other,ne_eq,not_false_eq_true,Nat.reduceEqDiff,r2],by simp only [upd_other,ne_eq,not_false_eq_true,Nat.reduceEqDiff,r3],by simp only [upd_other,ne_eq,not_false_eq_true,Nat.reduceEqDiff,r13]⟩ (by simp [onlyStep,eb])
   have n1:(x == 113)=false:=by simpa using e1
   by_cases e2:x=110
   ·subst e2
    have eb:b.toNat=110:=by omega
    simp only [ZB,insVc,load1K,storeK,iopK,iopV,faddrK,isPlain,ne_eq,Nat.reduceEqDiff,Nat.reduceAdd,Nat.reduceLT,Nat.reduceLeDiff,reduceCtorEq,Za,Zag,Zah,Zai,Zak,Zaj,Zal,Zam,Zan,Int.reduceBEq,r1,r3,v0,v2,n1]
    exact fin _ { o with q:={ o.q with name:=c.q.name } } ⟨by simp only [upd_other,ne_eq,not_false_eq_true,Nat.reduceEqDiff,r1],by simp only [upd_other,ne_eq,not_false_eq_true,Nat.reduceEqDiff,r2],by simp only [upd_other,ne_eq,not_false_eq_true,Nat.reduceEqDiff,r3],by simp only [upd_other,ne_eq,not_false_eq_true,Nat.reduceEqDiff,r13]⟩ (by simp [onlyStep,eb])
   have n2:(x == 110)=false:=by simpa using e2
   by_cases e3:x=98
   ·subst e3
    have eb:b.toNat=98:=by omega
    simp only [ZB,insVc,loadNK,storeNK,setMany,iopK,iopV,faddrK,isPlain,ne_eq,Nat.reduceEqDiff,Nat.reduceAdd,Nat.reduceLeDiff,reduceCtorEq,Zai,Zak,Zaj,Zal,Zam,Zan,Int.reduceBEq,Zar,Zap,Zaq,Zby,Zao,Zas,Nat.reduceSub,Zau,Zav,Zax,r1,r3,v0,v2,n1,n2]
    exact fin _ { o with b:=c.b } ⟨by simp only [upd_other,ne_eq,not_false_eq_true,Nat.reduceEqDiff,r1],by simp only [upd_other,ne_eq,not_false_eq_true,Nat.reduceEqDiff,r2],by simp only [upd_other,ne_eq,not_false_eq_true,Nat.reduceEqDiff,r3],by simp only [upd_other,ne_eq,not_false_eq_true,Nat.reduceEqDiff,r13]⟩ (by simp [onlyStep,eb])
   have n3:(x == 98)=false:=by simpa using e3
   by_cases e4:x=120
   ·subst e4
    have eb:b.toNat=120:=by omega
    simp only [ZB,insVc,load1K,storeK,iopK,iopV,faddrK,isPlain,ne_eq,Nat.reduceEqDiff,Nat.reduceAdd,Nat.reduceLT,Nat.reduceLeDiff,reduceCtorEq,Za,Zag,Zah,Zai,Zak,Zaj,Zal,Zam,Zan,Int.reduceBEq,r1,r3,v0,v2,n1,n2,n3]
    exact fin _ { o with ex:=c.ex } ⟨by simp only [upd_other,ne_eq,not_false_eq_true,Nat.reduceEqDiff,r1],by simp only [upd_other,ne_eq,not_false_eq_true,Nat.reduceEqDiff,r2],by simp only [upd_other,ne_eq,not_false_eq_true,Nat.reduceEqDiff,r3],by simp only [upd_other,ne_eq,not_false_eq_true,Nat.reduceEqDiff,r13]⟩ (by simp [onlyStep,eb])
   have n4:(x == 120)=false:=by simpa using e4
   by_cases e5:x=107
   ·subst e5
    have eb:b.toNat=107:=by omega
    simp only [ZB,insVc,load1K,storeK,iopK,iopV,faddrK,isPlain,ne_eq,Nat.reduceEqDiff,Nat.reduceAdd,Nat.reduceLT,Nat.reduceLeDiff,reduceCtorEq,Za,Zag,Zah,Zai,Zak,Zaj,Zal,Zam,Zan,Int.reduceBEq,r1,r3,v0,v2,n1,n2,n3,n4]
    exact fin _ { o with key:=c.key } ⟨by simp only [upd_other,ne_eq,not_false_eq_true,Nat.reduceEqDiff,r1],by simp only [upd_other,ne_eq,not_false_eq_true,Nat.reduceEqDiff,r2],by simp only [upd_other,ne_eq,not_false_eq_true,Nat.reduceEqDiff,r3],by simp only [upd_other,ne_eq,not_false_eq_true,Nat.reduceEqDiff,r13]⟩ (by simp [onlyStep,eb])
   have n5:(x == 107)=false:=by simpa using e5
   by_cases e6:x=121
   ·subst e6
    have eb:b.toNat=121:=by omega
    simp only [ZB,insVc,load1K,storeK,iopK,iopV,faddrK,isPlain,ne_eq,Nat.reduceEqDiff,Nat.reduceAdd,Nat.reduceLT,Nat.reduceLeDiff,reduceCtorEq,Za,Zag,Zah,Zai,Zak,Zaj,Zal,Zam,Zan,Int.reduceBEq,r1,r3,v0,v2,n1,n2,n3,n4,n5]
    exact fin _ { o with body:=c.body } ⟨by simp only [upd_other,ne_eq,not_false_eq_true,Nat.reduceEqDiff,r1],by simp only [upd_other,ne_eq,not_false_eq_true,Nat.reduceEqDiff,r2],by simp only [upd_other,ne_eq,not_false_eq_true,Nat.reduceEqDiff,r3],by simp only [upd_other,ne_eq,not_false_eq_true,Nat.reduceEqDiff,r13]⟩ (by simp [onlyStep,eb])
   have n6:(x == 121)=false:=by simpa using e6
   by_cases e7:x=105
   ·subst e7
    have eb:b.toNat=105:=by omega
    simp only [ZB,insVc,load1K,storeK,iopK,iopV,faddrK,isPlain,ne_eq,Nat.reduceEqDiff,Nat.reduceAdd,Nat.reduceLT,Nat.reduceLeDiff,reduceCtorEq,Za,Zag,Zah,Zai,Zak,Zaj,Zal,Zam,Zan,Int.reduceBEq,r1,r3,v0,v2,n1,n2,n3,n4,n5,n6]
    exact fin _ { o with id:=c.id } ⟨by simp only [upd_other,ne_eq,not_false_eq_true,Nat.reduceEqDiff,r1],by simp only [upd_other,ne_eq,not_false_eq_true,Nat.reduceEqDiff,r2],by simp only [upd_other,ne_eq,not_false_eq_true,Nat.reduceEqDiff,r3],by simp only [upd_other,ne_eq,not_false_eq_true,Nat.reduceEqDiff,r13]⟩ (by simp [onlyStep,eb])
   have n7:(x == 105)=false:=by simpa using e7
   by_cases e8:x=116
   ·subst e8
    have eb:b.toNat=116:=by omega
    simp only [ZB,insVc,load1K,storeK,iopK,iopV,faddrK,isPlain,ne_eq,Nat.reduceEqDiff,Nat.reduceAdd,Nat.reduceLT,Nat.reduceLeDiff,reduceCtorEq,Za,Zag,Zah,Zai,Zak,Zaj,Zal,Zam,Zan,Int.reduceBEq,r1,r3,v0,v2,n1,n2,n3,n4,n5,n6,n7]
    exact fin _ { o with token:=c.token } ⟨by simp only [upd_other,ne_eq,not_false_eq_true,Nat.reduceEqDiff,r1],by simp only [upd_other,ne_eq,not_false_eq_true,Nat.reduceEqDiff,r2],by simp only [upd_other,ne_eq,not_false_eq_true,Nat.reduceEqDiff,r3],by simp only [upd_other,ne_eq,not_false_eq_true,Nat.reduceEqDiff,r13]⟩ (by simp [onlyStep,eb])
   have n8:(x == 116)=false:=by simpa using e8
   by_cases e9:x=99
   ·subst e9
    have eb:b.toNat=99:=by omega
    simp only [ZB,insVc,load1K,storeK,iopK,iopV,faddrK,isPlain,ne_eq,Nat.reduceEqDiff,Nat.reduceAdd,Nat.reduceLT,Nat.reduceLeDiff,reduceCtorEq,Za,Zag,Zah,Zai,Zak,Zaj,Zal,Zam,Zan,Int.reduceBEq,r1,r3,v0,v2,n1,n2,n3,n4,n5,n6,n7,n8]
    exact fin _ { o with n:=c.n } ⟨by simp only [upd_other,ne_eq,not_false_eq_true,Nat.reduceEqDiff,r1],by simp only [upd_other,ne_eq,not_false_eq_true,Nat.reduceEqDiff,r2],by simp only [upd_other,ne_eq,not_false_eq_true,Nat.reduceEqDiff,r3],by simp only [upd_other,ne_eq,not_false_eq_true,Nat.reduceEqDiff,r13]⟩ (by simp [onlyStep,eb])
   have n9:(x == 99)=false:=by simpa using e9
   by_cases e10:x=109
   ·subst e10
    have eb:b.toNat=109:=by omega
    simp only [ZB,insVc,load1K,storeK,iopK,iopV,faddrK,isPlain,ne_eq,Nat.reduceEqDiff,Nat.reduceAdd,Nat.reduceLT,Nat.reduceLeDiff,reduceCtorEq,Za,Zag,Zah,Zai,Zak,Zaj,Zal,Zam,Zan,Int.reduceBEq,r1,r3,v0,v2,n1,n2,n3,n4,n5,n6,n7,n8,n9]
    exact fin _ { o with time:=c.time } ⟨by simp only [upd_other,ne_eq,not_false_eq_true,Nat.reduceEqDiff,r1],by simp only [upd_other,ne_eq,not_false_eq_true,Nat.reduceEqDiff,r2],by simp only [upd_other,ne_eq,not_false_eq_true,Nat.reduceEqDiff,r3],by simp only [upd_other,ne_eq,not_false_eq_true,Nat.reduceEqDiff,r13]⟩ (by simp [onlyStep,eb])
   have n10:(x == 109)=false:=by simpa using e10
   by_cases e11:x=100
   ·subst e11
    have eb:b.toNat=100:=by omega
    simp only [ZB,insVc,load1K,storeK,iopK,iopV,faddrK,isPlain,ne_eq,Nat.reduceEqDiff,Nat.reduceAdd,Nat.reduceLT,Nat.reduceLeDiff,reduceCtorEq,Za,Zag,Zah,Zai,Zak,Zaj,Zal,Zam,Zan,Int.reduceBEq,Zay,r1,r3,v0,v2,n1,n2,n3,n4,n5,n6,n7,n8,n9,n10]
    exact fin _ { o with dead:=c.dead } ⟨by simp only [upd_other,ne_eq,not_false_eq_true,Nat.reduceEqDiff,r1],by simp only [upd_other,ne_eq,not_false_eq_true,Nat.reduceEqDiff,r2],by simp only [upd_other,ne_eq,not_false_eq_true,Nat.reduceEqDiff,r3],by simp only [upd_other,ne_eq,not_false_eq_true,Nat.reduceEqDiff,r13]⟩ (by simp [onlyStep,eb])
   have n11:(x == 100)=false:=by simpa using e11
   simp only [ZB,insVc,iopK,iopV,ne_eq,Nat.reduceEqDiff,reduceCtorEq,n1,n2,n3,n4,n5,n6,n7,n8,n9,n10,n11]
   exact fin2 _ ⟨by simp only [upd_other,ne_eq,not_false_eq_true,Nat.reduceEqDiff,r1],by simp only [upd_other,ne_eq,not_false_eq_true,Nat.reduceEqDiff,r2],by simp only [upd_other,ne_eq,not_false_eq_true,Nat.reduceEqDiff,r3],by simp only [upd_other,ne_eq,not_false_eq_true,Nat.reduceEqDiff,r13]⟩ (by unfold onlyStep;rw [if_neg (by omega),if_neg (by omega),if_neg (by omega),if_neg (by omega),if_neg (by omega),if_neg (by omega),if_neg (by omega),if_neg (by omega),if_neg (by omega),if_neg (by omega),if_neg (by omega)])
  ·have hp:pos=s.size:=by omega
   subst hp
   rw [List.take_of_length_le (by rw [Array.length_toList];exact Nat.le_refl _)] at ho
   rw [← ho] at h
   simp only [vc_seq,vc_ops,vcOps_cons,insVc]
   refine rawK_nextEnd (s:=s) (pos:=s.size) rfl rfl (by simp only [ev_tmp];exact r13) u3 (Nat.le_refl _) ?_
   simp only [Cm.cells,cm0,q0,b0] at u1 u2
   simp only [ZB,endK,resK,resN,packed,insVc,loadNK,storeNK,setMany,extK,isPlain,ne_eq,Nat.reduceEqDiff,Nat.reduceAdd,Nat.reduceLeDiff,Za,Zah,Zai,Zak,Zaj,Zal,Zam,Zan,Zad,Zar,Zap,Zaq,Zao,Zas,Zat,Zau,Zav,Zax,r2,r3,u1,u2,get_set_same _ _ _ (lt_of_get u1)]
   exact h _ (hmu.set (.inl (by omega)))
def eqQ2 (a b:Qu):Bool:=(a.name.toList == b.name.toList) && (((a.most:Int) == (b.most:Int)) && (((a.ttl:Int) == (b.ttl:Int)) && (((a.tries:Int) == (b.tries:Int)) && ((a.dead.toList == b.dead.toList) && true))))
def eqB2 (a b:Bi):Bool:=(a.ex.toList == b.ex.toList) && ((a.kind == b.kind) && ((a.key.toList == b.key.toList) && ((a.q.toList == b.q.toList) && true)))
def eqCm (a b:Cm):Bool:=(a.kind == b.kind) && (eqQ2 a.q b.q && (eqB2 a.b b.b && ((a.ex.toList == b.ex.toList) && ((a.key.toList == b.key.toList) && ((a.body.toList == b.body.toList) && (((a.id:Int) == (b.id:Int)) && (((a.token:Int) == (b.token:Int)) && (((a.n:Int) == (b.n:Int)) && (((a.time:Int) == (b.time:Int)) && ((a.dead == b.dead) && true))))))))))
theorem eqr_qu (d:Nat) (a b:Qu):EqR prog (d+1+1) 121 (.agg a.cells.toArray) (.agg b.cells.toArray) (eqQ2 a b):=by
 have hs:prog.underlying 9=some .string:=by kernel_rfl
 have h32:prog.underlying 55=some (.int .u32):=by kernel_rfl
 have h64:prog.underlying 27=some (.int .u64):=by kernel_rfl
 refine EqR.struct (by kernel_rfl) (by kernel_rfl) (L:=[(9,0),(55,1),(27,2),(55,3),(9,4)]) (by kernel_rfl) (by kernel_rfl) ?_
 refine ⟨_,_,_,_,.one (by kernel_rfl) rfl,.one (by kernel_rfl) rfl,.str hs _ _, ?_,rfl⟩
 refine ⟨_,_,_,_,.one (by kernel_rfl) rfl,.one (by kernel_rfl) rfl,.int h32 _ _, ?_,rfl⟩
 refine ⟨_,_,_,_,.one (by kernel_rfl) rfl,.one (by kernel_rfl) rfl,.int h64 _ _, ?_,rfl⟩
 refine ⟨_,_,_,_,.one (by kernel_rfl) rfl,.one (by kernel_rfl) rfl,.int h32 _ _, ?_,rfl⟩
 exact ⟨_,_,_,_,.one (by kernel_rfl) rfl,.one (by kernel_rfl) rfl,.str hs _ _,rfl,rfl⟩
theorem eqr_bi (d:Nat) (a b:Bi):EqR prog (d+1+1) 124 (.agg a.cells.toArray) (.agg b.cells.toArray) (eqB2 a b):=by
 have hs:prog.underlying 9=some .string:=by kernel_rfl
 have hi:prog.underlying 3=some (.int .i64):=by kernel_rfl
 refine EqR.struct (by kernel_rfl) (by kernel_rfl) (L:=[(9,0),(3,1),(9,2),(9,3)]) (by kernel_rfl) (by kernel_rfl) ?_
 refine ⟨_,_,_,_,.one (by kernel_rfl) rfl,.one (by kernel_rfl) rfl,.str hs _ _, ?_,rfl⟩
 refine ⟨_,_,_,_,.one (by kernel_rfl) rfl,.one (by kernel_rfl) rfl,.int hi _ _, ?_,rfl⟩
 refine ⟨_,_,_,_,.one (by kernel_rfl) rfl,.one (by kernel_rfl) rfl,.str hs _ _, ?_,rfl⟩
 exact ⟨_,_,_,_,.one (by kernel_rfl) rfl,.one (by kernel_rfl) rfl,.str hs _ _,rfl,rfl⟩
theorem eqr_cm (a b:Cm):EqR prog 10000 126 (.agg a.cells.toArray) (.agg b.cells.toArray) (eqCm a b):=by
 have hs:prog.underlying 9=some .string:=by kernel_rfl
 have hi:prog.underlying 3=some (.int .i64):=by kernel_rfl
 have h64:prog.underlying 27=some (.int .u64):=by kernel_rfl
 have hb:prog.underlying 4=some .bool:=by kernel_rfl
 refine EqR.struct (d:=9999) (by kernel_rfl) (by kernel_rfl) (L:=[(3,0),(121,1),(124,6),(9,10),(9,11),(9,12),(27,13),(27,14),(27,15),(27,16),(4,17)]) (by kernel_rfl) (by kernel_rfl) ?_
 refine ⟨_,_,_,_,.one (by kernel_rfl) rfl,.one (by kernel_rfl) rfl,.int hi _ _, ?_,rfl⟩
 refine ⟨_,_,_,_,.agg (s:=5) (by kernel_rfl) (by kernel_rfl) (by simp [Cm.cells]),.agg (s:=5) (by kernel_rfl) (by kernel_rfl) (by simp [Cm.cells]),eqr_qu 9997 a.q b.q, ?_,rfl⟩
 refine ⟨_,_,_,_,.agg (s:=4) (by kernel_rfl) (by kernel_rfl) (by simp [Cm.cells]),.agg (s:=4) (by kernel_rfl) (by kernel_rfl) (by simp [Cm.cells]),eqr_bi 9997 a.b b.b, ?_,rfl⟩
 refine ⟨_,_,_,_,.one (by kernel_rfl) rfl,.one (by kernel_rfl) rfl,.str hs _ _, ?_,rfl⟩
 refine ⟨_,_,_,_,.one (by kernel_rfl) rfl,.one (by kernel_rfl) rfl,.str hs _ _, ?_,rfl⟩
 refine ⟨_,_,_,_,.one (by kernel_rfl) rfl,.one (by kernel_rfl) rfl,.str hs _ _, ?_,rfl⟩
 refine ⟨_,_,_,_,.one (by kernel_rfl) rfl,.one (by kernel_rfl) rfl,.int h64 _ _, ?_,rfl⟩
 refine ⟨_,_,_,_,.one (by kernel_rfl) rfl,.one (by kernel_rfl) rfl,.int h64 _ _, ?_,rfl⟩
 refine ⟨_,_,_,_,.one (by kernel_rfl) rfl,.one (by kernel_rfl) rfl,.int h64 _ _, ?_,rfl⟩
 refine ⟨_,_,_,_,.one (by kernel_rfl) rfl,.one (by kernel_rfl) rfl,.int h64 _ _, ?_,rfl⟩
 exact ⟨_,_,_,_,.one (by kernel_rfl) rfl,.one (by kernel_rfl) rfl,.bool hb _ _,rfl,rfl⟩
section
variable {P:Program} {n:Nat} {go:Value→World→Prop} {ρ:Env} {ds:List Deferred} {w:World} {o:Oper}
theorem rawK_max5 {x1 x2 x3 x4 x5:Operand} {t1 t2 t3 t4 t5:TypeId} {a1 a2 a3 a4 a5:Int} (ho:o.op = .call { callee:=.builtin .max,args:=#[x1,x2,x3,x4,x5],argTypes:=#[t1,t2,t3,t4,t5] })
  (h1:inB n x1=true) (h2:inB n x2=true) (h3:inB n x3=true) (h4:inB n x4=true) (h5:inB n x5=true) (e1:ev ρ x1 = .int .i64 a1) (e2:ev ρ x2 = .int .i64 a2) (e3:ev ρ x3 = .int .i64 a3) (e4:ev ρ x4 = .int .i64 a4) (e5:ev ρ x5 = .int .i64 a5)
  (h:go (.int .i64 (max (max (max (max a1 a2) a3) a4) a5)) w):RawK P go ρ ds n o w:=by
 unfold RawK
 simp only [execOp,ho,resolve,Sem.run_bind,pure,Sem.run,Result.andThen,invoke,builtin]
 have e:(#[x1,x2,x3,x4,x5]:Array Operand).map (mkA n ρ ds).eval = #[.int .i64 a1,.int .i64 a2,.int .i64 a3,.int .i64 a4,.int .i64 a5]:=by simp [mkA_eval n ρ ds x1 h1,mkA_eval n ρ ds x2 h2,mkA_eval n ρ ds x3 h3,mkA_eval n ρ ds x4 h4,mkA_eval n ρ ds x5 h5,e1,e2,e3,e4,e5]
 rw [e]
 have em:∀a b:Int,(if b > a then b else a)=max a b:=by intros;omega
 simp only [Builtin.max_,List.foldlM_cons,List.foldlM_nil,Sem.run_bind,Builtin.max2,pure,Sem.run,Result.andThen,em]
 exact h
end
def Cm.long (c:Cm):Bool :=
 decide (32<max (max (max (max c.q.name.size c.q.dead.size) c.b.ex.size) c.b.q.size) c.ex.size) || (decide (512<max c.key.size c.b.key.size) || decide (32768<c.body.size))
theorem long_c (c:Cm) (w:World) (K:Value→World→Prop) (h:∀w',Mod (fun _=>False) w w'→K (.bool c.long) w'):Ok prog 95 #[c.val] w K:=by
 refine F95.enter (args:=[c.val]) (by simp) ?_
 unfold c95 r95
 simp only [ZB,insVc,load1K,faddrK,lenSK,Value.cells,ne_eq,Nat.reduceEqDiff,Nat.reduceAdd,Zac,Za,Zag,Zah,Zaa,get_alloc,Nat.reduceAdd,Nat.reduceEqDiff,Cm.val,Cm.cells]
 refine rawK_max5 rfl rfl rfl rfl rfl rfl (by simp only [ZB,ne_eq,Nat.reduceEqDiff] <;> rfl) (by simp only [ZB,ne_eq,Nat.reduceEqDiff] <;> rfl) (by simp only [ZB,ne_eq,Nat.reduceEqDiff] <;> rfl) (by simp only [ZB,ne_eq,Nat.reduceEqDiff] <;> rfl) (by simp only [upd_same,ev_tmp] <;> rfl) ?_
 have hm:Mod (fun _=>False) w (w.alloc (.cells #[.int .i64 c.kind,.string c.q.name,.int .u32 c.q.most,.int .u64 c.q.ttl,.int .u32 c.q.tries,.string c.q.dead,.string c.b.ex,.int .i64 c.b.kind,.string c.b.key,.string c.b.q,.string c.ex,.string c.key,.string c.body,.int .u64 c.id,.int .u64 c.token,.int .u64 c.n,.int .u64 c.time,.bool c.dead] 126)):=(Mod.refl _ _).alloc _
 have hh:=h _ hm
 by_cases h1:max (max (max (max (c.q.name.size:Int) c.q.dead.size) c.b.ex.size) c.b.q.size) c.ex.size > 32
 ·have e1:c.long=true:=by unfold Cm.long;rw [decide_eq_true (by omega)];rfl
  rw [e1] at hh
  simp only [ZB,endK,resK,packed,insVc,pickK,iopK,iopV,ne_eq,Nat.reduceEqDiff,reduceCtorEq,Zad,Zaa,Nat.reduceEqDiff,h1]
  exact hh
 ·have e1:decide (32<max (max (max (max c.q.name.size c.q.dead.size) c.b.ex.size) c.b.q.size) c.ex.size)=false:=decide_eq_false (by omega)
  simp only [ZB,insVc,load1K,iopK,iopV,faddrK,lenSK,ne_eq,Nat.reduceEqDiff,Nat.reduceAdd,reduceCtorEq,Za,Zag,Zah,Zaa,get_alloc,Nat.reduceAdd,Nat.reduceEqDiff,h1]
  refine rawK_max rfl rfl rfl (by simp only [ZB,ne_eq,Nat.reduceEqDiff] <;> rfl) (by simp only [upd_same,ev_tmp] <;> rfl) ?_
  by_cases h2:max (c.key.size:Int) c.b.key.size > 512
  ·have e2:c.long=true:=by unfold Cm.long;rw [e1,decide_eq_true (by omega)];rfl
   rw [e2] at hh
   simp only [ZB,endK,resK,packed,insVc,pickK,iopK,iopV,ne_eq,Nat.reduceEqDiff,reduceCtorEq,Zad,Zaa,Zaf,Nat.reduceEqDiff,h2]
   exact hh
  ·have e2:decide (512<max c.key.size c.b.key.size)=false:=decide_eq_false (by omega)
   by_cases h3:(c.body.size:Int) > 32768
   ·have e3:c.long=true:=by unfold Cm.long;rw [e1,e2,decide_eq_true (by omega)];rfl
    rw [e3] at hh
    simp only [ZB,endK,resK,packed,insVc,pickK,load1K,iopK,iopV,faddrK,lenSK,ne_eq,Nat.reduceEqDiff,reduceCtorEq,Za,Zag,Zah,Zad,Zaa,Zaf,get_alloc,Nat.reduceEqDiff,h2,h3]
    exact hh
   ·have e3:c.long=false:=by unfold Cm.long;rw [e1,e2,decide_eq_false (by omega)];rfl
    rw [e3] at hh
    simp only [ZB,endK,resK,packed,insVc,pickK,load1K,iopK,iopV,faddrK,lenSK,ne_eq,Nat.reduceEqDiff,reduceCtorEq,Za,Zag,Zah,Zad,Zaa,Zaf,get_alloc,Nat.reduceEqDiff,h2,h3]
    exact hh
end Go.Oct
