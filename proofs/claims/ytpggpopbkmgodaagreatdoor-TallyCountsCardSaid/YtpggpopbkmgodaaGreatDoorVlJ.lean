import Derived.Test.YtpggpopbkmgodaaGreatDoorVlA
import Derived.Test.YtpggpopbkmgodaaGreatDoorVnC
import Derived.Laws.StructEq
import Derived.Test.YtpggpopbkmgodaaGreatDoorVcP
import Derived.Shelf.SlicesE.Clone
set_option linter.unusedSimpArgs false
set_option linter.unusedVariables false
set_option linter.unusedSectionVars false
set_option linter.unnecessarySimpa false
namespace Go.Oct
open Go Go.Vc Go.VrA Go.VrH Go.Proofs.Tryz
set_option maxRecDepth 100000
theorem or2_c (x y:Int) (b:Nat) (w:World) (K:Value→World→Prop) (hb:w.heap[b]? = some (.cells #[.int .i64 x,.int .i64 y] 3 (0,0))) (h:K (.int .i64 (if x=0 then y else x)) w) :
  Ok prog 154 #[.slice (some ⟨b,0,none⟩) 2 2] w K:=by
 refine F154.enter (args:=[.slice (some ⟨b,0,none⟩) 2 2]) (by simp) ?_
 unfold c154 r154
 have k0:(0:Int)<((2:Nat):Int):=by decide
 have k1:(1:Int)<((2:Nat):Int):=by decide
 have k2:¬(2:Int)<((2:Nat):Int):=by decide
 have j1:IntKind.i64.wrap 1=1:=by decide
 have j2:IntKind.i64.wrap (1+1)=2:=by decide
 have j3:IntKind.i64.wrap 2=2:=by decide
 have i0:(0:Int)≤0∧(0:Int)<((2:Nat):Int):=by decide
 have i1:(0:Int)≤1∧(1:Int)<((2:Nat):Int):=by decide
 simp only [ZB,insVc,lenLK,ne_eq,reduceCtorEq,Zac,Za]
 refine vc_rounds 4 ?_
 simp only [ZB,insVc,load1K,iopK,iopV,iaddrK,ne_eq,Nat.reduceEqDiff,reduceCtorEq,Za,Zah,Int.reduceToNat,Zbm,Nat.reduceEqDiff,hb,k0,i0]
 by_cases hx:x=0
 ·rw [if_pos hx] at h
  subst hx
  simp only [ZB,insVc,iopK,iopV,ne_eq,Nat.reduceEqDiff,reduceCtorEq,Int.reduceAdd,bne_self_eq_false,j1]
  refine round_next ?_
  simp only [ZB,insVc,load1K,iopK,iopV,iaddrK,ne_eq,Nat.reduceEqDiff,reduceCtorEq,Za,Zag,Zah,Int.reduceToNat,Zbm,Nat.reduceEqDiff,hb,k1,i1]
  by_cases hy:y=0
  ·subst hy
   simp only [ZB,insVc,iopK,iopV,ne_eq,Nat.reduceEqDiff,reduceCtorEq,Int.reduceAdd,bne_self_eq_false,j3]
   refine round_next ?_
   simp only [ZB,endK,resK,packed,insVc,iopK,iopV,ne_eq,Nat.reduceEqDiff,reduceCtorEq,Zad,Nat.reduceEqDiff,k2]
   exact h
  ·have hy':(y != 0)=true:=by simpa using hy
   simp only [ZB,endK,resK,packed,insVc,ne_eq,Nat.reduceEqDiff,Zad,hy']
   exact h
 ·have hx':(x != 0)=true:=by simpa using hx
  rw [if_neg hx] at h
  simp only [ZB,endK,resK,packed,insVc,ne_eq,Nat.reduceEqDiff,Zad,hx']
  exact h
def cmpK (q r:ByteArray) (i j:Nat):Int:=if cmpS q r=0 then cmpN i j else cmpS q r
theorem compare_c (q r:ByteArray) (i j:Nat) (w:World) (K:Value→World→Prop) (h:∀w',Mod (fun _=>False) w w'→K (.int .i64 (cmpK q r i j)) w') :
  Ok prog 92 #[.agg #[.string q,.int .u64 i],.agg #[.string r,.int .u64 j]] w K:=by
 refine F92.enter (args:=[.agg #[.string q,.int .u64 i],.agg #[.string r,.int .u64 j]]) (by simp) ?_
 unfold c92 r92
 obtain ⟨w1,hw1⟩:∃w1,w1=(w.alloc (.cells #[.string q,.int .u64 i] 164)).alloc (.cells #[.string r,.int .u64 j] 164):=⟨_,rfl⟩
 have hm1:Mod (fun _=>False) w w1:=by rw [hw1];exact ((Mod.refl _ _).alloc _).alloc _
 have hx:w1.heap[w.heap.size]? = some (.cells #[.string q,.int .u64 i] 164 (0,0)):=by rw [hw1];simp only [Zaa,Zaf,size_alloc,get_alloc,size_alloc,Zbi,Zaz]
 have hy:w1.heap[w.heap.size+1]? = some (.cells #[.string r,.int .u64 j] 164 (0,0)):=by rw [hw1];simp only [Zaa,Zaf,size_alloc,get_alloc,size_alloc,Zba,Zaz]
 simp only [ZB,insVc,Value.cells,ne_eq,Nat.reduceEqDiff,Zac,Za,Zag,Nat.reduceEqDiff]
 rw [← hw1]
 refine draw_e (by kernel_rfl) (by kernel_rfl) (by kernel_rfl) (by kernel_rfl) ?_
 simp only [ZB,endK,resK,packed,insVc,load1K,faddrK,fillL,buildSK,Value.cells,ne_eq,Nat.reduceEqDiff,Nat.reduceAdd,Nat.reduceLeDiff,Zae,Zab,Za,Zag,Zah,Zai,Zak,Zaj,Zad,Zaa,Zaf,pureI,kindI,loadI,vcE_nil,vcE_cons,stepE_pure,stepE_load,stepE_step,hx,hy]
 have e0:Mod (fun _=>False) w1 w1.drew:=(Mod.refl _ _).drew
 refine cmpS_c q r w1.drew _ ?_
 refine ⟨e0, ?_⟩
 refine cmpU_c i j w1.drew _ ?_
 refine ⟨e0, ?_⟩
 simp only [Nat.reduceAdd,Nat.reduceLeDiff,Zai,Zak,Zaj,Zbe,Zbf,Zbd,Zbc,Zal,Zam,Zan,and_self,Zaa,Nat.zero_add,Nat.add_zero,size_drew]
 refine ⟨e0.alloc _, ?_⟩
 refine or2_c (cmpS q r) (cmpN i j) _ _ _ (get_alloc_new _ _) ?_
 refine ⟨e0.alloc _, ?_⟩
 exact h _ (hm1.trans (e0.alloc _))
structure Le where
 q:ByteArray
 id:Nat
 till:Nat
def Le.cells (e:Le):List Value:=[.string e.q,.int .u64 e.id,.int .u64 e.till]
def Le.val (e:Le):Value:=.agg #[.string e.q,.int .u64 e.id,.int .u64 e.till]
def keyV (q:ByteArray) (i:Nat):Value:=.agg #[.string q,.int .u64 i]
def tabV (l:Value):Value:=.agg #[.func (.func 92) #[] #[],l]
def cmpE (a b:Le):Int:=if cmpN a.till b.till=0 then cmpK a.q b.q a.id b.id else cmpN a.till b.till
theorem order_c (l:Value) (a b:Le) (w:World) (K:Value→World→Prop) (h:∀w',Mod (fun _=>False) w w'→K (.int .i64 (cmpE a b)) w') :
  Ok prog 148 #[tabV l,a.val,b.val] w K:=by
 refine F148.enter (args:=[tabV l,a.val,b.val]) (by simp) ?_
 unfold c148 r148
 obtain ⟨w1,hw1⟩:∃w1,w1=((w.alloc (.cells #[.func (.func 92) #[] #[],l] 139)).alloc (.cells #[.string a.q,.int .u64 a.id,.int .u64 a.till] 233)).alloc (.cells #[.string b.q,.int .u64 b.id,.int .u64 b.till] 233):=⟨_,rfl⟩
 have hm1:Mod (fun _=>False) w w1:=by rw [hw1];exact (((Mod.refl _ _).alloc _).alloc _).alloc _
 simp only [ZB,insVc,load1K,faddrK,Value.cells,ne_eq,Nat.reduceEqDiff,Nat.reduceAdd,reduceCtorEq,Zac,Zae,Zab,Za,Zag,Zah,Zaa,Zaf,get_alloc,Zb,Nat.reduceAdd,Zbg,Zba,Nat.reduceEqDiff,Zaz,tabV,Le.val]
 rw [← hw1]
 have ht:w1.heap[w.heap.size]? = some (.cells #[.func (.func 92) #[] #[],l] 139 (0,0)):=by rw [hw1];simp only [Nat.reduceAdd,reduceCtorEq,Zaa,Zaf,size_alloc,get_alloc,size_alloc,Zb,Nat.reduceAdd,Zbi,Zaz]
 have ha:w1.heap[w.heap.size+1]? = some (.cells #[.string a.q,.int .u64 a.id,.int .u64 a.till] 233 (0,0)):=by rw [hw1];simp only [Nat.reduceEqDiff,Nat.reduceAdd,Zaa,Zaf,size_alloc,get_alloc,size_alloc,Zb,Nat.reduceAdd,Zbg,Zba,Nat.reduceEqDiff,Zaz]
 have hb:w1.heap[w.heap.size+2]? = some (.cells #[.string b.q,.int .u64 b.id,.int .u64 b.till] 233 (0,0)):=by rw [hw1];simp only [Nat.reduceEqDiff,Nat.reduceAdd,reduceCtorEq,Zaa,Zaf,size_alloc,get_alloc,size_alloc,Zb,Nat.reduceAdd,Zbg,Zba,Nat.reduceEqDiff]
 clear hw1
 refine cmpU_c a.till b.till w1 _ ?_
 unfold cmpE at h
 by_cases hn:cmpN a.till b.till=0
 ·simp only [ZB,insVc,pickK,load1K,loadNK,iopK,iopV,nilOf,pnilK,faddrK,callvK,ne_eq,Nat.reduceEqDiff,Nat.reduceAdd,Nat.reduceLeDiff,reduceCtorEq,Zae,Zab,Za,Zah,Zai,Zak,Zaj,Zad,Zbu,Zaf,Zar,Zap,Zaq,Zao,Zas,Zat,Nat.reduceAdd,Nat.reduceEqDiff,hn,ht,ha,hb,bne_self_eq_false]
  refine compare_c a.q b.q a.id b.id w1 _ ?_
  intro w2 hm2
  have:=h w2 (hm1.trans hm2)
  rw [if_pos hn] at this
  exact this
 ·have hn':(cmpN a.till b.till != 0)=true:=by simpa using hn
  simp only [ZB,endK,resK,packed,insVc,pickK,iopK,iopV,ne_eq,Nat.reduceEqDiff,reduceCtorEq,Zad,Zaa,Nat.reduceEqDiff,hn']
  have:=h w1 hm1
  rw [if_neg hn] at this
  exact this
def aggK:TypeDesc→Bool
 | .struct _=>true
 | .array _ _=>true
 | _=>false
theorem partK_at (cs:Array Value) (w:World) (t:TypeId) (d:TypeDesc) (o:Nat) (v:Value) (ht:prog.underlying t=some d) (hd:aggK d=false) (hv:cs[o]? = some v):(part t cs o).run prog w = .ok v w:=by
 unfold part
 have hag:(isAgg t).run prog w = .ok false w:=by
  unfold isAgg
  rw [Sem.run_bind,run_underlying ht]
  cases d <;> first|rfl|cases hd
 rw [Sem.run_bind,hag]
 simp only [Result.andThen,Bool.false_eq_true,Zaf,hv]
 rfl
theorem eqFK_step (xs ys:Array Value) (w:World) (f:Field) (fs:List Field) (d:TypeDesc) (u v:Value) (e r:Bool) (hn:f.name≠"_") (ht:prog.underlying f.type=some d) (hd:aggK d=false)
  (hx:xs[f.offset]? = some u) (hy:ys[f.offset]? = some v) (he:(Op.equalIn 9999 f.type u v).run prog w = .ok e w) (hfs:(Op.eqFields 9999 xs ys fs).run prog w = .ok r w):(Op.eqFields 9999 xs ys (f :: fs)).run prog w = .ok (e && r) w:=by
 unfold Op.eqFields
 rw [if_pos hn]
 simp only [Sem.run_bind,partK_at xs w _ d _ u ht hd hx,partK_at ys w _ d _ v ht hd hy,Result.andThen,he]
 cases e with
 | true=>simpa using hfs
 | false=>rfl
def eqKey (q r:ByteArray) (i j:Nat):Bool:=(q.toList == r.toList) && (((i:Int) == (j:Int)) && true)
theorem fields_key:((prog.fieldsOf 164).toList.map fun f=>(f.name,f.type,f.offset))=[("Queue",9,0),("ID",27,1)]:=by kernel_rfl
theorem under_key:prog.underlying 164=some (.struct (prog.fieldsOf 164)):=by kernel_rfl
theorem run_eq_key (q r:ByteArray) (i j:Nat) (w:World):(Op.equalIn 10000 164 (keyV q i) (keyV r j)).run prog w = .ok (eqKey q r i j) w:=by
 have hu9:prog.underlying 9=some .string:=by kernel_rfl
 have hu3:prog.underlying 27=some (.int .u64):=by kernel_rfl
 unfold keyV
 rw [run_equalIn_struct (ht:=under_key) (hp:=by kernel_rfl)]
 have key:∀(fs:List Field),(fs.map fun f=>(f.name,f.type,f.offset))=[("Queue",9,0),("ID",27,1)]→(Op.eqFields 9999 #[.string q,.int .u64 i] #[.string r,.int .u64 j] fs).run prog w = .ok (eqKey q r i j) w:=by
  intro fs h
  obtain ⟨f0,fs,rfl,h0,h⟩:=List.map_eq_cons_iff.1 h
  obtain ⟨f1,fs,rfl,h1,h⟩:=List.map_eq_cons_iff.1 h
  obtain rfl:=List.map_eq_nil_iff.1 h
  simp only [Prod.mk.injEq] at h0 h1
  refine eqFK_step _ _ w f0 _ .string (.string q) (.string r) _ _ (by rw [h0.1];decide) (by rw [h0.2.1];exact hu9) rfl (by rw [h0.2.2];rfl) (by rw [h0.2.2];rfl) (by rw [h0.2.1,run_equalIn_string _ _ _ _ _ hu9]) ?_
  refine eqFK_step _ _ w f1 _ (.int .u64) (.int .u64 i) (.int .u64 j) _ _ (by rw [h1.1];decide) (by rw [h1.2.1];exact hu3) rfl (by rw [h1.2.2];rfl) (by rw [h1.2.2];rfl) (by rw [h1.2.1,run_equalIn_int _ _ _ _ _ _ _ hu3]) ?_
  rfl
 exact key _ fields_key
theorem rawK_eql_key {go:Value→World→Prop} {ρ:Env} {ds:List Deferred} {n:Nat} {o:Oper} {w:World} {x y:Operand} (q r:ByteArray) (i j:Nat) (ho:o.op = .binOp .eql 164 x y 164)
  (hx:inB n x=true) (hy:inB n y=true) (ha:ev ρ x=keyV q i) (hb:ev ρ y=keyV r j) (h:go (.bool (eqKey q r i j)) w):RawK prog go ρ ds n o w:=by
 have hr:=run_eq_key q r i j w
 unfold keyV at ha hb hr
 unfold RawK
 simp only [execOp,ho,mkA_eval n ρ ds x hx,mkA_eval n ρ ds y hy,ha,hb,Sem.run_bind,run_eqGuard_agg w .eql 164 x y _ _ (by kernel_rfl:prog.eqGuardType prog.depth 164=false),Result.andThen,run_eql_struct,hr]
 exact h
theorem findat_c (e:Le) (q:ByteArray) (i kb:Nat) (w:World) (K:Value→World→Prop) (hk:w.heap[kb]? = some (.cells #[.string q,.int .u64 i] 164 (0,0)))
  (h:∀w',Mod (fun _=>False) w w'→K (.bool (eqKey e.q q e.id i)) w'):Ok prog 259 #[e.val,ptr kb] w K:=by
 refine F259.enter (args:=[e.val,ptr kb]) (by simp) ?_
 unfold c259 r259
 obtain ⟨w1,hw1⟩:∃w1,w1=w.alloc (.cells #[.string e.q,.int .u64 e.id,.int .u64 e.till] 233):=⟨_,rfl⟩
 have hm1:Mod (fun _=>False) w w1:=by rw [hw1];exact (Mod.refl _ _).alloc _
 have he:w1.heap[w.heap.size]? = some (.cells #[.string e.q,.int .u64 e.id,.int .u64 e.till] 233 (0,0)):=by rw [hw1];exact get_alloc_new _ _
 have hk1:=hm1.keep hk id
 have hne:kb≠w.heap.size:=by have:=lt_of_get hk;omega
 simp only [ZB,insVc,loadNK,faddrK,Value.cells,ne_eq,Nat.reduceEqDiff,Nat.reduceAdd,Nat.reduceLeDiff,Zac,Za,Zag,Zai,Zak,Zaj,Zaa,Zaf,Zar,Zap,Zaq,Zao,Zas,Zat,get_alloc,Nat.reduceAdd,Nat.reduceEqDiff,Le.val,hk,hne]
 rw [← hw1]
 refine rawK_eql_key e.q q e.id i rfl rfl rfl rfl rfl ?_
 simp only [ZB,endK,resK,packed,insVc,Zad]
 exact h w1 hm1
def IsLes (w:World) (v:Value) (l:List Le):Prop :=
 (∃a c,v = .slice a l.length c)∧∀(i:Nat) (a:Le),l[i]? = some a→∃b o c cur t f,v = .slice (some ⟨b,o,none⟩) l.length c∧w.heap[b]? = some (.cells cur t f)∧o+i * 3+3≤cur.size∧cur.extract (o+i * 3) (o+i * 3+3)=a.cells.toArray
theorem IsLes.keep {w w':World} {v:Value} {l:List Le} (h:IsLes w v l) (hm:Mod (fun _=>False) w w'):IsLes w' v l:=by
 refine ⟨h.1,fun i a hi => ?_⟩
 obtain ⟨b,o,c,cur,t,f,h1,h2,h3⟩:=h.2 i a hi
 exact ⟨b,o,c,cur,t,f,h1,hm.keep h2 id,h3⟩
def findE (q:ByteArray) (i:Nat):List Le→Nat→Int
 | [],_ => -1
 | e :: r,n=>if eqKey e.q q e.id i=true then n else findE q i r (n+1)
theorem findE_drop (q:ByteArray) (i:Nat) (l:List Le) (n:Nat) (e:Le) (h:l[n]? = some e):findE q i (l.drop n) n=if eqKey e.q q e.id i=true then (n:Int) else findE q i (l.drop (n+1)) (n+1):=by
 obtain ⟨hn,he⟩:=List.getElem?_eq_some_iff.1 h
 rw [List.drop_eq_getElem_cons hn,he]
 rfl
theorem indexf_c (l:List Le) (v:Value) (q:ByteArray) (i kb:Nat) (w:World) (K:Value→World→Prop) (hv:IsLes w v l) (hl:l.length<2^60) (hk:w.heap[kb]? = some (.cells #[.string q,.int .u64 i] 164 (0,0)))
  (h:∀w',Mod (fun _=>False) w w'→K (.int .i64 (findE q i l 0)) w') :
  Ok prog 258 #[v,.func (.func 259) #[] #[ptr kb]] w K:=by
 obtain ⟨⟨a,cp,rfl⟩,hat⟩:=hv
 refine F258.enter (args:=[.slice a l.length cp,.func (.func 259) #[] #[ptr kb]]) (by simp) ?_
 unfold c258 r258
 simp only [ZB,insVc,lenLK,ne_eq,reduceCtorEq,Zac,Za,Int.reduceNeg]
 refine vc_loop (fun mm ρ ds u => ∃j,j≤l.length∧mm=l.length-j∧ds=[]∧ρ 0 = .slice a l.length cp∧ρ 1 = .func (.func 259) #[] #[ptr kb]∧ρ 7 = .int .i64 l.length∧ρ 8 = .int .i64 j∧Mod (fun _=>False) w u∧findE q i l 0=findE q i (l.drop j) j) (l.length-0) ?_ ?_
 ·exact ⟨0,Nat.zero_le _,rfl,rfl,by simp only [upd_other,initE_at,ne_eq,not_false_eq_true,reduceCtorEq,Zac,Za],by simp only [upd_other,initE_at,ne_eq,not_false_eq_true,Nat.reduceEqDiff,Zac,Za,Zag],by simp only [upd_same,upd_other,ne_eq,not_false_eq_true,Nat.reduceEqDiff],by simp only [upd_same];rfl,Mod.refl _ _,rfl⟩
 ·rintro mm ρ ds u ⟨j,hj,rfl,rfl,h0,h1,h7,h8,hmu,hf⟩
  by_cases c1:j<l.length
  ·have d1:(j:Int)<((l.length:Nat):Int):=by omega
   obtain ⟨x,hxi⟩:∃x,l[j]? = some x:=⟨l[j],List.getElem?_eq_getElem c1⟩
   obtain ⟨b,o,c,cur,t,f,he,hb,hsz,hex⟩:=hat j x hxi
   have hbu:=hmu.keep hb id
   have ha':a=some ⟨b,o,none⟩:=by simpa using congrArg (fun x=>match x with | .slice a _ _=>a|_=>none) he
   subst ha'
   rw [Nat.add_assoc] at hsz hex
   have hi0':(0:Int)≤(j:Int)∧(j:Int)<((l.length:Nat):Int):=by omega
   have hw1:IntKind.i64.wrap ((j:Int)+1)=((j+1:Nat):Int):=by rw [wrap_i64 _ (by omega)];omega
   have hfd:=findE_drop q i l j x hxi
   simp only [ZB,insVc,loadNK,iopK,iopV,iaddrK,callvK,ne_eq,Nat.reduceEqDiff,reduceCtorEq,Zae,Zab,Zad,Zaw,Zbj,Int.reduceNeg,Zb,Nat.reduceEqDiff,h0,h1,h7,h8,d1,hi0',hbu,hsz,hex,Le.cells]
   refine findat_c x q i kb u _ (hmu.keep hk id) ?_
   intro u2 hm2
   cases hq:eqKey x.q q x.id i with
   | true =>
    rw [hq,if_pos rfl] at hfd
    simp only [ZB,endK,resK,packed,insVc,ne_eq,Nat.reduceEqDiff,Zad,Int.reduceNeg]
    rw [← hfd,← hf]
    exact h u2 (hmu.trans hm2)
   | false =>
    rw [hq,if_neg (by decide)] at hfd
    simp only [ZB,insVc,iopK,iopV,ne_eq,Nat.reduceEqDiff,reduceCtorEq,Int.reduceNeg,h0,h1,h7,h8,hw1]
    exact ⟨l.length-(j+1),by omega,j+1,by omega,rfl,rfl,hmu.trans hm2,hf.trans hfd⟩
  ·have d1:¬(j:Int)<((l.length:Nat):Int):=by omega
   have:j=l.length:=by omega
   subst this
   rw [List.drop_length] at hf
   simp only [ZB,endK,resK,packed,insVc,iopK,iopV,reduceCtorEq,Zad,Int.reduceNeg,h7,h8,d1]
   have:=h u hmu
   rw [hf] at this
   exact this
theorem lfind_c (l:List Le) (v:Value) (q:ByteArray) (i:Nat) (w:World) (K:Value→World→Prop) (hv:IsLes w v l) (hl:l.length<2^60)
  (h:∀w',Mod (fun _=>False) w w'→K (.int .i64 (findE q i l 0)) w') :
  Ok prog 207 #[tabV v,keyV q i] w K:=by
 refine F207.enter (args:=[tabV v,keyV q i]) (by simp) ?_
 unfold c207 r207
 obtain ⟨w1,hw1⟩:∃w1,w1=(w.alloc (.cells #[.func (.func 92) #[] #[],v] 139)).alloc (.cells #[.string q,.int .u64 i] 164):=⟨_,rfl⟩
 have hm1:Mod (fun _=>False) w w1:=by rw [hw1];exact ((Mod.refl _ _).alloc _).alloc _
 have hk:w1.heap[w.heap.size+1]? = some (.cells #[.string q,.int .u64 i] 164 (0,0)):=by rw [hw1];simp only [Zaa,Zaf,size_alloc,get_alloc,size_alloc,Zba,Zaz]
 simp only [ZB,insVc,load1K,faddrK,Value.cells,ne_eq,Nat.reduceEqDiff,Zac,Zae,Zab,Za,Zag,Zah,Zaa,Zaf,get_alloc,Zbi,Nat.reduceEqDiff,Zaz,tabV,keyV]
 rw [← hw1]
 refine indexf_c l v q i (w.heap.size+1) w1 _ (hv.keep hm1) hl hk ?_
 intro w2 hm2
 exact h w2 (hm1.trans hm2)
theorem llen_c (l:List Le) (v:Value) (w:World) (K:Value→World→Prop) (hv:IsLes w v l)
  (h:∀w',Mod (fun _=>False) w w'→K (.int .i64 l.length) w') :
  Ok prog 89 #[tabV v] w K:=by
 obtain ⟨⟨a,cp,rfl⟩,_⟩:=hv
 refine F89.enter (args:=[tabV (.slice a l.length cp)]) (by simp) ?_
 unfold c89 r89
 simp only [ZB,endK,resK,packed,insVc,load1K,faddrK,lenLK,Value.cells,ne_eq,Nat.reduceEqDiff,Zac,Za,Zag,Zah,Zad,Zaa,get_alloc,Nat.reduceEqDiff,tabV]
 exact h _ ((Mod.refl _ _).alloc _)
def flatE (l:List Le):List Value:=l.flatMap Le.cells
theorem flatE_len (l:List Le):(flatE l).length=l.length * 3:=row_len (s:=3) (cells:=Le.cells) (fun _=>rfl) l
theorem flatE_one (l:List Le):∀u∈flatE l,u.oneCell'=true:=by
 intro u hu
 obtain ⟨e,_,he⟩:=List.mem_flatMap.1 hu
 simp only [Le.cells,Zbo,Zbp,or_false] at he
 rcases he with rfl|rfl|rfl <;> rfl
def OwnE (w:World) (B:Nat) (v:Value) (l:List Le):Prop:=w.ownsRow B 233 3 v l.length (flatE l)
theorem OwnE.keep {w w':World} {S:Nat→Prop} {B:Nat} {v:Value} {l:List Le} (h:OwnE w B v l) (hm:Mod S w w') (hS:∀k,v.ownBlock=some k→¬S k):OwnE w' B v l:=by
 obtain ⟨h1,h2⟩:=h
 refine ⟨h1,h2.imp id ?_⟩
 rintro ⟨g,cap,cur,rfl,hB,hg,r⟩
 exact ⟨g,cap,cur,rfl,hB,hm.keep hg (hS g rfl),r⟩
theorem OwnE.keep0 {w w':World} {B:Nat} {v:Value} {l:List Le} (h:OwnE w B v l) (hm:Mod (fun _=>False) w w'):OwnE w' B v l:=h.keep hm (fun _ _=>id)
theorem OwnE.is {w:World} {B:Nat} {v:Value} {l:List Le} (h:OwnE w B v l):IsLes w v l:=by
 rcases h.2 with ⟨rfl,h0⟩|⟨g,cap,cur,rfl,_,hg,_,_,_,hc⟩
 ·have:l=[]:=List.length_eq_zero_iff.1 h0
  subst this
  exact ⟨⟨_,_,rfl⟩,fun i x hx=>by simp at hx⟩
 ·refine ⟨⟨_,_,rfl⟩,fun i x hx => ?_⟩
  have:=row_at (s:=3) (off:=0) (cells:=Le.cells) (fun _=>rfl) (by simpa [flatE] using hc) hx (by decide)
  exact ⟨g,0,cap,cur,_,_,rfl,hg,this.1,this.2⟩
theorem OwnE.mono {w:World} {B C:Nat} {v:Value} {l:List Le} (h:OwnE w B v l) (hc:C≤B):OwnE w C v l:=⟨h.1,h.2.imp id fun ⟨g,cap,cur,a,b,r⟩=>⟨g,cap,cur,a,Nat.le_trans hc b,r⟩⟩
theorem OwnE.nil (w:World) (B:Nat):OwnE w B (.slice none 0 0) []:=World.ownsRow_nil w B _ _
def SubE (w:World) (v:Value) (l:List Le):Prop :=
 (∃c,v = .slice none 0 c∧l=[])∨∃b off c,v = .slice (some ⟨b,off,none⟩) l.length c∧∀j u,(flatE l)[j]? = some u→w.cell? ⟨b,off+j,none⟩=some u
theorem OwnE.sub {w:World} {B:Nat} {v:Value} {l:List Le} (h:OwnE w B v l):SubE w v l:=by
 rcases h.2 with ⟨rfl,h0⟩|⟨g,cap,cur,rfl,_,hg,_,_,_,hc⟩
 ·exact .inl ⟨0,rfl,List.length_eq_zero_iff.1 h0⟩
 ·refine .inr ⟨g,0,cap,rfl,fun j u hj => ?_⟩
  have:=World.ownsRow.cells h (g:=g) rfl j u hj
  rw [Addr.add_lit] at this
  exact this
theorem OwnE.tail {w:World} {B:Nat} {v:Value} {l:List Le} (h:OwnE w B v l) (k:Nat) (hk:k≤l.length):∃a n c,v = .slice a n c∧n=l.length∧k≤c∧n≤c ∧
  SubE w (.slice (if c=k then a else a.map (·.add (k * 3))) (n-k) (c-k)) (l.drop k):=by
 rcases h.2 with ⟨rfl,h0⟩|⟨g,cap,cur,rfl,_,hg,hnc,_,hcs,hc⟩
 ·have:l=[]:=List.length_eq_zero_iff.1 h0
  subst this
  exact ⟨none,0,0,rfl,rfl,by simpa using hk,by omega,.inl ⟨0-k,by simp,by simp⟩⟩
 ·refine ⟨some ⟨g,0,none⟩,l.length,cap,rfl,rfl,by omega,hnc,.inr ?_⟩
  have key:∀j u,(flatE (l.drop k))[j]? = some u→w.cell? ⟨g,k * 3+j,none⟩=some u:=by
   intro j u hj
   have hd:(flatE l).drop (k * 3)=flatE (l.drop k):=row_drop (s:=3) (cells:=Le.cells) (fun _=>rfl) l k
   rw [← hd,List.getElem?_drop] at hj
   have:=World.ownsRow.cells h (g:=g) rfl _ u hj
   rw [Addr.add_lit,Nat.zero_add] at this
   exact this
  by_cases hck:cap=k
  ·have hd:l.drop k=[]:=List.drop_eq_nil_iff.2 (by omega)
   rw [if_pos hck,hd]
   refine ⟨g,0,cap-k, ?_,fun j u hj=>by simp [flatE] at hj⟩
   have:l.length-k=0:=by omega
   simp [this]
  ·rw [if_neg hck]
   refine ⟨g,k * 3,cap-k, ?_,key⟩
   simp only [Zbn,Addr.add_lit,Nat.zero_add,List.length_drop]
theorem info_le:(prog.info? 233).map (fun i=>(i.zero,i.size,i.bytes))=some (some (.agg #[.string ⟨#[]⟩,.int .u64 0,.int .u64 0]),3,32):=by kernel_rfl
theorem under_les:prog.underlying 137=some (.slice 233):=by kernel_rfl
def cloneRen:Go.Shelf.Ren:=⟨fun|41=>150|n=>n,fun|22=>137|23=>233|4=>4|n=>n,fun|n=>n⟩
theorem cloneLays:Go.Proofs.SlLaysE0.n41 prog cloneRen:={
 mixed:=by kernel_rfl
 f41:=⟨f150.name,by decide,func150.trans (congrArg some (by kernel_rfl))⟩
 t4:=Proofs.Tryz.underlying4
 a4:=Proofs.Tryz.isAgg4
 z4:=Proofs.Tryz.sizeOf4
 v4:=Proofs.Tryz.zeroValue4
 t22:=Proofs.Tryz.underlying137
 a22:=Proofs.Tryz.isAgg137
 z22:=Proofs.Tryz.sizeOf137
 v22:=Proofs.Tryz.zeroValue137 }
theorem lclone_c (v:Value) (l:List Le) (w:World) (K:Value→World→Prop) (hv:SubE w v l) (hl:l.length<2^40)
  (h:∀w' v',Mod (fun _=>False) w w'→OwnE w' w.heap.size v' l→K v' w'):Ok prog 150 #[v] w K:=by
 rcases hv with ⟨c,rfl,rfl⟩|⟨b,off,c,rfl,hc⟩
 ·refine ok_of_calls (by kernel_rfl) (Go.Proofs.AnyE.slices_Clone_nil cloneLays 0 c w) ?_
  rintro e w' ⟨rfl,rfl⟩
  exact ⟨_,rfl,h _ _ (Mod.refl _ _) (OwnE.nil _ _)⟩
 ·obtain ⟨i,hi,hi1,hi2⟩:=info_of info_le
  refine ok_of_calls (by kernel_rfl) (Go.Proofs.AnyE.slices_Clone cloneLays i _ 3 32 hi hi1 hi2.1 hi2.2 rfl (by decide) Proofs.Tryz.sizeOf233 b off l.length c (flatE l) w (flatE_len l) (by simp [maxLen];omega) (by omega) hc (flatE_one l)) ?_
  rintro e w' ⟨v',rfl,ho,_,hb⟩
  exact ⟨_,rfl,h _ _ (Mod.of_below hb) ho⟩
end Go.Oct
namespace Go.Vc
open Go
variable {P:Program} {ro:Option Nat} {n:Nat} {ops:Array Oper} {Fix:World→Prop} {md:Region.Mode} {Q:Act→World→Prop} {S:Nat→Bool}
def lastB (md:Region.Mode) (ops:Array Oper):Bool :=
 ((List.range ops.size).all fun j=>match ops[j]? with|some o=>o.after.all (fun e => !Region.binds md e || decide (e.on<j))|none=>true) &&
 (List.range (ops.size-1)).all fun j=>(List.range ops.size).any fun p=>decide (j<p) && match ops[p]? with|some o=>o.after.any (fun e=>Region.binds md e && e.on == j)|none=>false
theorem lastB_back (h:lastB md ops=true) {j:Nat} {o:Oper} (ho:ops[j]? = some o) {e} (he:e∈o.after) (hb:Region.binds md e=true):e.on<j:=by
 have hj:j<ops.size:=(Array.getElem?_eq_some_iff.1 ho).1
 unfold lastB at h
 simp only [Zbk,List.all_eq_true] at h
 have:=h.1 j (List.mem_range.2 hj)
 simp only [ho] at this
 have h2:=(Array.all_eq_true_iff_forall_mem.1 this) e he
 simpa [hb] using h2
theorem lastB_need (h:lastB md ops=true) {j:Nat} (hj:j+1<ops.size):∃p o e,j<p∧ops[p]? = some o∧e∈o.after∧Region.binds md e=true∧e.on=j:=by
 unfold lastB at h
 simp only [Zbk,List.all_eq_true] at h
 have:=h.2 j (List.mem_range.2 (by omega))
 obtain ⟨p,_,hp⟩:=List.any_eq_true.1 this
 simp only [Zbk,decide_eq_true_eq] at hp
 obtain ⟨h1,h2⟩:=hp
 cases ho:ops[p]? with
 | none=>rw [ho] at h2;cases h2
 | some o =>
  rw [ho] at h2
  obtain ⟨e,he,hb⟩:=Array.any_eq_true'.1 h2
  simp only [Zbk,beq_iff_eq] at hb
  exact ⟨p,o,e,h1,ho,he,hb.1,hb.2⟩
def Closed (md:Region.Mode) (ops:Array Oper) (listed:Array Bool):Prop :=
 ∀p o,ops[p]? = some o→listed.getD p true=true→∀e∈o.after,Region.binds md e=true→listed.getD e.on false=true
theorem getD_tf {listed:Array Bool} {j:Nat} (hj:j<listed.size):listed.getD j true=listed.getD j false:=by
 simp [hj]
theorem closed_step {listed:Array Bool} (h:Closed md ops listed) {i:Nat} (hi:i∈Region.ready md ops listed):Closed md ops (listed.setIfInBounds i true):=by
 intro p o ho hp e he hb
 obtain ⟨_,oi,hoi,hall⟩:=mem_ready.1 hi
 by_cases hpi:i=p
 ·subst hpi
  rw [ho] at hoi
  obtain rfl:=Option.some.inj hoi
  exact getD_set_true (hall e he hb)
 ·rw [getD_set_ne true hpi] at hp
  exact getD_set_true (h p o ho hp e he hb)
theorem ready_ne {listed:Array Bool} (hB:lastB md ops=true) (hs:listed.size=ops.size):∀(j:Nat),j<ops.size→listed.getD j true=false→Region.ready md ops listed≠[]:=by
 intro j
 induction j using Nat.strongRecOn with
 | _ j ih =>
  intro hj hu
  obtain ⟨o,ho⟩:∃o,ops[j]? = some o:=⟨_,Array.getElem?_eq_getElem hj⟩
  by_cases hall:∀e∈o.after,Region.binds md e=true→listed.getD e.on false=true
  ·intro h
   have:j∈Region.ready md ops listed:=mem_ready.2 ⟨hu,o,ho,hall⟩
   rw [h] at this;cases this
  ·have:∃e,e∈o.after∧Region.binds md e=true∧¬listed.getD e.on false=true:=by
    refine Classical.byContradiction fun hc=>hall fun e he hb => ?_
    refine Classical.byContradiction fun hd=>hc ⟨e,he,hb,hd⟩
   obtain ⟨e,he,hb,hd⟩:=this
   have hlt:=lastB_back hB ho he hb
   refine ih e.on hlt (by omega) ?_
   rw [getD_tf (by omega)]
   simpa using hd
theorem last_ready {listed:Array Bool} {L:Nat} (hB:lastB md ops=true) (hL:L+1=ops.size) (hs:listed.size=ops.size) (hc:Closed md ops listed) (hr:L∈Region.ready md ops listed):∀(d j:Nat),L-j=d→j<L→listed.getD j true=true:=by
 intro d
 induction d using Nat.strongRecOn with
 | _ d ih =>
  intro j hd hj
  obtain ⟨p,o,e,h1,h2,h3,h4,h5⟩:=lastB_need hB (show j+1<ops.size by omega)
  have hp:p<ops.size:=(Array.getElem?_eq_some_iff.1 h2).1
  rw [getD_tf (by omega),← h5]
  by_cases hpL:p=L
  ·subst hpL
   obtain ⟨_,oL,hoL,hall⟩:=mem_ready.1 hr
   rw [h2] at hoL
   obtain rfl:=Option.some.inj hoL
   exact hall e h3 h4
  ·have:=ih (L-p) (by omega) p rfl (by omega)
   exact hc p o h2 this e h3 h4
theorem wpAnyIn_last {L:Nat} {Q':Exit→Act→World→Prop} (hB:lastB md ops=true) (hL:L+1=ops.size) (hQ:∀a w,Fix w→Q a w→wpOpIn (FW ro) 0 P ops Q' L (fun a w=>Q' .normal a w) a w) :
  ∀(fuel:Nat) (listed:Array Bool) (a:Act) (w:World),listed.size=ops.size→listed.getD L true=false→Closed md ops listed→Fix w →
   wpAnyD P md ops Fix S Q fuel (listed.setIfInBounds L true) a w→wpAnyIn (FW ro) 0 P md ops Q' (fuel+1) listed a w:=by
 intro fuel
 induction fuel with
 | zero =>
  intro listed a w hs hu hc hw h
  refine ⟨fun h0=>absurd h0 (ready_ne hB hs L (by omega) hu),fun i hi => ?_⟩
  by_cases hiL:i=L
  ·subst hiL
   exact wpOpIn_mono (fun a w hq=>⟨h.1,hq⟩) (hQ a w hw h.2)
  ·have:=ready_mono hi hiL
   rw [h.1] at this;cases this
 | succ fuel ih =>
  intro listed a w hs hu hc hw h
  refine ⟨fun h0=>absurd h0 (ready_ne hB hs L (by omega) hu),fun i hi => ?_⟩
  by_cases hiL:i=L
  ·subst hiL
   have hnil:Region.ready md ops (listed.setIfInBounds i true)=[]:=by
    refine List.eq_nil_iff_forall_not_mem.2 fun j hj => ?_
    obtain ⟨h1,o,ho,_⟩:=mem_ready.1 hj
    have hjs:j<ops.size:=(Array.getElem?_eq_some_iff.1 ho).1
    by_cases hji:i=j
    ·subst hji
     simp [show i<listed.size by omega] at h1
    ·rw [getD_set_ne true hji,last_ready hB hL hs hc hi _ j rfl (by omega)] at h1
     cases h1
   exact wpOpIn_mono (fun a w hq=>⟨fun _=>hq,fun j hj=>by rw [hnil] at hj;cases hj⟩) (hQ a w hw (h.1 hnil))
  ·have hi':=ready_mono hi hiL
   have hq:=h.2 i hi'
   have hu':(listed.setIfInBounds i true).getD L true=false:=by rw [getD_set_ne true hiL];exact hu
   have hs':(listed.setIfInBounds i true).size=ops.size:=by rw [Array.size_setIfInBounds];exact hs
   have hc':=closed_step hc hi
   have hcomm:(listed.setIfInBounds L true).setIfInBounds i true=(listed.setIfInBounds i true).setIfInBounds L true:=Array.setIfInBounds_comm _ _ (Ne.symm hiL)
   rw [hcomm] at hq
   unfold dOp at hq
   unfold wpOpIn
   split
   ·rename_i ho;simp only [ho] at hq;exact ih _ _ _ hs' hu' hc' hw hq
   ·rename_i o ho
    simp only [ho] at hq
    split
    ·rename_i hwt
     simp only [hwt,Zaa] at hq
     by_cases hsi:S i=true
     ·rw [if_pos hsi] at hq
      exact wpIn_of_upon (upon_mono (fun v w' x=>ih _ _ _ hs' hu' hc' x.1 x.2) hq)
     ·rw [if_neg hsi] at hq
      obtain ⟨u,h1,h2⟩:=hq
      refine wpIn_of_upon ?_
      rcases h1 w hw with e|⟨e,rfl⟩
      ·rw [e];exact ih _ _ _ hs' hu' hc' hw h2
      ·rw [e];exact ih _ _ _ hs' hu' hc' hw h2
    ·rename_i hwt;simp only [hwt] at hq
     exact ⟨fun f _=>trivial,ih _ _ _ hs' hu' hc' hw hq⟩
def waitB2 (md:Region.Mode) (ops:Array Oper) (S:Nat→Bool) (k:Nat) (listed:Array Bool):Bool :=
 let W:=reach md ops k (ops.size-1-(k+1)) (k+1) []
 (W.all fun p => !listed.getD p false) &&
 (W.all fun p=>match ops[p]? with|some o=>o.after.any (fun e=>Region.binds md e && (e.on == k || W.contains e.on))|none=>true) &&
 (List.range listed.size).all fun j=>j == k || !S j || listed.getD j true || W.contains j
def lexD2 (md:Region.Mode) (ops:Array Oper) (S:Nat→Bool):Nat→Nat→Array Bool→Bool
 | 0,_,_=>true
 | f+1,k,listed=>(!S k || waitB2 md ops S k listed) && lexD2 md ops S f (k+1) (listed.setIfInBounds k true)
theorem waits_of_waitB2 {k:Nat} {listed:Array Bool} (h:waitB2 md ops S k listed=true):Waits md ops S k listed (fun p=>p∈reach md ops k (ops.size-1-(k+1)) (k+1) []):=by
 unfold waitB2 at h
 simp only [Zbk,List.all_eq_true] at h
 obtain ⟨⟨h1,h2⟩,h3⟩:=h
 refine ⟨fun p hp=>by simpa using h1 p hp,fun p o hp ho => ?_,fun j hj hne hun => ?_⟩
 ·have:=h2 p hp
  simp only [ho] at this
  obtain ⟨e,he,hb⟩:=Array.any_eq_true'.1 this
  simp only [Zbk,Zbx,beq_iff_eq,Zca] at hb
  exact ⟨e,he,hb.1,hb.2⟩
 ·rcases Nat.lt_or_ge j listed.size with h'|h'
  ·have:=h3 j (List.mem_range.2 h')
   simp only [Zbx,beq_iff_eq,hne,false_or,hj,Bool.not_true,Bool.false_eq_true,hun,Zca] at this
   exact this
  ·simp [Array.getElem?_eq_none h'] at hun
theorem wpAnyD_lex' (hs:Region.noSelect ops=true):∀(f k:Nat) (listed:Array Bool) (a:Act) (w:World),Fix w→k+f≤ops.size→Region.lexFrom md ops f k listed=true→lexD2 md ops S f k listed=true →
  walkD P ops Fix S Q f k a w→wpAnyD P md ops Fix S Q f listed a w
 | 0,_,_,_,_,_,_,hB,_,h=>⟨by simpa [Region.lexFrom] using hB,h⟩
 | f+1,k,listed,a,w,hw,hk,hB,hD,h=>by
  obtain ⟨o,ho⟩:∃o,ops[k]? = some o:=⟨_,Array.getElem?_eq_getElem (by omega)⟩
  simp only [Region.lexFrom,Zbk] at hB
  obtain ⟨⟨hr,hf⟩,hB'⟩:=hB
  simp only [lexD2,Zbk,Zbx,Bool.not_eq_true'] at hD
  refine wpAnyD_first (W:=fun p=>p∈reach md ops k (ops.size-1-(k+1)) (k+1) []) ho (Region.noSelect_spec hs) f listed a w hw (Region.free_spec ho hf) (by simpa using hr) ?_ ?_
  ·intro hsk
   rcases hD.1 with h'|h'
   ·rw [hsk] at h';cases h'
   ·exact waits_of_waitB2 h'
  ·exact dOp_mono hw (fun a' w' hw' h'=>wpAnyD_lex' hs f (k+1) _ a' w' hw' (by omega) hB' hD.2 h') h
theorem compOps_append:∀(a b:List Oper) (l:List In),compOps P n ops (a ++ b)=some l→∃la lb,compOps P n ops a=some la∧compOps P n ops b=some lb∧l=la ++ lb∧la.length=a.length:=by
 intro a
 induction a with
 | nil=>intro b l h;exact ⟨[],l,rfl,h,rfl,rfl⟩
 | cons o a ih =>
  intro b l h
  simp only [Zaw,compOps] at h
  split at h
  ·rename_i g l' hg hl'
   simp at h;subst h
   obtain ⟨la,lb,h1,h2,rfl,h3⟩:=ih b l' hl'
   exact ⟨⟨g,o.dst,compOp P n o⟩ :: la,lb,by simp only [compOps,hg,h1],h2,rfl,by simp [h3]⟩
  ·contradiction
def ready0 (ops:Array Oper):Array Bool:=(Array.replicate ops.size false).setIfInBounds (ops.size-1) true
def lexLast (md:Region.Mode) (ops:Array Oper):Bool:=Region.noSelect ops && Region.lexFrom md ops (ops.size-1) 0 (ready0 ops)
def chainLast (ops:Array Oper) (S:Nat→Bool):Bool:=lexD2 .any ops S (ops.size-1) 0 (ready0 ops)
variable {P:Program} {go:Value→World→Prop} {ρ:Env} {ds:List Deferred} {n:Nat} {w:World} {o:Oper}
theorem last_split {α:Type}:∀(l:List α) (x:α),l.getLast? = some x→l=l.dropLast ++ [x]:=by
 intro l
 induction l with
 | nil=>intro x h;cases h
 | cons a l ih =>
  intro x h
  cases l with
  | nil=>simp at h;rw [h];rfl
  | cons b l =>
   have:=ih x (by simpa using h)
   show a :: b :: l=a :: ((b :: l).dropLast ++ [x])
   rw [← this]
end Go.Vc
namespace Go.Oct
open Go Go.Vc Go.VrA Go.VrH Go.Proofs.Tryz
set_option maxRecDepth 100000
section
variable {P:Program} {n:Nat} {go:Value→World→Prop} {ρ:Env} {ds:List Deferred} {w:World} {o:Oper}
theorem rawK_slice3any {t e:TypeId} {sz:Nat} {x lo hi mx:Operand} {a:Option Addr} {k cap l h m:Nat} {kl kh km:IntKind} (ho:o.op = .slice t x (some lo) (some hi) (some mx)) (hx:inB n x=true) (hlo:inB n lo=true) (hhi:inB n hi=true) (hmx:inB n mx=true)
  (hs:P.underlying t=some (.slice e)) (hse:csz P e=some sz) (ex:ev ρ x = .slice a k cap) (el:ev ρ lo = .int kl (l:Nat)) (eh:ev ρ hi = .int kh (h:Nat)) (em:ev ρ mx = .int km (m:Nat)) (h1:l≤h) (h2:h≤m) (h3:m≤cap) (hgo:∀v,go v w):RawK P go ρ ds n o w:=by
 unfold RawK
 simp only [execOp,ho,Zbn,mkA_eval n ρ ds x hx,mkA_eval n ρ ds lo hlo,mkA_eval n ρ ds hi hhi,mkA_eval n ρ ds mx hmx,ex,el,eh,em]
 have hb1:(0:Int)≤(m:Int)∧(m:Int)≤(cap:Int):=by omega
 have hb2:(0:Int)≤(h:Int)∧(h:Int)≤(m:Int):=by omega
 have hb3:(0:Int)≤(l:Int)∧(l:Int)≤(h:Int):=by omega
 refine upon_v ⟨_,w, ?_,hgo (.slice (if m=l then a else a.map (·.add (l * sz))) (h-l) (m-l))⟩
 simp [Instr.sliceAt,Instr.slice,Instr.sliceBounds,Instr.sliceBound,asIntOf,Sem.run_bind,run_underlying hs,Result.andThen,Vc.run_sizeOf hse,pure,Sem.run,h1,h2,h3]
theorem rawK_clear {s:Operand} {t:TypeId} {v:Value} {w':World} (ho:o.op = .call { callee:=.builtin .clear,args:=#[s],argTypes:=#[t] })
  (hs:inB n s=true) (hr:(Builtin.clear_ #[t] o.type #[ev ρ s]).run P w = .ok v w') (h:go v w'):RawK P go ρ ds n o w:=by
 unfold RawK
 simp only [execOp,ho,resolve,Sem.run_bind,pure,Sem.run,Result.andThen,invoke,builtin]
 have e:(#[s]:Array Operand).map (mkA n ρ ds).eval = #[ev ρ s]:=by simp [mkA_eval n ρ ds s hs]
 rw [e,hr]
 exact h
theorem run_append_back {t tx ty e:TypeId} {i:TypeInfo} (ht:P.underlying t=some (.slice e)) (hi:P.info? e=some i) {g cap k m:Nat} {cur:Array Value} {x:Value} {news:List Value} (hg:w.heap[g]? = some (.cells cur e (0,0))) (hsrc:Src P i.size tx x m news w)
  (hroom:k+m≤cap) (hfit:k * i.size+news.length≤cur.size) :
  (Builtin.append_ #[t,tx] ty #[.slice (some ⟨g,0,none⟩) k cap,x]).run P w = .ok (.slice (some ⟨g,0,none⟩) (k+m) cap) (w.setRow g (cur.toList.take (k * i.size) ++ news ++ cur.toList.drop (k * i.size+news.length)).toArray):=by
 have hst:=run_storeCells_at P g (k * i.size) e news 0 cur w hg (by simpa using hfit) hsrc.one
 simp only [Nat.add_zero] at hst
 rcases hsrc.kind with ⟨e',hk⟩|hk <;> simp [Builtin.append_,run_underlying ht,run_underlying hk,sizeOf,typeInfo,hi,hsrc.len,hroom,hsrc.cells,Addr.add_lit,hst]
theorem run_clear_row {t ty e:TypeId} {z:Value} (ht:P.underlying t=some (.slice e)) (hz:∀w,(zeroValue e).run P w = .ok z w) {g o c m:Nat} {cur:Array Value} (hg:w.heap[g]? = some (.cells cur e (0,0)))
  (hfit:o+(m+1)*z.cells.size≤cur.size) (h1:∀u∈(Builtin.zeroCells z.cells (m+1)).toList,u.oneCell'=true) :
  (Builtin.clear_ #[t] ty #[.slice (some ⟨g,o,none⟩) (m+1) c]).run P w = .ok (.tuple #[]) (w.setRow g (cur.toList.take o ++ (Builtin.zeroCells z.cells (m+1)).toList ++ cur.toList.drop (o+(m+1)*z.cells.size)).toArray):=by
 have hl:(Builtin.zeroCells z.cells (m+1)).toList.length=(m+1)*z.cells.size:=by rw [Array.length_toList,size_zeroCells]
 have hst:=run_storeCells_at P g o e _ 0 cur w hg (by rw [hl];simpa using hfit) h1
 simp only [Nat.add_zero,hl] at hst
 simp [Builtin.clear_,run_underlying ht,hz,hst]
end
theorem mod_setRow (w:World) (g:Nat) (cs:Array Value):Mod (fun k=>k=g) w (w.setRow g cs):=⟨rfl,rfl,rfl,by simp,fun k _ hk=>setRow_other w g k _ hk⟩
theorem ldelete_c (g cap:Nat) (l:List Le) (B i:Nat) (w:World) (K:Value→World→Prop) (hv:OwnE w B (.slice (some ⟨g,0,none⟩) l.length cap) l) (hi:i<l.length) (hl:l.length<2^40)
  (h:∀w' v',Mod (fun k=>k=g) w w'→OwnE w' B v' (l.take i ++ l.drop (i+1))→v'.ownBlock=some g→K v' w') :
  Ok prog 208 #[.slice (some ⟨g,0,none⟩) l.length cap,.int .i64 i,.int .i64 ((i:Int)+1)] w K:=by
 rcases hv.2 with ⟨h0,_⟩|⟨g',cap',cur,he,hB,hg,hnc,hcm,hcs,htk⟩
 ·simp at h0
 simp only [Value.slice.injEq,Option.some.injEq,Addr.mk.injEq,and_true,true_and] at he
 obtain ⟨rfl,rfl⟩:=he
 obtain ⟨ti,hti,hti1,hti2⟩:=info_of info_le
 refine F208.enter (args:=[.slice (some ⟨g,0,none⟩) l.length cap,.int .i64 i,.int .i64 ((i:Int)+1)]) (by simp) ?_
 unfold c208 r208
 have hne:((i:Int) == (i:Int)+1)=false:=by simp;omega
 have b1:(0:Int)≤0∧(0:Int)≤(i:Int)∧(i:Int)≤(cap:Int):=by omega
 have b2:(0:Int)≤(i:Int)+1∧(i:Int)+1≤(l.length:Int)∧(l.length:Int)≤(cap:Int):=by omega
 have t1:((i:Int)+1).toNat=i+1:=by omega
 have hc0:¬cap=0:=by omega
 simp only [ZB,insVc,lenLK,ne_eq,Nat.reduceEqDiff,reduceCtorEq,Zac,Za,Zag]
 refine rawK_slice3any (sz:=3) (l:=i) (h:=i+1) (m:=l.length) rfl rfl rfl rfl rfl under_les (by kernel_rfl) rfl rfl rfl rfl (by omega) (by omega) (by omega) ?_
 intro _
 simp only [ZB,insVc,iopK,iopV,lenLK,ne_eq,Nat.reduceEqDiff,reduceCtorEq,Zac,Za,Zag,hne]
 refine draw_d (fun _=>True) (by kernel_rfl) (by kernel_rfl) (by kernel_rfl) (by kernel_rfl) trivial ?_
 simp only [ZB,insVc,lenLK,boundOf,slLK,ne_eq,Nat.reduceEqDiff,reduceCtorEq,Zbn,Zbv,Zac,Za,Zag,Zaa,Zaf,Zbj,Zat,pureI,Zbs,vcD_nil,vcD_cons,stepD_pure,stepD_step,kindI,loadI,b1,b2,t1,hc0,Addr.add_lit]
 have hgd:w.drew.heap[g]? = some (.cells cur 233 (0,0)):=hg
 have htail:SubE w.drew (.slice (if cap=i+1 then some ⟨g,0,none⟩ else (some ⟨g,0,none⟩:Option Addr).map (·.add ((i+1)*3))) (l.length-(i+1)) (cap-(i+1))) (l.drop (i+1)):=by
  obtain ⟨a,n,c,e,e1,e2,e3,hs⟩:=OwnE.tail (w:=w.drew) (B:=B) hv (i+1) hi
  simp only [Value.slice.injEq] at e
  obtain ⟨rfl,rfl,rfl⟩:=e
  exact hs
 have hcl:cur.size=cap * 3:=hcs
 have hdl:(l.drop (i+1)).length=l.length-(i+1):=List.length_drop
 have hfl:(flatE (l.drop (i+1))).length=(l.length-(i+1))*3:=by rw [flatE_len,hdl]
 have hsrc:Src prog 3 137 (.slice (if cap=i+1 then some ⟨g,0,none⟩ else (some ⟨g,0,none⟩:Option Addr).map (·.add ((i+1)*3))) (l.length-(i+1)) (cap-(i+1))) (l.length-(i+1)) (flatE (l.drop (i+1))) w.drew:=by
  rcases htail with ⟨c,he,_⟩|⟨b,off,c,he,hc⟩
  ·exfalso
   by_cases hck:cap=i+1 <;> simp [hck] at he
  ·rw [he,hdl]
   exact Src.ofSlice w.drew under_les ⟨b,off,none⟩ _ c _ hfl (fun j u hj=>by rw [Addr.add_lit];exact hc j u hj) (flatE_one _)
 have happ:=run_append_back (P:=prog) (w:=w.drew) (t:=137) (tx:=137) (ty:=137) (k:=i) (m:=l.length-(i+1)) under_les hti (cap:=cap) hgd (by rw [hti2.1];exact hsrc) (by omega) (by rw [hti2.1,hfl];omega)
 rw [hti2.1,hfl] at happ
 have hlen1:i+(l.length-(i+1))=l.length-1:=by omega
 rw [hlen1] at happ
 have htake:cur.toList.take (i * 3)=flatE (l.take i):=by
  have h1:(cur.toList.take (l.length * 3)).take (i * 3)=cur.toList.take (i * 3):=by rw [List.take_take];congr 1;omega
  rw [← h1,htk]
  have:flatE l=flatE (l.take i) ++ flatE (l.drop i):=by unfold flatE;rw [← List.flatMap_append,List.take_append_drop]
  rw [this,List.take_left']
  rw [flatE_len,List.length_take];congr 1;omega
 obtain ⟨cur1,hcur1⟩:∃cur1,cur1=(cur.toList.take (i * 3) ++ flatE (l.drop (i+1)) ++ cur.toList.drop (i * 3+(l.length-(i+1))*3)).toArray:=⟨_,rfl⟩
 rw [← hcur1] at happ
 have hc1:cur1.toList=flatE (l.take i ++ l.drop (i+1)) ++ cur.toList.drop (i * 3+(l.length-(i+1))*3):=by
  rw [hcur1,List.toList_toArray,htake]
  unfold flatE
  rw [List.flatMap_append]
 have hl2:(l.take i ++ l.drop (i+1)).length=l.length-1:=by rw [List.length_append,List.length_take,hdl];omega
 have hsz1:cur1.size=cap * 3:=by
  have e2:cur.toList.length=cap * 3:=Array.length_toList.trans hcl
  have e:cur1.toList.length=cap * 3:=by
   rw [hc1,List.length_append,flatE_len,hl2,List.length_drop];omega
  exact Array.length_toList.symm.trans e
 refine ⟨by omega, ?_⟩
 refine rawK_append (v:=.slice (some ⟨g,0,none⟩) (l.length-1) cap) (w':=w.drew.setRow g cur1) rfl rfl rfl ?_ ?_
 ·simpa only [vc_skip,vc_seq,vc_cond,vc_block,vc_exit,vc_ret,vc_ops,vcOps_nil,vcOps_cons,vcOps_gate,gateK_true,gateK_false,gate_true,gate_false,gate_undef,goL_apply,thenQ_normal,thenQ_ret,thenQ_exit,blockQ_normal,blockQ_ret,blockQ_same,blockQ_exit,condP_true,condP_false,upd_same,upd_other,updO_some,updO_none,ev_tmp,ev_const,ev_global,ev_func,endQ_ret,endQ_normal,endK,resK,resN,res1,resO_cells,resNO_cells,packed,initE_at,insVc,pickK,load1K,loadO_cells,loadV_some,loadV_none,loadNK,loadNO_cells,storeK,storeO_cells,storeNK,storeNO_cells,setMany,nilK,nilM,iopK,iopV,sopK,sopV,bopK,nilOf,pnilK,notK,convK,sameK,faddrK,fld1K,fldNK,iaddrK,iaddrAK,sidxK,extK,lenSK,lenLK,callvK,invK,buildK,fillL,buildSK,boundOf,slSK,slLK,slAK,isPlain,Value.cells,ne_eq,not_false_eq_true,not_true_eq_false,Nat.reduceEqDiff,Nat.reduceAdd,Nat.reduceLT,Nat.reduceLeDiff,reduceCtorEq,Bool.not_true,Bool.not_false,Option.map_some,Option.map_none,Option.getD_some,Option.getD_none,List.map_cons,List.map_nil,List.getElem?_cons_zero,List.getElem?_cons_succ,List.getElem?_nil,List.getElem?_toArray,List.size_toArray,List.length_cons,List.length_nil,List.zipIdx_cons,List.zipIdx_nil,List.foldl_cons,List.foldl_nil,List.setIfInBounds_toArray,List.set_cons_zero,List.set_cons_succ,List.append_eq,List.nil_append,List.cons_append,List.append_nil,List.toList_toArray,true_and,and_true,true_or,or_true,or_false,false_or,and_self,if_true,if_false,ite_true,ite_false,Bool.false_eq_true,Nat.zero_add,Nat.add_zero,decide_true,decide_false,Bool.and_true,Bool.and_false,Bool.true_and,Bool.false_and,Option.isNone_some,Option.isNone_none,Int.reduceLT,Int.reduceLE,Int.reduceToNat,Int.toNat_natCast,Int.reduceAdd,Int.reduceSub,Int.reduceMul,Int.reduceNeg,Int.reduceEq,Int.reduceNe,Int.reduceBEq,Int.reduceBNe,Nat.mul_one,List.extract_toArray,List.extract_eq_take_drop,List.drop_zero,List.drop_succ_cons,List.take_zero,List.take_succ_cons,Nat.sub_zero,Nat.add_sub_cancel,Nat.add_sub_cancel_left,vcS_nil,vcS_cons,vcS_gate,gateS_true,gateS_false,stepB_true,stepB_false,pureI,Nat.zero_mul,Nat.one_mul,Nat.reduceMul,Nat.reduceSub,List.all_toArray',List.all_cons,List.all_nil,size_set,size_alloc,size_drew,get_alloc_new,get_set_same,get_drew,Nat.lt_add_one,vcD_nil,vcD_cons,vcD_gate,gateD_true,gateD_false,stepD_pure,stepD_load,stepD_step,kindI,loadI,Addr.add_lit] using happ
 have hm1:Mod (fun k=>k=g) w (w.drew.setRow g cur1):=(Mod.refl _ w).drew.trans (mod_setRow _ _ _)
 have hg1:(w.drew.setRow g cur1).heap[g]? = some (.cells cur1 233 (0,0)):=setRow_heap w.drew g cur _ _ _ hgd
 have b3:(0:Int)≤((l.length-1:Nat):Int)∧((l.length-1:Nat):Int)≤((l.length:Nat):Int)∧((l.length:Nat):Int)≤(cap:Int):=by omega
 have hck:¬cap=l.length-1:=by omega
 have ho1:l.length-(l.length-1)=0+1:=by omega
 have hz:∀w,(zeroValue 233).run prog w = .ok (.agg #[.string ⟨#[]⟩,.int .u64 0,.int .u64 0]) w:=fun w=>by kernel_rfl
 have hclr:=run_clear_row (P:=prog) (w:=w.drew.setRow g cur1) (t:=137) (ty:=0) (c:=cap-(l.length-1)) (o:=(l.length-1)*3) (m:=0) under_les hz hg1 (by rw [hsz1];show (l.length-1)*3+(0+1)*3≤_;omega)
  (by intro u hu;have e:(Builtin.zeroCells (Value.agg #[.string ⟨#[]⟩,.int .u64 0,.int .u64 0]).cells (0+1)).toList=[.string ⟨#[]⟩,.int .u64 0,.int .u64 0]:=by simp [Builtin.zeroCells,Value.cells,Array.range_succ]
      rw [e] at hu;simp only [Zbo,Zbp,or_false] at hu;rcases hu with rfl|rfl|rfl <;> rfl)
 simp only [Zbn,true_and,and_self,Zaf,Nat.zero_add,Zbj,b3,hck,ho1,Addr.add_lit]
 refine rawK_clear rfl rfl (by simpa only [vc_skip,vc_seq,vc_cond,vc_block,vc_exit,vc_ret,vc_ops,vcOps_nil,vcOps_cons,vcOps_gate,gateK_true,gateK_false,gate_true,gate_false,gate_undef,goL_apply,thenQ_normal,thenQ_ret,thenQ_exit,blockQ_normal,blockQ_ret,blockQ_same,blockQ_exit,condP_true,condP_false,upd_same,upd_other,updO_some,updO_none,ev_tmp,ev_const,ev_global,ev_func,endQ_ret,endQ_normal,endK,resK,resN,res1,resO_cells,resNO_cells,packed,initE_at,insVc,pickK,load1K,loadO_cells,loadV_some,loadV_none,loadNK,loadNO_cells,storeK,storeO_cells,storeNK,storeNO_cells,setMany,nilK,nilM,iopK,iopV,sopK,sopV,bopK,nilOf,pnilK,notK,convK,sameK,faddrK,fld1K,fldNK,iaddrK,iaddrAK,sidxK,extK,lenSK,lenLK,callvK,invK,buildK,fillL,buildSK,boundOf,slSK,slLK,slAK,isPlain,Value.cells,ne_eq,not_false_eq_true,not_true_eq_false,Nat.reduceEqDiff,Nat.reduceAdd,Nat.reduceLT,Nat.reduceLeDiff,reduceCtorEq,Bool.not_true,Bool.not_false,Option.map_some,Option.map_none,Option.getD_some,Option.getD_none,List.map_cons,List.map_nil,List.getElem?_cons_zero,List.getElem?_cons_succ,List.getElem?_nil,List.getElem?_toArray,List.size_toArray,List.length_cons,List.length_nil,List.zipIdx_cons,List.zipIdx_nil,List.foldl_cons,List.foldl_nil,List.setIfInBounds_toArray,List.set_cons_zero,List.set_cons_succ,List.append_eq,List.nil_append,List.cons_append,List.append_nil,List.toList_toArray,true_and,and_true,true_or,or_true,or_false,false_or,and_self,if_true,if_false,ite_true,ite_false,Bool.false_eq_true,Nat.zero_add,Nat.add_zero,decide_true,decide_false,Bool.and_true,Bool.and_false,Bool.true_and,Bool.false_and,Option.isNone_some,Option.isNone_none,Int.reduceLT,Int.reduceLE,Int.reduceToNat,Int.toNat_natCast,Int.reduceAdd,Int.reduceSub,Int.reduceMul,Int.reduceNeg,Int.reduceEq,Int.reduceNe,Int.reduceBEq,Int.reduceBNe,Nat.mul_one,List.extract_toArray,List.extract_eq_take_drop,List.drop_zero,List.drop_succ_cons,List.take_zero,List.take_succ_cons,Nat.sub_zero,Nat.add_sub_cancel,Nat.add_sub_cancel_left,vcS_nil,vcS_cons,vcS_gate,gateS_true,gateS_false,stepB_true,stepB_false,pureI,Nat.zero_mul,Nat.one_mul,Nat.reduceMul,Nat.reduceSub,List.all_toArray',List.all_cons,List.all_nil,size_set,size_alloc,size_drew,get_alloc_new,get_set_same,get_drew,Nat.lt_add_one,vcD_nil,vcD_cons,vcD_gate,gateD_true,gateD_false,stepD_pure,stepD_load,stepD_step,kindI,loadI] using hclr) ?_
 simp only [ZB,endK,resK,packed,insVc,ne_eq,reduceCtorEq,Zad]
 refine h _ _ (hm1.trans (mod_setRow _ _ _)) ?_ rfl
 unfold OwnE
 rw [hl2]
 refine ⟨by rw [flatE_len,hl2],.inr ⟨g,cap,_,rfl,hB,setRow_heap _ g _ _ _ _ hg1,by omega,hcm, ?_, ?_⟩⟩
 ·simp only [Zai,Zcb,List.length_take,List.length_drop,Array.length_toList,size_zeroCells,hsz1]
  show min ((l.length-1)*3) (cap * 3)+(0+1)*3+(cap * 3-((l.length-1)*3+(0+1)*3))=cap * 3
  omega
 ·simp only [List.append_assoc]
  have e2:cur1.toList.length=cap * 3:=Array.length_toList.trans hsz1
  rw [List.take_left' (by rw [List.length_take,e2];omega),hc1,List.take_left' (by rw [flatE_len,hl2])]
def bsF (l:List Le) (e:Le):Nat→Nat→Nat→Nat
 | 0,i,_=>i
 | f+1,i,j=>if i<j then
   match l[(i+j)/2]? with
   | some x=>if cmpE x e<0 then bsF l e f ((i+j)/2+1) j else bsF l e f i ((i+j)/2)
   | none=>i
  else i
def bsE (l:List Le) (e:Le):Nat:=bsF l e l.length 0 l.length
theorem shr1 (a:Nat) (ha:a<2^62):IntKind.i64.wrap (((IntKind.u64.wrap ((a:Nat):Int))).fdiv (2^(min 1 IntKind.u64.bits)))=((a/2:Nat):Int):=by
 rw [wrap_u64 a (by omega)]
 have e:((2:Int)^(min 1 IntKind.u64.bits))=2:=by decide
 rw [e,Int.fdiv_eq_ediv_of_nonneg _ (by omega),wrap_i64 _ (by omega)]
 omega
theorem lsearch_c (l:List Le) (v tv:Value) (e:Le) (w:World) (K:Value→World→Prop) (hv:IsLes w v l) (hl:l.length<2^60)
  (h:∀w' b,Mod (fun _=>False) w w'→K (.tuple #[.int .i64 (bsE l e),.bool b]) w') :
  Ok prog 147 #[v,e.val,.func (.func 148) #[tabV tv] #[]] w K:=by
 obtain ⟨⟨a,cp,rfl⟩,hat⟩:=hv
 refine F147.enter (args:=[.slice a l.length cp,e.val,.func (.func 148) #[tabV tv] #[]]) (by simp) ?_
 unfold c147 r147
 have loadAt:∀(u:World) (j:Nat) (x:Le),Mod (fun _=>False) w u→l[j]? = some x→∃b o cur t f,a=some ⟨b,o,none⟩∧u.heap[b]? = some (.cells cur t f)∧o+j * 3+3≤cur.size∧cur.extract (o+j * 3) (o+j * 3+3) = #[.string x.q,.int .u64 x.id,.int .u64 x.till]:=by
  intro u j x hm hx
  obtain ⟨b,o,c,cur,t,f,he,hb,hsz,hex⟩:=hat j x hx
  exact ⟨b,o,cur,t,f,by simpa using congrArg (fun x=>match x with | .slice a _ _=>a|_=>none) he,hm.keep hb id,hsz,hex⟩
 simp only [ZB,insVc,lenLK,Value.cells,ne_eq,Nat.reduceEqDiff,reduceCtorEq,Zac,Za,Zag,Le.val]
 obtain ⟨w1,hw1⟩:∃w1,w1=w.alloc (.cells #[.string e.q,.int .u64 e.id,.int .u64 e.till] 233):=⟨_,rfl⟩
 have hm1:Mod (fun _=>False) w w1:=by rw [hw1];exact (Mod.refl _ _).alloc _
 have he1:w1.heap[w.heap.size]? = some (.cells #[.string e.q,.int .u64 e.id,.int .u64 e.till] 233 (0,0)):=by rw [hw1];exact get_alloc_new _ _
 rw [← hw1]
 clear hw1
 refine vc_loop (fun f ρ ds u => ∃i j,i≤j∧j≤l.length∧j≤i+f∧bsF l e f i j=bsE l e∧ds=[]∧ρ 0 = .slice a l.length cp∧ρ 2 = .func (.func 148) #[tabV tv] #[]∧ρ 4=ptr w.heap.size∧ρ 8 = .int .i64 l.length∧ρ 9 = .int .i64 i∧ρ 10 = .int .i64 j∧Mod (fun _=>False) w u∧u.heap[w.heap.size]? = some (.cells #[.string e.q,.int .u64 e.id,.int .u64 e.till] 233 (0,0))) l.length ?_ ?_
 ·exact ⟨0,l.length,Nat.zero_le _,Nat.le_refl _,by omega,rfl,rfl,by simp only [upd_other,initE_at,ne_eq,not_false_eq_true,reduceCtorEq,Zac,Za],by simp only [upd_other,initE_at,ne_eq,not_false_eq_true,Nat.reduceEqDiff,Zac,Za,Zag],by simp only [upd_same,upd_other,ne_eq,not_false_eq_true,Nat.reduceEqDiff],by simp only [upd_same,upd_other,ne_eq,not_false_eq_true,Nat.reduceEqDiff],by simp only [upd_same,upd_other,ne_eq,not_false_eq_true,Nat.reduceEqDiff];rfl,by simp only [upd_same],hm1,he1⟩
 ·rintro f ρ ds u ⟨i,j,hij,hjn,hjf,hbs,rfl,h0,h2,h4,h8,h9,h10,hmu,heu⟩
  by_cases c1:i<j
  ·have d1:(i:Int)<(j:Int):=by omega
   obtain ⟨f,rfl⟩:∃f',f=f'+1:=⟨f-1,by omega⟩
   have hw3:IntKind.i64.wrap ((i:Int)+(j:Int))=((i+j:Nat):Int):=by rw [wrap_i64 _ (by omega)];omega
   have hsh:=shr1 (i+j) (by omega)
   obtain ⟨x,hx⟩:∃x,l[(i+j)/2]? = some x:=⟨_,List.getElem?_eq_getElem (by omega)⟩
   obtain ⟨b,o,cur,t,fz,rfl,hb,hsz,hex⟩:=loadAt u _ x hmu hx
   have hr:(0:Int)≤(((i+j)/2:Nat):Int)∧(((i+j)/2:Nat):Int)<((l.length:Nat):Int):=by omega
   unfold bsF at hbs
   rw [if_pos c1,hx] at hbs
   simp only at hbs
   have hn1:¬(1:Int)<0:=by decide
   simp only [ZB,insVc,iopK,iopV,convK,ne_eq,Nat.reduceEqDiff,reduceCtorEq,or_true,Zaf,Int.reduceToNat,h9,h10,d1,hw3,hn1,hsh]
   refine draw_e (by kernel_rfl) (by kernel_rfl) (by kernel_rfl) (by kernel_rfl) ?_
   simp only [ZB,insVc,loadNK,iopK,iopV,iaddrK,callvK,ne_eq,Nat.reduceEqDiff,Nat.reduceAdd,Nat.reduceLeDiff,reduceCtorEq,Zae,Zab,Zai,Zak,Zaj,Zad,Zaw,Zbu,Zaa,Zaf,Zbj,Zar,Zap,Zaq,Zao,Zas,Zat,pureI,kindI,loadI,vcE_nil,vcE_cons,stepE_pure,stepE_load,stepE_step,h0,h2,h4,hr,hb,hsz,hex,heu]
   refine order_c tv x e u.drew _ ?_
   intro u2 hm2
   refine ⟨(Mod.refl _ _).drew.trans hm2, ?_⟩
   have hmu2:=hmu.trans ((Mod.refl _ u).drew.trans hm2)
   have heu2:=((Mod.refl _ u).drew.trans hm2).keep heu id
   have hw4:IntKind.i64.wrap ((((i+j)/2:Nat):Int)+1)=(((i+j)/2+1:Nat):Int):=by rw [wrap_i64 _ (by omega)];omega
   by_cases c2:cmpE x e<0
   ·rw [if_pos c2] at hbs
    simp only [ZB,insVc,iopK,iopV,ne_eq,Nat.reduceEqDiff,reduceCtorEq,insVc,iopK,iopV,ne_eq,Nat.reduceEqDiff,reduceCtorEq,h0,h2,h4,h8,h10,c2,hw4]
    exact ⟨f,by omega,(i+j)/2+1,j,by omega,hjn,by omega,hbs,rfl,rfl,hmu2,heu2⟩
   ·rw [if_neg c2] at hbs
    simp only [ZB,insVc,ne_eq,Nat.reduceEqDiff,reduceCtorEq,insVc,ne_eq,Nat.reduceEqDiff,reduceCtorEq,h0,h2,h4,h8,h9,c2]
    exact ⟨f,by omega,i,(i+j)/2,by omega,by omega,by omega,hbs,rfl,rfl,hmu2,heu2⟩
  ·have d1:¬(i:Int)<(j:Int):=by omega
   have hi:bsE l e=i:=by
    rw [← hbs];unfold bsF;split
    ·rfl
    ·rw [if_neg c1]
   rw [hi] at h
   simp only [ZB,insVc,iopK,iopV,ne_eq,Nat.reduceEqDiff,reduceCtorEq,h9,h10,d1]
   refine draw_e (by kernel_rfl) (by kernel_rfl) (by kernel_rfl) (by kernel_rfl) ?_
   by_cases c3:i<l.length
   ·have d3:(i:Int)<((l.length:Nat):Int):=by omega
    obtain ⟨x,hx⟩:∃x,l[i]? = some x:=⟨_,List.getElem?_eq_getElem c3⟩
    obtain ⟨b,o,cur,t,fz,rfl,hb,hsz,hex⟩:=loadAt u _ x hmu hx
    have hr:(0:Int)≤(i:Int)∧(i:Int)<((l.length:Nat):Int):=by omega
    simp only [ZB,endK,resK,packed,insVc,pickK,loadNK,iopK,iopV,iaddrK,callvK,ne_eq,Nat.reduceEqDiff,Nat.reduceAdd,Nat.reduceLeDiff,reduceCtorEq,Zae,Zab,Zai,Zak,Zaj,Zad,Zaw,Zbu,Zaa,Zaf,Zbj,Zar,Zap,Zaq,Zao,Zas,Zat,pureI,kindI,loadI,vcE_nil,vcE_cons,vcE_gate,gateE_true,stepE_pure,stepE_load,stepE_step,h0,h2,h4,h8,h9,d3,hr,hb,hsz,hex,heu]
    refine order_c tv x e u.drew _ ?_
    intro u2 hm2
    refine ⟨(Mod.refl _ _).drew.trans hm2, ?_⟩
    simp only [true_and,true_and]
    exact h u2 _ (hmu.trans ((Mod.refl _ u).drew.trans hm2))
   ·have d3:¬(i:Int)<((l.length:Nat):Int):=by omega
    simp only [ZB,endK,resK,packed,insVc,pickK,iopK,iopV,ne_eq,Nat.reduceEqDiff,reduceCtorEq,Zad,Zaw,Zaa,Zaf,pureI,kindI,loadI,vcE_nil,vcE_cons,vcE_gate,gateE_false,stepE_pure,h8,h9,d3]
    exact h _ _ (hmu.trans (Mod.refl _ u).drew)
theorem findE_range (q:ByteArray) (i:Nat):∀(l:List Le) (n:Nat),findE q i l n = -1∨∃k,n≤k∧k<n+l.length∧findE q i l n=(k:Int)
 | [],_=>.inl rfl
 | e :: r,n=>by
  unfold findE
  split
  ·exact .inr ⟨n,Nat.le_refl _,by simp,rfl⟩
  ·rcases findE_range q i r (n+1) with h|⟨k,h1,h2,h3⟩
   ·exact .inl h
   ·exact .inr ⟨k,by omega,by simp only [Zak];omega,h3⟩
def untilE (q:ByteArray) (i:Nat) (l:List Le):Option Nat:=(l.find? (fun e=>eqKey e.q q e.id i)).map (·.till)
theorem until_find (q:ByteArray) (i:Nat):∀(l:List Le) (n:Nat),(findE q i l n = -1∧untilE q i l=none)∨∃k x,l[k]? = some x∧findE q i l n=((n+k:Nat):Int)∧untilE q i l=some x.till
 | [],_=>.inl ⟨rfl,rfl⟩
 | e :: r,n=>by
  unfold findE untilE
  rw [List.find?_cons]
  by_cases h:eqKey e.q q e.id i=true
  ·rw [if_pos h,h]
   exact .inr ⟨0,e,rfl,rfl,rfl⟩
  ·rw [if_neg h]
   have h':eqKey e.q q e.id i=false:=by simpa using h
   rw [h']
   rcases until_find q i r (n+1) with ⟨h1,h2⟩|⟨k,x,h1,h2,h3⟩
   ·exact .inl ⟨h1,h2⟩
   ·exact .inr ⟨k+1,x,h1,by rw [h2];congr 1;omega,h3⟩
theorem luntil_c (l:List Le) (v:Value) (q:ByteArray) (i:Nat) (w:World) (K:Value→World→Prop) (hv:IsLes w v l) (hl:l.length<2^60)
  (h:∀w',Mod (fun _=>False) w w'→K (.tuple #[.int .u64 ((untilE q i l).getD 0:Nat),.bool (untilE q i l).isSome]) w') :
  Ok prog 237 #[tabV v,keyV q i] w K:=by
 refine F237.enter (args:=[tabV v,keyV q i]) (by simp) ?_
 unfold c237 r237
 obtain ⟨w1,hw1⟩:∃w1,w1=(w.alloc (.cells #[.func (.func 92) #[] #[],v] 139)).alloc (.cells #[.string q,.int .u64 i] 164):=⟨_,rfl⟩
 have hm1:Mod (fun _=>False) w w1:=by rw [hw1];exact ((Mod.refl _ _).alloc _).alloc _
 have ht:w1.heap[w.heap.size]? = some (.cells #[.func (.func 92) #[] #[],v] 139 (0,0)):=by rw [hw1];simp only [Zaa,Zaf,size_alloc,get_alloc,size_alloc,Zbi,Zaz]
 have hk:w1.heap[w.heap.size+1]? = some (.cells #[.string q,.int .u64 i] 164 (0,0)):=by rw [hw1];simp only [Zaa,Zaf,size_alloc,get_alloc,size_alloc,Zba,Zaz]
 simp only [ZB,insVc,loadNK,Value.cells,ne_eq,Nat.reduceEqDiff,Nat.reduceAdd,Nat.reduceLeDiff,Zac,Zae,Zab,Za,Zag,Zai,Zak,Zaj,Zaa,Zaf,Zar,Zap,Zaq,Zao,Zas,Zat,get_alloc,Nat.reduceAdd,Zba,Zbi,Nat.reduceEqDiff,Zaz,tabV,keyV]
 rw [← hw1]
 clear hw1
 refine lfind_c l v q i w1 _ (hv.keep hm1) hl ?_
 intro w2 hm2
 have hm12:=hm1.trans hm2
 have ht2:=hm2.keep ht id
 rcases until_find q i l 0 with ⟨h1,h2⟩|⟨k,x,h1,h2,h3⟩
 ·have hn:¬(-1:Int) ≥ 0:=by decide
  rw [h1]
  simp only [ZB,endK,resK,packed,insVc,iopK,iopV,ne_eq,Nat.reduceEqDiff,reduceCtorEq,Zad,Zaw,Int.reduceNeg,hn]
  have:=h w2 hm12
  rw [h2] at this
  exact this
 ·rw [h2,Nat.zero_add]
  have hkl:=(List.getElem?_eq_some_iff.1 h1).1
  obtain ⟨b,o,c,cur,t,f,rfl,hb,hsz,hex⟩:=hv.2 k x h1
  have hb2:=hm12.keep hb id
  have hp:((k:Nat):Int) ≥ 0:=by omega
  have hr:(0:Int)≤(k:Int)∧(k:Int)<((l.length:Nat):Int):=by omega
  have hc2:cur[o+k * 3+2]? = some (.int .u64 x.till):=by rw [extract_cell (s:=3) hsz hex (by decide)];rfl
  simp only [ZB,endK,resK,packed,insVc,load1K,iopK,iopV,faddrK,iaddrK,ne_eq,Nat.reduceEqDiff,reduceCtorEq,Za,Zag,Zah,Zad,Zaw,Zbj,hp,ht2,hr,hb2,hc2]
  have:=h w2 hm12
  rw [h3] at this
  exact this
def freeE (q:ByteArray) (i:Nat) (l:List Le):List Le:=if 0≤findE q i l 0 then l.take (findE q i l 0).toNat ++ l.drop ((findE q i l 0).toNat+1) else l
theorem freeE_len (q:ByteArray) (i:Nat) (l:List Le):(freeE q i l).length≤l.length:=by
 unfold freeE
 split
 ·rw [List.length_append,List.length_take,List.length_drop];omega
 ·exact Nat.le_refl _
theorem lfree_c (l:List Le) (v:Value) (q:ByteArray) (i:Nat) (w:World) (K:Value→World→Prop) (hv:OwnE w 0 v l) (hl:l.length<2^40)
  (h:∀w' v',Mod (fun _=>False) w w'→OwnE w' 0 v' (freeE q i l)→K (tabV v') w') :
  Ok prog 146 #[tabV v,keyV q i] w K:=by
 refine F146.enter (args:=[tabV v,keyV q i]) (by simp) ?_
 unfold c146 r146
 obtain ⟨w1,hw1⟩:∃w1,w1=((w.alloc (.cells #[.func (.func 92) #[] #[],v] 139)).alloc (.cells #[.string q,.int .u64 i] 164)).alloc (.cells #[.nilFunc,.slice none 0 0] 139):=⟨_,rfl⟩
 have hm1:Mod (fun _=>False) w w1:=by rw [hw1];exact (((Mod.refl _ _).alloc _).alloc _).alloc _
 have hz1:w1.heap.size=w.heap.size+3:=by rw [hw1];simp
 have ht:w1.heap[w.heap.size]? = some (.cells #[.func (.func 92) #[] #[],v] 139 (0,0)):=by rw [hw1];simp only [Nat.reduceAdd,reduceCtorEq,Zaa,Zaf,size_alloc,get_alloc,size_alloc,Zb,Nat.reduceAdd,Zbi,Zaz]
 have hk:w1.heap[w.heap.size+1]? = some (.cells #[.string q,.int .u64 i] 164 (0,0)):=by rw [hw1];simp only [Nat.reduceEqDiff,Nat.reduceAdd,Zaa,Zaf,size_alloc,get_alloc,size_alloc,Zb,Nat.reduceAdd,Zbg,Zba,Nat.reduceEqDiff,Zaz]
 have ho:w1.heap[w.heap.size+2]? = some (.cells #[.nilFunc,.slice none 0 0] 139 (0,0)):=by rw [hw1];simp only [Nat.reduceEqDiff,Nat.reduceAdd,reduceCtorEq,Zaa,Zaf,size_alloc,get_alloc,size_alloc,Zb,Nat.reduceAdd,Zbg,Zba,Nat.reduceEqDiff]
 simp only [ZB,insVc,loadNK,Value.cells,ne_eq,Nat.reduceEqDiff,Nat.reduceAdd,Nat.reduceLeDiff,reduceCtorEq,Zac,Zae,Zab,Za,Zag,Zai,Zak,Zaj,Zaa,Zaf,Zar,Zap,Zaq,Zao,Zas,Zat,get_alloc,Zb,Nat.reduceAdd,Zbg,Zba,Zbi,Nat.reduceEqDiff,Zaz,tabV,keyV]
 rw [← hw1]
 clear hw1
 refine lfind_c l v q i w1 _ (hv.keep0 hm1).is (by omega) ?_
 intro w2 hm2
 have hm12:=hm1.trans hm2
 have ht2:=hm2.keep ht id
 have ho2:=hm2.keep ho id
 have hz2:=hm2.size
 have fin:∀(w3:World) (v3:Value),Mod (fun _=>False) w w3→w.heap.size+2<w3.heap.size→OwnE w3 0 v3 (freeE q i l)→K (.agg #[.func (.func 92) #[] #[],v3]) (set w3 (w.heap.size+2) (.cells #[.func (.func 92) #[] #[],v3] 139))∨¬(∀k,v3.ownBlock=some k→k≠w.heap.size+2):=by
  intro w3 v3 hm3 hlt hv3
  by_cases hb:∀k,v3.ownBlock=some k→k≠w.heap.size+2
  ·exact .inl (h _ v3 (hm3.set (.inl (by omega))) (hv3.keep (S:=fun k=>k=w.heap.size+2) ((Mod.refl _ _).set (.inr rfl)) hb))
  ·exact .inr hb
 rcases findE_range q i l 0 with h1|⟨k,_,h2,h3⟩
 ·have hn:¬(-1:Int) ≥ 0:=by decide
  have hf:freeE q i l=l:=by unfold freeE;rw [if_neg (by rw [h1];decide)]
  rw [h1]
  obtain ⟨⟨a,c,rfl⟩,_⟩:=hv.is
  simp only [ZB,endK,resK,resN,packed,insVc,loadNK,storeNK,setMany,iopK,iopV,isPlain,ne_eq,Nat.reduceEqDiff,Nat.reduceAdd,Nat.reduceLeDiff,reduceCtorEq,Zai,Zak,Zaj,Zal,Zam,Zan,Zad,Int.reduceNeg,Zar,Zap,Zaq,Zao,Zas,Zat,Zau,Zav,Zax,hn,ht2,ho2,get_set_same _ _ _ (lt_of_get ho2)]
  rcases fin w2 (.slice a l.length c) hm12 (by omega) (by rw [hf];exact hv.keep0 hm12) with x|x
  ·exact x
  ·exact (x (fun k hk hh=>by have:=(World.ownsRow.lt hv k hk).2;omega)).elim
 ·rw [Nat.zero_add] at h2
  have hp:((k:Nat):Int) ≥ 0:=by omega
  have hf:freeE q i l=l.take k ++ l.drop (k+1):=by
   unfold freeE;rw [if_pos (by rw [h3];omega),h3];simp
  have hw4:IntKind.i64.wrap ((k:Int)+1)=(k:Int)+1:=wrap_i64 _ (by omega)
  rw [h3]
  simp only [ZB,insVc,load1K,iopK,iopV,faddrK,ne_eq,Nat.reduceEqDiff,reduceCtorEq,Zae,Zab,Za,Zag,Zah,hp,ht2]
  refine lclone_c v l w2 _ (hv.keep0 hm12).sub hl ?_
  intro w3 v3 hm3 hv3
  have hm13:=hm12.trans hm3
  have ht3:=hm3.keep ht2 id
  have ho3:=hm3.keep ho2 id
  have hz3:=hm3.size
  obtain ⟨g,cap,rfl⟩:∃g cap,v3 = .slice (some ⟨g,0,none⟩) l.length cap:=by
   rcases hv3.2 with ⟨_,h0⟩|⟨g,cap,_,e,_⟩
   ·omega
   ·exact ⟨g,cap,e⟩
  have hgB:=(World.ownsRow.lt hv3 g rfl).1
  simp only [ZB,insVc,iopK,iopV,ne_eq,Nat.reduceEqDiff,reduceCtorEq,Zae,Zab,hw4]
  refine ldelete_c g cap l w2.heap.size k w3 _ hv3 h2 hl ?_
  intro w4 v4 hm4 hv4 hb4
  have hm14:Mod (fun _=>False) w w4:=hm13.then hm4 (fun i hi hk=>by omega)
  have ht4:=hm4.keep ht3 (by omega)
  have ho4:=hm4.keep ho3 (by omega)
  have hz4:=hm4.size
  have hne:w.heap.size+2≠w.heap.size:=by omega
  have hlt4:w.heap.size<w4.heap.size:=by omega
  obtain ⟨a4,n4,c4,rfl⟩:∃a n c,v4 = .slice a n c:=by obtain ⟨⟨a,c,e⟩,_⟩:=hv4.is;exact ⟨_,_,_,e⟩
  simp only [ZB,endK,resK,resN,packed,insVc,loadNK,storeK,storeNK,setMany,faddrK,isPlain,ne_eq,Nat.reduceEqDiff,Nat.reduceAdd,Nat.reduceLT,Nat.reduceLeDiff,Zai,Zak,Zaj,Zal,Zam,Zan,Zad,Zar,Zap,Zaq,Zao,Zas,Zat,Zau,Zav,Zax,Zay,get_set,Nat.reduceAdd,Nat.reduceEqDiff,Nat.reduceLT,ht4,ho4,get_set_same _ _ _ hlt4,get_set_other _ _ _ _ hne]
  refine (fun x => ?_) (fin (set w4 w.heap.size (.cells #[.func (.func 92) #[] #[],.slice a4 n4 c4] 139)) (.slice a4 n4 c4) (hm14.set (.inl (Nat.le_refl _))) (by rw [size_set];omega) ?_)
  ·rcases x with x|x
   ·have hlt5:w.heap.size+2<w4.heap.size:=by omega
    simp only [resNO_cells,Nat.reduceAdd,Nat.reduceLeDiff,Zai,Zak,Zaj,true_and,Zaa,Nat.zero_add,Zar,Zap,Zaq,Zao,Zas,Zat,hlt5]
    exact x
   ·exact (x (fun j hj hh=>by rw [hb4] at hj;cases hj;omega)).elim
  ·rw [hf]
   refine (hv4.mono (Nat.zero_le _)).keep (S:=fun k=>k=w.heap.size) ((Mod.refl _ _).set (.inr rfl)) ?_
   intro j hj hh
   rw [hb4] at hj;cases hj;omega
end Go.Oct
