import Derived.Test.YtpggpopbkmgodaaGreatDoorVoM
set_option linter.unusedSimpArgs false
set_option linter.unusedVariables false
set_option linter.unusedSectionVars false
set_option linter.unnecessarySimpa false
namespace Go.Oct
open Go Go.Vc Go.VrA Go.Proofs.Tryz
set_option maxRecDepth 100000
def subC:CC→List Nat→CC
 | .seq a _,0 :: p=>subC a p
 | .seq _ b,1 :: p=>subC b p
 | .block _ a,0 :: p=>subC a p
 | .cond _ a _,0 :: p=>subC a p
 | .cond _ _ a,1 :: p=>subC a p
 | .loop a,0 :: p=>subC a p
 | c,_=>c
theorem vc_gen2 {P:Program} {ro:Option Nat} {n:Nat} {c:CC} {Q:QT} {ρ:Env} {ds:List Deferred} {w:World} (h:∀W,W=w→vc P ro n c Q ρ ds W):vc P ro n c Q ρ ds w:=h w rfl
def emptyB (s:ByteArray):Bool:=s.toList == (⟨#[]⟩:ByteArray).toList
def Sto.declare {σ:Type} (St:Sto σ) (s:σ) (q:Qu):Int × σ :=
 if nameB q.name=false∨(emptyB q.dead=false∧nameB q.dead=false) then (23,s) else
 if (q.dead.toList == q.name.toList)=true then (2,s) else
 if q.ttl > 1099511627776 then (29,s) else
 let f:=St.find s q.name
 if f.1.2=0 then (22,f.2) else if f.1.2≠21 then (f.1.2,f.2) else
 let g:=if emptyB q.dead=true then ((q0,0),f.2) else St.find f.2 q.dead
 if g.1.2≠0 then (g.1.2,g.2) else St.put g.2 (queueK q.name).1 (qbytes q)
noncomputable def c16r:CC:=subC c98 [1,1]
noncomputable def c16e:CC:=subC c98 [1,1,1,1]
theorem c16_s:c98 = .seq (subC c98 [0]) (.seq (subC c98 [1,0]) c16r):=rfl
theorem c16r_s:c16r = .seq (subC c98 [1,1,0]) (.seq (subC c98 [1,1,1,0]) c16e):=rfl
theorem declareEnd {σ:Type} (St:Sto σ) (s:σ) (q:Qu) (m:Int) (qb:Nat) (w:World) (K:Value→World→Prop) (ρ:Env) (hAt:St.At s w) (hg:Gl m w) (hs:q.name.size<4294967281) (hq:q.good)
  (hb:w.heap[qb]? = some (.cells q.cells.toArray 121 (0,0))) (hno:¬St.foot qb) (hf:St.fit s) (h0:ρ 0 = .iface St.t St.v) (h3:ρ 3=ptr qb)
  (h:∀w',Mod St.own w w'→St.At (St.put s (queueK q.name).1 (qbytes q)).2 w'→K (.int .i64 (St.put s (queueK q.name).1 (qbytes q)).1) w') :
  vc prog none 80 c16e (endQ prog [RV.tmp 4] K) ρ [] w:=by
 unfold c16e
 unfold Qu.cells at hb
 simp only [ZB,subC,c98,insVc,load1K,faddrK,Zae,Zab,Za,Zah,h3,hb]
 refine queue_c q.name m w _ hg hs ?_
 intro w1 hm1
 have hb1:=hm1.keep hb id
 simp only [ZB,insVc,extK,ne_eq,Nat.reduceEqDiff,Za,Zag,Zah]
 refine draw_d (fun W=>W.heap[qb]? = some (.cells #[.string q.name,.int .u32 q.most,.int .u64 q.ttl,.int .u32 q.tries,.string q.dead] 121 (0,0))) (by kernel_rfl) (by kernel_rfl) (by kernel_rfl) (by kernel_rfl) hb1 ?_
 simp only [ZB,endK,resK,packed,insVc,nilK,nilM,faddrK,invK,ne_eq,Nat.reduceEqDiff,reduceCtorEq,Zae,Zab,Za,Zah,Zad,Zaa,Zaf,pureI,vcD_nil,vcD_cons,stepD_pure,stepD_load,stepD_step,kindI,loadI,h0,h3,St.putNil,implies_true]
 refine loadD1 (b:=qb) (o:=0) (v:=.string q.name) rfl (fun W hW=>⟨_,_,_,hW,rfl⟩) ?_
 refine queues_c q.name _ _ ?_
 intro w2 qv hm2 hq2
 have hb2:=hm2.keep (show w1.drew.heap[qb]? = _ from hb1) id
 refine ⟨hb2, ?_⟩
 refine loadDN (b:=qb) (o:=0) (v:=q.val) (by simp only [upd_other,ev_tmp,ne_eq,not_false_eq_true,Nat.reduceEqDiff,h3]) (fun W hW=>⟨_,_,_,hW,by simp,rfl⟩) ?_
 refine qbytes_c qv _ q.name q w2 _ hq2 hq ?_
 intro w3 hm3
 have hb3:=hm3.keep hb2 id
 refine ⟨hb3, ?_⟩
 have hm13:Mod (fun _=>False) w w3:=(hm1.drew.trans hm2).trans hm3
 refine St.putOk s (queueK q.name).1 (qbytes q) w3 _ (St.keep0 hAt hm13) hf ?_
 intro w4 hm4 hA4
 refine ⟨hm4.keep hb3 (fun x=>hno (St.ownFoot _ x)), ?_⟩
 exact h w4 ((hm13.mono (fun _ _ x=>x.elim)).trans hm4) hA4
theorem declare_c {σ:Type} (St:Sto σ) (s:σ) (q:Qu) (m:Int) (w:World) (K:Value→World→Prop) (hAt:St.At s w) (hg:Gl m w) (hs:q.name.size<4294967281) (hq:q.good) (hd:q.dead.size<4294967281)
  (hv:∀k,(St.get s k).1.1.size<2^60) (hv2:∀k,(St.get (St.find s q.name).2 k).1.1.size<2^60) (hf:St.fit (St.find s q.name).2) (hf2:St.fit (St.find (St.find s q.name).2 q.dead).2)
  (h:∀w',Mod St.own w w'→St.At (St.declare s q).2 w'→K (.int .i64 (St.declare s q).1) w') :
  Ok prog 98 #[.iface St.t St.v,q.val] w K:=by
 refine F98.enter (args:=[.iface St.t St.v,q.val]) (by simp) ?_
 rw [c16_s]
 have hfoot:¬St.foot w.heap.size:=fun x=>by have:=St.footLt s w _ hAt x;omega
 have hown:¬St.own w.heap.size:=fun x=>hfoot (St.ownFoot _ x)
 have rest:nameB q.name=true→(emptyB q.dead=true∨nameB q.dead=true)→(q.dead.toList == q.name.toList)=false→¬(q.ttl > 1099511627776)→∀w2 ρ,Mod (fun _=>False) w w2→w2.heap[w.heap.size]? = some (.cells #[.string q.name,.int .u32 q.most,.int .u64 q.ttl,.int .u32 q.tries,.string q.dead] 121 (0,0))→ρ 0 = .iface St.t St.v→ρ 3=ptr w.heap.size →
   vc prog none 80 c16r (endQ prog [RV.tmp 4] K) ρ [] w2:=by
  intro n1 n2 n3 n4 w2 ρ hm2 hb2 h0 h3
  unfold Sto.declare at h
  rw [if_neg (by rintro (x|⟨x,y⟩);(rw [n1] at x;cases x);(rcases n2 with z|z;(rw [z] at x;cases x);(rw [z] at y;cases y))),if_neg (by simp [n3]),if_neg n4] at h
  rw [c16r_s]
  simp only [ZB,subC,c98,insVc,load1K,faddrK,ne_eq,Nat.reduceEqDiff,Zae,Zab,Za,Zah,h0,h3,hb2]
  refine find_c St s q.name m w2 _ (St.keep0 hAt hm2) (hg.mod hm2 id) hs (hv _) ?_
  intro w3 hm3 hA3
  have hm03:Mod St.own w w3:=(hm2.mono (fun _ _ x=>x.elim)).trans hm3
  have hb3:=hm3.keep hb2 hown
  revert h hA3 hv2 hf hf2
  generalize St.find s q.name=f
  intro hv2 hf hf2 h hA3
  simp only [ZB,insVc,storeNK,setMany,iopK,iopV,extK,isPlain,Value.cells,ne_eq,Nat.reduceEqDiff,Nat.reduceAdd,Nat.reduceLeDiff,reduceCtorEq,Za,Zag,Zah,Zai,Zak,Zaj,Zal,Zam,Zan,Zau,Zav,Zax,Zbl,Qu.val,Qu.cells]
  refine condP_split ?_ ?_
  ·intro he
   have he':f.1.2=0:=by simpa using he
   simp only [if_pos he'] at h
   simp only [ZB,endK,resK,packed,insVc,Zad]
   exact h _ ((hm03.alloc _).set (.inl (by have:=hm03.size;omega))) (St.keep0 hA3 (((Mod.refl _ _).alloc _).set (.inl (Nat.le_refl _))))
  intro he
  have he':f.1.2≠0:=by simpa using he
  simp only [if_neg he'] at h
  simp only [ZB,insVc,iopK,iopV,ne_eq,Nat.reduceEqDiff,reduceCtorEq]
  refine condP_split ?_ ?_
  rotate_left
  ·intro he2
   have he2':f.1.2≠21:=by simpa using he2
   simp only [if_pos he2'] at h
   simp only [ZB,endK,resK,packed,insVc,ne_eq,Nat.reduceEqDiff,Zad]
   exact h _ ((hm03.alloc _).set (.inl (by have:=hm03.size;omega))) (St.keep0 hA3 (((Mod.refl _ _).alloc _).set (.inl (Nat.le_refl _))))
  intro he2
  have he2':f.1.2=21:=by simpa using he2
  simp only [if_neg (show ¬f.1.2≠21 by simpa using he2')] at h
  refine vc_gen2 ?_
  intro w4 hw4
  have hm4:Mod (fun _=>False) w3 w4:=by rw [hw4];exact ((Mod.refl _ _).alloc _).set (.inl (Nat.le_refl _))
  clear hw4
  have hb4:=hm4.keep hb3 id
  have hA4:=St.keep0 hA3 hm4
  have hm04:Mod St.own w w4:=hm03.trans (hm4.mono (fun _ _ x=>x.elim))
  have hg4:Gl m w4:=hg.mod hm04 St.own0
  simp only [ZB,insVc,load1K,sopK,sopV,faddrK,ne_eq,Nat.reduceEqDiff,Za,Zag,Zah,h3,hb4]
  by_cases hE:emptyB q.dead=true
  ·have hE':(q.dead.toList == (⟨#[]⟩:ByteArray).toList)=true:=hE
   simp only [hE,Zaa,ne_eq,not_true_eq_false,Zaf] at h
   simp only [ZB,hE']
   refine declareEnd St f.2 q m w.heap.size w4 K _ hA4 hg4 hs hq hb4 hfoot hf (by simp only [upd_other,ne_eq,not_false_eq_true,reduceCtorEq,h0]) (by simp only [upd_other,ne_eq,not_false_eq_true,Nat.reduceEqDiff,h3]) ?_
   intro w5 hm5 hA5
   exact h w5 (hm04.trans hm5) hA5
  ·have hE':(q.dead.toList == (⟨#[]⟩:ByteArray).toList)=false:=by simpa [emptyB] using hE
   simp only [hE,Bool.false_eq_true,Zaf] at h
   simp only [ZB,insVc,load1K,faddrK,ne_eq,Nat.reduceEqDiff,reduceCtorEq,Zae,Zab,Za,Zag,Zah,hE',h0,h3,hb4]
   refine find_c St f.2 q.dead m w4 _ hA4 hg4 hd (hv2 _) ?_
   intro w5 hm5 hA5
   have hb5:=hm5.keep hb4 hown
   have hm05:Mod St.own w w5:=hm04.trans hm5
   revert h hA5 hf2
   generalize St.find f.2 q.dead=g
   intro hf2 h hA5
   simp only [ZB,insVc,storeNK,setMany,iopK,iopV,extK,isPlain,Value.cells,ne_eq,Nat.reduceEqDiff,Nat.reduceAdd,Nat.reduceLeDiff,reduceCtorEq,Za,Zag,Zah,Zai,Zak,Zaj,Zal,Zam,Zan,Zau,Zav,Zax,Zbl,Qu.val,Qu.cells]
   refine condP_split ?_ ?_
   ·intro hr
    have hr':g.1.2≠0:=by simpa using hr
    simp only [if_pos hr'] at h
    simp only [ZB,endK,resK,packed,insVc,ne_eq,Nat.reduceEqDiff,Zad]
    exact h _ ((hm05.alloc _).set (.inl (by have:=hm05.size;omega))) (St.keep0 hA5 (((Mod.refl _ _).alloc _).set (.inl (Nat.le_refl _))))
   ·intro hr
    have hr':g.1.2=0:=by simpa using hr
    simp only [if_neg (show ¬g.1.2≠0 by simpa using hr')] at h
    simp only [vc_skip,thenQ_normal]
    refine vc_gen2 ?_
    intro w6 hw6
    have hm6:Mod (fun _=>False) w5 w6:=by rw [hw6];exact ((Mod.refl _ _).alloc _).set (.inl (Nat.le_refl _))
    clear hw6
    have hm06:Mod St.own w w6:=hm05.trans (hm6.mono (fun _ _ x=>x.elim))
    refine declareEnd St g.2 q m w.heap.size w6 K _ (St.keep0 hA5 hm6) (hg.mod hm06 St.own0) hs hq (hm6.keep hb5 id) hfoot hf2 (by simp only [upd_other,ne_eq,not_false_eq_true,reduceCtorEq,h0]) (by simp only [upd_other,ne_eq,not_false_eq_true,Nat.reduceEqDiff,h3]) ?_
    intro w7 hm7 hA7
    exact h w7 (hm06.trans hm7) hA7
 unfold r98
 simp only [ZB,subC,c98,insVc,load1K,faddrK,Value.cells,ne_eq,Nat.reduceEqDiff,Zac,Zae,Zab,Za,Zag,Zah,Zbl,Qu.val,Qu.cells]
 refine callK_gen ?_
 intro w0 hw0
 have hm0:Mod (fun _=>False) w w0:=by rw [hw0];exact (Mod.refl _ _).alloc _
 have hb0:w0.heap[w.heap.size]? = some (.cells #[.string q.name,.int .u32 q.most,.int .u64 q.ttl,.int .u32 q.tries,.string q.dead] 121 (0,0)):=by rw [hw0];exact get_alloc_new _ _
 clear hw0
 have names:nameB q.name=true→(emptyB q.dead=true∨nameB q.dead=true)→∀w2,Mod (fun _=>False) w w2 →
   ((q.dead.toList == q.name.toList)=true→K (.int .i64 2) w2)∧((q.dead.toList == q.name.toList)=false→q.ttl > 1099511627776→K (.int .i64 29) w2):=by
  intro n1 n2 w2 hm2
  unfold Sto.declare at h
  rw [if_neg (by rintro (x|⟨x,y⟩);(rw [n1] at x;cases x);(rcases n2 with z|z;(rw [z] at x;cases x);(rw [z] at y;cases y)))] at h
  refine ⟨fun hx => ?_,fun hx hy => ?_⟩
  ·rw [if_pos hx] at h
   exact h w2 (hm2.mono (fun _ _ x=>x.elim)) (St.keep0 hAt hm2)
  ·rw [if_neg (by simp [hx]),if_pos hy] at h
   exact h w2 (hm2.mono (fun _ _ x=>x.elim)) (St.keep0 hAt hm2)
 have bad:(nameB q.name=false∨(emptyB q.dead=false∧nameB q.dead=false))→∀w2,Mod (fun _=>False) w w2→K (.int .i64 23) w2:=by
  intro hx w2 hm2
  unfold Sto.declare at h
  rw [if_pos hx] at h
  exact h w2 (hm2.mono (fun _ _ x=>x.elim)) (St.keep0 hAt hm2)
 refine name_c q.name w0 _ ?_
 intro w1 hm1
 have hb1:=hm1.keep hb0 id
 have hm01:=hm0.trans hm1
 cases hn:nameB q.name with
 | false =>
  simp only [ZB,endK,resK,packed,insVc,pickK,notK,ne_eq,Nat.reduceEqDiff,Zad,Zaa]
  exact bad (.inl hn) w1 hm01
 | true =>
  simp only [ZB,insVc,load1K,sopK,sopV,notK,faddrK,ne_eq,Nat.reduceEqDiff,Za,Zag,Zah,hb1]
  cases hE:emptyB q.dead with
  | true =>
   have hE':(q.dead.toList == (⟨#[]⟩:ByteArray).toList)=true:=hE
   have hn2:=names hn (.inl hE) w1 hm01
   have hr2:=rest hn (.inl hE)
   simp only [ZB,insVc,pickK,load1K,sopK,sopV,faddrK,ne_eq,Nat.reduceEqDiff,Za,Zag,Zah,Zaf,hE',hb1]
   refine condP_split ?_ ?_
   ·intro hx
    exact hn2.1 hx
   ·intro hx
    simp only [ZB,insVc,load1K,iopK,iopV,faddrK,ne_eq,Nat.reduceEqDiff,reduceCtorEq,Za,Zag,Zah,hb1]
    refine condP_split ?_ ?_
    ·intro hy
     simp only [ZB,endK,resK,packed,insVc,Zad]
     exact hn2.2 hx (by have:=of_decide_eq_true hy;omega)
    ·intro hy
     simp only [vc_skip,thenQ_normal,blockQ_normal]
     exact hr2 hx (by have:=of_decide_eq_false hy;omega) w1 _ hm01 hb1 (by simp only [upd_other,initE_at,ne_eq,not_false_eq_true,reduceCtorEq,Zac,Za]) (by simp only [upd_same,upd_other,ne_eq,not_false_eq_true,Nat.reduceEqDiff])
  | false =>
   have hE':(q.dead.toList == (⟨#[]⟩:ByteArray).toList)=false:=hE
   simp only [ZB,insVc,load1K,faddrK,ne_eq,Nat.reduceEqDiff,Zae,Zab,Za,Zag,Zah,hE',hb1]
   refine name_c q.dead w1 _ ?_
   intro w2 hm2
   have hb2:=hm2.keep hb1 id
   have hm02:=hm01.trans hm2
   cases hd2:nameB q.dead with
   | false =>
    simp only [ZB,endK,resK,packed,insVc,pickK,notK,ne_eq,Nat.reduceEqDiff,Zad,Zaa,Zaf]
    exact bad (.inr ⟨hE,hd2⟩) w2 hm02
   | true =>
    have hn2:=names hn (.inr hd2) w2 hm02
    have hr2:=rest hn (.inr hd2)
    simp only [ZB,insVc,pickK,load1K,sopK,sopV,notK,faddrK,ne_eq,Nat.reduceEqDiff,Za,Zag,Zah,Zaa,Zaf,hb2]
    refine condP_split ?_ ?_
    ·intro hx
     simp only [ZB,endK,resK,packed,insVc,Zad]
     exact hn2.1 hx
    ·intro hx
     simp only [ZB,insVc,load1K,iopK,iopV,faddrK,ne_eq,Nat.reduceEqDiff,reduceCtorEq,Za,Zag,Zah,hb2]
     refine condP_split ?_ ?_
     ·intro hy
      simp only [ZB,endK,resK,packed,insVc,Zad]
      exact hn2.2 hx (by have:=of_decide_eq_true hy;omega)
     ·intro hy
      simp only [vc_skip,thenQ_normal,blockQ_normal]
      exact hr2 hx (by have:=of_decide_eq_false hy;omega) w2 _ hm02 hb2 (by simp only [upd_other,initE_at,ne_eq,not_false_eq_true,reduceCtorEq,Zac,Za]) (by simp only [upd_same,upd_other,ne_eq,not_false_eq_true,Nat.reduceEqDiff])
def quotedN:Nat→Rd→List UInt8→ByteArray × Rd
 | 0,r,_=>(e0,r)
 | n+1,r,acc =>
  if r.2≠0 then (e0,r) else
  if (number r 1).1%256≠0 then quotedN n (number r 1).2 (acc ++ [UInt8.ofNat ((number r 1).1%256)]) else
  if (number (number r 1).2 1).1%256=255 then quotedN n (number (number r 1).2 1).2 (acc ++ [0]) else
  if (number (number r 1).2 1).1%256=0 then (⟨acc.toArray⟩,(number (number r 1).2 1).2) else
  quotedN n (fail (number (number r 1).2 1).2 20) acc
def quotedR (r:Rd):ByteArray × Rd:=quotedN (r.1.size+2) r []
theorem number_one (r:Rd):(r.2≠0→(number r 1).2=r)∧(r.2=0→(number r 1).2.2=0→(number r 1).2.1.size+1=r.1.size):=by
 unfold number take
 constructor
 ·intro h;rw [if_pos h]
 ·intro h
  rw [if_neg (by simpa using h)]
  by_cases h2:(1:Int)<0∨(1:Int) > r.1.size
  ·rw [if_pos h2];intro h3;cases h3
  ·rw [if_neg h2]
   intro _
   simp only [ByteArray.size_extract]
   have:((1:Int)).toNat=1:=rfl
   rw [this]
   omega
theorem IsB.keep2 {w w':World} {B c b:Nat} {l:List UInt8} (h:IsB w B c l) (hm:Mod (fun k=>k=b) w w') (hb:b<B):IsB w' B c l:=by
 have hg:w.grownBy w' (some b):=⟨hm.os,hm.tape,hm.output,hm.size,fun k hk hne=>hm.get k hk (fun e=>hne (by rw [e]))⟩
 rcases h with ⟨h1,v,h2,h3,h4⟩|⟨h1,v,h2,h3,h4⟩
 ·exact .inl ⟨h1,v,hm.keep h2 (by omega),h3.kept hg (.inr fun e=>by have:=h3.lt b e;omega),h4⟩
 ·exact .inr ⟨h1,v,hm.keep h2 (by omega),h3.kept hg (.inr fun e=>by have:=h3.lt b e;omega),h4⟩
theorem quoted_c (b:Nat) (r:Rd) (w:World) (K:Value→World→Prop) (hb:IsRd w b r) (hs:r.1.size<2^40)
  (h:∀w',Mod (fun k=>k=b) w w'→IsRd w' b (quotedR r).2→K (.string (quotedR r).1) w') :
  Ok prog 292 #[ptr b] w K:=by
 refine F292.enter (args:=[ptr b]) (by simp) ?_
 unfold c292 r292
 have hbl:=lt_of_get hb
 simp only [ZB,insVc,Value.cells]
 refine vc_loop (fun m ρ ds w'=>ds=[]∧ρ 0=ptr b∧ρ 3=ptr w.heap.size∧Mod (fun k=>k=b) w w' ∧
  ∃(r':Rd) (acc:List UInt8),IsRd w' b r'∧IsB w' w.heap.size w.heap.size acc∧1≤m∧(r'.2=0→r'.1.size+2≤m)∧quotedR r=quotedN m r' acc∧acc.length+r'.1.size≤r.1.size) (r.1.size+2) ?_ ?_
 ·refine ⟨rfl,by simp only [upd_other,initE_at,ne_eq,not_false_eq_true,reduceCtorEq,Zac,Za],by simp only [upd_same],(Mod.refl _ _).alloc _,r,[], ?_,isB_fresh _ _ (get_alloc_new _ _),by omega,fun _=>Nat.le_refl _,rfl,by simp⟩
  unfold IsRd;rw [get_alloc_old _ _ _ hbl];exact hb
 ·rintro m ρ ds w1 ⟨rfl,h0,h3,hm1,r1,acc,hb1,hB1,hm,hmeas,hq,hlen⟩
  obtain ⟨n,rfl⟩:∃n,m=n+1:=⟨m-1,by omega⟩
  have hB:=hm1.size
  simp only [ZB,insVc,Zae,Zab,h0]
  refine err_c b r1 w1 _ hb1 ?_
  simp only [ZB,insVc,iopK,iopV,reduceCtorEq]
  refine condP_split ?_ ?_
  ·intro he
   have he':r1.2=0:=by simpa using he
   have hq1:=hq
   rw [quotedN,if_neg (by simpa using he')] at hq1
   simp only [ZB,insVc,ne_eq,reduceCtorEq,Zae,Zab,h0]
   refine one_c b r1 w1 _ hb1 (by omega) ?_
   intro w2 hm2 hb2
   have hm12:=hm1.trans hm2
   have hB2:=hB1.keep2 hm2 hbl
   have hn1:=number_one r1
   have hn2:=number_one (number r1 1).2
   have hsz1:=number_size r1 1
   have hsz2:=number_size (number r1 1).2 1
   simp only [ZB,insVc,iopK,iopV,reduceCtorEq]
   refine condP_split ?_ ?_
   ·intro hc
    have hc':(number r1 1).1%256≠0:=by simp at hc;omega
    rw [if_pos hc'] at hq1
    simp only [ZB,insVc,ne_eq,Nat.reduceEqDiff,Zae,Zab,h3]
    have hbyte:(((number r1 1).1%256:Nat):Int)=((UInt8.ofNat ((number r1 1).1%256)).toNat:Int):=by simp
    rw [hbyte]
    refine wbyte_c w.heap.size w.heap.size acc (UInt8.ofNat ((number r1 1).1%256)) w2 _ hB2 (by omega) hm12.size ?_
    intro w3 hm3 hB3
    simp only [ZB,ne_eq,Nat.reduceEqDiff,reduceCtorEq,h0,h3]
    have hne0:(number r1 1).2.2=0:=by
     by_cases x:(number r1 1).2.2=0
     ·exact x
     ·exfalso
      have:(number r1 1).1=0:=by
       unfold number take at x ⊢
       rw [if_neg (by simpa using he')] at x ⊢
       by_cases h2:(1:Int)<0∨(1:Int) > r1.1.size
       ·rw [if_pos h2];rfl
       ·rw [if_neg h2] at x;exact absurd he' x
      omega
    refine ⟨n,by omega,hm12.then hm3 (fun i hi hk=>by omega),(number r1 1).2,_,hm3.keep hb2 (by omega),hB3, ?_, ?_,hq1, ?_⟩
    ·have:=hmeas he';omega
    ·intro _;have:=hn1.2 he' hne0;have:=hmeas he';omega
    ·have:=hn1.2 he' hne0;simp only [Zcb,Zak,Zaj];omega
   ·intro hc
    have hc':(number r1 1).1%256=0:=by simp at hc;omega
    rw [if_neg (by omega)] at hq1
    simp only [ZB,insVc,ne_eq,reduceCtorEq,Zae,Zab,h0]
    refine one_c b _ w2 _ hb2 (by omega) ?_
    intro w3 hm3 hb3
    have hm13:=hm12.trans hm3
    have hB3:=hB2.keep2 hm3 hbl
    have hmm:∀e',(number (number r1 1).2 1).2.2=0∨e'=0→(number (number r1 1).2 1).2.2=0→(number (number r1 1).2 1).2.1.size+2=r1.1.size:=by
     intro _ _ hz
     have h1:(number r1 1).2.2=0:=by
      by_cases x:(number r1 1).2.2=0
      ·exact x
      ·rw [hn2.1 x] at hz;exact absurd hz x
     have:=hn1.2 he' h1;have:=hn2.2 h1 hz;omega
    simp only [ZB,insVc,iopK,iopV,reduceCtorEq]
    refine condP_split ?_ ?_
    ·intro hd
     have hd':(number (number r1 1).2 1).1%256=255:=by simp at hd;omega
     rw [if_pos hd'] at hq1
     simp only [ZB,insVc,ne_eq,Nat.reduceEqDiff,Zae,Zab,h3]
     refine wbyte_c w.heap.size w.heap.size acc 0 w3 _ hB3 (by omega) hm13.size ?_
     intro w4 hm4 hB4
     simp only [ZB,ne_eq,Nat.reduceEqDiff,reduceCtorEq,h0,h3]
     have hne0:(number (number r1 1).2 1).2.2=0:=by
      by_cases x:(number (number r1 1).2 1).2.2=0
      ·exact x
      ·exfalso
       have:(number (number r1 1).2 1).1=0:=by
        generalize (number r1 1).2=rr at *
        unfold number take at x ⊢
        by_cases hrr:rr.2≠0
        ·rw [if_pos hrr];rfl
        ·rw [if_neg hrr] at x ⊢
         by_cases h2:(1:Int)<0∨(1:Int) > rr.1.size
         ·rw [if_pos h2];rfl
         ·rw [if_neg h2] at x;exact absurd (by simpa using hrr) x
       omega
     have hsz:=hmm 0 (.inr rfl) hne0
     refine ⟨n,by omega,hm13.then hm4 (fun i hi hk=>by omega),_,_,hm4.keep hb3 (by omega),hB4, ?_, ?_,hq1, ?_⟩
     ·have:=hmeas he';omega
     ·intro _;have:=hmeas he';omega
     ·simp only [Zcb,Zak,Zaj];omega
    ·intro hd
     have hd':(number (number r1 1).2 1).1%256≠255:=by simp at hd;omega
     rw [if_neg hd'] at hq1
     simp only [ZB,insVc,iopK,iopV,ne_eq,Nat.reduceEqDiff,reduceCtorEq]
     refine condP_split ?_ ?_
     ·intro hz
      have hz':(number (number r1 1).2 1).1%256=0:=by simp at hz;omega
      rw [if_pos hz'] at hq1
      simp only [ZB,insVc,ne_eq,Nat.reduceEqDiff,Zae,Zab,h3]
      refine bstring_c w.heap.size w.heap.size acc w3 _ hB3 hm13.size ?_
      intro w4 hm4
      simp only [ZB,endK,resK,packed,insVc,Zad]
      rw [hq1] at h
      exact h w4 (hm13.then hm4 (fun i hi hk=>by omega)) (hm4.keep hb3 (by omega))
     ·intro hz
      have hz':(number (number r1 1).2 1).1%256≠0:=by simp at hz;omega
      rw [if_neg hz'] at hq1
      simp only [ZB,insVc,ne_eq,reduceCtorEq,Zae,Zab,h0]
      refine fail_c b _ 20 w3 _ hb3 ?_
      intro w4 v hm4 hb4
      simp only [ZB,ne_eq,Nat.reduceEqDiff,reduceCtorEq,h0,h3]
      have hf:=fail_size (number (number r1 1).2 1).2 20
      refine ⟨n,by omega,hm13.trans hm4,_,_,hb4,hB3.keep2 hm4 hbl, ?_, ?_,hq1, ?_⟩
      ·have:=hmeas he';omega
      ·intro hx
       exfalso
       unfold fail at hx
       split at hx
       ·cases hx
       ·rename_i hy;exact hy hx
      ·omega
  ·intro he
   have he':r1.2≠0:=by simpa using he
   rw [quotedN,if_pos he'] at hq
   simp only [ZB,endK,resK,packed,insVc,Zad]
   rw [hq] at h
   exact h w1 hm1 hb1
def partsN:Nat→Rd→List Pt→List Pt × Rd
 | 0,r,l=>(l,r)
 | n+1,r,l =>
  if r.1.size > 0∧r.2=0 then
   (if (number r 1).1%256=1 then partsN n (number (number r 1).2 8).2 (l ++ [num' (number (number r 1).2 8).1]) else
    if (number r 1).1%256=2 then partsN n (quotedR (number r 1).2).2 (l ++ [str (quotedR (number r 1).2).1]) else
    partsN n (fail (number r 1).2 20) l)
  else (l,r)
def partsR (key:ByteArray):List Pt × Int :=
 if key.size > 255 then ([],20) else
 if (partsN (key.size+1) (key,0) []).2.2≠0 then ([],20) else ((partsN (key.size+1) (key,0) []).1,0)
theorem quotedN_size:∀(n:Nat) (r:Rd) (acc:List UInt8),(quotedN n r acc).2.1.size≤r.1.size:=by
 intro n
 induction n with
 | zero=>intro r acc;exact Nat.le_refl _
 | succ n ih =>
  intro r acc
  have h1:=number_size r 1
  have h2:=number_size (number r 1).2 1
  unfold quotedN
  split
  ·exact Nat.le_refl _
  ·split
   ·exact Nat.le_trans (ih _ _) h1
   ·split
    ·exact Nat.le_trans (ih _ _) (Nat.le_trans h2 h1)
    ·split
     ·exact Nat.le_trans h2 h1
     ·refine Nat.le_trans (ih _ _) ?_
      rw [fail_size]
      exact Nat.le_trans h2 h1
theorem quotedR_size (r:Rd):(quotedR r).2.1.size≤r.1.size:=quotedN_size _ _ _
theorem own_keep {w w':World} {S:Nat→Prop} {B n:Nat} {v:Value} {xs:List Value} (h:w.ownsRow B 220 3 v n xs) (hm:Mod S w w') (hS:∀k,B≤k→k<w.heap.size→¬S k):w'.ownsRow B 220 3 v n xs:=by
 obtain ⟨h1,h2⟩:=h
 refine ⟨h1,h2.imp id ?_⟩
 rintro ⟨g,cap,cur,e,hB,hg,r⟩
 exact ⟨g,cap,cur,e,hB,hm.keep hg (hS g hB (lt_of_get hg)),r⟩
theorem append_pt (B:Nat) (v:Value) (l:List Pt) (p:Pt) (w:World) (hown:w.ownsRow B 220 3 v l.length (l.flatMap Pt.cells)) (hB:B≤w.heap.size) (hl:l.length<2^20) (ty:TypeId) :
  ∃v' w',(Builtin.append_ #[301,301] ty #[v,.slice (some ⟨w.heap.size,0,none⟩) 1 1]).run prog (w.alloc (.cells p.cells.toArray 220)) = .ok v' w' ∧
   w'.ownsRow B 220 3 v' (l ++ [p]).length ((l ++ [p]).flatMap Pt.cells)∧Mod (fun k=>B≤k) w w':=by
 obtain ⟨i,hi,hi1,hi2⟩:=info_of info_pt
 have hm1:Mod (fun k=>B≤k) w (w.alloc (.cells p.cells.toArray 220)):=(Mod.refl _ _).alloc _
 have hown1:=own_keep hown ((Mod.refl (fun _=>False) w).alloc (.cells p.cells.toArray 220)) (fun _ _ _ x=>x)
 obtain ⟨v',w',hr,ho,hm,_⟩:=run_append_mine (P:=prog) B 301 301 ty 220 i _ 3 (by kernel_rfl) hi hi1 hi2.1 rfl (by decide) v l.length _ hown1 _ 1 _ (src_arg (.inr (pts_lit w [p] p.cells.toArray (by simp)))) (by simp [maxLen];omega) (by rw [hi2.2];omega) (Nat.le_trans hB hm1.size)
 refine ⟨v',w',hr, ?_,hm1.then hm (fun k hk he => ?_)⟩
 ·simpa using ho
 ·exact (World.ownsRow.lt hown1 k he).1
theorem parts_c (key:ByteArray) (w:World) (K:Value→World→Prop)
  (h:∀w' v,Mod (fun _=>False) w w'→w'.ownsRow w.heap.size 220 3 v (partsR key).1.length ((partsR key).1.flatMap Pt.cells)→K (.tuple #[v,.int .i64 (partsR key).2]) w') :
  Ok prog 255 #[.string key] w K:=by
 refine F255.enter (args:=[.string key]) (by simp) ?_
 unfold c255 r255
 simp only [ZB,insVc,iopK,iopV,lenSK,ne_eq,reduceCtorEq,Zac,Za]
 refine condP_split ?_ ?_
 ·intro hg
  have hg':=of_decide_eq_true hg
  have he:partsR key=([],20):=by unfold partsR;rw [if_pos (by omega)]
  rw [he] at h
  simp only [ZB,endK,resK,packed,insVc,ne_eq,Nat.reduceEqDiff,Zad,Zaw]
  exact h w _ (Mod.refl _ _) (World.ownsRow_nil w _ _ 3)
 intro hg
 have hg':key.size≤255:=by have:=of_decide_eq_false hg;omega
 simp only [ZB,insVc,ne_eq,reduceCtorEq,Zac,Zae,Zab,Za]
 obtain ⟨X,hX⟩:∃X,X=partsN (key.size+1) (key,0) []:=⟨_,rfl⟩
 refine over_c key w _ ?_
 simp only [ZB,insVc]
 refine vc_loop (fun m ρ ds w'=>ds=[]∧ρ 4=ptr w.heap.size∧Mod (fun _=>False) w w'∧w.heap.size+1≤w'.heap.size ∧
  ∃(r:Rd) (l:List Pt) (v:Value),ρ 5=v∧IsRd w' w.heap.size r∧w'.ownsRow (w.heap.size+1) 220 3 v l.length (l.flatMap Pt.cells)∧r.1.size+1≤m∧X=partsN m r l∧l.length+r.1.size≤255) (key.size+1) ?_ ?_
 ·refine ⟨rfl,by simp only [upd_same,upd_other,ne_eq,not_false_eq_true,Nat.reduceEqDiff],(Mod.refl _ _).alloc _,by simp only [Nat.reduceLeDiff,size_alloc];omega,(key,0),[],.slice none 0 0,by simp only [upd_same],get_alloc_new _ _,World.ownsRow_nil _ _ _ 3,Nat.le_refl _,hX,by simpa using hg'⟩
 ·rintro m ρ ds w1 ⟨rfl,h4,hm1,hB,r,l,v,h5,hb1,hown,hmeas,hq,hlen⟩
  obtain ⟨n,rfl⟩:∃n,m=n+1:=⟨m-1,by omega⟩
  have bad:¬(r.1.size > 0∧r.2=0)→X=(l,r):=fun hx=>by rw [hq,partsN,if_neg hx]
  simp only [ZB,insVc,Zae,Zab,h4]
  refine left_c _ r w1 _ hb1 ?_
  simp only [ZB,insVc,iopK,iopV,reduceCtorEq]
  by_cases hz:(r.1.size:Int) > 0
  ·simp only [ZB,insVc,ne_eq,Nat.reduceEqDiff,Zae,Zab,hz,h4]
   refine err_c _ r w1 _ hb1 ?_
   simp only [ZB,insVc,pickK,iopK,iopV,ne_eq,Nat.reduceEqDiff,reduceCtorEq,Zaa]
   refine condP_split ?_ ?_
   ·intro he
    have he':r.2=0:=by simpa using he
    have hq1:=hq
    rw [partsN,if_pos ⟨by omega,he'⟩] at hq1
    simp only [ZB,insVc,ne_eq,Nat.reduceEqDiff,Zae,Zab,h4]
    refine one_c _ r w1 _ hb1 (by omega) ?_
    intro w2 hm2 hb2
    have hm02:Mod (fun _=>False) w w2:=hm1.then hm2 (fun i hi hk=>by omega)
    have hown2:=own_keep hown hm2 (fun k hk _ e=>by omega)
    have hsz1:(number r 1).2.1.size+1=r.1.size:=by
     refine (number_one r).2 he' ?_
     unfold number take
     rw [if_neg (by simpa using he'),if_neg (by omega)]
     exact he'
    have hB2:=hm2.size
    simp only [ZB,insVc,iopK,iopV,reduceCtorEq]
    refine condP_split ?_ ?_
    ·intro hc
     have hc':(number r 1).1%256=1:=by simp at hc;omega
     rw [if_pos hc'] at hq1
     simp only [ZB,insVc,ne_eq,Nat.reduceEqDiff,Zae,Zab,h4,h5]
     refine eight_c _ _ w2 _ hb2 (by omega) ?_
     intro w3 hm3 hb3
     have hown3:=own_keep hown2 hm3 (fun k hk _ e=>by omega)
     simp only [ZB,insVc,Zae,Zab]
     refine num_c _ w3 _ ?_
     intro w4 hm4
     have hown4:=own_keep hown3 hm4 (fun _ _ _ x=>x)
     have hm04:Mod (fun _=>False) w w4:=(hm02.then hm3 (fun i hi hk=>by omega)).trans hm4
     have hsz2:=number_size (number r 1).2 8
     simp only [ZB,insVc,fillL,buildSK,Value.cells,Nat.reduceAdd,Nat.reduceLeDiff,Zai,Zak,Zaj,Zbe,Zbf,Zbd,Zbc,Zal,Zam,Zan,Zbh,Zaa,Pt.val,Pt.cells,num']
     obtain ⟨v5,w5,hr5,ho5,hm5⟩:=append_pt (w.heap.size+1) v l (num' (number (number r 1).2 8).1) w4 hown4 (by have:=hm3.size;have:=hm4.size;omega) (by omega) 301
     refine rawK_append rfl rfl rfl (by simp only [ZB,ne_eq,Nat.reduceEqDiff];exact hr5) ?_
     simp only [ZB,insVc,ne_eq,Nat.reduceEqDiff,h4]
     refine ⟨n,by omega,hm04.then hm5 (fun i hi hk=>by omega),by have:=hm3.size;have:=hm4.size;have:=hm5.size;omega,(number (number r 1).2 8).2,l ++ [num' (number (number r 1).2 8).1],v5,rfl,hm5.keep (hm4.keep hb3 id) (by omega),ho5,by omega,hq1,by simp;omega⟩
    ·intro hc
     have hc':(number r 1).1%256≠1:=by simp at hc;omega
     rw [if_neg hc'] at hq1
     simp only [ZB,insVc,iopK,iopV,ne_eq,Nat.reduceEqDiff,reduceCtorEq]
     refine condP_split ?_ ?_
     ·intro hd
      have hd':(number r 1).1%256=2:=by simp at hd;omega
      rw [if_pos hd'] at hq1
      simp only [ZB,insVc,ne_eq,Nat.reduceEqDiff,Zae,Zab,h4,h5]
      refine quoted_c _ _ w2 _ hb2 (by omega) ?_
      intro w3 hm3 hb3
      have hown3:=own_keep hown2 hm3 (fun k hk _ e=>by omega)
      simp only [ZB,insVc,Zae,Zab]
      refine str_c _ w3 _ ?_
      intro w4 hm4
      have hown4:=own_keep hown3 hm4 (fun _ _ _ x=>x)
      have hm04:Mod (fun _=>False) w w4:=(hm02.then hm3 (fun i hi hk=>by omega)).trans hm4
      have hsz2:=quotedR_size (number r 1).2
      simp only [ZB,insVc,fillL,buildSK,Value.cells,Nat.reduceAdd,Nat.reduceLeDiff,Zai,Zak,Zaj,Zbe,Zbf,Zbd,Zbc,Zal,Zam,Zan,Zbh,Zaa,Pt.val,Pt.cells,str]
      obtain ⟨v5,w5,hr5,ho5,hm5⟩:=append_pt (w.heap.size+1) v l (str (quotedR (number r 1).2).1) w4 hown4 (by have:=hm3.size;have:=hm4.size;omega) (by omega) 301
      refine rawK_append rfl rfl rfl (by simp only [ZB,ne_eq,Nat.reduceEqDiff];exact hr5) ?_
      simp only [ZB,insVc,ne_eq,Nat.reduceEqDiff,h4]
      refine ⟨n,by omega,hm04.then hm5 (fun i hi hk=>by omega),by have:=hm3.size;have:=hm4.size;have:=hm5.size;omega,(quotedR (number r 1).2).2,l ++ [str (quotedR (number r 1).2).1],v5,rfl,hm5.keep (hm4.keep hb3 id) (by omega),ho5,by omega,hq1,by simp;omega⟩
     ·intro hd
      have hd':(number r 1).1%256≠2:=by simp at hd;omega
      rw [if_neg hd'] at hq1
      simp only [ZB,insVc,ne_eq,Nat.reduceEqDiff,Zae,Zab,h4]
      refine fail_c _ _ 20 w2 _ hb2 ?_
      intro w3 x hm3 hb3
      simp only [ZB,ne_eq,Nat.reduceEqDiff,h4,h5]
      have hf:=fail_size (number r 1).2 20
      exact ⟨n,by omega,hm02.then hm3 (fun i hi hk=>by omega),by have:=hm3.size;omega,_,l,v,rfl,hb3,own_keep hown2 hm3 (fun k hk _ e=>by omega),by omega,hq1,by omega⟩
   ·intro he
    have he':r.2≠0:=by simpa using he
    have hx:=bad (by intro x;exact he' x.2)
    simp only [ZB,insVc,ne_eq,Nat.reduceEqDiff,Zae,Zab,h4]
    refine err_c _ r w1 _ hb1 ?_
    have hp:partsR key=([],20):=by unfold partsR;rw [if_neg (by omega),← hX,hx,if_pos he']
    rw [hp] at h
    simp only [ZB,endK,resK,packed,insVc,iopK,iopV,ne_eq,Nat.reduceEqDiff,reduceCtorEq,Zad,Zaw,show (r.2 != 0)=true by simpa using he']
    exact h w1 _ hm1 (World.ownsRow_nil _ _ _ 3)
  ·simp only [ZB,insVc,pickK,ne_eq,Nat.reduceEqDiff,Zae,Zab,Zaf,hz,h4]
   have hx:=bad (by intro x;omega)
   refine err_c _ r w1 _ hb1 ?_
   simp only [ZB,insVc,iopK,iopV,reduceCtorEq]
   refine condP_split ?_ ?_
   ·intro he
    have he':r.2≠0:=by simpa using he
    have hp:partsR key=([],20):=by unfold partsR;rw [if_neg (by omega),← hX,hx,if_pos he']
    rw [hp] at h
    simp only [ZB,endK,resK,packed,insVc,ne_eq,Nat.reduceEqDiff,Zad,Zaw]
    exact h w1 _ hm1 (World.ownsRow_nil _ _ _ 3)
   ·intro he
    have he':r.2=0:=by simpa using he
    have hp:partsR key=(l,0):=by unfold partsR;rw [if_neg (by omega),← hX,hx,if_neg (by simpa using he')]
    rw [hp] at h
    simp only [ZB,endK,resK,packed,insVc,ne_eq,Nat.reduceEqDiff,Zad,Zaw,h5]
    refine h w1 v hm1 ?_
    obtain ⟨o1,o2⟩:=hown
    refine ⟨o1,o2.imp id ?_⟩
    rintro ⟨g,cap,cur,e,hBg,rest⟩
    exact ⟨g,cap,cur,e,by omega,rest⟩
end Go.Oct
