import Derived.Test.YtpggpopbkmgodaaGreatDoorVpF
import Derived.Test.YtpggpopbkmgodaaGreatDoorProg
import Derived.Test.YtpggpopbkmgodaaGreatDoorVcI
set_option linter.unusedSimpArgs false
set_option linter.unusedVariables false
set_option linter.unusedSectionVars false
set_option linter.unnecessarySimpa false
namespace Go.Oct
open Go Go.Vc Go.VrA Go.VrB Go.Proofs.Tryz
set_option maxRecDepth 100000
def dueTo (now:Nat):ByteArray:=if now<18446744073709551615 then (underK ⟨#[101]⟩ [num' (now+1)]).1 else (underK ⟨#[101]⟩ []).2
def Sto.dueRows {σ:Type} (St:Sto σ) (s:σ) (now:Nat):List Pr:=(St.rng s (underK ⟨#[101]⟩ []).1 (dueTo now)).1
theorem due_c {σ:Type} (St:Sto σ) (s:σ) (hp:PureGet St s) (hpr:PureRng St s) (now:Nat) (m:Int) (w:World) (K:Value→World→Prop) (hAt:St.At s w) (hg:Gl m w) (hn:now<2^64)
  (hR:∀r∈St.dueRows s now,(parseR ⟨r.1.1.toArray⟩).1.queue.size<4294967281∧(parseR ⟨r.1.1.toArray⟩).1.id<2^64∧(St.get s (messageK (parseR ⟨r.1.1.toArray⟩).1.queue (parseR ⟨r.1.1.toArray⟩).1.id).1).1.1.size<2^60)
  (h:∀w' gf cap,Mod (fun _=>False) w w'→IterP prog gf cap (msV (dueL St s (St.dueRows s now))) (fun u=>St.At s u∧Gl m u∧Kept w.heap.size w' u)→K (.func (.func gf) #[] cap.toArray) w') :
  Ok prog 86 #[.iface St.t St.v,.int .u64 now] w K:=by
 refine F86.enter (args:=[.iface St.t St.v,.int .u64 now]) (by simp) ?_
 unfold c86 r86
 simp only [ZB,insVc,Value.cells,Zac,Zae,Zab,Za]
 refine callK_gen ?_
 intro w1 hw1
 have hm1:Mod (fun _=>False) w w1:=by rw [hw1];exact (Mod.refl _ _).alloc _
 have e1:w1.heap[w.heap.size]? = some (.cells #[.iface St.t St.v] 216 (0,0)):=by rw [hw1];exact get_alloc_new _ _
 clear hw1
 refine under_c ⟨#[101]⟩ [] _ m w1 _ (hg.mod hm1 id) (.inl ⟨rfl,_,rfl⟩) (by simp) (by decide) (fun _ h=>by cases h) ?_
 intro w2 hm2
 have e2:=hm2.keep e1 id
 have hm12:=hm1.trans hm2
 have fin:∀(w3:World) (G:Value→World→Prop),Mod (fun _=>False) w w3→w3.heap[w.heap.size]? = some (.cells #[.iface St.t St.v] 216 (0,0)) →
   (∀w4 gf cap,Mod (fun _=>False) w3 w4→IterP prog gf cap (rowsV (St.dueRows s now)) (fun u=>St.At s u∧Kept w3.heap.size w4 u)→G (.func (.func gf) #[] cap.toArray) w4) →
   InvK prog G St.t St.v "Range" [.string (underK ⟨#[101]⟩ []).1,.string (dueTo now)] w3:=by
  intro w3 G hm3 _ hG
  exact hpr (underK ⟨#[101]⟩ []).1 (dueTo now) w3 G (St.keep0 hAt hm3) hG
 have last:∀(w3 w4:World) (gf:FuncId) (cap:List Value) (G:Value→World→Prop),Mod (fun _=>False) w w3→w3.heap[w.heap.size]? = some (.cells #[.iface St.t St.v] 216 (0,0))→Mod (fun _=>False) w3 w4 →
   IterP prog gf cap (rowsV (St.dueRows s now)) (fun u=>St.At s u∧Kept w3.heap.size w4 u) →
   (∀v w',K v w'→G v w')→CallK prog G 143 [.func (.func gf) #[] cap.toArray,.func (.func 144) #[] #[ptr w.heap.size]] w4:=by
  intro w3 w4 gf cap G hm3 e3 hm4 it hG
  refine F143.enter (args:=[_,_]) (by simp) ?_
  unfold c143 r143
  simp only [ZB,endK,resK,packed,insVc,Value.cells,ne_eq,Nat.reduceEqDiff,Zac,Zae,Zab,Za,Zag,Zad,Nat.reduceEqDiff]
  refine hG _ _ ?_
  have hmR:Mod (fun _=>False) w4 ((w4.alloc (.cells #[.func (.func gf) #[] cap.toArray] 224)).alloc (.cells #[.func (.func 144) #[] #[ptr w.heap.size]] 230)):=((Mod.refl _ _).alloc _).alloc _
  have z3:=hm3.size
  have z4:=hm4.size
  refine h _ _ [ptr w4.heap.size,ptr (w4.heap.size+1)] ((hm3.trans hm4).trans hmR) (iterP_mono (row1_c St s hp (St.dueRows s now) gf cap w3.heap.size w4 it w4.heap.size (w4.heap.size+1) w.heap.size m hR) ?_)
  rintro u ⟨k1,k2,k3⟩
  refine ⟨k1,k2, ?_,k3.at ?_ (by omega),k3.at ?_ (by omega),k3.at (hmR.keep (hm4.keep e3 id) id) (Nat.le_refl _)⟩
  ·refine ⟨Nat.le_trans hmR.size k3.1,fun k h1 h2 => ?_⟩
   have:=hmR.size
   rw [k3.2 k (by omega) (by omega),hmR.get k h2 id]
  ·simp only [Zaa,Zaf,size_alloc,get_alloc,size_alloc,Zbi,Zaz]
  ·simp only [Zaa,Zaf,size_alloc,get_alloc,size_alloc,Zba,Zaz]
 by_cases hc:now<18446744073709551615
 ·have hc':((now:Nat):Int)<18446744073709551615:=by omega
  have hto:dueTo now=(underK ⟨#[101]⟩ [num' (now+1)]).1:=by unfold dueTo;rw [if_pos hc]
  have hwr:IntKind.u64.wrap ((now:Int)+1)=((now+1:Nat):Int):=by rw [IntKind.wrap_u64];omega
  simp only [ZB,insVc,iopK,iopV,extK,ne_eq,Nat.reduceEqDiff,reduceCtorEq,Zac,Zae,Zab,Za,Zag,Zah,hc',hwr]
  refine num_c (now+1) w2 _ ?_
  intro w3 hm3
  simp only [ZB,insVc,fillL,buildSK,Value.cells,Nat.reduceAdd,Nat.reduceLeDiff,Zae,Zab,Zai,Zak,Zaj,Zbe,Zbf,Zbd,Zbc,Zal,Zam,Zan,Zbh,Zaa,Pt.val,Pt.cells,num']
  have hm4:Mod (fun _=>False) w3 (w3.alloc (.cells #[.bool false,.int .u64 (now+1:Nat),.string e0] 220)):=(Mod.refl _ _).alloc _
  have hm14:=(hm12.trans hm3).trans hm4
  refine under_c ⟨#[101]⟩ [num' (now+1)] _ m _ _ (hg.mod hm14 id) (.inr (pts_lit w3 [num' (now+1)] _ rfl)) (by simp) (by decide) ?_ ?_
  ·intro p hp'
   rw [List.mem_singleton.1 hp']
   exact ⟨by show now+1<2^64;omega,by simp [num',e0,ByteArray.size]⟩
  intro w5 hm5
  have e5:=(hm3.trans (hm4.trans hm5)).keep e2 id
  have hm15:=hm14.trans hm5
  rw [← hto]
  simp only [ZB,insVc,load1K,extK,invK,ne_eq,Nat.reduceEqDiff,Zae,Zab,Za,Zag,Zah,e5]
  refine fin w5 _ hm15 e5 ?_
  intro w6 gf cap hm6 it
  simp only [ZB,insVc,ne_eq,Nat.reduceEqDiff,Zae,Zab]
  refine last w5 w6 gf cap _ hm15 e5 hm6 it ?_
  intro v w' hv
  simp only [ZB,endK,resK,packed,insVc,Zad]
  exact hv
 ·have hc':¬((now:Nat):Int)<18446744073709551615:=by omega
  have hto:dueTo now=(underK ⟨#[101]⟩ []).2:=by unfold dueTo;rw [if_neg hc]
  rw [← hto]
  simp only [ZB,insVc,load1K,iopK,iopV,extK,invK,ne_eq,Nat.reduceEqDiff,reduceCtorEq,Zac,Zae,Zab,Za,Zag,Zah,hc',e2]
  refine fin w2 _ hm12 e2 ?_
  intro w6 gf cap hm6 it
  simp only [ZB,insVc,ne_eq,Nat.reduceEqDiff,Zae,Zab]
  refine last w2 w6 gf cap _ hm12 e2 hm6 it ?_
  intro v w' hv
  simp only [ZB,endK,resK,packed,insVc,Zad]
  exact hv
end Go.Oct
namespace Go.Oct
open Go Go.Vc Go.VrA Go.VrB Go.VrE Go.Proofs.Tryz
set_option maxRecDepth 100000
theorem list1_c (t:Th) (v:ByteArray) (w:World) (K:Value→World→Prop) (hv:v.size<2^60)
  (h:∀w',Mod (fun _=>False) w w'→K (.tuple #[(mread t.queue t.id v).1.val,.int .i64 (mread t.queue t.id v).2]) w') :
  Ok prog 244 #[t.val,.string v] w K:=by
 refine F244.enter (args:=[t.val,.string v]) (by simp) ?_
 unfold c244 r244
 simp only [ZB,insVc,load1K,faddrK,Value.cells,ne_eq,Nat.reduceEqDiff,Zac,Zae,Zab,Za,Zag,Zah,Zaa,Zaf,get_alloc,Zbi,Nat.reduceEqDiff,Zaz,Th.val,Th.cells]
 refine callK_gen ?_
 intro w1 hw1
 have hm1:Mod (fun _=>False) w w1:=by rw [hw1];exact ((Mod.refl _ _).alloc _).alloc _
 have r1:w1.heap[w.heap.size+1]? = some (.cells zms 128 (0,0)):=by rw [hw1];simp only [Zaa,Zaf,size_alloc,get_alloc,size_alloc,Zba,Zaz]
 clear hw1
 refine messages_c t.queue t.id w1 _ ?_
 intro w2 mv hm2 hM2
 have r2:=hm2.keep r1 id
 simp only [ZB,insVc,ne_eq,Nat.reduceEqDiff,Zac,Zae,Zab,Za,Zag]
 refine mread_c mv _ t.queue t.id v w2 _ hM2 hv ?_
 intro w3 hm3
 have r3':=hm3.keep r2 id
 simp only [ZB,endK,resK,resN,packed,insVc,storeNK,setMany,extK,isPlain,ne_eq,Nat.reduceEqDiff,Nat.reduceAdd,Nat.reduceLeDiff,Za,Zag,Zah,Zai,Zak,Zaj,Zal,Zam,Zan,Zad,Zaw,Zar,Zap,Zaq,Zao,Zas,Zat,Zau,Zav,Zax,Ms.val,Ms.cells,r3',get_set_same _ _ _ (lt_of_get r3')]
 exact h _ (((hm1.trans hm2).trans hm3).set (.inl (by omega)))
def boundsL (queue:ByteArray) (n:Nat):ByteArray × ByteArray:=((messageK queue n).1,(underK ⟨#[109]⟩ [str queue]).2)
theorem bounds_c (queue:ByteArray) (n:Nat) (m:Int) (w:World) (K:Value→World→Prop) (hg:Gl m w) (hs:queue.size<4294967281) (hn:n<2^64)
  (h:∀w',Mod (fun _=>False) w w'→K (.tuple #[.string (boundsL queue n).1,.string (boundsL queue n).2]) w') :
  Ok prog 242 #[.string queue,.int .u64 n] w K:=by
 refine F242.enter (args:=[.string queue,.int .u64 n]) (by simp) ?_
 unfold c242 r242
 simp only [ZB,insVc,ne_eq,reduceCtorEq,Zac,Zae,Zab,Za]
 refine str_c queue w _ ?_
 intro w1 hm1
 simp only [ZB,insVc,fillL,buildSK,Value.cells,Nat.reduceAdd,Nat.reduceLeDiff,Zae,Zab,Zai,Zak,Zaj,Zbe,Zbf,Zbd,Zbc,Zal,Zam,Zan,Zbh,Zaa,Pt.val,Pt.cells,str]
 have hm2:Mod (fun _=>False) w1 (w1.alloc (.cells #[.bool true,.int .u64 (0:Nat),.string queue] 220)):=(Mod.refl _ _).alloc _
 have hm12:=hm1.trans hm2
 refine under_c ⟨#[109]⟩ [str queue] _ m _ _ (hg.mod hm12 id) (.inr (pts_lit w1 [str queue] _ rfl)) (by simp) (by decide) ?_ ?_
 ·intro p hp'
  rw [List.mem_singleton.1 hp']
  exact ⟨by show 0<2^64;decide,by simpa [str] using hs⟩
 intro w3 hm3
 have hm13:=hm12.trans hm3
 simp only [ZB,insVc,extK,ne_eq,Nat.reduceEqDiff,reduceCtorEq,Zac,Zae,Zab,Za,Zag,Zah]
 refine message_c queue n m w3 _ (hg.mod hm13 id) hs hn ?_
 intro w4 hm4
 simp only [ZB,endK,resK,packed,insVc,extK,ne_eq,Nat.reduceEqDiff,Za,Zag,Zah,Zad,Zaw]
 exact h w4 (hm13.trans hm4)
def lgot (r:Pr):Ms × Int :=
 if r.2≠0 then (ms0,r.2) else
 if (parseR ⟨r.1.1.toArray⟩).2≠0 then (ms0,(parseR ⟨r.1.1.toArray⟩).2) else mread (parseR ⟨r.1.1.toArray⟩).1.queue (parseR ⟨r.1.1.toArray⟩).1.id ⟨r.1.2.toArray⟩
def rowL:List Pr→List (Ms × Int)
 | []=>[]
 | r :: l=>if (lgot r).2≠0 then [lgot r] else lgot r :: rowL l
theorem rowL_cons (r:Pr) (l:List Pr):rowL (r :: l)=if (lgot r).2≠0 then [lgot r] else lgot r :: rowL l:=rfl
def RowCellsL (u:World) (c1 c2:Nat) (gf:FuncId) (cap:List Value):Prop :=
 u.heap[c1]? = some (.cells #[.func (.func gf) #[] cap.toArray] 224 (0,0)) ∧
 u.heap[c2]? = some (.cells #[.func (.func 244) #[] #[]] 230 (0,0))
theorem rowl_c {σ:Type} (St:Sto σ) (s:σ) (R:List Pr) (gf:FuncId) (cap:List Value) (lo:Nat) (wR:World) (it:IterP prog gf cap (rowsV R) (fun u=>St.At s u∧Kept lo wR u)) (c1 c2:Nat) (m:Int)
  (hR:∀r∈R,r.1.2.length<2^60) :
  IterP prog 204 [ptr c1,ptr c2] (msV (rowL R)) (fun u=>St.At s u∧Gl m u∧Kept lo wR u∧RowCellsL u c1 c2 gf cap):=by
 rintro y ⟨fy,ya,yb,hyf⟩ J Jx w hJ hF hS hSx hy
 refine F204.enter (args:=[y,ptr c1,ptr c2]) (by simp) ?_
 unfold c204 r204
 obtain ⟨hA,hg,hkR,e1,e2⟩:=hF 0 _ _ hJ
 have q1:=lt_of_get e1
 simp only [ZB,insVc,load1K,Value.cells,ne_eq,Nat.reduceEqDiff,Zac,Za,Zag,Zah,Zaf,get_alloc,Nat.reduceEqDiff,e1,Nat.ne_of_lt q1]
 refine vc_gen ?_
 intro w4 hw4
 have hm14:Mod (fun _=>False) w w4:=by rw [hw4];exact (Mod.refl _ _).alloc _
 have b4:w4.heap[w.heap.size]? = some (.cells #[y] 305 (0,0)):=by rw [hw4];simp only [Zaa,get_alloc,hyf]
 have hz4:w4.heap.size=w.heap.size+1:=by rw [hw4,size_alloc]
 clear hw4
 let XO:(Nat→Prop)→Nat→Prop:=fun X k=>(w.heap.size≤k∧k<w4.heap.size+2)∨X k
 have hXO:∀(X X':Nat→Prop) (a b:World),(∀k,X' k→X k∨a.heap.size≤k∧k<b.heap.size)→∀k,XO X' k→XO X k∨a.heap.size≤k∧k<b.heap.size:=by
  rintro X X' a b h k (hk|hk)
  ·exact .inl (.inl hk)
  ·exact (h k hk).elim (fun x=>.inl (.inr x)) .inr
 have hfin:∀(u:World) (X:Nat→Prop) (u':World),w4.heap.size+2≤u.heap.size→(∀k,X k→w4.heap.size≤k∧k<u.heap.size)→J (msV (rowL R)).length (XO X) u∨Jx (XO X) u→Mod (fun k=>k=w4.heap.size) u u' →
   w.heap.size≤u'.heap.size∧∃X,(∀k,X k→w.heap.size≤k∧k<u'.heap.size)∧(J (msV (rowL R)).length X u'∨Jx X u'):=by
  intro u X u' h1 h2 h3 h4
  have h5:=h4.size
  have hb:∀k,XO X k→w.heap.size≤k∧k<u'.heap.size:=by
   rintro k (hk|hk)
   ·omega
   ·have:=h2 k hk;omega
  have hm:Mod (XO X) u u':=h4.mono fun k _ hk=>.inl (by omega)
  exact ⟨by omega,XO X,hb,h3.imp (fun h=>hS _ _ _ u u' h hm (fun k hk=>.inl hk)) (fun h=>hSx _ _ u u' h hm (fun k hk=>.inl hk))⟩
 refine range_iter (by kernel_rfl) (by kernel_rfl) (by kernel_rfl) (gf:=gf) (cap:=cap) (by simp only [upd_same,ev_tmp]) it
  (fun i X u=>(∃pre:List (Ms × Int),pre.length=i∧rowL R=pre ++ rowL (R.drop i))∧J i (XO X) u∧Kept w.heap.size w4 u)
  (fun c X u=>c = .ret∧(J (msV (rowL R)).length (XO X) u∨Jx (XO X) u)) ?_ ?_ ?_ ?_ ?_ ?_ ?_ ?_
 ·intro X w' hm hsz hX
  refine ⟨⟨[],rfl,by simp⟩,hS 0 _ _ w w' hJ ((hm14.trans hm).mono fun _ _ x=>x.elim) ?_,(Kept.refl _ _).keep hm (fun _ _ _=>id)⟩
  rintro k (hk|hk)
  ·exact .inr ⟨hk.1,by omega⟩
  ·have:=hX k hk
   exact .inr (by omega)
 ·rintro i X u ⟨_,h1,h2⟩
  exact ⟨(hF _ _ _ h1).1,(hF _ _ _ h1).2.2.1⟩
 ·rintro i X X' a b ⟨h0,h1,h2⟩ hX ha hm hx
  exact ⟨h0,hS i _ _ a b h1 (hm.mono fun _ _ x=>.inr x) (hXO X X' a b hx),h2.keep hm (fun k _ hk x=>by have:=hX k x;omega)⟩
 ·rintro c X X' a b ⟨rfl,h⟩ hX ha hm hx
  exact ⟨rfl,h.imp (fun h=>hS _ _ _ a b h (hm.mono fun _ _ x=>.inr x) (hXO X X' a b hx)) (fun h=>hSx _ _ a b h (hm.mono fun _ _ x=>.inr x) (hXO X X' a b hx))⟩
 ·intro i hi
  rw [List.getElem?_eq_getElem hi]
  simp [rowsV]
 ·intro i hi X a ⟨⟨pre,p1,p2⟩,hJa,hKa⟩ hX ha
  obtain ⟨r,hr⟩:∃r,R[i]? = some r:=⟨R[i]'(by simpa [rowsV] using hi),List.getElem?_eq_getElem _⟩
  have hrow:((rowsV R)[i]?.getD [])=[.agg #[.string ⟨r.1.1.toArray⟩,.string ⟨r.1.2.toArray⟩],.int .i64 r.2]:=by simp [rowsV,hr]
  have hvr:=hR r (List.mem_of_getElem? hr)
  have hdrop:R.drop i=r :: R.drop (i+1):=List.drop_eq_getElem?_toList_append.trans (by rw [hr];rfl)
  rw [hrow]
  simp only [ZB,insVc,storeNK,setMany,iopK,iopV,isPlain,Value.cells,ne_eq,Nat.reduceEqDiff,Nat.reduceAdd,Nat.reduceLeDiff,reduceCtorEq,Zai,Zak,Zaj,Zal,Zam,Zan,Zau,Zav,Zax,Zbl,updMany]
  refine ⟨((Mod.refl _ _).alloc _).set (.inl (Nat.le_refl _)), ?_⟩
  rintro c hmc ⟨_,hJc,hKc⟩
  have hxa:¬X a.heap.size:=fun x=>by have:=(hX _ x).2;omega
  have pC:=hmc.keep (get_set_same _ _ (.cells #[.string ⟨r.1.1.toArray⟩,.string ⟨r.1.2.toArray⟩] 176 (0,0)) (by rw [size_alloc];omega)) hxa
  have bC:=hKc.at b4 (Nat.le_refl _)
  obtain ⟨hAc,hgc,_,_,e2c⟩:=hF _ _ _ hJc
  have hpre:∃pre:List (Ms × Int),pre.length=i∧rowL R=pre ++ rowL (r :: R.drop (i+1)):=⟨pre,p1,by rw [p2,hdrop]⟩
  have hhead:∃tl,rowL (r :: R.drop (i+1))=lgot r :: tl∧((lgot r).2≠0→tl=[])∧((lgot r).2=0→tl=rowL (R.drop (i+1))):=by
   rw [rowL_cons]
   by_cases hx:(lgot r).2≠0
   ·rw [if_pos hx];exact ⟨[],rfl,fun _=>rfl,fun h=>(hx h).elim⟩
   ·rw [if_neg hx];exact ⟨_,rfl,fun h=>(hx h).elim,fun _=>rfl⟩
  obtain ⟨tl,htl,htl1,htl2⟩:=hhead
  have hszc:w4.heap.size+2≤c.heap.size:=by have:=hmc.size;simp only [size_set,size_alloc] at this;omega
  have hyield:∀(u:World) (o:Ms × Int) (G:Value→World→Prop),lgot r=o→Mod (fun _=>False) c u →
    (∀d,c.heap.size≤d.heap.size→(∀k,XO X k→d.heap[k]? = u.heap[k]?)→J (i+1) (XO X) d→G (.bool true) d)→(∀d,c.heap.size≤d.heap.size→(∀k,XO X k→d.heap[k]? = u.heap[k]?)→Jx (XO X) d→G (.bool false) d) →
    callvK prog G u [o.1.val,.int .i64 o.2] y:=by
   intro u o G ho hmu hG1 hG2
   obtain ⟨pre,h1,h2⟩:=hpre
   have hi':(msV (rowL R))[i]? = some [o.1.val,.int .i64 o.2]:=by rw [h2,htl,ho];simp [msV,h1]
   have hlt:i<(msV (rowL R)).length:=by
    rcases Nat.lt_or_ge i (msV (rowL R)).length with h|h
    ·exact h
    ·rw [List.getElem?_eq_none h] at hi';cases hi'
   have hmus:=hmu.size
   have hbd:∀k,XO X k→w.heap.size≤k∧k<u.heap.size:=by
    have:=hmc.size
    rintro k (hk|hk)
    ·omega
    ·have:=hX k hk;simp only [size_set,size_alloc] at *; omega
   have hJu:=hS i _ (XO X) c u hJc (hmu.mono fun _ _ x=>x.elim) (fun k hk=>.inl hk)
   have hyy:=hy i hlt (XO X) u hJu hbd (by omega)
   rw [hi'] at hyy
   refine callvK_mono hyy ?_
   rintro v d ⟨⟨k1,k2⟩,⟨rfl,k3⟩|⟨rfl,k3⟩⟩
   ·exact hG1 d (by omega) k2 k3
   ·exact hG2 d (by omega) k2 k3
  have hkeepX:∀(u d:World),Mod (fun _=>False) c u→(∀k,XO X k→d.heap[k]? = u.heap[k]?)→∀k,X k→d.heap[k]? = c.heap[k]?:=by
   intro u d hmu hd k hk
   have:=(hX k hk).2
   have:=hmc.size
   simp only [size_set,size_alloc] at this
   rw [hd k (.inr hk),hmu.get k (by omega) id]
  have hkeepK:∀(u d:World),Mod (fun _=>False) c u→c.heap.size≤d.heap.size→(∀k,XO X k→d.heap[k]? = u.heap[k]?)→Kept w.heap.size w4 d:=by
   intro u d hmu hs hd
   refine ⟨by omega,fun k h1 h2 => ?_⟩
   rw [hd k (.inl ⟨h1,by omega⟩),hmu.get k (by omega) id,hKc.2 k h1 h2]
  have hout:∀(u d:World),Mod (fun _=>False) c u→c.heap.size≤d.heap.size→(∀k,XO X k→d.heap[k]? = u.heap[k]?)→Jx (XO X) d∨((lgot r).2≠0∧J (i+1) (XO X) d) →
    (c.heap.size≤d.heap.size∧∀k,X k→d.heap[k]? = c.heap[k]?)∧(False∧(∃pre:List (Ms × Int),pre.length=i+1∧rowL R=pre ++ rowL (R.drop (i+1)))∧J (i+1) (XO X) d∧Kept w.heap.size w4 d ∨
     ∃cc,(cc=Code.ret∨∃id,cc=Code.exit id∧False)∧cc=Code.ret∧(J (msV (rowL R)).length (XO X) d∨Jx (XO X) d)):=by
   intro u d hmu k1 k2 k3
   refine ⟨⟨k1,hkeepX u d hmu k2⟩,.inr ⟨.ret,.inl rfl,rfl, ?_⟩⟩
   rcases k3 with k3|⟨k4,k3⟩
   ·exact .inr k3
   ·obtain ⟨pre,h1,h2⟩:=hpre
    have hlen:(msV (rowL R)).length=i+1:=by rw [h2,htl,htl1 k4];simp [msV,h1]
    rw [hlen]
    exact .inl k3
  have hin:∀(u d:World),Mod (fun _=>False) c u→c.heap.size≤d.heap.size→(∀k,XO X k→d.heap[k]? = u.heap[k]?)→(lgot r).2=0→J (i+1) (XO X) d →
    (∃pre:List (Ms × Int),pre.length=i+1∧rowL R=pre ++ rowL (R.drop (i+1)))∧J (i+1) (XO X) d∧Kept w.heap.size w4 d:=by
   intro u d hmu k1 k2 h00 k3
   refine ⟨?_,k3,hkeepK u d hmu k1 k2⟩
   obtain ⟨pre,h1,h2⟩:=hpre
   exact ⟨pre ++ [lgot r],by simp [h1],by rw [h2,htl,htl2 h00];simp⟩
  refine condP_gen ?_
  intro w5 hw5
  have hm5:Mod (fun _=>False) c w5:=by rw [hw5];exact ((Mod.refl _ _).alloc _).alloc _
  have t5:w5.heap[c.heap.size]? = some (.cells #[.string ⟨#[]⟩,.string ⟨#[]⟩,.int .u64 0,.int .u64 0,.string ⟨#[]⟩,.int .i64 0,.string ⟨#[]⟩,.string ⟨#[]⟩,.string ⟨#[]⟩] 227 (0,0)):=by rw [hw5];simp only [Zaa,Zaf,size_alloc,get_alloc,size_alloc,Zbi,Zaz]
  have x5:w5.heap[c.heap.size+1]? = some (.cells zms 128 (0,0)):=by rw [hw5];simp only [Zaa,Zaf,size_alloc,get_alloc,size_alloc,Zba,Zaz]
  clear hw5
  have p5:=hm5.keep pC id
  have b5:=hm5.keep bC id
  have e5:=hm5.keep e2c id
  have l1:=lt_of_get pC
  have l2:=lt_of_get bC
  have l4:=lt_of_get e2c
  by_cases he:r.2=0
  ·have hgot:lgot r=if (parseR ⟨r.1.1.toArray⟩).2≠0 then (ms0,(parseR ⟨r.1.1.toArray⟩).2) else mread (parseR ⟨r.1.1.toArray⟩).1.queue (parseR ⟨r.1.1.toArray⟩).1.id ⟨r.1.2.toArray⟩:=by unfold lgot;rw [if_neg (by simpa using he)]
   rw [he]
   have b00:((0:Int) == 0)=true:=rfl
   simp only [ZB,insVc,load1K,faddrK,ne_eq,Nat.reduceEqDiff,Zae,Zab,Za,Zah,p5,b00]
   refine parse_c _ w5 _ ?_
   intro w6 hm6
   have t6:=hm6.keep t5 id
   have p6:=hm6.keep p5 id
   have b6:=hm6.keep b5 id
   have e6:=hm6.keep e5 id
   have x6:=hm6.keep x5 id
   have hm56:=hm5.trans hm6
   revert hgot
   generalize parseR ⟨r.1.1.toArray⟩=T
   intro hgot
   simp only [ZB,insVc,storeNK,setMany,iopK,iopV,extK,isPlain,ne_eq,Nat.reduceEqDiff,Nat.reduceAdd,Nat.reduceLeDiff,reduceCtorEq,Za,Zag,Zah,Zai,Zak,Zaj,Zal,Zam,Zan,Zau,Zav,Zax,Th.val,Th.cells,t6]
   refine condP_gen ?_
   intro w7 hw7
   have hm7':Mod (fun k=>k=c.heap.size) w6 w7:=by rw [hw7];exact (Mod.refl _ _).set (.inr rfl)
   have hm7:Mod (fun _=>False) c w7:=by rw [hw7];exact hm56.set (.inl (Nat.le_refl _))
   have t7:w7.heap[c.heap.size]? = some (.cells T.1.cells.toArray 227 (0,0)):=by rw [hw7];exact get_set_same _ _ _ (lt_of_get t6)
   have p7:=hm7'.keep p6 (by omega)
   have b7:=hm7'.keep b6 (by omega)
   have e7:=hm7'.keep e6 (by omega)
   have x7:=hm7'.keep x6 (by omega)
   clear hw7
   by_cases hT:T.2=0
   ·rw [if_neg (by simpa using hT)] at hgot
    rw [hT]
    simp only [Th.cells] at t7
    simp only [ZB,insVc,load1K,loadNK,faddrK,callvK,ne_eq,Nat.reduceEqDiff,Nat.reduceAdd,Nat.reduceLeDiff,Zac,Zae,Zab,Za,Zag,Zah,Zai,Zak,Zaj,Zad,Zbu,Zar,Zap,Zaq,Zao,Zas,Zat,b00,e7,t7,p7]
    refine list1_c T.1 ⟨r.1.2.toArray⟩ w7 _ hvr ?_
    intro w8 hm8
    have hm78:=hm7.trans hm8
    have x8:=hm8.keep x7 id
    have b8:=hm8.keep b7 id
    revert hgot
    generalize mread T.1.queue T.1.id ⟨r.1.2.toArray⟩=Z
    intro hgot
    have y1:¬w.heap.size=c.heap.size+1:=by omega
    have lx:=lt_of_get x8
    have hm9:Mod (fun _=>False) c (Vc.set w8 (c.heap.size+1) (.cells #[.string Z.1.queue,.int .u64 Z.1.id,.int .u32 Z.1.tries,.int .u64 Z.1.expiry,.string Z.1.body] 128 (0,0))):=hm78.set (.inl (by omega))
    simp only [ZB,insVc,load1K,loadNK,storeNK,setMany,extK,callvK,isPlain,ne_eq,Nat.reduceEqDiff,Nat.reduceAdd,Nat.reduceLeDiff,Zae,Zab,Za,Zag,Zah,Zai,Zak,Zaj,Zal,Zam,Zan,Zaf,Zar,Zap,Zaq,Zao,Zas,Zat,Zau,Zav,Zax,Zbb,get_set,Nat.reduceAdd,Nat.reduceEqDiff,Ms.val,Ms.cells,x8,b8,y1,lx]
    refine hyield _ Z _ hgot hm9 ?_ ?_
    ·intro d k1 k2 k3
     by_cases hZ:Z.2=0
     ·have hne':(Z.2 != 0)=false:=by simpa using hZ
      simp only [ZB,insVc,pickK,iopK,iopV,notK,ne_eq,Nat.reduceEqDiff,reduceCtorEq,Zaf,hne']
      exact ⟨⟨k1,hkeepX _ d hm9 k2⟩,.inl (hin _ d hm9 k1 k2 (by rw [hgot];exact hZ) k3)⟩
     ·have hne':(Z.2 != 0)=true:=by simpa using hZ
      simp only [ZB,insVc,pickK,iopK,iopV,notK,ne_eq,Nat.reduceEqDiff,reduceCtorEq,Zaf,hne']
      exact hout _ d hm9 k1 k2 (.inr ⟨by rw [hgot];exact hZ,k3⟩)
    ·intro d k1 k2 k3
     simp only [ZB,insVc,pickK,notK,ne_eq,Nat.reduceEqDiff,reduceCtorEq,Zaa]
     exact hout _ d hm9 k1 k2 (.inl k3)
   ·rw [if_pos hT] at hgot
    have hne:(T.2 == 0)=false:=by simpa using hT
    have hne':(T.2 != 0)=true:=by simpa using hT
    simp only [ZB,insVc,load1K,loadNK,callvK,ne_eq,Nat.reduceEqDiff,Nat.reduceAdd,Nat.reduceLeDiff,Zae,Zab,Za,Zah,Zai,Zak,Zaj,Zar,Zap,Zaq,Zao,Zas,Zat,hne,b7,x7]
    refine hyield w7 (ms0,T.2) _ hgot hm7 ?_ ?_
    ·intro d k1 k2 k3
     simp only [ZB,insVc,pickK,iopK,iopV,notK,ne_eq,Nat.reduceEqDiff,reduceCtorEq,Zaf,hne']
     exact hout w7 d hm7 k1 k2 (.inr ⟨by rw [hgot];exact hT,k3⟩)
    ·intro d k1 k2 k3
     simp only [ZB,insVc,pickK,notK,ne_eq,Nat.reduceEqDiff,reduceCtorEq,Zaa]
     exact hout w7 d hm7 k1 k2 (.inl k3)
  ·have hgot:lgot r=(ms0,r.2):=by unfold lgot;rw [if_pos he]
   have hne:(r.2 == 0)=false:=by simpa using he
   have hne':(r.2 != 0)=true:=by simpa using he
   simp only [ZB,insVc,load1K,loadNK,iopK,iopV,callvK,ne_eq,Nat.reduceEqDiff,Nat.reduceAdd,Nat.reduceLeDiff,reduceCtorEq,Zae,Zab,Za,Zah,Zai,Zak,Zaj,Zar,Zap,Zaq,Zao,Zas,Zat,hne,b5,x5]
   refine hyield w5 (ms0,r.2) _ hgot hm5 ?_ ?_
   ·intro d k1 k2 k3
    simp only [ZB,insVc,pickK,iopK,iopV,notK,ne_eq,Nat.reduceEqDiff,reduceCtorEq,Zaf,hne']
    exact hout w5 d hm5 k1 k2 (.inr ⟨by rw [hgot];exact he,k3⟩)
   ·intro d k1 k2 k3
    simp only [ZB,insVc,pickK,notK,ne_eq,Nat.reduceEqDiff,reduceCtorEq,Zaa]
    exact hout w5 d hm5 k1 k2 (.inl k3)
 ·rintro X u ⟨⟨pre,h1,h2⟩,h3,h4⟩ ⟨a1,a2,a3⟩
  have hfin':=fun h=>hfin u X (Vc.set u w4.heap.size (.deferred none)) a2 a3 h ((Mod.refl _ _).set (.inr rfl))
  simp only [size_set] at hfin'
  have hlen:(rowsV R).length=R.length:=by simp [rowsV]
  rw [hlen,List.drop_length] at h2
  have hl:(rowsV R).length=(msV (rowL R)).length:=by rw [h2,hlen];simp [msV,rowL,h1,hlen]
  simp only [blockQ_normal,endQ_normal,endK,resK,size_set,markO,a1]
  refine hfin' (.inl ?_)
  rw [← hl];exact h3
 ·rintro c X u ⟨rfl,h⟩ ⟨a1,a2,a3⟩
  have hfin':=hfin u X (Vc.set u w4.heap.size (.deferred none)) a2 a3 h ((Mod.refl _ _).set (.inr rfl))
  simp only [size_set] at hfin'
  simp only [exitOf,blockQ_ret,endQ_ret,endK,resK,size_set,markO,a1]
  exact hfin'
theorem iter_none (Facts:World→Prop):IterP prog 243 [] [] Facts:=by
 rintro y ⟨fy,ya,yb,rfl⟩ J Jx w hJ hF hS hSx hy
 refine F243.enter (args:=[.func fy ya yb]) (by simp) ?_
 unfold c243 r243
 simp only [vc_skip,endQ_normal,endK,resK,Zaj]
 exact ⟨Nat.le_refl _,fun _=>False,fun _ h=>h.elim,.inl hJ⟩
def Sto.listRows {σ:Type} (St:Sto σ) (s:σ) (queue:ByteArray) (n:Nat):List (Ms × Int) :=
 if emptyB (boundsL queue n).1=true then [] else rowL (St.rng s (boundsL queue n).1 (boundsL queue n).2).1
theorem list_c {σ:Type} (St:Sto σ) (s:σ) (hpr:PureRng St s) (queue:ByteArray) (n:Nat) (m:Int) (w:World) (K:Value→World→Prop) (hAt:St.At s w) (hg:Gl m w) (hs:queue.size<4294967281) (hn:n<2^64)
  (hR:∀r∈(St.rng s (boundsL queue n).1 (boundsL queue n).2).1,r.1.2.length<2^60)
  (h:∀w' gf cap,Mod (fun _=>False) w w'→IterP prog gf cap (msV (St.listRows s queue n)) (fun u=>St.At s u∧Gl m u∧Kept w.heap.size w' u)→K (.func (.func gf) #[] cap.toArray) w') :
  Ok prog 178 #[.iface St.t St.v,.string queue,.int .u64 n] w K:=by
 refine F178.enter (args:=[.iface St.t St.v,.string queue,.int .u64 n]) (by simp) ?_
 unfold c178 r178
 simp only [ZB,insVc,ne_eq,Nat.reduceEqDiff,Zac,Zae,Zab,Za,Zag]
 refine bounds_c queue n m w _ hg hs hn ?_
 intro w1 hm1
 unfold Sto.listRows at h
 cases h2:emptyB (boundsL queue n).1 with
 | true =>
  have h2':((boundsL queue n).1.toList == (⟨#[]⟩:ByteArray).toList)=true:=h2
  rw [if_pos h2] at h
  simp only [ZB,endK,resK,packed,insVc,sopK,sopV,extK,ne_eq,Nat.reduceEqDiff,Za,Zag,Zah,Zad,h2']
  exact h w1 _ [] hm1 (iter_none _)
 | false =>
  have h2':((boundsL queue n).1.toList == (⟨#[]⟩:ByteArray).toList)=false:=h2
  rw [if_neg (by simp [h2])] at h
  simp only [ZB,insVc,sopK,sopV,extK,invK,ne_eq,Nat.reduceEqDiff,reduceCtorEq,Zac,Zae,Zab,Za,Zag,Zah,h2']
  refine hpr (boundsL queue n).1 (boundsL queue n).2 w1 _ (St.keep0 hAt hm1) ?_
  intro w4 gf cap hm4 it
  simp only [ZB,insVc,Zae,Zab]
  refine F143.enter (args:=[_,_]) (by simp) ?_
  unfold c143 r143
  simp only [ZB,endK,resK,packed,insVc,Value.cells,ne_eq,Nat.reduceEqDiff,Zac,Zae,Zab,Za,Zag,Zad,Nat.reduceEqDiff]
  have hmR:Mod (fun _=>False) w4 ((w4.alloc (.cells #[.func (.func gf) #[] cap.toArray] 224)).alloc (.cells #[.func (.func 244) #[] #[]] 230)):=((Mod.refl _ _).alloc _).alloc _
  have z1:=hm1.size
  have z4:=hm4.size
  refine h _ _ [ptr w4.heap.size,ptr (w4.heap.size+1)] ((hm1.trans hm4).trans hmR) (iterP_mono (rowl_c St s _ gf cap w1.heap.size w4 it w4.heap.size (w4.heap.size+1) m hR) ?_)
  rintro u ⟨k1,k2,k3⟩
  refine ⟨k1,k2, ?_,k3.at ?_ (by omega),k3.at ?_ (by omega)⟩
  ·refine ⟨Nat.le_trans hmR.size k3.1,fun k h1 h2 => ?_⟩
   have:=hmR.size
   rw [k3.2 k (by omega) (by omega),hmR.get k h2 id]
  ·simp only [Zaa,Zaf,size_alloc,get_alloc,size_alloc,Zbi,Zaz]
  ·simp only [Zaa,Zaf,size_alloc,get_alloc,size_alloc,Zba,Zaz]
end Go.Oct
namespace Go.VrJ
open Go Go.Vc Go.Proofs.Tryz
set_option maxRecDepth 100000
noncomputable def c41:CC:=(.seq (.ops [⟨none,some 0,.mv (.const (.bool false))⟩])
 (.seq (.seq (.ops [⟨none,some 7,.call 54 []⟩,⟨none,some 8,.not (.tmp 7)⟩,mvt 9 8,⟨some (9,false),some 10,.call 55 []⟩,⟨some (9,false),some 11,.not (.tmp 10)⟩,⟨none,some 12,.pick (.tmp 9) (.const (.bool true)) (.tmp 11)⟩,mvt 13 12,⟨some (13,false),some 14,.call 56 []⟩,⟨some (13,false),some 15,.not (.tmp 14)⟩,⟨none,some 16,.pick (.tmp 13) (.const (.bool true)) (.tmp 15)⟩])
 (.cond (.tmp 16)
 (.seq (.ops [⟨none,some 0,.mv (.const (.bool false))⟩])
 .ret)
 .skip))
 (.seq (.ops [⟨none,some 17,.call 57 []⟩,mvt 1 17])
 (.seq (.ops [⟨none,some 18,.build [.string (.mk #[]),.int .u32 0,.int .u64 0,.int .u32 0,.string (.mk #[])] [(0,(1,.const (.string (.mk #[97]))))]⟩,⟨none,some 2,.alloc 121 (.agg #[.string (.mk #[]),.int .u32 0,.int .u64 0,.int .u32 0,.string (.mk #[])])⟩,⟨none,none,.storeN 5 (.tmp 2) (.tmp 18)⟩])
 (.seq (.ops [mvt 19 1,⟨none,some 20,.loadN 5 (.tmp 2)⟩,⟨none,some 21,.build [.int .i64 0,.string (.mk #[]),.int .u32 0,.int .u64 0,.int .u32 0,.string (.mk #[]),.string (.mk #[]),.int .i64 0,.string (.mk #[]),.string (.mk #[]),.string (.mk #[]),.string (.mk #[]),.string (.mk #[]),.int .u64 0,.int .u64 0,.int .u64 0,.int .u64 0,.bool false] [(0,(1,.const (.int .i64 1))),(1,(5,.tmp 20))]⟩,⟨none,some 22,.call 58 [.tmp 19,.tmp 21]⟩,⟨none,some 3,.alloc 52 (.agg #[.int .i64 0,.int .u64 0,.slice none 0 0,.slice none 0 0,.slice none 0 0,.slice none 0 0])⟩,⟨none,none,.storeN 6 (.tmp 3) (.tmp 22)⟩])
 (.seq (.ops [mvt 23 1,⟨none,some 24,.build [.int .i64 0,.string (.mk #[]),.int .u32 0,.int .u64 0,.int .u32 0,.string (.mk #[]),.string (.mk #[]),.int .i64 0,.string (.mk #[]),.string (.mk #[]),.string (.mk #[]),.string (.mk #[]),.string (.mk #[]),.int .u64 0,.int .u64 0,.int .u64 0,.int .u64 0,.bool false] [(0,(1,.const (.int .i64 5))),(11,(1,.const (.string (.mk #[97])))),(12,(1,.const (.string (.mk #[104,105]))))]⟩,⟨none,some 25,.call 58 [.tmp 23,.tmp 24]⟩,⟨none,some 4,.alloc 52 (.agg #[.int .i64 0,.int .u64 0,.slice none 0 0,.slice none 0 0,.slice none 0 0,.slice none 0 0])⟩,⟨none,none,.storeN 6 (.tmp 4) (.tmp 25)⟩])
 (.seq (.ops [mvt 26 1,⟨none,some 27,.loadN 5 (.tmp 2)⟩,⟨none,some 28,.build [.int .i64 0,.string (.mk #[]),.int .u32 0,.int .u64 0,.int .u32 0,.string (.mk #[]),.string (.mk #[]),.int .i64 0,.string (.mk #[]),.string (.mk #[]),.string (.mk #[]),.string (.mk #[]),.string (.mk #[]),.int .u64 0,.int .u64 0,.int .u64 0,.int .u64 0,.bool false] [(0,(1,.const (.int .i64 6))),(1,(5,.tmp 27)),(15,(1,.const (.int .u64 1))),(16,(1,.const (.int .u64 5)))]⟩,⟨none,some 29,.call 58 [.tmp 26,.tmp 28]⟩,⟨none,some 5,.alloc 52 (.agg #[.int .i64 0,.int .u64 0,.slice none 0 0,.slice none 0 0,.slice none 0 0,.slice none 0 0])⟩,⟨none,none,.storeN 6 (.tmp 5) (.tmp 29)⟩])
 (.seq (.ops [mvt 30 1,⟨none,some 31,.loadN 5 (.tmp 2)⟩,⟨none,some 32,.build [.int .i64 0,.string (.mk #[]),.int .u32 0,.int .u64 0,.int .u32 0,.string (.mk #[]),.string (.mk #[]),.int .i64 0,.string (.mk #[]),.string (.mk #[]),.string (.mk #[]),.string (.mk #[]),.string (.mk #[]),.int .u64 0,.int .u64 0,.int .u64 0,.int .u64 0,.bool false] [(0,(1,.const (.int .i64 7))),(1,(5,.tmp 31)),(13,(1,.const (.int .u64 1))),(14,(1,.const (.int .u64 1)))]⟩,⟨none,some 33,.call 58 [.tmp 30,.tmp 32]⟩,⟨none,some 6,.alloc 52 (.agg #[.int .i64 0,.int .u64 0,.slice none 0 0,.slice none 0 0,.slice none 0 0,.slice none 0 0])⟩,⟨none,none,.storeN 6 (.tmp 6) (.tmp 33)⟩])
 (.seq (.ops [⟨none,some 34,.faddr 0 (.tmp 3)⟩,⟨none,some 35,.load1 (.tmp 34)⟩,⟨none,some 36,.iop .eql (.tmp 35) (.const (.int .i64 0))⟩,mvt 37 36,⟨some (37,true),some 38,.faddr 0 (.tmp 4)⟩,⟨some (37,true),some 39,.load1 (.tmp 38)⟩,⟨some (37,true),some 40,.iop .eql (.tmp 39) (.const (.int .i64 0))⟩,⟨none,some 41,.pick (.tmp 37) (.tmp 40) (.const (.bool false))⟩,mvt 42 41,⟨some (42,true),some 43,.faddr 2 (.tmp 4)⟩,⟨some (42,true),some 44,.load1 (.tmp 43)⟩,⟨some (42,true),some 45,.lenL (.tmp 44)⟩,⟨some (42,true),some 46,.iop .eql (.tmp 45) (.const (.int .i64 1))⟩,⟨none,some 47,.pick (.tmp 42) (.tmp 46) (.const (.bool false))⟩,mvt 48 47,⟨some (48,true),some 49,.faddr 2 (.tmp 4)⟩,⟨some (48,true),some 50,.load1 (.tmp 49)⟩,⟨some (48,true),some 51,.iaddr 1 (.tmp 50) (.const (.int .i64 0))⟩,⟨some (48,true),some 52,.load1 (.tmp 51)⟩,⟨some (48,true),some 53,.iop .eql (.tmp 52) (.const (.int .u64 1))⟩,⟨none,some 54,.pick (.tmp 48) (.tmp 53) (.const (.bool false))⟩,mvt 55 54,⟨some (55,true),some 56,.faddr 5 (.tmp 5)⟩,⟨some (55,true),some 57,.load1 (.tmp 56)⟩,⟨some (55,true),some 58,.lenL (.tmp 57)⟩,⟨some (55,true),some 59,.iop .eql (.tmp 58) (.const (.int .i64 1))⟩,⟨none,some 60,.pick (.tmp 55) (.tmp 59) (.const (.bool false))⟩,mvt 61 60,⟨some (61,true),some 62,.faddr 5 (.tmp 5)⟩,⟨some (61,true),some 63,.load1 (.tmp 62)⟩,⟨some (61,true),some 64,.iaddr 5 (.tmp 63) (.const (.int .i64 0))⟩,⟨some (61,true),some 65,.faddr 2 (.tmp 64)⟩,⟨some (61,true),some 66,.load1 (.tmp 65)⟩,⟨some (61,true),some 67,.iop .eql (.tmp 66) (.const (.int .u32 1))⟩,⟨none,some 68,.pick (.tmp 61) (.tmp 67) (.const (.bool false))⟩,mvt 69 68,⟨some (69,true),some 70,.faddr 0 (.tmp 6)⟩,⟨some (69,true),some 71,.load1 (.tmp 70)⟩,⟨some (69,true),some 72,.iop .eql (.tmp 71) (.const (.int .i64 0))⟩,⟨none,some 73,.pick (.tmp 69) (.tmp 72) (.const (.bool false))⟩,mvt 0 73])
 .ret)))))))))
abbrev r41:List RV:=[(.tmp 0)]
theorem F41:FnOk prog 41 74 c41 r41:=FnOk.o func41
noncomputable def c57:CC:=(.seq (.ops [⟨none,some 0,.mv (.const (.pointer none))⟩])
 (.seq (.ops [⟨none,some 1,.call 72 [.const (.slice none 0 0)]⟩,⟨none,some 2,.mkI 134 (.tmp 1)⟩,⟨none,some 3,.call 73 []⟩,⟨none,some 4,.build [.nilIface,.nilFunc,.slice none 0 0,.int .u64 0] [(0,(1,.tmp 2)),(1,(2,.tmp 3))]⟩,⟨none,some 5,.box 144 (.tmp 4)⟩,mvt 0 5])
 .ret))
abbrev r57:List RV:=[(.tmp 0)]
theorem F57:FnOk prog 57 6 c57 r57:=FnOk.o func57
noncomputable def c58:CC:=(.seq (.ops [⟨none,some 3,.box 126 (.tmp 1)⟩,⟨none,some 4,.alloc 52 (.agg #[.int .i64 0,.int .u64 0,.slice none 0 0,.slice none 0 0,.slice none 0 0,.slice none 0 0])⟩])
 (.seq (.seq (.ops [⟨none,some 10,.loadN 18 (.tmp 3)⟩,⟨none,some 11,.call 74 [.tmp 10]⟩,mvt 9 11,⟨none,some 12,.ext (.tmp 9) 0⟩,⟨none,some 13,.ext (.tmp 9) 1⟩,mvt 5 12,mvt 6 13])
 (.seq (.ops [mvt 14 6,⟨none,some 15,.iop .neq (.tmp 14) (.const (.int .i64 0))⟩])
 (.cond (.tmp 15)
 (.seq (.ops [mvt 16 6,⟨none,some 17,.build [.int .i64 0,.int .u64 0,.slice none 0 0,.slice none 0 0,.slice none 0 0,.slice none 0 0] [(0,(1,.tmp 16))]⟩,⟨none,none,.storeN 6 (.tmp 4) (.tmp 17)⟩])
 .ret)
 .skip)))
 (.seq (.ops [⟨none,some 7,.alloc 52 (.agg #[.int .i64 0,.int .u64 0,.slice none 0 0,.slice none 0 0,.slice none 0 0,.slice none 0 0])⟩])
 (.seq (.seq (.ops [mvt 18 0,⟨none,some 19,.loadN 18 (.tmp 3)⟩,⟨none,some 20,.call 75 [.tmp 18,.tmp 19,.tmp 7]⟩,mvt 8 20])
 (.seq (.ops [mvt 21 8,⟨none,some 22,.iop .neq (.tmp 21) (.const (.int .i64 0))⟩])
 (.cond (.tmp 22)
 (.seq (.ops [mvt 23 8,⟨none,some 24,.build [.int .i64 0,.int .u64 0,.slice none 0 0,.slice none 0 0,.slice none 0 0,.slice none 0 0] [(0,(1,.tmp 23))]⟩,⟨none,none,.storeN 6 (.tmp 4) (.tmp 24)⟩])
 .ret)
 .skip)))
 (.seq (.ops [⟨none,some 25,.loadN 6 (.tmp 7)⟩,⟨none,none,.storeN 6 (.tmp 4) (.tmp 25)⟩])
 .ret)))))
abbrev r58:List RV:=[(.cN 4 6)]
theorem F58:FnOk prog 58 26 c58 r58:=FnOk.o func58
noncomputable def c75:CC:=(.seq (.ops [⟨none,some 4,.box 126 (.tmp 1)⟩,⟨none,some 6,.mv (.const (.int .i64 0))⟩])
 (.seq (.seq (.ops [⟨none,some 10,.faddr 0 (.tmp 4)⟩,⟨none,some 11,.load1 (.tmp 10)⟩])
 (.block 0
 (.seq (.ops [⟨none,some 13,.iop .eql (.tmp 11) (.const (.int .i64 1))⟩,mvt 12 13])
 (.cond (.tmp 12)
 (.seq (.draw 3 (opsOf (sub (bodyOf f75) [1,0,1,0,1,0,0])) [mvt 14 0,⟨none,some 15,.nilc (.tmp 14)⟩,⟨none,some 16,.faddr 0 (.tmp 15)⟩,⟨none,some 17,.load1 (.tmp 16)⟩,⟨none,some 18,.faddr 1 (.tmp 4)⟩,⟨none,some 19,.loadN 5 (.tmp 18)⟩,⟨none,some 20,.call 98 [.tmp 17,.tmp 19]⟩,mvt 6 20])
 .ret)
 (.seq (.ops [⟨none,some 22,.iop .eql (.tmp 11) (.const (.int .i64 3))⟩,mvt 21 22])
 (.cond (.tmp 21)
 (.seq (.draw 5 (opsOf (sub (bodyOf f75) [1,0,1,0,1,1,1,0,0])) [mvt 23 0,⟨none,some 24,.nilc (.tmp 23)⟩,⟨none,some 25,.faddr 0 (.tmp 24)⟩,⟨none,some 26,.load1 (.tmp 25)⟩,⟨none,some 27,.faddr 6 (.tmp 4)⟩,⟨none,some 28,.loadN 4 (.tmp 27)⟩,⟨none,some 29,.call 99 [.tmp 26,.tmp 28]⟩,mvt 6 29])
 .ret)
 (.seq (.ops [⟨none,some 31,.iop .eql (.tmp 11) (.const (.int .i64 4))⟩,mvt 30 31])
 (.cond (.tmp 30)
 (.seq (.draw 7 (opsOf (sub (bodyOf f75) [1,0,1,0,1,1,1,1,1,0,0])) [mvt 32 0,⟨none,some 33,.nilc (.tmp 32)⟩,⟨none,some 34,.faddr 0 (.tmp 33)⟩,⟨none,some 35,.load1 (.tmp 34)⟩,⟨none,some 36,.faddr 6 (.tmp 4)⟩,⟨none,some 37,.loadN 4 (.tmp 36)⟩,⟨none,some 38,.call 100 [.tmp 35,.tmp 37]⟩,mvt 6 38])
 .ret)
 (.seq (.ops [⟨none,some 40,.iop .eql (.tmp 11) (.const (.int .i64 5))⟩,mvt 39 40])
 (.cond (.tmp 39)
 (.seq (.ops [mvt 41 0,⟨none,some 42,.loadN 18 (.tmp 4)⟩,mvt 43 2,⟨none,some 44,.call 101 [.tmp 41,.tmp 42,.tmp 43]⟩,mvt 6 44])
 .ret)
 (.seq (.seq (.ops [⟨none,some 46,.iop .eql (.tmp 11) (.const (.int .i64 7))⟩,mvt 45 46])
 (.cond (.tmp 45)
 .skip
 (.seq (.ops [⟨none,some 47,.iop .eql (.tmp 11) (.const (.int .i64 8))⟩,mvt 45 47])
 (.cond (.tmp 45)
 .skip
 (.ops [⟨none,some 48,.iop .eql (.tmp 11) (.const (.int .i64 9))⟩,mvt 45 48])))))
 (.cond (.tmp 45)
 (.seq (.ops [mvt 49 0,⟨none,some 50,.loadN 18 (.tmp 4)⟩,mvt 51 2,⟨none,some 52,.call 102 [.tmp 49,.tmp 50,.tmp 51]⟩,mvt 6 52])
 .ret)
 (.seq (.ops [⟨none,some 54,.iop .eql (.tmp 11) (.const (.int .i64 11))⟩,mvt 53 54])
 (.cond (.tmp 53)
 (.seq (.ops [mvt 55 0,⟨none,some 56,.loadN 18 (.tmp 4)⟩,mvt 57 2,⟨none,some 58,.call 103 [.tmp 55,.tmp 56,.tmp 57]⟩,mvt 6 58])
 .ret)
 .skip))))))))))))))
 (.seq (.draw 16 (opsOf (sub (bodyOf f75) [1,1,0])) [mvt 60 0,⟨none,some 61,.nilc (.tmp 60)⟩,⟨none,some 62,.faddr 0 (.tmp 61)⟩,⟨none,some 63,.load1 (.tmp 62)⟩,⟨none,some 64,.faddr 1 (.tmp 4)⟩,⟨none,some 65,.faddr 0 (.tmp 64)⟩,⟨none,some 66,.load1 (.tmp 65)⟩,⟨none,some 67,.call 104 [.tmp 63,.tmp 66]⟩,mvt 59 67,⟨none,some 68,.ext (.tmp 59) 0⟩,⟨none,some 69,.ext (.tmp 59) 1⟩,⟨none,some 7,.alloc 121 (.agg #[.string (.mk #[]),.int .u32 0,.int .u64 0,.int .u32 0,.string (.mk #[])])⟩,⟨none,none,.storeN 5 (.tmp 7) (.tmp 68)⟩,mvt 8 69])
 (.seq (.seq (.ops [mvt 70 8,⟨none,some 71,.iop .neq (.tmp 70) (.const (.int .i64 0))⟩])
 (.cond (.tmp 71)
 (.seq (.ops [mvt 72 8,mvt 6 72])
 .ret)
 .skip))
 (.seq (.seq (.ops [⟨none,some 73,.faddr 0 (.tmp 4)⟩,⟨none,some 74,.load1 (.tmp 73)⟩])
 (.block 1
 (.seq (.ops [⟨none,some 76,.iop .eql (.tmp 74) (.const (.int .i64 6))⟩,mvt 75 76])
 (.cond (.tmp 75)
 (.seq (.ops [mvt 77 0,⟨none,some 78,.loadN 5 (.tmp 7)⟩,⟨none,some 79,.loadN 18 (.tmp 4)⟩,mvt 80 2,⟨none,some 81,.call 105 [.tmp 77,.tmp 78,.tmp 79,.tmp 80]⟩,mvt 6 81])
 .ret)
 (.seq (.ops [⟨none,some 83,.iop .eql (.tmp 74) (.const (.int .i64 12))⟩,mvt 82 83])
 (.cond (.tmp 82)
 (.seq (.ops [mvt 84 0,⟨none,some 85,.loadN 5 (.tmp 7)⟩,mvt 86 2,⟨none,some 87,.call 106 [.tmp 84,.tmp 85,.tmp 86]⟩,mvt 6 87])
 .ret)
 (.seq (.ops [⟨none,some 89,.iop .eql (.tmp 74) (.const (.int .i64 13))⟩,mvt 88 89])
 (.cond (.tmp 88)
 (.seq (.ops [mvt 90 0,⟨none,some 91,.loadN 5 (.tmp 7)⟩,⟨none,some 92,.loadN 18 (.tmp 4)⟩,mvt 93 2,⟨none,some 94,.call 107 [.tmp 90,.tmp 91,.tmp 92,.tmp 93]⟩,mvt 6 94])
 .ret)
 .skip))))))))
 (.seq (.seq (.ops [mvt 95 0,⟨none,some 96,.loadN 5 (.tmp 7)⟩,mvt 97 2,⟨none,some 98,.call 108 [.tmp 95,.tmp 96,.tmp 97]⟩,mvt 9 98])
 (.seq (.ops [mvt 99 9,⟨none,some 100,.iop .neq (.tmp 99) (.const (.int .i64 0))⟩,mvt 101 100,⟨some (101,false),some 102,.faddr 0 (.tmp 4)⟩,⟨some (101,false),some 103,.load1 (.tmp 102)⟩,⟨some (101,false),some 104,.iop .eql (.tmp 103) (.const (.int .i64 10))⟩,⟨none,some 105,.pick (.tmp 101) (.const (.bool true)) (.tmp 104)⟩])
 (.cond (.tmp 105)
 (.seq (.ops [mvt 106 9,mvt 6 106])
 .ret)
 .skip)))
 (.seq (.draw 29 (opsOf (sub (bodyOf f75) [1,1,1,1,1,1,0])) [mvt 107 0,⟨none,some 108,.nilc (.tmp 107)⟩,⟨none,some 109,.faddr 0 (.tmp 108)⟩,⟨none,some 110,.load1 (.tmp 109)⟩,⟨none,some 111,.faddr 0 (.tmp 7)⟩,⟨none,some 112,.load1 (.tmp 111)⟩,⟨none,some 113,.call 109 [.tmp 110,.tmp 112]⟩,mvt 6 113])
 .ret)))))))
abbrev r75:List RV:=[(.tmp 6)]
theorem F75:FnOk prog 75 114 c75 r75:=FnOk.o func75
noncomputable def c28:CC:=(.seq (.ops [⟨none,some 0,.mv (.const (.bool false))⟩])
 (.seq (.ops [⟨none,some 1,.call 41 []⟩,mvt 0 1])
 .ret))
abbrev r28:List RV:=[(.tmp 0)]
theorem F28:FnOk prog 28 2 c28 r28:=FnOk.o func28
noncomputable def c101:CC:=(.seq (.ops [⟨none,some 4,.box 126 (.tmp 1)⟩,⟨none,some 6,.mv (.const (.int .i64 0))⟩])
 (.seq (.seq (.ops [⟨none,some 12,.faddr 16 (.tmp 4)⟩,⟨none,some 13,.load1 (.tmp 12)⟩,⟨none,some 14,.iop .gtr (.tmp 13) (.const (.int .u64 1099511627776))⟩])
 (.cond (.tmp 14)
 (.seq (.ops [⟨none,some 6,.mv (.const (.int .i64 29))⟩])
 .ret)
 .skip))
 (.seq (.draw 3 (opsOf (sub (bodyOf f101) [1,1,0])) [mvt 16 0,⟨none,some 17,.nilc (.tmp 16)⟩,⟨none,some 18,.faddr 0 (.tmp 17)⟩,⟨none,some 19,.load1 (.tmp 18)⟩,⟨none,some 20,.faddr 10 (.tmp 4)⟩,⟨none,some 21,.load1 (.tmp 20)⟩,⟨none,some 22,.faddr 11 (.tmp 4)⟩,⟨none,some 23,.load1 (.tmp 22)⟩,⟨none,some 24,.call 168 [.tmp 19,.tmp 21,.tmp 23]⟩,mvt 15 24,⟨none,some 25,.ext (.tmp 15) 0⟩,⟨none,some 26,.ext (.tmp 15) 1⟩,mvt 7 25,mvt 8 26])
 (.seq (.seq (.ops [mvt 27 7,⟨none,some 28,.lenL (.tmp 27)⟩,⟨none,some 29,.mv (.const (.int .i64 0))⟩])
 (.block 0
 (.loop
 (.seq (.ops [⟨none,some 30,.iop .lss (.tmp 29) (.tmp 28)⟩])
 (.seq (.cond (.tmp 30)
 .skip
 (.exit 0))
 (.seq (.block 1
 (.seq (.ops [⟨none,some 31,.iaddr 1 (.tmp 27) (.tmp 29)⟩,⟨none,some 32,.load1 (.tmp 31)⟩,mvt 10 32])
 (.seq (.ops [mvt 33 0,mvt 34 10,⟨none,some 35,.faddr 12 (.tmp 4)⟩,⟨none,some 36,.load1 (.tmp 35)⟩,⟨none,some 37,.faddr 16 (.tmp 4)⟩,⟨none,some 38,.load1 (.tmp 37)⟩,mvt 39 2,⟨none,some 40,.call 169 [.tmp 33,.tmp 34,.tmp 36,.tmp 38,.tmp 39]⟩,mvt 11 40])
 (.seq (.ops [mvt 41 11,⟨none,some 42,.iop .neq (.tmp 41) (.const (.int .i64 0))⟩])
 (.cond (.tmp 42)
 (.seq (.ops [mvt 43 11,mvt 6 43])
 .ret)
 .skip)))))
 (.ops [⟨none,some 44,.iop .add (.tmp 29) (.const (.int .i64 1))⟩,mvt 29 44])))))))
 (.seq (.ops [mvt 45 8,mvt 6 45])
 .ret)))))
abbrev r101:List RV:=[(.tmp 6)]
theorem F101:FnOk prog 101 46 c101 r101:=FnOk.o func101
noncomputable def c102:CC:=(.seq (.ops [⟨none,some 4,.box 126 (.tmp 1)⟩,⟨none,some 6,.mv (.const (.int .i64 0))⟩])
 (.seq (.draw 1 (opsOf (sub (bodyOf f102) [1,0])) [mvt 10 0,⟨none,some 11,.nilc (.tmp 10)⟩,⟨none,some 12,.faddr 0 (.tmp 11)⟩,⟨none,some 13,.load1 (.tmp 12)⟩,⟨none,some 14,.faddr 1 (.tmp 4)⟩,⟨none,some 15,.faddr 0 (.tmp 14)⟩,⟨none,some 16,.load1 (.tmp 15)⟩,⟨none,some 17,.faddr 13 (.tmp 4)⟩,⟨none,some 18,.load1 (.tmp 17)⟩,⟨none,some 19,.call 145 [.tmp 13,.tmp 16,.tmp 18]⟩,mvt 9 19,⟨none,some 20,.ext (.tmp 9) 0⟩,⟨none,some 21,.ext (.tmp 9) 1⟩,⟨none,some 7,.alloc 128 (.agg #[.string (.mk #[]),.int .u64 0,.int .u32 0,.int .u64 0,.string (.mk #[])])⟩,⟨none,none,.storeN 5 (.tmp 7) (.tmp 20)⟩,mvt 8 21])
 (.seq (.block 0
 (.seq (.ops [mvt 23 8,⟨none,some 24,.iop .neq (.tmp 23) (.const (.int .i64 0))⟩,mvt 22 24])
 (.cond (.tmp 22)
 (.seq (.ops [mvt 25 8,mvt 6 25])
 .ret)
 (.seq (.ops [mvt 27 0,⟨none,some 28,.loadN 5 (.tmp 7)⟩,⟨none,some 29,.call 170 [.tmp 27,.tmp 28]⟩,⟨none,some 30,.not (.tmp 29)⟩,mvt 31 30,⟨some (31,false),some 32,.faddr 2 (.tmp 7)⟩,⟨some (31,false),some 33,.load1 (.tmp 32)⟩,⟨some (31,false),some 34,.conv .u64 (.tmp 33)⟩,⟨some (31,false),some 35,.faddr 14 (.tmp 4)⟩,⟨some (31,false),some 36,.load1 (.tmp 35)⟩,⟨some (31,false),some 37,.iop .neq (.tmp 34) (.tmp 36)⟩,⟨none,some 38,.pick (.tmp 31) (.const (.bool true)) (.tmp 37)⟩,mvt 26 38])
 (.cond (.tmp 26)
 (.seq (.ops [⟨none,some 6,.mv (.const (.int .i64 25))⟩])
 .ret)
 .skip)))))
 (.seq (.seq (.ops [⟨none,some 39,.faddr 0 (.tmp 4)⟩,⟨none,some 40,.load1 (.tmp 39)⟩])
 (.block 1
 (.seq (.ops [⟨none,some 42,.iop .eql (.tmp 40) (.const (.int .i64 9))⟩,mvt 41 42])
 (.cond (.tmp 41)
 (.seq (.seq (.ops [⟨none,some 43,.faddr 16 (.tmp 4)⟩,⟨none,some 44,.load1 (.tmp 43)⟩,⟨none,some 45,.call 171 [.tmp 44,.const (.int .u64 1099511627776)]⟩,⟨none,some 46,.not (.tmp 45)⟩])
 (.cond (.tmp 46)
 (.seq (.ops [⟨none,some 6,.mv (.const (.int .i64 2))⟩])
 .ret)
 .skip))
 (.seq (.draw 10 (opsOf (sub (bodyOf f102) [1,1,1,0,1,0,1,0,1,0])) [mvt 47 0,mvt 48 0,⟨none,some 49,.nilc (.tmp 48)⟩,⟨none,some 50,.faddr 1 (.tmp 49)⟩,⟨none,some 51,.loadN 2 (.tmp 50)⟩,⟨none,some 52,.loadN 5 (.tmp 7)⟩,⟨none,some 53,.call 172 [.tmp 52]⟩,mvt 54 0,⟨none,some 55,.nilc (.tmp 54)⟩,⟨none,some 56,.faddr 3 (.tmp 55)⟩,⟨none,some 57,.load1 (.tmp 56)⟩,⟨none,some 58,.faddr 16 (.tmp 4)⟩,⟨none,some 59,.load1 (.tmp 58)⟩,⟨none,some 60,.iop .add (.tmp 57) (.tmp 59)⟩,⟨none,some 61,.call 87 [.tmp 51,.tmp 53,.tmp 60]⟩,⟨none,some 62,.nilc (.tmp 47)⟩,⟨none,some 63,.faddr 1 (.tmp 62)⟩,⟨none,none,.storeN 2 (.tmp 63) (.tmp 61)⟩])
 (.seq (.ops [⟨none,some 6,.mv (.const (.int .i64 0))⟩])
 .ret)))
 (.seq (.ops [⟨none,some 65,.iop .eql (.tmp 40) (.const (.int .i64 8))⟩,mvt 64 65])
 (.cond (.tmp 64)
 (.seq (.draw 13 (opsOf (sub (bodyOf f102) [1,1,1,0,1,0,1,1,1,0,0])) [mvt 66 0,mvt 67 0,⟨none,some 68,.nilc (.tmp 67)⟩,⟨none,some 69,.faddr 1 (.tmp 68)⟩,⟨none,some 70,.loadN 2 (.tmp 69)⟩,⟨none,some 71,.loadN 5 (.tmp 7)⟩,⟨none,some 72,.call 172 [.tmp 71]⟩,⟨none,some 73,.call 146 [.tmp 70,.tmp 72]⟩,⟨none,some 74,.nilc (.tmp 66)⟩,⟨none,some 75,.faddr 1 (.tmp 74)⟩,⟨none,none,.storeN 2 (.tmp 75) (.tmp 73)⟩])
 (.seq (.seq (.ops [⟨none,some 76,.faddr 17 (.tmp 4)⟩,⟨none,some 77,.load1 (.tmp 76)⟩])
 (.cond (.tmp 77)
 (.seq (.ops [mvt 78 0,⟨none,some 79,.loadN 5 (.tmp 7)⟩,mvt 80 2,⟨none,some 81,.call 173 [.tmp 78,.tmp 79,.tmp 80]⟩,mvt 6 81])
 .ret)
 .skip))
 (.seq (.ops [⟨none,some 6,.mv (.const (.int .i64 0))⟩])
 .ret)))
 .skip))))))
 (.seq (.draw 17 (opsOf (sub (bodyOf f102) [1,1,1,1,0])) [mvt 82 0,mvt 83 0,⟨none,some 84,.nilc (.tmp 83)⟩,⟨none,some 85,.faddr 1 (.tmp 84)⟩,⟨none,some 86,.loadN 2 (.tmp 85)⟩,⟨none,some 87,.loadN 5 (.tmp 7)⟩,⟨none,some 88,.call 172 [.tmp 87]⟩,⟨none,some 89,.call 146 [.tmp 86,.tmp 88]⟩,⟨none,some 90,.nilc (.tmp 82)⟩,⟨none,some 91,.faddr 1 (.tmp 90)⟩,⟨none,none,.storeN 2 (.tmp 91) (.tmp 89)⟩])
 (.seq (.draw 18 (opsOf (sub (bodyOf f102) [1,1,1,1,1,0])) [mvt 93 0,⟨none,some 94,.nilc (.tmp 93)⟩,⟨none,some 95,.faddr 0 (.tmp 94)⟩,⟨none,some 96,.load1 (.tmp 95)⟩,⟨none,some 97,.faddr 0 (.tmp 7)⟩,⟨none,some 98,.load1 (.tmp 97)⟩,⟨none,some 99,.faddr 1 (.tmp 7)⟩,⟨none,some 100,.load1 (.tmp 99)⟩,⟨none,some 101,.call 174 [.tmp 96,.tmp 98,.tmp 100]⟩,mvt 92 101,⟨none,some 102,.ext (.tmp 92) 0⟩,⟨none,some 103,.ext (.tmp 92) 1⟩,mvt 8 103])
 (.seq (.ops [mvt 104 8,mvt 6 104])
 .ret)))))))
abbrev r102:List RV:=[(.tmp 6)]
theorem F102:FnOk prog 102 105 c102 r102:=FnOk.o func102
noncomputable def c105:CC:=(.seq (.ops [⟨none,some 5,.box 121 (.tmp 1)⟩,⟨none,some 6,.box 126 (.tmp 2)⟩,⟨none,some 8,.mv (.const (.int .i64 0))⟩])
 (.seq (.seq (.ops [⟨none,some 14,.faddr 15 (.tmp 6)⟩,⟨none,some 15,.load1 (.tmp 14)⟩,⟨none,some 16,.call 171 [.tmp 15,.const (.int .u64 32)]⟩,⟨none,some 17,.not (.tmp 16)⟩,mvt 18 17,⟨some (18,false),some 19,.faddr 16 (.tmp 6)⟩,⟨some (18,false),some 20,.load1 (.tmp 19)⟩,⟨some (18,false),some 21,.call 171 [.tmp 20,.const (.int .u64 1099511627776)]⟩,⟨some (18,false),some 22,.not (.tmp 21)⟩,⟨none,some 23,.pick (.tmp 18) (.const (.bool true)) (.tmp 22)⟩])
 (.cond (.tmp 23)
 (.seq (.ops [⟨none,some 8,.mv (.const (.int .i64 2))⟩])
 .ret)
 .skip))
 (.seq (.ops [mvt 25 0,⟨none,some 26,.faddr 0 (.tmp 5)⟩,⟨none,some 27,.load1 (.tmp 26)⟩,⟨none,some 28,.call 176 [.tmp 25,.tmp 27]⟩,mvt 24 28,⟨none,some 29,.ext (.tmp 24) 0⟩,⟨none,some 30,.ext (.tmp 24) 1⟩,mvt 9 29,mvt 10 30])
 (.seq (.seq (.ops [mvt 31 9,⟨none,some 32,.lenL (.tmp 31)⟩,⟨none,some 33,.mv (.const (.int .i64 0))⟩])
 (.block 0
 (.loop
 (.seq (.ops [⟨none,some 34,.iop .lss (.tmp 33) (.tmp 32)⟩])
 (.seq (.cond (.tmp 34)
 .skip
 (.exit 0))
 (.seq (.block 1
 (.seq (.ops [⟨none,some 35,.iaddr 5 (.tmp 31) (.tmp 33)⟩,⟨none,some 36,.loadN 5 (.tmp 35)⟩,⟨none,some 12,.alloc 128 (.agg #[.string (.mk #[]),.int .u64 0,.int .u32 0,.int .u64 0,.string (.mk #[])])⟩,⟨none,none,.storeN 5 (.tmp 12) (.tmp 36)⟩])
 (.seq (.seq (.draw 7 (opsOf (sub (bodyOf f105) [1,1,1,0,1,0,0,1,1,0,0,1,0,0])) [mvt 37 3,⟨none,some 38,.nilc (.tmp 37)⟩,⟨none,some 39,.faddr 5 (.tmp 38)⟩,⟨none,some 40,.load1 (.tmp 39)⟩,⟨none,some 41,.lenL (.tmp 40)⟩,⟨none,some 42,.conv .u64 (.tmp 41)⟩,⟨none,some 43,.faddr 15 (.tmp 6)⟩,⟨none,some 44,.load1 (.tmp 43)⟩,⟨none,some 45,.iop .eql (.tmp 42) (.tmp 44)⟩])
 (.cond (.tmp 45)
 (.exit 0)
 .skip))
 (.seq (.seq (.ops [mvt 46 0,⟨none,some 47,.loadN 5 (.tmp 12)⟩,⟨none,some 48,.call 170 [.tmp 46,.tmp 47]⟩])
 (.cond (.tmp 48)
 (.exit 1)
 .skip))
 (.seq (.ops [mvt 49 0,⟨none,some 50,.loadN 5 (.tmp 5)⟩,⟨none,some 51,.loadN 5 (.tmp 12)⟩,⟨none,some 52,.faddr 16 (.tmp 6)⟩,⟨none,some 53,.load1 (.tmp 52)⟩,mvt 54 3,⟨none,some 55,.call 177 [.tmp 49,.tmp 50,.tmp 51,.tmp 53,.tmp 54]⟩,mvt 13 55])
 (.seq (.ops [mvt 56 13,⟨none,some 57,.iop .neq (.tmp 56) (.const (.int .i64 0))⟩])
 (.cond (.tmp 57)
 (.seq (.ops [mvt 58 13,mvt 8 58])
 .ret)
 .skip)))))))
 (.ops [⟨none,some 59,.iop .add (.tmp 33) (.const (.int .i64 1))⟩,mvt 33 59])))))))
 (.seq (.ops [mvt 60 10,mvt 8 60])
 .ret)))))
abbrev r105:List RV:=[(.tmp 8)]
theorem F105:FnOk prog 105 61 c105 r105:=FnOk.o func105
noncomputable def c169:CC:=(.seq (.ops [⟨none,some 10,.mv (.const (.int .i64 0))⟩])
 (.seq (.ops [mvt 16 0,⟨none,some 17,.nilc (.tmp 16)⟩,⟨none,some 18,.faddr 0 (.tmp 17)⟩,⟨none,some 19,.load1 (.tmp 18)⟩,mvt 20 1,⟨none,some 21,.call 104 [.tmp 19,.tmp 20]⟩,mvt 15 21,⟨none,some 22,.ext (.tmp 15) 0⟩,⟨none,some 23,.ext (.tmp 15) 1⟩,⟨none,some 11,.alloc 121 (.agg #[.string (.mk #[]),.int .u32 0,.int .u64 0,.int .u32 0,.string (.mk #[])])⟩,⟨none,none,.storeN 5 (.tmp 11) (.tmp 22)⟩,mvt 12 23])
 (.seq (.seq (.ops [mvt 24 12,⟨none,some 25,.iop .neq (.tmp 24) (.const (.int .i64 0))⟩])
 (.cond (.tmp 25)
 (.seq (.ops [mvt 26 12,mvt 10 26])
 .ret)
 .skip))
 (.seq (.ops [mvt 28 0,⟨none,some 29,.loadN 5 (.tmp 11)⟩,mvt 30 4,⟨none,some 31,.call 234 [.tmp 28,.tmp 29,.tmp 30]⟩,mvt 27 31,⟨none,some 32,.ext (.tmp 27) 0⟩,⟨none,some 33,.ext (.tmp 27) 1⟩,mvt 13 32,mvt 12 33])
 (.seq (.seq (.ops [mvt 34 12,⟨none,some 35,.iop .neq (.tmp 34) (.const (.int .i64 0))⟩,mvt 36 35,⟨some (36,false),some 37,.mv (.tmp 13)⟩,⟨some (36,false),some 38,.not (.tmp 37)⟩,⟨none,some 39,.pick (.tmp 36) (.const (.bool true)) (.tmp 38)⟩])
 (.cond (.tmp 39)
 (.seq (.ops [mvt 40 12,mvt 10 40])
 .ret)
 .skip))
 (.seq (.ops [mvt 42 0,⟨none,some 43,.nilc (.tmp 42)⟩,⟨none,some 44,.faddr 0 (.tmp 43)⟩,⟨none,some 45,.load1 (.tmp 44)⟩,⟨none,some 46,.call 235 [.tmp 45,.const (.string (.mk #[105,100]))]⟩,mvt 41 46,⟨none,some 47,.ext (.tmp 41) 0⟩,⟨none,some 48,.ext (.tmp 41) 1⟩,mvt 14 47,mvt 12 48])
 (.seq (.seq (.ops [mvt 49 12,⟨none,some 50,.iop .neq (.tmp 49) (.const (.int .i64 0))⟩])
 (.cond (.tmp 50)
 (.seq (.ops [mvt 51 12,mvt 10 51])
 .ret)
 .skip))
 (.seq (.ops [mvt 52 4,⟨none,some 53,.nilc (.tmp 52)⟩,⟨none,some 54,.faddr 1 (.tmp 53)⟩,⟨none,some 55,.load1 (.tmp 54)⟩,⟨none,some 56,.iop .add (.tmp 55) (.const (.int .u64 1))⟩,⟨none,some 57,.nilc (.tmp 52)⟩,⟨none,some 58,.faddr 1 (.tmp 57)⟩,⟨none,none,.store1 (.tmp 58) (.tmp 56)⟩])
 (.seq (.ops [mvt 59 4,mvt 60 4,⟨none,some 61,.nilc (.tmp 60)⟩,⟨none,some 62,.faddr 2 (.tmp 61)⟩,⟨none,some 63,.load1 (.tmp 62)⟩,mvt 64 14,⟨none,some 65,.buildS 27 1 [.int .u64 0] [(0,(1,.tmp 64))]⟩,⟨none,some 66,.raw 82 (.mk (some 66) (.call (.mk (.builtin .append) #[.tmp 63,.tmp 65] #[49,49])) 49 "broker.go:104" #[.mk 4 .data,.mk 6 .data] none)⟩,⟨none,some 67,.nilc (.tmp 59)⟩,⟨none,some 68,.faddr 2 (.tmp 67)⟩,⟨none,none,.store1 (.tmp 68) (.tmp 66)⟩])
 (.seq (.draw 12 (opsOf (sub (bodyOf f169) [1,1,1,1,1,1,1,1,1,0])) [mvt 69 0,⟨none,some 70,.nilc (.tmp 69)⟩,⟨none,some 71,.faddr 0 (.tmp 70)⟩,⟨none,some 72,.load1 (.tmp 71)⟩,mvt 73 1,mvt 74 14,mvt 75 0,mvt 76 3,⟨none,some 77,.loadN 5 (.tmp 11)⟩,⟨none,some 78,.call 236 [.tmp 75,.tmp 76,.tmp 77]⟩,mvt 79 2,⟨none,some 80,.build [.string (.mk #[]),.int .u64 0,.int .u32 0,.int .u64 0,.string (.mk #[])] [(0,(1,.tmp 73)),(1,(1,.tmp 74)),(3,(1,.tmp 78)),(4,(1,.tmp 79))]⟩,⟨none,some 81,.call 84 [.tmp 72,.tmp 80]⟩,mvt 10 81])
 .ret))))))))))
abbrev r169:List RV:=[(.tmp 10)]
theorem F169:FnOk prog 169 82 c169 r169:=FnOk.o func169
noncomputable def c170:CC:=(.seq (.ops [⟨none,some 3,.box 128 (.tmp 1)⟩,⟨none,some 4,.mv (.const (.bool false))⟩])
 (.seq (.draw 1 (opsOf (sub (bodyOf f170) [1,0])) [mvt 8 0,⟨none,some 9,.nilc (.tmp 8)⟩,⟨none,some 10,.faddr 1 (.tmp 9)⟩,⟨none,some 11,.loadN 2 (.tmp 10)⟩,⟨none,some 12,.loadN 5 (.tmp 3)⟩,⟨none,some 13,.call 172 [.tmp 12]⟩,⟨none,some 14,.call 237 [.tmp 11,.tmp 13]⟩,mvt 7 14,⟨none,some 15,.ext (.tmp 7) 0⟩,⟨none,some 16,.ext (.tmp 7) 1⟩,mvt 5 15,mvt 6 16])
 (.seq (.ops [mvt 17 6,mvt 4 17])
 .ret)))
abbrev r170:List RV:=[(.tmp 4)]
theorem F170:FnOk prog 170 18 c170 r170:=FnOk.o func170
noncomputable def c171:CC:=(.seq (.ops [⟨none,some 4,.mv (.const (.bool false))⟩])
 (.seq (.ops [mvt 5 0,⟨none,some 6,.iop .geq (.tmp 5) (.const (.int .u64 1))⟩,mvt 7 6,⟨some (7,true),some 8,.mv (.tmp 0)⟩,⟨some (7,true),some 9,.mv (.tmp 1)⟩,⟨some (7,true),some 10,.iop .leq (.tmp 8) (.tmp 9)⟩,⟨none,some 11,.pick (.tmp 7) (.tmp 10) (.const (.bool false))⟩,mvt 4 11])
 .ret))
abbrev r171:List RV:=[(.tmp 4)]
theorem F171:FnOk prog 171 12 c171 r171:=FnOk.o func171
noncomputable def c172:CC:=(.seq (.ops [⟨none,some 1,.box 128 (.tmp 0)⟩,⟨none,some 2,.alloc 164 (.agg #[.string (.mk #[]),.int .u64 0])⟩])
 (.seq (.ops [⟨none,some 3,.faddr 0 (.tmp 1)⟩,⟨none,some 4,.load1 (.tmp 3)⟩,⟨none,some 5,.faddr 1 (.tmp 1)⟩,⟨none,some 6,.load1 (.tmp 5)⟩,⟨none,some 7,.build [.string (.mk #[]),.int .u64 0] [(0,(1,.tmp 4)),(1,(1,.tmp 6))]⟩,⟨none,none,.storeN 2 (.tmp 2) (.tmp 7)⟩])
 .ret))
abbrev r172:List RV:=[(.cN 2 2)]
theorem F172:FnOk prog 172 8 c172 r172:=FnOk.o func172
noncomputable def c176:CC:=(.seq (.ops [⟨none,some 4,.alloc 50 (.slice none 0 0)⟩,⟨none,some 5,.alloc 48 (.int .i64 0)⟩])
 (.seq (.ops [⟨none,some 6,.alloc 50 (.slice none 0 0)⟩])
 (.seq (.seq (.ops [mvt 9 0,⟨none,some 10,.nilc (.tmp 9)⟩,⟨none,some 11,.faddr 0 (.tmp 10)⟩,⟨none,some 12,.load1 (.tmp 11)⟩,mvt 13 1,⟨none,some 14,.call 178 [.tmp 12,.tmp 13,.const (.int .u64 0)]⟩])
 (.block 0
 (.range (.tmp 14) #[15,16] (sub (bodyOf f176) [1,1,0,1,0,0]) (sub (bodyOf f176) [1,1,0,1,0,1])
 (.seq (.ops [⟨none,some 7,.alloc 128 (.agg #[.string (.mk #[]),.int .u64 0,.int .u32 0,.int .u64 0,.string (.mk #[])])⟩,⟨none,none,.storeN 5 (.tmp 7) (.tmp 15)⟩])
 (.ops [mvt 8 16]))
 (.block 1
 (.seq (.seq (.ops [mvt 17 8,⟨none,some 18,.iop .neq (.tmp 17) (.const (.int .i64 0))⟩])
 (.cond (.tmp 18)
 (.seq (.ops [mvt 19 8,⟨none,none,.store1 (.tmp 4) (.const (.slice none 0 0))⟩,⟨none,none,.store1 (.tmp 5) (.tmp 19)⟩])
 .ret)
 .skip))
 (.ops [⟨none,some 20,.load1 (.tmp 6)⟩,⟨none,some 21,.loadN 5 (.tmp 7)⟩,⟨none,some 22,.buildS 128 1 [.string (.mk #[]),.int .u64 0,.int .u32 0,.int .u64 0,.string (.mk #[])] [(0,(5,.tmp 21))]⟩,⟨none,some 23,.raw 25 (.mk (some 23) (.call (.mk (.builtin .append) #[.tmp 20,.tmp 22] #[50,50])) 50 "broker.go:55" #[.mk 0 .data,.mk 2 .data] none)⟩,⟨none,none,.store1 (.tmp 6) (.tmp 23)⟩]))))))
 (.seq (.ops [⟨none,some 24,.load1 (.tmp 6)⟩,⟨none,none,.store1 (.tmp 4) (.tmp 24)⟩,⟨none,none,.store1 (.tmp 5) (.const (.int .i64 0))⟩])
 .ret))))
abbrev r176:List RV:=[(.c1 4),(.c1 5)]
theorem F176:FnOk prog 176 25 c176 r176:=FnOk.o func176
noncomputable def c177:CC:=(.seq (.ops [⟨none,some 6,.box 121 (.tmp 1)⟩,⟨none,some 7,.box 128 (.tmp 2)⟩,⟨none,some 10,.mv (.const (.int .i64 0))⟩])
 (.seq (.seq (.ops [⟨none,some 11,.faddr 3 (.tmp 6)⟩,⟨none,some 12,.load1 (.tmp 11)⟩,⟨none,some 13,.iop .neq (.tmp 12) (.const (.int .u32 0))⟩,mvt 14 13,⟨some (14,true),some 15,.faddr 2 (.tmp 7)⟩,⟨some (14,true),some 16,.load1 (.tmp 15)⟩,⟨some (14,true),some 17,.faddr 3 (.tmp 6)⟩,⟨some (14,true),some 18,.load1 (.tmp 17)⟩,⟨some (14,true),some 19,.iop .geq (.tmp 16) (.tmp 18)⟩,⟨none,some 20,.pick (.tmp 14) (.tmp 19) (.const (.bool false))⟩])
 (.cond (.tmp 20)
 (.seq (.ops [mvt 21 0,⟨none,some 22,.loadN 5 (.tmp 7)⟩,mvt 23 4,⟨none,some 24,.call 173 [.tmp 21,.tmp 22,.tmp 23]⟩,mvt 10 24])
 .ret)
 .skip))
 (.seq (.ops [⟨none,some 25,.faddr 2 (.tmp 7)⟩,⟨none,some 26,.load1 (.tmp 25)⟩,⟨none,some 27,.iop .add (.tmp 26) (.const (.int .u32 1))⟩,⟨none,some 28,.faddr 2 (.tmp 7)⟩,⟨none,none,.store1 (.tmp 28) (.tmp 27)⟩])
 (.seq (.draw 4 (opsOf (sub (bodyOf f177) [1,1,1,0])) [mvt 29 0,mvt 30 0,⟨none,some 31,.nilc (.tmp 30)⟩,⟨none,some 32,.faddr 1 (.tmp 31)⟩,⟨none,some 33,.loadN 2 (.tmp 32)⟩,⟨none,some 34,.loadN 5 (.tmp 7)⟩,⟨none,some 35,.call 172 [.tmp 34]⟩,mvt 36 0,⟨none,some 37,.nilc (.tmp 36)⟩,⟨none,some 38,.faddr 3 (.tmp 37)⟩,⟨none,some 39,.load1 (.tmp 38)⟩,mvt 40 3,⟨none,some 41,.iop .add (.tmp 39) (.tmp 40)⟩,⟨none,some 42,.call 87 [.tmp 33,.tmp 35,.tmp 41]⟩,⟨none,some 43,.nilc (.tmp 29)⟩,⟨none,some 44,.faddr 1 (.tmp 43)⟩,⟨none,none,.storeN 2 (.tmp 44) (.tmp 42)⟩])
 (.seq (.draw 5 (opsOf (sub (bodyOf f177) [1,1,1,1,0])) [mvt 45 4,mvt 46 4,⟨none,some 47,.nilc (.tmp 46)⟩,⟨none,some 48,.faddr 5 (.tmp 47)⟩,⟨none,some 49,.load1 (.tmp 48)⟩,⟨none,some 50,.loadN 5 (.tmp 7)⟩,⟨none,some 51,.buildS 128 1 [.string (.mk #[]),.int .u64 0,.int .u32 0,.int .u64 0,.string (.mk #[])] [(0,(5,.tmp 50))]⟩,⟨none,some 52,.raw 61 (.mk (some 52) (.call (.mk (.builtin .append) #[.tmp 49,.tmp 51] #[50,50])) 50 "broker.go:242" #[.mk 4 .data,.mk 6 .data] none)⟩,⟨none,some 53,.nilc (.tmp 45)⟩,⟨none,some 54,.faddr 5 (.tmp 53)⟩,⟨none,none,.store1 (.tmp 54) (.tmp 52)⟩])
 (.seq (.draw 6 (opsOf (sub (bodyOf f177) [1,1,1,1,1,0])) [mvt 55 0,⟨none,some 56,.nilc (.tmp 55)⟩,⟨none,some 57,.faddr 0 (.tmp 56)⟩,⟨none,some 58,.load1 (.tmp 57)⟩,⟨none,some 59,.loadN 5 (.tmp 7)⟩,⟨none,some 60,.call 241 [.tmp 58,.tmp 59]⟩,mvt 10 60])
 .ret))))))
abbrev r177:List RV:=[(.tmp 10)]
theorem F177:FnOk prog 177 61 c177 r177:=FnOk.o func177
noncomputable def c234:CC:=(.seq (.ops [⟨none,some 3,.box 118 (.tmp 0)⟩,⟨none,some 4,.box 121 (.tmp 1)⟩,⟨none,some 6,.mv (.const (.bool false))⟩,⟨none,some 7,.mv (.const (.int .i64 0))⟩])
 (.seq (.seq (.ops [⟨none,some 11,.faddr 1 (.tmp 4)⟩,⟨none,some 12,.load1 (.tmp 11)⟩,⟨none,some 13,.iop .eql (.tmp 12) (.const (.int .u32 0))⟩])
 (.cond (.tmp 13)
 (.seq (.ops [⟨none,some 6,.mv (.const (.bool true))⟩,⟨none,some 7,.mv (.const (.int .i64 0))⟩])
 .ret)
 .skip))
 (.seq (.ops [⟨none,some 15,.load1 (.tmp 3)⟩,⟨none,some 16,.faddr 0 (.tmp 4)⟩,⟨none,some 17,.load1 (.tmp 16)⟩,⟨none,some 18,.call 176 [.tmp 15,.tmp 17]⟩,mvt 14 18,⟨none,some 19,.ext (.tmp 14) 0⟩,⟨none,some 20,.ext (.tmp 14) 1⟩,mvt 8 19,mvt 9 20])
 (.seq (.seq (.ops [mvt 21 9,⟨none,some 22,.iop .neq (.tmp 21) (.const (.int .i64 0))⟩,mvt 23 22,⟨some (23,false),some 24,.mv (.tmp 8)⟩,⟨some (23,false),some 25,.lenL (.tmp 24)⟩,⟨some (23,false),some 26,.faddr 1 (.tmp 4)⟩,⟨some (23,false),some 27,.load1 (.tmp 26)⟩,⟨some (23,false),some 28,.conv .i64 (.tmp 27)⟩,⟨some (23,false),some 29,.iop .lss (.tmp 25) (.tmp 28)⟩,⟨none,some 30,.pick (.tmp 23) (.const (.bool true)) (.tmp 29)⟩])
 (.cond (.tmp 30)
 (.seq (.ops [mvt 31 9,⟨none,some 32,.iop .eql (.tmp 31) (.const (.int .i64 0))⟩,mvt 33 9,mvt 6 32,mvt 7 33])
 .ret)
 .skip))
 (.seq (.ops [mvt 34 8,⟨none,some 35,(.mkF (.func 280) [] [.tmp 3])⟩,⟨none,some 36,.call 279 [.tmp 34,.tmp 35]⟩,mvt 10 36])
 (.seq (.seq (.ops [mvt 37 10,⟨none,some 38,.iop .lss (.tmp 37) (.const (.int .i64 0))⟩])
 (.cond (.tmp 38)
 (.seq (.ops [⟨none,some 6,.mv (.const (.bool false))⟩,⟨none,some 7,.mv (.const (.int .i64 0))⟩])
 .ret)
 .skip))
 (.seq (.draw 9 (opsOf (sub (bodyOf f234) [1,1,1,1,1,1,0])) [mvt 39 2,mvt 40 2,⟨none,some 41,.nilc (.tmp 40)⟩,⟨none,some 42,.faddr 3 (.tmp 41)⟩,⟨none,some 43,.load1 (.tmp 42)⟩,mvt 44 8,mvt 45 10,⟨none,some 46,.iaddr 5 (.tmp 44) (.tmp 45)⟩,⟨none,some 47,.faddr 1 (.tmp 46)⟩,⟨none,some 48,.load1 (.tmp 47)⟩,⟨none,some 49,.buildS 27 1 [.int .u64 0] [(0,(1,.tmp 48))]⟩,⟨none,some 50,.raw 71 (.mk (some 50) (.call (.mk (.builtin .append) #[.tmp 43,.tmp 49] #[49,49])) 49 "broker.go:73" #[.mk 4 .data,.mk 10 .data] none)⟩,⟨none,some 51,.nilc (.tmp 39)⟩,⟨none,some 52,.faddr 3 (.tmp 51)⟩,⟨none,none,.store1 (.tmp 52) (.tmp 50)⟩])
 (.seq (.draw 10 (opsOf (sub (bodyOf f234) [1,1,1,1,1,1,1,0])) [⟨none,some 54,.load1 (.tmp 3)⟩,⟨none,some 55,.nilc (.tmp 54)⟩,⟨none,some 56,.faddr 0 (.tmp 55)⟩,⟨none,some 57,.load1 (.tmp 56)⟩,⟨none,some 58,.faddr 0 (.tmp 4)⟩,⟨none,some 59,.load1 (.tmp 58)⟩,mvt 60 8,mvt 61 10,⟨none,some 62,.iaddr 5 (.tmp 60) (.tmp 61)⟩,⟨none,some 63,.faddr 1 (.tmp 62)⟩,⟨none,some 64,.load1 (.tmp 63)⟩,⟨none,some 65,.call 174 [.tmp 57,.tmp 59,.tmp 64]⟩,mvt 53 65,⟨none,some 66,.ext (.tmp 53) 0⟩,⟨none,some 67,.ext (.tmp 53) 1⟩,mvt 9 67])
 (.seq (.ops [mvt 68 9,⟨none,some 69,.iop .eql (.tmp 68) (.const (.int .i64 0))⟩,mvt 70 9,mvt 6 69,mvt 7 70])
 .ret)))))))))
abbrev r234:List RV:=[(.tmp 6),(.tmp 7)]
theorem F234:FnOk prog 234 71 c234 r234:=FnOk.o func234
noncomputable def c236:CC:=(.seq (.ops [⟨none,some 5,.box 121 (.tmp 2)⟩,⟨none,some 6,.mv (.const (.int .u64 0))⟩])
 (.seq (.block 0
 (.seq (.ops [mvt 8 1,⟨none,some 9,.iop .eql (.tmp 8) (.const (.int .u64 0))⟩,mvt 10 9,⟨some (10,true),some 11,.faddr 2 (.tmp 5)⟩,⟨some (10,true),some 12,.load1 (.tmp 11)⟩,⟨some (10,true),some 13,.iop .eql (.tmp 12) (.const (.int .u64 0))⟩,⟨none,some 14,.pick (.tmp 10) (.tmp 13) (.const (.bool false))⟩,mvt 7 14])
 (.cond (.tmp 7)
 (.seq (.ops [⟨none,some 6,.mv (.const (.int .u64 0))⟩])
 .ret)
 (.seq (.ops [mvt 16 1,⟨none,some 17,.iop .eql (.tmp 16) (.const (.int .u64 0))⟩,mvt 18 17,⟨some (18,false),some 19,.faddr 2 (.tmp 5)⟩,⟨some (18,false),some 20,.load1 (.tmp 19)⟩,⟨some (18,false),some 21,.iop .neq (.tmp 20) (.const (.int .u64 0))⟩,⟨some (18,false),some 22,.mv (.tmp 21)⟩,⟨some (22,true),some 23,.faddr 2 (.tmp 5)⟩,⟨some (22,true),some 24,.load1 (.tmp 23)⟩,⟨some (22,true),some 25,.mv (.tmp 1)⟩,⟨some (22,true),some 26,.iop .lss (.tmp 24) (.tmp 25)⟩,⟨some (18,false),some 27,.pick (.tmp 22) (.tmp 26) (.const (.bool false))⟩,⟨none,some 28,.pick (.tmp 18) (.const (.bool true)) (.tmp 27)⟩,mvt 15 28])
 (.cond (.tmp 15)
 (.ops [⟨none,some 29,.faddr 2 (.tmp 5)⟩,⟨none,some 30,.load1 (.tmp 29)⟩,mvt 1 30])
 .skip)))))
 (.seq (.ops [mvt 31 0,⟨none,some 32,.nilc (.tmp 31)⟩,⟨none,some 33,.faddr 3 (.tmp 32)⟩,⟨none,some 34,.load1 (.tmp 33)⟩,mvt 35 1,⟨none,some 36,.iop .add (.tmp 34) (.tmp 35)⟩,mvt 6 36])
 .ret)))
abbrev r236:List RV:=[(.tmp 6)]
theorem F236:FnOk prog 236 37 c236 r236:=FnOk.o func236
end Go.VrJ
