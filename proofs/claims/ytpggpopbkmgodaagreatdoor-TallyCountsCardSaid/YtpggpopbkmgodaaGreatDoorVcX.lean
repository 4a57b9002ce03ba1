import Derived.Test.YtpggpopbkmgodaaGreatDoorVrI
import Derived.Test.YtpggpopbkmgodaaGreatDoorVpD
import Derived.Test.YtpggpopbkmgodaaGreatDoorVpF
import Derived.Test.YtpggpopbkmgodaaGreatDoorVrJ
import Derived.Test.YtpggpopbkmgodaaGreatDoorVoW
import Derived.Test.YtpggpopbkmgodaaGreatDoorVlJ
set_option linter.unusedSimpArgs false
set_option linter.unusedVariables false
set_option linter.unusedSectionVars false
set_option linter.unnecessarySimpa false
namespace Go.Oct
open Go Go.Vc Go.VrA Go.VrB Go.VrE Go.VrH Go.VrI Go.VrJ Go.Proofs.Tryz
set_option maxRecDepth 100000
def EntFree {σ:Type} (St:StoC σ):Prop:=∀s w v l,St.At s w→OwnE w 0 v l→∀k,v.ownBlock=some k→¬St.foot k
theorem entFree_shelf (sb mb:Nat) (h0:3≠mb):EntFree (shelfC sb mb h0):=by
 intro s w v l hs hv k hk hf
 obtain ⟨_,h2⟩:=hv
 rcases h2 with ⟨hx,_⟩|⟨g,cap,cur,hx,_,hg,_⟩
 ·rw [hx] at hk;cases hk
 ·rw [hx] at hk
  have hgk:g=k:=Option.some.inj hk
  rw [hgk] at hg
  have hs':IsShelf w sb mb s.1 s.2:=hs
  rcases hf with rfl|rfl
  ·rw [hs'.1] at hg;simp at hg
  ·obtain ⟨es,clock,hb,_⟩:=hs'.2.1
   rw [hb] at hg;cases hg
structure BrAt {σ:Type} (St:StoC σ) (tb:Nat) (m:Int) (s:σ) (l:List Le) (v:Value) (clock:Nat) (w:World):Prop where
 st:w.heap[tb]? = some (.cells #[.iface St.t St.v,.func (.func 92) #[] #[],v,.int .u64 clock] 144 (0,0))
 at_:St.At s w
 les:OwnE w 0 v l
 gl:Gl m w
 fm:Forms w
 nf:¬St.foot tb
 of:¬St.own 2
 ll:l.length<2^40
variable {σ:Type} {St:StoC σ} {tb clock:Nat} {m:Int} {s s':σ} {l:List Le} {v:Value} {w w':World}
theorem BrAt.keep0 (h:BrAt St tb m s l v clock w) (hm:Mod (fun _=>False) w w'):BrAt St tb m s l v clock w' :=
 ⟨hm.keep h.st id,St.toSto.keep0 h.at_ hm,h.les.keep0 hm,h.gl.mod hm id,h.fm.mod0 hm,h.nf,h.of,h.ll⟩
theorem BrAt.own (h:BrAt St tb m s l v clock w) (he:EntFree St) (hm:Mod St.own w w') (ha:St.At s' w'):BrAt St tb m s' l v clock w' :=
 ⟨hm.keep h.st (fun x=>h.nf (St.ownFoot _ x)),ha,h.les.keep hm (fun k hk x=>he s w v l h.at_ h.les k hk (St.ownFoot _ x)),h.gl.mod hm St.own0,h.fm.mod hm h.of,h.nf,h.of,h.ll⟩
theorem BrAt.table {l2:List Le} {v2:Value} (h:BrAt St tb m s l v clock w) (hv:OwnE w 0 v2 l2) (hl:l2.length<2^40) (h2:w'=Vc.set w tb (.cells #[.iface St.t St.v,.func (.func 92) #[] #[],v2,.int .u64 clock] 144)) (hmn:tb≠3) (hfn:tb≠2) :
  BrAt St tb m s l2 v2 clock w':=by
 have hm:Mod (fun k=>k=tb) w w':=by rw [h2];exact (Mod.refl _ _).set (.inr rfl)
 refine ⟨?_,St.keep _ s w w' h.at_ hm (fun k _ hk hf=>by subst hk;exact h.nf hf),hv.keep hm (fun k hk x => ?_),h.gl.mod hm (fun x=>hmn x.symm),h.fm.mod hm (fun x=>hfn x.symm),h.nf,h.of,hl⟩
 ·rw [h2];exact get_set_same _ _ _ (lt_of_get h.st)
 ·subst x
  obtain ⟨_,h3⟩:=hv
  rcases h3 with ⟨hx,_⟩|⟨g,cap,cur,hx,_,hg,_⟩
  ·rw [hx] at hk;cases hk
  ·rw [hx] at hk
   have hgk:g=k:=Option.some.inj hk
   rw [hgk,h.st] at hg
   simp at hg
theorem within_c (n most:Nat) (w:World) (K:Value→World→Prop) (h:K (.bool (decide (1≤n∧n≤most))) w):Ok prog 171 #[.int .u64 n,.int .u64 most] w K:=by
 refine F171.enter (args:=[.int .u64 n,.int .u64 most]) (by simp) ?_
 unfold c171 r171
 by_cases h1:1≤n
 ·have d1:(n:Int) ≥ 1:=by omega
  by_cases h2:n≤most
  ·have d2:(n:Int)≤(most:Int):=by omega
   simp only [ZB,endK,resK,packed,insVc,pickK,iopK,iopV,ne_eq,Nat.reduceEqDiff,reduceCtorEq,Zac,Za,Zag,Zad,Zaa,d1,d2]
   simpa [h1,h2] using h
  ·have d2:¬(n:Int)≤(most:Int):=by omega
   simp only [ZB,endK,resK,packed,insVc,pickK,iopK,iopV,ne_eq,Nat.reduceEqDiff,reduceCtorEq,Zac,Za,Zag,Zad,Zaa,d1,d2]
   simpa [h1,h2] using h
 ·have d1:¬(n:Int) ≥ 1:=by omega
  simp only [ZB,endK,resK,packed,insVc,pickK,iopK,iopV,ne_eq,Nat.reduceEqDiff,reduceCtorEq,Zac,Za,Zad,Zaf,d1]
  simpa [h1] using h
theorem bkey_c (q:Ms) (w:World) (K:Value→World→Prop) (h:∀w',Mod (fun _=>False) w w'→K (keyV q.queue q.id) w'):Ok prog 172 #[q.val] w K:=by
 refine F172.enter (args:=[q.val]) (by simp) ?_
 unfold c172 r172
 simp only [ZB,endK,resK,resN,packed,insVc,load1K,storeNK,setMany,faddrK,buildK,fillL,isPlain,Value.cells,ne_eq,Nat.reduceEqDiff,Nat.reduceAdd,Nat.reduceLeDiff,Zac,Za,Zag,Zah,Zai,Zak,Zaj,Zbe,Zbf,Zbd,Zbc,Zal,Zam,Zan,Zad,Zbh,Zaa,Zaf,Zar,Zap,Zaq,Zao,Zas,Zat,Zau,Zav,Zax,Zbb,Zay,get_alloc,Zb,Nat.reduceAdd,Zba,Zbi,Nat.reduceEqDiff,Zaz,Ms.val,Ms.cells]
 exact h _ ((((Mod.refl _ _).alloc _).alloc _).set (.inl (by simp)))
theorem lent_c (q:Ms) (w:World) (K:Value→World→Prop) (hb:BrAt St tb m s l v clock w) (h:∀w',Mod (fun _=>False) w w'→K (.bool (untilE q.queue q.id l).isSome) w') :
  Ok prog 170 #[ptr tb,q.val] w K:=by
 refine F170.enter (args:=[ptr tb,q.val]) (by simp) ?_
 unfold c170 r170
 have hst:=hb.st
 have hne:tb≠w.heap.size:=by have:=lt_of_get hst;omega
 simp only [ZB,insVc,Value.cells,Zac,Za,Zag,Ms.val,Ms.cells]
 refine vc_gen ?_
 intro w1 hw1
 have hm1:Mod (fun _=>False) w w1:=by rw [hw1];exact (Mod.refl _ _).alloc _
 have q1:w1.heap[w.heap.size]? = some (.cells #[.string q.queue,.int .u64 q.id,.int .u32 q.tries,.int .u64 q.expiry,.string q.body] 128 (0,0)):=by rw [hw1];exact get_alloc_new _ _
 have s1:=hm1.keep hst id
 clear hw1
 refine draw_e (by kernel_rfl) (by kernel_rfl) (by kernel_rfl) (by kernel_rfl) ?_
 simp only [ZB,endK,resK,packed,insVc,loadNK,nilK,nilM,faddrK,extK,ne_eq,Nat.reduceEqDiff,Nat.reduceAdd,Nat.reduceLeDiff,reduceCtorEq,Zac,Zae,Zab,Za,Zai,Zak,Zaj,Zad,Zaa,Zaf,Zar,Zap,Zaq,Zby,Zao,Zas,Zat,pureI,Nat.reduceSub,kindI,loadI,vcE_nil,vcE_cons,stepE_pure,stepE_load,stepE_step,q1,s1]
 refine bkey_c q w1.drew _ ?_
 intro w2 hm2
 have m2:Mod (fun _=>False) w1 w2:=(Mod.refl _ w1).drew.trans hm2
 refine ⟨m2, ?_⟩
 refine luntil_c l v q.queue q.id w2 _ ((hb.les.keep0 hm1).keep0 m2).is (by have:=hb.ll;omega) ?_
 intro w3 hm3
 have m3:=m2.trans hm3
 refine ⟨m3, ?_⟩
 simp only [loadV_some,Za,Zag,Zah]
 exact h _ (hm1.trans m3)
def expR (clock term ttl:Nat):Nat:=if term=0∧ttl=0 then 0 else (clock+(if term=0∨(ttl≠0∧ttl<term) then ttl else term))%18446744073709551616
theorem wrap_u64_mod (n:Nat):IntKind.u64.wrap ((n:Nat):Int)=((n%18446744073709551616:Nat):Int):=by rw [IntKind.wrap_u64];omega
theorem expiry_c (term:Nat) (q:Qu) (w:World) (K:Value→World→Prop) (hb:BrAt St tb m s l v clock w) (h:∀w',Mod (fun _=>False) w w'→K (.int .u64 (expR clock term q.ttl)) w') :
  Ok prog 236 #[ptr tb,.int .u64 term,q.val] w K:=by
 refine F236.enter (args:=[ptr tb,.int .u64 term,q.val]) (by simp) ?_
 unfold c236 r236
 have hst:=hb.st
 have hne:tb≠w.heap.size:=by have:=lt_of_get hst;omega
 have hm:Mod (fun _=>False) w (w.alloc (.cells #[.string q.name,.int .u32 q.most,.int .u64 q.ttl,.int .u32 q.tries,.string q.dead] 121)):=(Mod.refl _ _).alloc _
 have hh:=h _ hm
 have wa:∀a b:Nat,IntKind.u64.wrap ((a:Int)+(b:Int))=(((a+b)%18446744073709551616:Nat):Int):=fun a b=>by rw [← wrap_u64_mod];congr 1
 unfold expR at hh
 by_cases c1:term=0
 ·by_cases c2:q.ttl=0
  ·rw [if_pos ⟨c1,c2⟩] at hh
   have d1:(((term:Nat):Int) == 0)=true:=by rw [c1];rfl
   have d2:(((q.ttl:Nat):Int) == 0)=true:=by rw [c2];rfl
   simp only [ZB,endK,resK,packed,insVc,pickK,load1K,iopK,iopV,faddrK,Value.cells,ne_eq,Nat.reduceEqDiff,reduceCtorEq,Zac,Za,Zag,Zah,Zad,Zaa,get_alloc,Nat.reduceEqDiff,Qu.val,Qu.cells,d1,d2]
   exact hh
  ·rw [if_neg (fun x=>c2 x.2),if_pos (.inl c1)] at hh
   have d1:(((term:Nat):Int) == 0)=true:=by rw [c1];rfl
   have d2:(((q.ttl:Nat):Int) == 0)=false:=by simpa using c2
   simp only [ZB,endK,resK,packed,insVc,pickK,load1K,nilK,iopK,iopV,faddrK,Value.cells,ne_eq,Nat.reduceEqDiff,reduceCtorEq,Zac,Za,Zag,Zah,Zad,Zaa,Zaf,get_alloc,Nat.reduceEqDiff,Qu.val,Qu.cells,d1,d2,hne,hst,wa]
   exact hh
 ·have d1:(((term:Nat):Int) == 0)=false:=by simpa using c1
  rw [if_neg (fun x=>c1 x.1)] at hh
  by_cases c2:q.ttl=0
  ·have d2:(((q.ttl:Nat):Int) != 0)=false:=by rw [c2];rfl
   rw [if_neg (by rintro (x|x);exact c1 x;exact x.1 c2)] at hh
   simp only [ZB,endK,resK,packed,insVc,pickK,load1K,nilK,iopK,iopV,faddrK,Value.cells,ne_eq,Nat.reduceEqDiff,reduceCtorEq,Zac,Za,Zag,Zah,Zad,Zaa,Zaf,get_alloc,Nat.reduceEqDiff,Qu.val,Qu.cells,d1,d2,hne,hst,wa]
   exact hh
  ·have d2:(((q.ttl:Nat):Int) != 0)=true:=by simpa using c2
   by_cases c3:q.ttl<term
   ·have d3:(q.ttl:Int)<(term:Int):=by omega
    rw [if_pos (.inr ⟨c2,c3⟩)] at hh
    simp only [ZB,endK,resK,packed,insVc,pickK,load1K,nilK,iopK,iopV,faddrK,Value.cells,ne_eq,Nat.reduceEqDiff,reduceCtorEq,Zac,Za,Zag,Zah,Zad,Zaa,Zaf,get_alloc,Nat.reduceEqDiff,Qu.val,Qu.cells,d1,d2,d3,hne,hst,wa]
    exact hh
   ·have d3:¬(q.ttl:Int)<(term:Int):=by omega
    rw [if_neg (by rintro (x|x);exact c1 x;exact c3 x.2)] at hh
    simp only [ZB,endK,resK,packed,insVc,pickK,load1K,nilK,iopK,iopV,faddrK,Value.cells,ne_eq,Nat.reduceEqDiff,reduceCtorEq,Zac,Za,Zag,Zah,Zad,Zaa,Zaf,get_alloc,Nat.reduceEqDiff,Qu.val,Qu.cells,d1,d2,d3,hne,hst,wa]
    exact hh
end Go.Oct
namespace Go.Oct
open Go Go.Vc Go.VrA Go.VrB Go.Proofs.Tryz
set_option maxRecDepth 100000
def firstE:List (Ms × Int)→Int
 | []=>0
 | r :: l=>if r.2≠0 then r.2 else firstE l
theorem firstE_app:∀(l r:List (Ms × Int)),firstE l=0→firstE (l ++ r)=firstE r:=by
 intro l
 induction l with
 | nil=>intro r _;rfl
 | cons x l ih =>
  intro r h
  simp only [Zaw,firstE] at h ⊢
  by_cases hx:x.2≠0
  ·rw [if_pos hx] at h;exact (hx h).elim
  ·rw [if_neg hx] at h ⊢; exact ih r h
def msFlat (l:List (Ms × Int)):List Value:=l.flatMap fun r=>r.1.cells
theorem own_keep' {w w':World} {S:Nat→Prop} {B n sz:Nat} {t:TypeId} {v:Value} {xs:List Value} (h:w.ownsRow B t sz v n xs) (hm:Mod S w w') (hS:∀k,v.ownBlock=some k→¬S k):w'.ownsRow B t sz v n xs:=by
 obtain ⟨h1,h2⟩:=h
 refine ⟨h1,h2.imp id ?_⟩
 rintro ⟨g,cap,cur,rfl,hB,hg,r⟩
 exact ⟨g,cap,cur,rfl,hB,hm.keep hg (hS g rfl),r⟩
theorem info_ms:(prog.info? 128).map (fun i=>(i.zero,i.size,i.bytes))=some (some (.agg zms),5,56):=by kernel_rfl
theorem append_ms (B:Nat) (v:Value) (n:Nat) (xs:List Value) (q:Ms) (w:World) (hown:w.ownsRow B 128 5 v n xs) (hB:B≤w.heap.size) (hl:n<2^20) (ty:TypeId) :
  ∃v' w',(Builtin.append_ #[50,50] ty #[v,.slice (some ⟨w.heap.size,0,none⟩) 1 1]).run prog (w.alloc (.cells q.cells.toArray 128)) = .ok v' w' ∧
   w'.ownsRow B 128 5 v' (n+1) (xs ++ q.cells)∧Mod (fun k=>v.ownBlock=some k) w w'∧(∀k,v'.ownBlock=some k→v.ownBlock=some k∨w.heap.size≤k):=by
 obtain ⟨i,hi,hi1,hi2⟩:=info_of info_ms
 have hm1:Mod (fun _=>False) w (w.alloc (.cells q.cells.toArray 128)):=(Mod.refl _ _).alloc _
 have hown1:=own_keep' hown hm1 (fun _ _ x=>x)
 have hsrc:Src prog 5 50 (.slice (some ⟨w.heap.size,0,none⟩) 1 1) 1 q.cells (w.alloc (.cells q.cells.toArray 128)):=by
  refine Src.ofSlice _ (e':=128) (by kernel_rfl) ⟨w.heap.size,0,none⟩ 1 1 _ (by simp [Ms.cells]) ?_ ?_
  ·intro j u hj
   have hgn:=get_alloc_new w (.cells q.cells.toArray 128)
   rw [List.getElem?_toArray.symm] at hj
   simp only [World.cell?,Addr.add_lit,Nat.zero_add,hgn]
   exact hj
  ·intro u hu
   simp only [Ms.cells,Zbo,Zbp,or_false] at hu
   rcases hu with rfl|rfl|rfl|rfl|rfl <;> rfl
 obtain ⟨v',w',hr,ho,hm,hb⟩:=run_append_mine (P:=prog) B 50 50 ty 128 i _ 5 (by kernel_rfl) hi hi1 hi2.1 rfl (by decide) v n _ hown1 _ 1 _ hsrc (by simp [maxLen];omega) (by rw [hi2.2];omega) (Nat.le_trans hB hm1.size)
 refine ⟨v',w',hr,ho,(hm1.mono fun _ _ x=>x.elim).then hm (fun k _ hk=>hk), ?_⟩
 intro k hk
 rcases hb with hb|hb
 ·exact .inl (hb ▸ hk)
 ·rw [hb] at hk
  have:(w.alloc (.cells q.cells.toArray 128)).heap.size=k:=Option.some.inj hk
  rw [size_alloc] at this
  exact .inr (by omega)
theorem v5_plain {w:World} {B n sz:Nat} {t:TypeId} {v:Value} {xs:List Value} (h:w.ownsRow B t sz v n xs):isPlain v=true:=by
 rcases h.2 with ⟨rfl,_⟩|⟨g,cap,cur,rfl,_⟩ <;> rfl
theorem all_c (gf:FuncId) (cap:List Value) (L:List (Ms × Int)) (F:World→Prop) (w:World) (K:Value→World→Prop) (it:IterP prog gf cap (msV L) F) (hL:L.length<2^20) (hF:F w)
  (hFs:∀S a b,F a→Mod S a b→(∀k,S k→w.heap.size≤k)→F b)
  (h:∀w' v,Mod (fun _=>False) w w'→(firstE L=0→w'.ownsRow (w.heap.size+3) 128 5 v L.length (msFlat L))→(firstE L≠0→v = .slice none 0 0)→K (.tuple #[v,.int .i64 (firstE L)]) w') :
  Ok prog 85 #[.func (.func gf) #[] cap.toArray] w K:=by
 refine F85.enter (args:=[.func (.func gf) #[] cap.toArray]) (by simp) ?_
 unfold c85 r85
 simp only [ZB,insVc,Value.cells,ne_eq,Nat.reduceAdd,reduceCtorEq,Zac,Za,Zb,Nat.reduceAdd]
 refine vc_gen ?_
 intro w1 hw1
 have hm1:Mod (fun _=>False) w w1:=by rw [hw1];exact (((Mod.refl _ _).alloc _).alloc _).alloc _
 have a1:w1.heap[w.heap.size]? = some (.cells #[.slice none 0 0] 50 (0,0)):=by rw [hw1];simp only [Nat.reduceAdd,reduceCtorEq,Zaa,Zaf,size_alloc,get_alloc,size_alloc,Zb,Nat.reduceAdd,Zbi,Zaz]
 have b1:w1.heap[w.heap.size+1]? = some (.cells #[.int .i64 0] 48 (0,0)):=by rw [hw1];simp only [Nat.reduceEqDiff,Nat.reduceAdd,Zaa,Zaf,size_alloc,get_alloc,size_alloc,Zb,Nat.reduceAdd,Zbg,Zba,Nat.reduceEqDiff,Zaz]
 have o1:w1.heap[w.heap.size+2]? = some (.cells #[.slice none 0 0] 50 (0,0)):=by rw [hw1];simp only [Nat.reduceEqDiff,Nat.reduceAdd,reduceCtorEq,Zaa,Zaf,size_alloc,get_alloc,size_alloc,Zb,Nat.reduceAdd,Zbg,Zba,Nat.reduceEqDiff]
 have hz1:w1.heap.size=w.heap.size+3:=by rw [hw1];simp only [Nat.reduceAdd,size_alloc,size_alloc,Zb,Nat.reduceAdd]
 clear hw1
 refine range_iter (by kernel_rfl) (by kernel_rfl) (by kernel_rfl) (gf:=gf) (cap:=cap) (by simp only [upd_same,ev_tmp]) it
  (fun i X u=>F u∧Mod (fun _=>False) w u∧u.heap[w.heap.size]? = some (.cells #[.slice none 0 0] 50 (0,0))∧u.heap[w.heap.size+1]? = some (.cells #[.int .i64 0] 48 (0,0))∧firstE (L.take i)=0 ∧
   ∃v,u.heap[w.heap.size+2]? = some (.cells #[v] 50 (0,0))∧u.ownsRow (w.heap.size+3) 128 5 v (L.take i).length (msFlat (L.take i))∧(∀k,v.ownBlock=some k→¬X k))
  (fun c X u=>c = .ret∧Mod (fun _=>False) w u∧u.heap[w.heap.size]? = some (.cells #[.slice none 0 0] 50 (0,0))∧u.heap[w.heap.size+1]? = some (.cells #[.int .i64 (firstE L)] 48 (0,0))∧firstE L≠0) ?_ ?_ ?_ ?_ ?_ ?_ ?_ ?_
 ·intro X w' hm hsz hX
  exact ⟨hFs _ _ _ hF (hm1.trans hm) (fun _ x=>x.elim),hm1.trans hm,hm.keep a1 id,hm.keep b1 id,rfl,_,hm.keep o1 id,World.ownsRow_nil _ _ _ 5,fun k hk=>by cases hk⟩
 ·rintro i X u ⟨h1,_⟩
  exact h1
 ·rintro i X X' a b ⟨h1,h2,h3,h4,h5,v,h6,h7,h8⟩ hX ha hm hx
  have hge:∀k,X k→w.heap.size+3≤k:=fun k hk=>by have:=hX k hk;omega
  refine ⟨hFs X _ _ h1 hm (fun k hk=>by have:=hge k hk;omega),h2.then hm (fun i hi hk=>by have:=hge i hk;omega),hm.keep h3 (fun x=>by have:=hge _ x;omega),hm.keep h4 (fun x=>by have:=hge _ x;omega),h5,v,hm.keep h6 (fun x=>by have:=hge _ x;omega),own_keep' h7 hm h8, ?_⟩
  intro k hk hx'
  rcases hx k hx' with hx'|hx'
  ·exact h8 k hk hx'
  ·have:=(World.ownsRow.lt h7 k hk).2
   omega
 ·rintro c X X' a b ⟨rfl,h2,h3,h4,h5⟩ hX ha hm hx
  have hge:∀k,X k→w.heap.size+3≤k:=fun k hk=>by have:=hX k hk;omega
  exact ⟨rfl,h2.then hm (fun i hi hk=>by have:=hge i hk;omega),hm.keep h3 (fun x=>by have:=hge _ x;omega),hm.keep h4 (fun x=>by have:=hge _ x;omega),h5⟩
 ·intro i hi
  rw [List.getElem?_eq_getElem hi]
  simp [msV]
 ·intro i hi X a ⟨h1,h2,h3,h4,h5,v,h6,h7,h8⟩ hX ha
  obtain ⟨r,hr⟩:∃r,L[i]? = some r:=⟨L[i]'(by simpa [msV] using hi),List.getElem?_eq_getElem _⟩
  have hrow:((msV L)[i]?.getD [])=[r.1.val,.int .i64 r.2]:=by simp [msV,hr]
  have hli:i<L.length:=by simpa [msV] using hi
  have htk:L.take (i+1)=L.take i ++ [r]:=by rw [List.take_add_one,hr];rfl
  have hfe:firstE (L.take (i+1))=firstE [r]:=by rw [htk];exact firstE_app _ _ h5
  have hfl:firstE L=firstE (r :: L.drop (i+1)):=by
   have:L=L.take i ++ (r :: L.drop (i+1)):=by rw [← List.singleton_append,← List.append_assoc,← htk,List.take_append_drop]
   rw [this]
   have h':=firstE_app (L.take i) (r :: L.drop (i+1)) h5
   rw [h']
   congr 2
   rw [← this]
  rw [hrow]
  simp only [ZB,insVc,storeNK,setMany,iopK,iopV,isPlain,Value.cells,ne_eq,Nat.reduceEqDiff,Nat.reduceAdd,Nat.reduceLeDiff,reduceCtorEq,Zai,Zak,Zaj,Zal,Zam,Zan,Zau,Zav,Zax,Zbl,updMany,Ms.val,Ms.cells]
  refine ⟨((Mod.refl _ _).alloc _).set (.inl (Nat.le_refl _)), ?_⟩
  rintro c hmc ⟨k1,k2,k3,k4,k5,v',k6,k7,k8⟩
  have hxa:¬X a.heap.size:=fun x=>by have:=(hX _ x).2;omega
  have pC:=hmc.keep (get_set_same _ _ (.cells #[.string r.1.queue,.int .u64 r.1.id,.int .u32 r.1.tries,.int .u64 r.1.expiry,.string r.1.body] 128 (0,0)) (by rw [size_alloc];omega)) hxa
  have hge:∀k,X k→w.heap.size+3≤k∧k<c.heap.size:=fun k hk=>by have:=hX k hk;have:=hmc.size;simp only [size_set,size_alloc] at this;omega
  have l3:=lt_of_get k3
  have l4:=lt_of_get k4
  have l6:=lt_of_get k6
  by_cases hr0:r.2=0
  ·have b0:(r.2 != 0)=false:=by simpa using hr0
   have fp:=lt_of_get pC
   have hown:c.ownsRow (w.heap.size+3) 128 5 v' (L.take i).length (msFlat (L.take i)):=k7
   have hli':(L.take i).length<2^20:=by rw [List.length_take];omega
   obtain ⟨v5,w5,hr5,ho5,hm5,hb5⟩:=append_ms (w.heap.size+3) v' (L.take i).length _ r.1 c hown (by omega) hli' 50
   have hob:∀k,v'.ownBlock=some k→w.heap.size+3≤k∧k<c.heap.size:=fun k hk=>World.ownsRow.lt k7 k hk
   simp only [ZB,insVc,load1K,loadNK,fillL,buildSK,Value.cells,ne_eq,Nat.reduceEqDiff,Nat.reduceAdd,Nat.reduceLeDiff,Za,Zah,Zai,Zak,Zaj,Zbe,Zbf,Zbd,Zbc,Zal,Zam,Zan,Zbh,Zaa,Zar,Zap,Zaq,Zao,Zas,Zat,b0,k6,pC]
   refine rawK_append rfl rfl rfl (by simp only [ZB,ne_eq,Nat.reduceEqDiff];exact hr5) ?_
   have k3':=hm5.keep k3 (fun x=>by have:=hob _ x;omega)
   have k4':=hm5.keep k4 (fun x=>by have:=hob _ x;omega)
   have k6':=hm5.keep k6 (fun x=>by have:=hob _ x;omega)
   have l6':=lt_of_get k6'
   have hms:=hm5.size
   have hm6:Mod (fun k=>k=w.heap.size+2) w5 (Vc.set w5 (w.heap.size+2) (.cells #[v5] 50 (0,0))):=(Mod.refl _ _).set (.inr rfl)
   have hm56:Mod (fun k=>v'.ownBlock=some k∨k=w.heap.size+2) c (Vc.set w5 (w.heap.size+2) (.cells #[v5] 50 (0,0))):=(hm5.mono fun _ _ x=>.inl x).then hm6 (fun k _ hk=>.inr hk)
   simp only [ZB,insVc,storeK,isPlain,ne_eq,Nat.reduceEqDiff,Nat.reduceLT,Nat.reduceLeDiff,reduceCtorEq,Zai,Zak,Zaj,Zal,Zam,Zay,k6']
   refine ⟨v5_plain ho5,⟨hms, ?_⟩,.inl ⟨hFs _ _ _ k1 hm56 ?_,k2.then hm56 ?_,hm6.keep k3' (by omega),hm6.keep k4' (by omega), ?_,v5,get_set_same _ _ _ l6', ?_, ?_⟩⟩
   ·intro k hk
    exact hm56.get k (hge k hk).2 (by rintro (x|x);exact k8 k x hk;have:=hge k hk;omega)
   ·rintro k (x|x)
    ·have:=hob k x;omega
    ·omega
   ·rintro k hk (x|x)
    ·have:=hob k x;omega
    ·omega
   ·rw [hfe];simp [firstE,hr0]
   ·refine own_keep' ?_ hm6 ?_
    ·rw [htk]
     simpa [msFlat] using ho5
    ·intro k hk x
     rcases hb5 k hk with y|y
     ·have:=hob k y;omega
     ·omega
   ·intro k hk hx
    rcases hb5 k hk with y|y
    ·exact k8 k y hx
    ·have:=hge k hx;omega
  ·have b0:(r.2 != 0)=true:=by simpa using hr0
   have hfL:firstE L=r.2:=by rw [hfl];unfold firstE;rw [if_pos hr0]
   have hmA:Mod (fun k=>k=w.heap.size) c (Vc.set c w.heap.size (.cells #[.slice none 0 0] 50 (0,0))):=(Mod.refl _ _).set (.inr rfl)
   have k4A:=hmA.keep k4 (by omega)
   have hm3:Mod (fun k=>k=w.heap.size∨k=w.heap.size+1) c (Vc.set (Vc.set c w.heap.size (.cells #[.slice none 0 0] 50 (0,0))) (w.heap.size+1) (.cells #[.int .i64 r.2] 48 (0,0))):=((Mod.refl _ _).set (.inr (.inl rfl))).set (.inr (.inr rfl))
   have hmB:Mod (fun k=>k=w.heap.size+1) (Vc.set c w.heap.size (.cells #[.slice none 0 0] 50 (0,0))) (Vc.set (Vc.set c w.heap.size (.cells #[.slice none 0 0] 50 (0,0))) (w.heap.size+1) (.cells #[.int .i64 r.2] 48 (0,0))):=(Mod.refl _ _).set (.inr rfl)
   simp only [ZB,insVc,storeK,isPlain,ne_eq,Nat.reduceEqDiff,Nat.reduceLT,Nat.reduceLeDiff,reduceCtorEq,Zai,Zak,Zaj,Zal,Zam,Zay,b0,k3,k4A]
   refine ⟨⟨Nat.le_refl _, ?_⟩,.inr ⟨.ret,.inl rfl,rfl,k2.then hm3 (by omega),hmB.keep (get_set_same _ _ _ l3) (by omega), ?_,by rw [hfL];exact hr0⟩⟩
   ·intro k hk
    have:=hge k hk
    exact hm3.get k this.2 (by omega)
   ·rw [hfL]
    exact get_set_same _ _ _ (lt_of_get k4A)
 ·rintro X u ⟨h1,h2,h3,h4,h5,v,h6,h7,h8⟩ ⟨a1,a2,a3⟩
  have hlen:(msV L).length=L.length:=by simp [msV]
  rw [hlen,List.take_length] at h5 h7
  have hob:∀k,v.ownBlock=some k→w.heap.size+3≤k∧k<u.heap.size:=fun k hk=>World.ownsRow.lt h7 k hk
  have hmA:Mod (fun k=>k=w.heap.size) u (Vc.set u w.heap.size (.cells #[v] 50 (0,0))):=(Mod.refl _ _).set (.inr rfl)
  have k4A:=hmA.keep h4 (by omega)
  have hmB:Mod (fun k=>k=w.heap.size+1) (Vc.set u w.heap.size (.cells #[v] 50 (0,0))) (Vc.set (Vc.set u w.heap.size (.cells #[v] 50 (0,0))) (w.heap.size+1) (.cells #[.int .i64 0] 48 (0,0))):=(Mod.refl _ _).set (.inr rfl)
  have d2:=hmB.keep (hmA.keep a1 (by omega)) (by omega)
  simp only [ZB,endK,resK,res1,packed,insVc,load1K,storeK,isPlain,ne_eq,Nat.reduceEqDiff,Nat.reduceLT,Nat.reduceLeDiff,Za,Zah,Zai,Zak,Zaj,Zal,Zam,Zad,Zaw,Zay,h6,h3,k4A]
  refine ⟨v5_plain h7, ?_⟩
  have a3':=hmB.keep (get_set_same u w.heap.size (.cells #[v] 50 (0,0)) (lt_of_get h3)) (by omega)
  have b3':(Vc.set (Vc.set u w.heap.size (.cells #[v] 50 (0,0))) (w.heap.size+1) (.cells #[.int .i64 0] 48 (0,0))).heap[w.heap.size+1]? = some (.cells #[.int .i64 0] 48 (0,0)):=get_set_same _ _ _ (lt_of_get k4A)
  have hmAB:Mod (fun k=>w.heap.size≤k∧k<w.heap.size+3) u (Vc.set (Vc.set u w.heap.size (.cells #[v] 50 (0,0))) (w.heap.size+1) (.cells #[.int .i64 0] 48 (0,0))):=(hmA.mono fun k _ hk=>(by omega)).then hmB (fun k _ hk=>by omega)
  revert d2 a3' b3' hmAB
  generalize (Vc.set (Vc.set u w.heap.size (.cells #[v] 50 (0,0))) (w.heap.size+1) (.cells #[.int .i64 0] 48 (0,0)))=u2
  intro d2 a3' b3' hmAB
  have hmD:Mod (fun k=>k=w1.heap.size) u2 (Vc.set u2 w1.heap.size (.deferred none)):=(Mod.refl _ _).set (.inr rfl)
  simp only [markO,d2,hmD.keep a3' (by omega),hmD.keep b3' (by omega)]
  have hh:=h (Vc.set u2 w1.heap.size (.deferred none)) v ((h2.then hmAB (fun i hi hk=>by omega)).then hmD (fun i hi hk=>by omega)) (fun _ => ?_) (fun x=>(x h5).elim)
  ·rw [h5] at hh;exact hh
  ·refine own_keep' (own_keep' h7 hmAB (fun k hk x=>by have:=hob k hk;omega)) hmD ?_
   intro k hk x
   subst x
   rcases h7.2 with ⟨rfl,_⟩|⟨g,cap,cur,rfl,_,hg,_⟩
   ·cases hk
   ·have hgk:g=w1.heap.size:=Option.some.inj hk
    rw [hgk,a1] at hg
    cases hg
 ·rintro c X u ⟨rfl,h2,h3,h4,h5⟩ ⟨a1,a2,a3⟩
  have hmD:Mod (fun k=>k=w1.heap.size) u (Vc.set u w1.heap.size (.deferred none)):=(Mod.refl _ _).set (.inr rfl)
  simp only [ZB,exitOf,endK,resK,res1,packed,ne_eq,Nat.reduceEqDiff,Zad,Zaw,markO,a1,hmD.keep h3 (by omega),hmD.keep h4 (by omega)]
  exact h _ _ (h2.then hmD (fun i hi hk=>by omega)) (fun x=>(h5 x).elim) (fun _=>rfl)
end Go.Oct
namespace Go.Oct
open Go Go.Vc Go.VrA Go.VrB Go.VrE Go.VrH Go.VrI Go.VrJ Go.Proofs.Tryz
set_option maxRecDepth 100000
variable {σ:Type} {St:StoC σ} {tb clock:Nat} {m:Int} {s s':σ} {l:List Le} {v:Value} {w w':World}
theorem ball_c (queue:ByteArray) (L:List (Ms × Int)) (hLe:L=St.listRows s queue 0) (w:World) (K:Value→World→Prop) (hb:BrAt St tb m s l v clock w) (hpr:PureRng St.toSto s) (hs:queue.size<4294967281)
  (hR:∀r∈(St.rng s (boundsL queue 0).1 (boundsL queue 0).2).1,r.1.2.length<2^60) (hL:L.length<2^20)
  (h:∀w' v,Mod (fun _=>False) w w'→(firstE L=0→w'.ownsRow (w.heap.size+3) 128 5 v L.length (msFlat L))→(firstE L≠0→v = .slice none 0 0)→K (.tuple #[v,.int .i64 (firstE L)]) w') :
  Ok prog 176 #[ptr tb,.string queue] w K:=by
 refine F176.enter (args:=[ptr tb,.string queue]) (by simp) ?_
 unfold c176 r176
 have hst:=hb.st
 have htl:=lt_of_get hst
 have htn:tb≠w.heap.size∧tb≠w.heap.size+1∧tb≠w.heap.size+2:=by omega
 simp only [ZB,insVc,load1K,nilK,faddrK,Value.cells,ne_eq,Nat.reduceEqDiff,Nat.reduceAdd,reduceCtorEq,Zac,Zae,Zab,Za,Zag,Zah,Zaf,get_alloc,Zb,Nat.reduceAdd,Nat.reduceEqDiff,hst,htn.1,htn.2.1,htn.2.2]
 refine callK_gen ?_
 intro w0 hw1
 have hm0:Mod (fun _=>False) w w0:=by rw [hw1];exact (((Mod.refl _ _).alloc _).alloc _).alloc _
 have a0:w0.heap[w.heap.size]? = some (.cells #[.slice none 0 0] 50 (0,0)):=by rw [hw1];simp only [Nat.reduceAdd,reduceCtorEq,Zaa,Zaf,size_alloc,get_alloc,size_alloc,Zb,Nat.reduceAdd,Zbi,Zaz]
 have b0:w0.heap[w.heap.size+1]? = some (.cells #[.int .i64 0] 48 (0,0)):=by rw [hw1];simp only [Nat.reduceEqDiff,Nat.reduceAdd,Zaa,Zaf,size_alloc,get_alloc,size_alloc,Zb,Nat.reduceAdd,Zbg,Zba,Nat.reduceEqDiff,Zaz]
 have o0:w0.heap[w.heap.size+2]? = some (.cells #[.slice none 0 0] 50 (0,0)):=by rw [hw1];simp only [Nat.reduceEqDiff,Nat.reduceAdd,reduceCtorEq,Zaa,Zaf,size_alloc,get_alloc,size_alloc,Zb,Nat.reduceAdd,Zbg,Zba,Nat.reduceEqDiff]
 have hz0:w0.heap.size=w.heap.size+3:=by rw [hw1];simp only [Nat.reduceAdd,size_alloc,size_alloc,Zb,Nat.reduceAdd]
 clear hw1
 refine list_c St.toSto s hpr queue 0 m w0 _ (St.toSto.keep0 hb.at_ hm0) (hb.gl.mod hm0 id) hs (by decide) hR ?_
 rw [← hLe]
 intro w1 gf cap hm01 it
 have hm1:=hm0.trans hm01
 have a1:=hm01.keep a0 id
 have b1:=hm01.keep b0 id
 have o1:=hm01.keep o0 id
 have hz1:=hm01.size
 obtain ⟨F,hFd⟩:∃F:World→Prop,F=(fun u=>St.At s u∧Gl m u∧Kept w0.heap.size w1 u):=⟨_,rfl⟩
 rw [← hFd] at it
 have hF:F w1:=by rw [hFd];exact ⟨St.toSto.keep0 hb.at_ hm1,hb.gl.mod hm1 id,Kept.refl _ _⟩
 have hglt:=hb.gl.lt
 have hFs:∀(S:Nat→Prop) a b,F a→Mod S a b→(∀k,S k→w1.heap.size≤k∨w.heap.size≤k∧k<w.heap.size+3)→F b:=by
  intro S a b hFa hm hS
  rw [hFd] at hFa ⊢
  obtain ⟨x1,x2,x3⟩:=hFa
  refine ⟨St.keep _ s a b x1 hm (fun k _ hk hf => ?_),x2.mod hm (fun hk=>by have:=hS _ hk;omega),x3.keep hm (fun k h1 h2 hk=>by have:=hS k hk;omega)⟩
  have:=St.footLt _ _ k hb.at_ hf
  have:=hS k hk
  omega
 simp only [ZB]
 refine range_iter (by kernel_rfl) (by kernel_rfl) (by kernel_rfl) (gf:=gf) (cap:=cap) (by simp only [upd_same,ev_tmp]) it
  (fun i X u=>F u∧Mod (fun _=>False) w u∧u.heap[w.heap.size]? = some (.cells #[.slice none 0 0] 50 (0,0))∧u.heap[w.heap.size+1]? = some (.cells #[.int .i64 0] 48 (0,0))∧firstE (L.take i)=0 ∧
   ∃v,u.heap[w.heap.size+2]? = some (.cells #[v] 50 (0,0))∧u.ownsRow (w1.heap.size) 128 5 v (L.take i).length (msFlat (L.take i))∧(∀k,v.ownBlock=some k→¬X k))
  (fun c X u=>c = .ret∧Mod (fun _=>False) w u∧u.heap[w.heap.size]? = some (.cells #[.slice none 0 0] 50 (0,0))∧u.heap[w.heap.size+1]? = some (.cells #[.int .i64 (firstE L)] 48 (0,0))∧firstE L≠0) ?_ ?_ ?_ ?_ ?_ ?_ ?_ ?_
 ·intro X w' hm hsz hX
  exact ⟨hFs (fun _=>False) _ _ hF hm (fun _ x=>x.elim),hm1.trans hm,hm.keep a1 id,hm.keep b1 id,rfl,_,hm.keep o1 id,World.ownsRow_nil _ _ _ 5,fun k hk=>by cases hk⟩
 ·rintro i X u ⟨h1,_⟩
  exact h1
 ·rintro i X X' a b ⟨h1,h2,h3,h4,h5,v,h6,h7,h8⟩ hX ha hm hx
  have hge:∀k,X k→w1.heap.size≤k:=fun k hk=>by have:=hX k hk;omega
  refine ⟨hFs X _ _ h1 hm (fun k hk=>by have:=hge k hk;omega),h2.then hm (fun i hi hk=>by have:=hge i hk;omega),hm.keep h3 (fun x=>by have:=hge _ x;omega),hm.keep h4 (fun x=>by have:=hge _ x;omega),h5,v,hm.keep h6 (fun x=>by have:=hge _ x;omega),own_keep' h7 hm h8, ?_⟩
  intro k hk hx'
  rcases hx k hx' with hx'|hx'
  ·exact h8 k hk hx'
  ·have:=(World.ownsRow.lt h7 k hk).2
   omega
 ·rintro c X X' a b ⟨rfl,h2,h3,h4,h5⟩ hX ha hm hx
  have hge:∀k,X k→w1.heap.size≤k:=fun k hk=>by have:=hX k hk;omega
  exact ⟨rfl,h2.then hm (fun i hi hk=>by have:=hge i hk;omega),hm.keep h3 (fun x=>by have:=hge _ x;omega),hm.keep h4 (fun x=>by have:=hge _ x;omega),h5⟩
 ·intro i hi
  rw [List.getElem?_eq_getElem hi]
  simp [msV]
 ·intro i hi X a ⟨h1,h2,h3,h4,h5,v,h6,h7,h8⟩ hX ha
  obtain ⟨r,hr⟩:∃r,L[i]? = some r:=⟨L[i]'(by simpa [msV] using hi),List.getElem?_eq_getElem _⟩
  have hrow:((msV L)[i]?.getD [])=[r.1.val,.int .i64 r.2]:=by simp [msV,hr]
  have hli:i<L.length:=by simpa [msV] using hi
  have htk:L.take (i+1)=L.take i ++ [r]:=by rw [List.take_add_one,hr];rfl
  have hfe:firstE (L.take (i+1))=firstE [r]:=by rw [htk];exact firstE_app _ _ h5
  have hfl:firstE L=firstE (r :: L.drop (i+1)):=by
   have:L=L.take i ++ (r :: L.drop (i+1)):=by rw [← List.singleton_append,← List.append_assoc,← htk,List.take_append_drop]
   rw [this]
   have h':=firstE_app (L.take i) (r :: L.drop (i+1)) h5
   rw [h']
   congr 2
   rw [← this]
  rw [hrow]
  simp only [ZB,insVc,storeNK,setMany,iopK,iopV,isPlain,Value.cells,ne_eq,Nat.reduceEqDiff,Nat.reduceAdd,Nat.reduceLeDiff,reduceCtorEq,Zai,Zak,Zaj,Zal,Zam,Zan,Zau,Zav,Zax,Zbl,updMany,Ms.val,Ms.cells]
  refine ⟨((Mod.refl _ _).alloc _).set (.inl (Nat.le_refl _)), ?_⟩
  rintro c hmc ⟨k1,k2,k3,k4,k5,v',k6,k7,k8⟩
  have hxa:¬X a.heap.size:=fun x=>by have:=(hX _ x).2;omega
  have pC:=hmc.keep (get_set_same _ _ (.cells #[.string r.1.queue,.int .u64 r.1.id,.int .u32 r.1.tries,.int .u64 r.1.expiry,.string r.1.body] 128 (0,0)) (by rw [size_alloc];omega)) hxa
  have hge:∀k,X k→w1.heap.size≤k∧k<c.heap.size:=fun k hk=>by have:=hX k hk;have:=hmc.size;simp only [size_set,size_alloc] at this;omega
  have l3:=lt_of_get k3
  have l4:=lt_of_get k4
  have l6:=lt_of_get k6
  by_cases hr0:r.2=0
  ·have b0:(r.2 != 0)=false:=by simpa using hr0
   have fp:=lt_of_get pC
   have hown:c.ownsRow (w1.heap.size) 128 5 v' (L.take i).length (msFlat (L.take i)):=k7
   have hli':(L.take i).length<2^20:=by rw [List.length_take];omega
   obtain ⟨v5,w5,hr5,ho5,hm5,hb5⟩:=append_ms (w1.heap.size) v' (L.take i).length _ r.1 c hown (by omega) hli' 50
   have hob:∀k,v'.ownBlock=some k→w1.heap.size≤k∧k<c.heap.size:=fun k hk=>World.ownsRow.lt k7 k hk
   simp only [ZB,insVc,load1K,loadNK,fillL,buildSK,Value.cells,ne_eq,Nat.reduceEqDiff,Nat.reduceAdd,Nat.reduceLeDiff,Za,Zah,Zai,Zak,Zaj,Zbe,Zbf,Zbd,Zbc,Zal,Zam,Zan,Zbh,Zaa,Zar,Zap,Zaq,Zao,Zas,Zat,b0,k6,pC]
   refine rawK_append rfl rfl rfl (by simp only [ZB,ne_eq,Nat.reduceEqDiff];exact hr5) ?_
   have k3':=hm5.keep k3 (fun x=>by have:=hob _ x;omega)
   have k4':=hm5.keep k4 (fun x=>by have:=hob _ x;omega)
   have k6':=hm5.keep k6 (fun x=>by have:=hob _ x;omega)
   have l6':=lt_of_get k6'
   have hms:=hm5.size
   have hm6:Mod (fun k=>k=w.heap.size+2) w5 (Vc.set w5 (w.heap.size+2) (.cells #[v5] 50 (0,0))):=(Mod.refl _ _).set (.inr rfl)
   have hm56:Mod (fun k=>v'.ownBlock=some k∨k=w.heap.size+2) c (Vc.set w5 (w.heap.size+2) (.cells #[v5] 50 (0,0))):=(hm5.mono fun _ _ x=>.inl x).then hm6 (fun k _ hk=>.inr hk)
   simp only [ZB,insVc,storeK,isPlain,ne_eq,Nat.reduceEqDiff,Nat.reduceLT,Nat.reduceLeDiff,reduceCtorEq,Zai,Zak,Zaj,Zal,Zam,Zay,k6']
   refine ⟨v5_plain ho5,⟨hms, ?_⟩,.inl ⟨hFs _ _ _ k1 hm56 ?_,k2.then hm56 ?_,hm6.keep k3' (by omega),hm6.keep k4' (by omega), ?_,v5,get_set_same _ _ _ l6', ?_, ?_⟩⟩
   ·intro k hk
    exact hm56.get k (hge k hk).2 (by rintro (x|x);exact k8 k x hk;have:=hge k hk;omega)
   ·rintro k (x|x)
    ·have:=hob k x;omega
    ·omega
   ·rintro k hk (x|x)
    ·have:=hob k x;omega
    ·omega
   ·rw [hfe];simp [firstE,hr0]
   ·refine own_keep' ?_ hm6 ?_
    ·rw [htk]
     simpa [msFlat] using ho5
    ·intro k hk x
     rcases hb5 k hk with y|y
     ·have:=hob k y;omega
     ·omega
   ·intro k hk hx
    rcases hb5 k hk with y|y
    ·exact k8 k y hx
    ·have:=hge k hx;omega
  ·have b0:(r.2 != 0)=true:=by simpa using hr0
   have hfL:firstE L=r.2:=by rw [hfl];unfold firstE;rw [if_pos hr0]
   have hmA:Mod (fun k=>k=w.heap.size) c (Vc.set c w.heap.size (.cells #[.slice none 0 0] 50 (0,0))):=(Mod.refl _ _).set (.inr rfl)
   have k4A:=hmA.keep k4 (by omega)
   have hm3:Mod (fun k=>k=w.heap.size∨k=w.heap.size+1) c (Vc.set (Vc.set c w.heap.size (.cells #[.slice none 0 0] 50 (0,0))) (w.heap.size+1) (.cells #[.int .i64 r.2] 48 (0,0))):=((Mod.refl _ _).set (.inr (.inl rfl))).set (.inr (.inr rfl))
   have hmB:Mod (fun k=>k=w.heap.size+1) (Vc.set c w.heap.size (.cells #[.slice none 0 0] 50 (0,0))) (Vc.set (Vc.set c w.heap.size (.cells #[.slice none 0 0] 50 (0,0))) (w.heap.size+1) (.cells #[.int .i64 r.2] 48 (0,0))):=(Mod.refl _ _).set (.inr rfl)
   simp only [ZB,insVc,storeK,isPlain,ne_eq,Nat.reduceEqDiff,Nat.reduceLT,Nat.reduceLeDiff,reduceCtorEq,Zai,Zak,Zaj,Zal,Zam,Zay,b0,k3,k4A]
   refine ⟨⟨Nat.le_refl _, ?_⟩,.inr ⟨.ret,.inl rfl,rfl,k2.then hm3 (by omega),hmB.keep (get_set_same _ _ _ l3) (by omega), ?_,by rw [hfL];exact hr0⟩⟩
   ·intro k hk
    have:=hge k hk
    exact hm3.get k this.2 (by omega)
   ·rw [hfL]
    exact get_set_same _ _ _ (lt_of_get k4A)
 ·rintro X u ⟨h1,h2,h3,h4,h5,v,h6,h7,h8⟩ ⟨a1,a2,a3⟩
  have hlen:(msV L).length=L.length:=by simp [msV]
  rw [hlen,List.take_length] at h5 h7
  have hob:∀k,v.ownBlock=some k→w1.heap.size≤k∧k<u.heap.size:=fun k hk=>World.ownsRow.lt h7 k hk
  have hmA:Mod (fun k=>k=w.heap.size) u (Vc.set u w.heap.size (.cells #[v] 50 (0,0))):=(Mod.refl _ _).set (.inr rfl)
  have k4A:=hmA.keep h4 (by omega)
  have hmB:Mod (fun k=>k=w.heap.size+1) (Vc.set u w.heap.size (.cells #[v] 50 (0,0))) (Vc.set (Vc.set u w.heap.size (.cells #[v] 50 (0,0))) (w.heap.size+1) (.cells #[.int .i64 0] 48 (0,0))):=(Mod.refl _ _).set (.inr rfl)
  have d2:=hmB.keep (hmA.keep a1 (by omega)) (by omega)
  simp only [ZB,endK,resK,res1,packed,insVc,load1K,storeK,isPlain,ne_eq,Nat.reduceEqDiff,Nat.reduceLT,Nat.reduceLeDiff,Za,Zah,Zai,Zak,Zaj,Zal,Zam,Zad,Zaw,Zay,h6,h3,k4A]
  refine ⟨v5_plain h7, ?_⟩
  have a3':=hmB.keep (get_set_same u w.heap.size (.cells #[v] 50 (0,0)) (lt_of_get h3)) (by omega)
  have b3':(Vc.set (Vc.set u w.heap.size (.cells #[v] 50 (0,0))) (w.heap.size+1) (.cells #[.int .i64 0] 48 (0,0))).heap[w.heap.size+1]? = some (.cells #[.int .i64 0] 48 (0,0)):=get_set_same _ _ _ (lt_of_get k4A)
  have hmAB:Mod (fun k=>w.heap.size≤k∧k<w1.heap.size) u (Vc.set (Vc.set u w.heap.size (.cells #[v] 50 (0,0))) (w.heap.size+1) (.cells #[.int .i64 0] 48 (0,0))):=(hmA.mono fun k _ hk=>(by omega)).then hmB (fun k _ hk=>by omega)
  revert d2 a3' b3' hmAB
  generalize (Vc.set (Vc.set u w.heap.size (.cells #[v] 50 (0,0))) (w.heap.size+1) (.cells #[.int .i64 0] 48 (0,0)))=u2
  intro d2 a3' b3' hmAB
  have hmD:Mod (fun k=>k=w1.heap.size) u2 (Vc.set u2 w1.heap.size (.deferred none)):=(Mod.refl _ _).set (.inr rfl)
  simp only [markO,d2,hmD.keep a3' (by omega),hmD.keep b3' (by omega)]
  have hh:=h (Vc.set u2 w1.heap.size (.deferred none)) v ((h2.then hmAB (fun i hi hk=>by omega)).then hmD (fun i hi hk=>by omega)) (fun _ => ?_) (fun x=>(x h5).elim)
  ·rw [h5] at hh;exact hh
  ·refine own_keep' (own_keep' (show u.ownsRow (w.heap.size+3) 128 5 v L.length (msFlat L) from ⟨h7.1,h7.2.imp id fun ⟨g,cap,cur,y1,y2,y3⟩=>⟨g,cap,cur,y1,by omega,y3⟩⟩) hmAB (fun k hk x=>by have:=hob k hk;omega)) hmD ?_
   intro k hk x
   subst x
   rcases h7.2 with ⟨rfl,_⟩|⟨g,cap,cur,rfl,_,hg,_⟩
   ·cases hk
   ·have hgk:g=w1.heap.size:=Option.some.inj hk
    rw [hgk,a1] at hg
    cases hg
 ·rintro c X u ⟨rfl,h2,h3,h4,h5⟩ ⟨a1,a2,a3⟩
  have hmD:Mod (fun k=>k=w1.heap.size) u (Vc.set u w1.heap.size (.deferred none)):=(Mod.refl _ _).set (.inr rfl)
  simp only [ZB,exitOf,endK,resK,res1,packed,ne_eq,Nat.reduceEqDiff,Zad,Zaw,markO,a1,hmD.keep h3 (by omega),hmD.keep h4 (by omega)]
  exact h _ _ (h2.then hmD (fun i hi hk=>by omega)) (fun x=>(h5 x).elim) (fun _=>rfl)
variable {σ:Type} {St:StoC σ} {tb clock:Nat} {m:Int} {s s':σ} {l:List Le} {v:Value} {w w':World}
def numsV (l:List Nat):List Value:=l.map fun (n:Nat)=>Value.int .u64 (n:Int)
def OwnU (w:World) (B:Nat) (v:Value) (l:List Nat):Prop:=w.ownsRow B 27 1 v l.length (numsV l)
theorem OwnU.keep {S:Nat→Prop} {B:Nat} {v:Value} {l:List Nat} (h:OwnU w B v l) (hm:Mod S w w') (hS:∀k,v.ownBlock=some k→¬S k):OwnU w' B v l:=own_keep' h hm hS
theorem OwnU.form {B:Nat} {v:Value} {l:List Nat} (h:OwnU w B v l):∃a c,v = .slice a l.length c:=by
 rcases h.2 with ⟨rfl,h0⟩|⟨g,cap,cur,rfl,_⟩
 ·exact ⟨none,0,by rw [h0]⟩
 ·exact ⟨_,_,rfl⟩
theorem info_u64:(prog.info? 27).map (fun i=>(i.zero,i.size,i.bytes))=some (some (.int .u64 0),1,8):=by kernel_rfl
theorem append_u64 (B:Nat) (v:Value) (l:List Nat) (i:Nat) (w:World) (hown:OwnU w B v l) (hB:B≤w.heap.size) (hl:l.length<2^40) (ty:TypeId) :
  ∃v' w',(Builtin.append_ #[49,49] ty #[v,.slice (some ⟨w.heap.size,0,none⟩) 1 1]).run prog (w.alloc (.cells #[.int .u64 i] 27)) = .ok v' w' ∧
   OwnU w' B v' (l ++ [i])∧Mod (fun k=>v.ownBlock=some k) w w'∧(∀k,v'.ownBlock=some k→v.ownBlock=some k∨w.heap.size≤k):=by
 obtain ⟨ti,hi,hi1,hi2⟩:=info_of info_u64
 have hm1:Mod (fun _=>False) w (w.alloc (.cells #[.int .u64 i] 27)):=(Mod.refl _ _).alloc _
 have hsrc:Src prog 1 49 (.slice (some ⟨w.heap.size,0,none⟩) 1 1) 1 [.int .u64 i] (w.alloc (.cells #[.int .u64 i] 27)):=by
  refine Src.ofSlice _ (e':=27) (by kernel_rfl) ⟨w.heap.size,0,none⟩ 1 1 _ (by simp) ?_ ?_
  ·intro j u hj
   have hgn:=get_alloc_new w (.cells #[.int .u64 i] 27)
   simp only [World.cell?,Addr.add_lit,Nat.zero_add,hgn]
   simpa using hj
  ·intro u hu
   rw [List.mem_singleton.1 hu];rfl
 obtain ⟨v',w',hr,ho,hm,hb⟩:=run_append_mine (P:=prog) B 49 49 ty 27 ti _ 1 (by kernel_rfl) hi hi1 hi2.1 rfl (by decide) v l.length _ (hown.keep hm1 (fun _ _=>id)) _ 1 _ hsrc (by simp [maxLen];omega) (by rw [hi2.2];omega) (Nat.le_trans hB hm1.size)
 refine ⟨v',w',hr, ?_,(hm1.mono fun _ _ x=>x.elim).then hm (fun k _ hk=>hk), ?_⟩
 ·unfold OwnU
  have e:numsV (l ++ [i])=numsV l ++ [.int .u64 i]:=by simp [numsV]
  rw [e,List.length_append,List.length_singleton]
  exact ho
 ·intro k hk
  rcases hb with hb|hb
  ·exact .inl (hb ▸ hk)
  ·rw [hb] at hk
   have:(w.alloc (.cells #[.int .u64 i] 27)).heap.size=k:=Option.some.inj hk
   rw [size_alloc] at this
   exact .inr (by omega)
theorem ownE_ne {B k:Nat} {cs:Array Value} {T:TypeId} {f:Nat × Nat} (hv:OwnE w B v l) (hk:w.heap[k]? = some (.cells cs T f)) (hT:T≠233):v.ownBlock≠some k:=by
 intro hh
 rcases hv.2 with ⟨hx,_⟩|⟨g,cap,cur,hx,_,hg,_⟩
 ·rw [hx] at hh;cases hh
 ·rw [hx] at hh
  have hgk:g=k:=Option.some.inj hh
  rw [hgk,hk] at hg
  simp at hg
  exact hT hg.2.1
theorem OwnU.cells {B k:Nat} {vi:Value} {li:List Nat} (hv:OwnU w B vi li) (hk:vi.ownBlock=some k):∃cs,w.heap[k]? = some (.cells cs 27 (0,0)):=by
 rcases hv.2 with ⟨hx,_⟩|⟨g,cap,cur,hx,_,hg,_⟩
 ·rw [hx] at hk;cases hk
 ·rw [hx] at hk
  have hgk:g=k:=Option.some.inj hk
  exact ⟨_,hgk ▸ hg⟩
theorem BrAt.other {S:Nat→Prop} (h:BrAt St tb m s l v clock w) (hm:Mod S w w') (hS:∀k,S k→k≠tb∧(k<w.heap.size→¬St.foot k)∧v.ownBlock≠some k∧k≠3∧k≠2):BrAt St tb m s l v clock w' :=
 ⟨hm.keep h.st (fun x=>(hS _ x).1 rfl),St.keep _ s w w' h.at_ hm (fun k h1 hk=>(hS k hk).2.1 h1),h.les.keep hm (fun k hk x=>(hS k x).2.2.1 hk),h.gl.mod hm (fun x=>(hS _ x).2.2.2.1 rfl),h.fm.mod hm (fun x=>(hS _ x).2.2.2.2 rfl),h.nf,h.of,h.ll⟩
theorem room0_c (q:Qu) (rb:Nat) (w:World) (K:Value→World→Prop) (hq:q.most=0) (h:∀w',Mod (fun _=>False) w w'→K (.tuple #[.bool true,.int .i64 0]) w') :
  Ok prog 234 #[ptr tb,q.val,ptr rb] w K:=by
 refine F234.enter (args:=[ptr tb,q.val,ptr rb]) (by simp) ?_
 unfold c234 r234
 have z0:(((0:Nat):Int) == 0)=true:=rfl
 simp only [ZB,endK,resK,packed,insVc,load1K,iopK,iopV,faddrK,Value.cells,ne_eq,Nat.reduceEqDiff,reduceCtorEq,Zac,Za,Zag,Zah,Zad,Zaw,Zaa,Zaf,get_alloc,Zba,Nat.reduceEqDiff,Zaz,Qu.val,Qu.cells,hq,z0]
 exact h _ (((Mod.refl _ _).alloc _).alloc _)
def idB:ByteArray:=⟨#[105,100]⟩
def comeM (name body:ByteArray) (id clock term ttl:Nat):Ms:=⟨name,id,0,expR clock term ttl,body⟩
theorem come0_c (name body:ByteArray) (term nid rb n:Nat) (ids:List Nat) (vi vl vd vm:Value) (q:Qu) (s1 s2 s3:σ) (w:World) (K:Value→World→Prop) (he:EntFree St) (hb:BrAt St tb m s l v clock w)
  (hr:w.heap[rb]? = some (.cells #[.int .i64 0,.int .u64 n,vi,vl,vd,vm] 52 (0,0))) (hvi:OwnU w 0 vi ids) (hib:∀k,vi.ownBlock=some k→¬St.foot k∧k≠rb∧k≠tb∧k≠3∧k≠2) (hrf:¬St.foot rb) (hrt:rb≠tb) (hrg:rb≠3) (hrm:rb≠2)
  (hnl:name.size<4294967281) (hF:St.find s name=((q,0),s1)) (hq0:q.most=0) (hN:St.next s1 idB=((nid,0),s2)) (hA:St.madd s2 (comeM name body nid clock term q.ttl)=(0,s3)) (hid:nid<2^64) (hbody:body.size<2^60) (hil:ids.length<2^40) (hn:n<2^40)
  (hv1:(St.get s (queueK name).1).1.1.size<2^60) (hv2:(St.get s1 (counterK idB).1).1.1.size<2^60) (hf1:St.fit (St.get s1 (counterK idB).1).2)
  (hf2:St.fit (St.get s2 (keysR (comeM name body nid clock term q.ttl)).1).2) (hf3:St.fit (St.put (St.get s2 (keysR (comeM name body nid clock term q.ttl)).1).2 (keysR (comeM name body nid clock term q.ttl)).1 (mbytes (comeM name body nid clock term q.ttl))).2)
  (h:∀w' vi',Mod (fun k=>St.own k∨k=rb∨vi.ownBlock=some k) w w'→BrAt St tb m s3 l v clock w'→w'.heap[rb]? = some (.cells #[.int .i64 0,.int .u64 ((n+1:Nat):Int),vi',vl,vd,vm] 52 (0,0))→OwnU w' 0 vi' (ids ++ [nid]) →
   (∀k,vi'.ownBlock=some k→vi.ownBlock=some k∨w.heap.size≤k)→K (.int .i64 0) w') :
  Ok prog 169 #[ptr tb,.string name,.string body,.int .u64 term,ptr rb] w K:=by
 refine F169.enter (args:=[ptr tb,.string name,.string body,.int .u64 term,ptr rb]) (by simp) ?_
 unfold c169 r169
 have hst:=hb.st
 simp only [ZB,insVc,load1K,nilK,faddrK,ne_eq,Nat.reduceEqDiff,reduceCtorEq,Zac,Zae,Zab,Za,Zag,Zah,Nat.reduceEqDiff,hst]
 refine find_c St.toSto s name m w _ hb.at_ hb.gl hnl hv1 ?_
 rw [hF]
 intro w1 hm1 ha1
 have hb1:=hb.own he hm1 ha1
 have hr1:=hm1.keep hr (fun x=>hrf (St.ownFoot _ x))
 have hvi1:=hvi.keep hm1 (fun k hk x=>(hib k hk).1 (St.ownFoot _ x))
 have z0:((0:Int) != 0)=false:=rfl
 simp only [ZB,insVc,loadNK,storeNK,setMany,iopK,iopV,extK,isPlain,Value.cells,ne_eq,Nat.reduceEqDiff,Nat.reduceAdd,Nat.reduceLeDiff,reduceCtorEq,Zac,Zae,Zab,Za,Zag,Zah,Zai,Zak,Zaj,Zal,Zam,Zan,Zaa,Zar,Zap,Zaq,Zao,Zas,Zat,Zau,Zav,Zax,Zbb,Zay,get_alloc,Nat.reduceAdd,Nat.reduceEqDiff,Qu.val,Qu.cells,z0]
 refine callK_gen ?_
 intro w2 hw2
 have hm2:Mod (fun _=>False) w1 w2:=by rw [hw2];exact ((Mod.refl _ _).alloc _).set (.inl (Nat.le_refl _))
 have q2:w2.heap[w1.heap.size]? = some (.cells #[.string q.name,.int .u32 q.most,.int .u64 q.ttl,.int .u32 q.tries,.string q.dead] 121 (0,0)):=by rw [hw2];exact get_set_same _ _ _ (by rw [size_alloc];omega)
 clear hw2
 refine room0_c q rb w2 _ hq0 ?_
 intro w3 hm3
 have m23:=hm2.trans hm3
 have hb3:=hb1.keep0 m23
 have q3:=hm3.keep q2 id
 have hr3:=m23.keep hr1 id
 have hvi3:=hvi1.keep m23 (fun _ _=>id)
 have hst3:=hb3.st
 simp only [ZB,insVc,pickK,load1K,nilK,iopK,iopV,notK,faddrK,extK,ne_eq,Nat.reduceEqDiff,reduceCtorEq,Zac,Zae,Zab,Za,Zag,Zah,Zaf,z0,hst3]
 refine next_c St.toSto s1 idB m w3 _ hb3.at_ hb3.gl (by decide) hv2 hf1 ?_
 rw [hN]
 intro w4 hm4 ha4
 have hb4:=hb3.own he hm4 ha4
 have hw1s:w1.heap.size<w3.heap.size:=lt_of_get q3
 have hnq:¬St.own w1.heap.size:=fun x=>by have:=St.footLt _ _ _ ha1 (St.ownFoot _ x);omega
 have q4:=hm4.keep q3 hnq
 have hr4:=hm4.keep hr3 (fun x=>hrf (St.ownFoot _ x))
 have hvi4:=hvi3.keep hm4 (fun k hk x=>(hib k hk).1 (St.ownFoot _ x))
 have hwr:IntKind.u64.wrap ((n:Int)+1)=((n+1:Nat):Int):=by rw [IntKind.wrap_u64];omega
 obtain ⟨ai,ci,rfl⟩:=hvi.form
 obtain ⟨w5,hw5⟩:∃w5,w5=Vc.set w4 rb (.cells #[.int .i64 0,.int .u64 ((n+1:Nat):Int),.slice ai ids.length ci,vl,vd,vm] 52):=⟨_,rfl⟩
 have hm5:Mod (fun k=>k=rb) w4 w5:=by rw [hw5];exact (Mod.refl _ _).set (.inr rfl)
 have hr5:w5.heap[rb]? = some (.cells #[.int .i64 0,.int .u64 ((n+1:Nat):Int),.slice ai ids.length ci,vl,vd,vm] 52 (0,0)):=by rw [hw5];exact get_set_same _ _ _ (lt_of_get hr4)
 have hz5:w5.heap.size=w4.heap.size:=by rw [hw5,size_set]
 simp only [ZB,insVc,load1K,storeK,nilK,iopK,iopV,faddrK,extK,fillL,buildSK,isPlain,Value.cells,ne_eq,Nat.reduceEqDiff,Nat.reduceAdd,Nat.reduceLT,Nat.reduceLeDiff,reduceCtorEq,Zac,Za,Zag,Zah,Zai,Zak,Zaj,Zbe,Zbf,Zbd,Zbc,Zal,Zam,Zan,Zbh,Zaa,z0,hr4,hwr,get_set_same _ _ _ (lt_of_get hr4)]
 rw [← hw5]
 clear hw5
 have hb5:=hb4.other hm5 (fun k hk=>by subst hk;exact ⟨hrt,fun _=>hrf,ownE_ne hb4.les hr4 (by decide),hrg,hrm⟩)
 have q5:=hm5.keep q4 (by have:=lt_of_get hr;have:=hm1.size;omega)
 have hvi5:=hvi4.keep hm5 (fun k hk=>(hib k hk).2.1)
 obtain ⟨vi',w6,hr6,ho6,hm6,hbl6⟩:=append_u64 0 _ ids nid w5 hvi5 (Nat.zero_le _) hil 49
 rw [hz5] at hr6
 refine rawK_append rfl rfl rfl (by simp only [ZB,ne_eq,Nat.reduceEqDiff];exact hr6) ?_
 have hb6:=hb5.other hm6 (fun k hk=>by
  obtain ⟨cs,hcs⟩:=hvi5.cells hk
  exact ⟨(hib k hk).2.2.1,fun _=>(hib k hk).1,ownE_ne hb5.les hcs (by decide),(hib k hk).2.2.2.1,(hib k hk).2.2.2.2⟩)
 have q6:=hm6.keep q5 (fun hk=>by
  obtain ⟨cs,hcs⟩:=hvi5.cells hk
  rw [q5] at hcs;simp at hcs)
 have hr6':=hm6.keep hr5 (fun hk=>(hib _ hk).2.1 rfl)
 obtain ⟨a7,c7,rfl⟩:=ho6.form
 obtain ⟨w7,hw7⟩:∃w7,w7=Vc.set w6 rb (.cells #[.int .i64 0,.int .u64 ((n+1:Nat):Int),.slice a7 (ids ++ [nid]).length c7,vl,vd,vm] 52):=⟨_,rfl⟩
 have hm7:Mod (fun k=>k=rb) w6 w7:=by rw [hw7];exact (Mod.refl _ _).set (.inr rfl)
 have hr7:w7.heap[rb]? = some (.cells #[.int .i64 0,.int .u64 ((n+1:Nat):Int),.slice a7 (ids ++ [nid]).length c7,vl,vd,vm] 52 (0,0)):=by rw [hw7];exact get_set_same _ _ _ (lt_of_get hr6')
 simp only [ZB,insVc,storeK,nilK,faddrK,isPlain,ne_eq,Nat.reduceEqDiff,Nat.reduceAdd,Nat.reduceLT,Nat.reduceLeDiff,Zai,Zak,Zaj,Zal,Zam,Zan,hr6']
 rw [← hw7]
 clear hw7
 have hb7:=hb6.other hm7 (fun k hk=>by subst hk;exact ⟨hrt,fun _=>hrf,ownE_ne hb6.les hr6' (by decide),hrg,hrm⟩)
 have q7:=hm7.keep q6 (by have:=lt_of_get hr;have:=hm1.size;omega)
 have hbl7:∀k,(Value.slice a7 (ids ++ [nid]).length c7).ownBlock=some k→k≠rb:=by
  intro k hk hh
  subst hh
  obtain ⟨cs,hcs⟩:=ho6.cells hk
  rw [hr6'] at hcs;simp at hcs
 have ho7:=ho6.keep hm7 hbl7
 refine draw_d (fun u=>u.heap[tb]? = some (.cells #[.iface St.t St.v,.func (.func 92) #[] #[],v,.int .u64 clock] 144 (0,0))∧u.heap[w1.heap.size]? = some (.cells #[.string q.name,.int .u32 q.most,.int .u64 q.ttl,.int .u32 q.tries,.string q.dead] 121 (0,0))) (by kernel_rfl) (by kernel_rfl) (by kernel_rfl) (by kernel_rfl) ⟨hb7.st,q7⟩ ?_
 simp only [ZB,endK,resK,packed,insVc,nilK,nilM,faddrK,buildK,fillL,Value.cells,ne_eq,Nat.reduceEqDiff,Nat.reduceAdd,Nat.reduceLeDiff,reduceCtorEq,Zac,Zae,Zab,Za,Zag,Zai,Zak,Zaj,Zbe,Zbf,Zbd,Zbc,Zal,Zam,Zan,Zad,Zbh,Zaa,Zaf,pureI,vcD_nil,vcD_cons,stepD_pure,stepD_load,stepD_step,kindI,loadI]
 refine loadD1 (b:=tb) (o:=0) (v:=.iface St.t St.v) (by simp only [upd_same,ev_tmp]) (fun W hW=>⟨_,_,_,hW.1,rfl⟩) ?_
 refine loadDN (b:=w1.heap.size) (o:=0) (v:=q.val) (by simp only [ZB,ne_eq,Nat.reduceEqDiff]) (fun W hW=>⟨_,_,_,hW.2,by simp,rfl⟩) ?_
 have hbd:BrAt St tb m s2 l (v) clock w7.drew:=hb7.keep0 (Mod.refl _ _).drew
 refine expiry_c term q w7.drew _ hbd ?_
 intro w8 hm8
 have m78:Mod (fun _=>False) w7 w8:=(Mod.refl _ w7).drew.trans hm8
 have hb8:=hb7.keep0 m78
 have q8:=m78.keep q7 id
 have hr8:=m78.keep hr7 id
 have ho8:=ho7.keep m78 (fun _ _=>id)
 refine ⟨⟨hb8.st,q8⟩, ?_⟩
 simp only [Nat.reduceAdd,Nat.reduceLeDiff,Zai,Zak,Zaj,Zbe,Zbf,Zbd,Zbc,Zal,Zam,Zan,Zaa,Nat.zero_add,Nat.add_zero]
 have hex:expR clock term q.ttl<2^64:=by unfold expR;split;omega;omega
 refine madd_c St.toSto s2 (comeM name body nid clock term q.ttl) m w8 _ hb8.at_ hb8.gl hnl hid ⟨by show (0:Nat)<2^32;decide,hex,hbody⟩ hf2 hf3 (by have:=hb8.gl.lt;exact this) ?_
 rw [hA]
 intro w9 hm9 ha9
 have hb9:=hb8.own he hm9 ha9
 have hw1lt:w1.heap.size<w8.heap.size:=lt_of_get q8
 have hnq9:¬St.own w1.heap.size:=hnq
 refine ⟨⟨hb9.st,hm9.keep q8 hnq9⟩, ?_⟩
 simp only []
 have hr9:=hm9.keep hr8 (fun x=>hrf (St.ownFoot _ x))
 have hrlt:=lt_of_get hr
 have hnew:∀k,(Value.slice a7 (ids ++ [nid]).length c7).ownBlock=some k→(Value.slice ai ids.length ci).ownBlock=some k∨w.heap.size≤k:=by
  intro k hk
  rcases hbl6 k hk with x|x
  ·exact .inl x
  ·have:=hm1.size
   have:=hm3.size
   have:=hm2.size
   have:=hm4.size
   exact .inr (by omega)
 have hnf:∀k,(Value.slice a7 (ids ++ [nid]).length c7).ownBlock=some k→¬St.own k:=by
  intro k hk ho
  rcases hnew k hk with x|x
  ·exact (hib k x).1 (St.ownFoot _ ho)
  ·have:=St.footLt _ _ _ hb.at_ (St.ownFoot _ ho)
   omega
 refine h w9 (.slice a7 (ids ++ [nid]).length c7) ?_ hb9 hr9 (ho8.keep hm9 hnf) hnew
 have c1:Mod (fun k=>St.own k∨k=rb∨(Value.slice ai ids.length ci).ownBlock=some k) w w1:=hm1.mono fun _ _ x=>.inl x
 have c2:=c1.then m23 (fun _ _ x=>x.elim)
 have c3:=c2.then hm4 (fun _ _ x=>.inl x)
 have c4:=c3.then hm5 (fun _ _ x=>.inr (.inl x))
 have c5:=c4.then hm6 (fun _ _ x=>.inr (.inr x))
 have c6:=c5.then hm7 (fun _ _ x=>.inr (.inl x))
 have c7':=c6.then m78 (fun _ _ x=>x.elim)
 exact c7'.then hm9 (fun _ _ x=>.inl x)
variable {σ:Type} {St:StoC σ} {tb clock:Nat} {m:Int} {s s':σ} {l:List Le} {v:Value} {w w':World}
abbrev rp0:Array Value:=#[.int .i64 0,.int .u64 0,.slice none 0 0,.slice none 0 0,.slice none 0 0,.slice none 0 0]
theorem publish0_c (c:Cm) (nid rb:Nat) (q:Qu) (s1 s2 s3:σ) (w:World) (K:Value→World→Prop) (he:EntFree St) (hb:BrAt St tb m s l v clock w) (hex:c.ex=e0) (ht:c.time≤1099511627776)
  (hr:w.heap[rb]? = some (.cells rp0 52 (0,0))) (hrf:¬St.foot rb) (hrt:rb≠tb) (hrg:rb≠3) (hrm:rb≠2)
  (hnl:c.key.size<4294967281) (hF0:St.find s c.key=((q,0),s)) (hF:St.find s c.key=((q,0),s1)) (hq0:q.most=0) (hN:St.next s1 idB=((nid,0),s2)) (hA:St.madd s2 (comeM c.key c.body nid clock c.time q.ttl)=(0,s3)) (hid:nid<2^64) (hbody:c.body.size<2^60)
  (hv1:(St.get s (queueK c.key).1).1.1.size<2^60) (hv2:(St.get s1 (counterK idB).1).1.1.size<2^60) (hf1:St.fit (St.get s1 (counterK idB).1).2)
  (hf2:St.fit (St.get s2 (keysR (comeM c.key c.body nid clock c.time q.ttl)).1).2) (hf3:St.fit (St.put (St.get s2 (keysR (comeM c.key c.body nid clock c.time q.ttl)).1).2 (keysR (comeM c.key c.body nid clock c.time q.ttl)).1 (mbytes (comeM c.key c.body nid clock c.time q.ttl))).2)
  (h:∀w' vi',Mod (fun k=>St.own k∨k=rb) w w'→BrAt St tb m s3 l v clock w'→w'.heap[rb]? = some (.cells #[.int .i64 0,.int .u64 1,vi',.slice none 0 0,.slice none 0 0,.slice none 0 0] 52 (0,0))→OwnU w' 0 vi' [nid] →
   (∀k,vi'.ownBlock=some k→w.heap.size≤k)→K (.int .i64 0) w') :
  Ok prog 101 #[ptr tb,c.val,ptr rb] w K:=by
 refine F101.enter (args:=[ptr tb,c.val,ptr rb]) (by simp) ?_
 unfold c101 r101
 have d1:¬(c.time:Int) > 1099511627776:=by omega
 simp only [ZB,insVc,load1K,iopK,iopV,faddrK,Value.cells,ne_eq,Nat.reduceEqDiff,reduceCtorEq,Zac,Za,Zag,Zah,Zaa,get_alloc,Nat.reduceEqDiff,Cm.val,Cm.cells,d1]
 refine vc_gen ?_
 intro w1 hw1
 have hm1:Mod (fun _=>False) w w1:=by rw [hw1];exact (Mod.refl _ _).alloc _
 have b1:w1.heap[w.heap.size]? = some (.cells c.cells.toArray 126 (0,0)):=by rw [hw1];exact get_alloc_new _ _
 clear hw1
 have hb1:=hb.keep0 hm1
 refine draw_d (fun u=>u.heap[tb]? = some (.cells #[.iface St.t St.v,.func (.func 92) #[] #[],v,.int .u64 clock] 144 (0,0))∧u.heap[w.heap.size]? = some (.cells c.cells.toArray 126 (0,0))) (by kernel_rfl) (by kernel_rfl) (by kernel_rfl) (by kernel_rfl) ⟨hb1.st,b1⟩ ?_
 simp only [ZB,insVc,nilK,nilM,faddrK,extK,lenLK,ne_eq,Nat.reduceEqDiff,reduceCtorEq,Zac,Zae,Zab,Za,Zaa,Zaf,pureI,vcD_nil,vcD_cons,stepD_pure,stepD_load,stepD_step,kindI,loadI]
 refine loadD1 (b:=tb) (o:=0) (v:=.iface St.t St.v) (by simp only [upd_same,ev_tmp]) (fun W hW=>⟨_,_,_,hW.1,rfl⟩) ?_
 refine loadD1 (b:=w.heap.size) (o:=10) (v:=.string ⟨#[]⟩) (by simp only [upd_same,ev_tmp]) (fun W hW=>⟨_,_,_,hW.2,by rw [← (show c.ex=⟨#[]⟩ from hex)];rfl⟩) ?_
 refine loadD1 (b:=w.heap.size) (o:=11) (v:=.string c.key) (by simp only [upd_same,ev_tmp]) (fun W hW=>⟨_,_,_,hW.2,rfl⟩) ?_
 have hb1d:BrAt St tb m s l v clock w1.drew:=hb1.keep0 (Mod.refl _ _).drew
 refine route0_c St.toSto s c.key m w1.drew _ hb1d.at_ hb1d.gl hnl hv1 (fun hx=>by rw [hF0] at hx;exact (hx rfl).elim) ?_
 rw [hF0]
 intro _ w2 g hm2 ha2 hg2
 have hb2:=hb1d.own he hm2 ha2
 have hnb:¬St.own w.heap.size:=fun x=>by have:=St.footLt _ _ _ hb.at_ (St.ownFoot _ x);omega
 have b2:=hm2.keep (show w1.drew.heap[w.heap.size]? = _ from b1) hnb
 have hr2:=hm2.keep (show w1.drew.heap[rb]? = _ from hm1.keep hr id) (fun x=>hrf (St.ownFoot _ x))
 refine ⟨⟨hb2.st,b2⟩, ?_⟩
 simp only [loadV_some,Za,Zag,Zah]
 refine vc_rounds 3 ?_
 have k0:(0:Int)<((1:Nat):Int):=by decide
 have k0':(0:Int)≤0∧(0:Int)<((1:Nat):Int):=by decide
 have b2':=b2
 simp only [Cm.cells] at b2'
 simp only [ZB,insVc,load1K,iopK,iopV,faddrK,iaddrK,ne_eq,Nat.reduceEqDiff,reduceCtorEq,Zac,Zae,Zab,Za,Zag,Zah,Int.reduceToNat,Zbm,k0,k0',hg2,b2']
 refine come0_c c.key c.body c.time nid rb 0 [] (.slice none 0 0) (.slice none 0 0) (.slice none 0 0) (.slice none 0 0) q s1 s2 s3 w2 _ he hb2 hr2 (World.ownsRow_nil _ _ _ _) (fun k hk=>by cases hk) hrf hrt hrg hrm hnl hF hq0 hN hA hid hbody (by decide) (by decide) hv1 hv2 hf1 hf2 hf3 ?_
 intro w3 vi3 hm3 hb3 hr3 hvi3 hbl3
 have z0:((0:Int) != 0)=false:=rfl
 have k1:IntKind.i64.wrap (0+1)=1:=by decide
 have k2:¬(1:Int)<((1:Nat):Int):=by decide
 simp only [ZB,insVc,iopK,iopV,ne_eq,Nat.reduceEqDiff,reduceCtorEq,Int.reduceAdd,z0]
 refine round_next ?_
 simp only [ZB,insVc,iopK,iopV,ne_eq,Nat.reduceEqDiff,reduceCtorEq]
 refine h w3 vi3 ?_ hb3 hr3 hvi3 ?_
 ·have c1:Mod (fun k=>St.own k∨k=rb) w w2:=((hm1.trans (Mod.refl _ _).drew).mono fun _ _ x=>x.elim).then hm2 (fun _ _ x=>.inl x)
  refine c1.then hm3 (fun k _ x => ?_)
  rcases x with x|x|x
  ·exact .inl x
  ·exact .inr x
  ·cases x
 ·intro k hk
  rcases hbl3 k hk with x|x
  ·cases x
  ·have:=hm1.size
   have:=hm2.size
   simp only [size_drew] at this
   omega
end Go.Oct
namespace Go.Vc
open Go
variable {P:Program} {ro:Option Nat} {n:Nat} {ops:Array Oper} {Fix:World→Prop} {md:Region.Mode} {Q:Act→World→Prop} {S:Nat→Bool}
def sliceI:Ins→Bool
 | .raw _ o=>(match o.op with | .slice .. => true|_=>false)
 | _=>false
def lookI (i:Ins):Bool:=loadI i || sliceI i
def kindF (i:Ins):Kind:=if pureI i then .pure else if lookI i then .load else .step
def isStepF (x:In):Bool:=!(pureI x.i) && !(lookI x.i)
def stepsF (l:List In) (k:Nat):Bool:=((l[k]?).map isStepF).getD false
def gateF (P:Program) (Fix:World→Prop) (ρ:Env) (ds:List Deferred) (w:World) (i:Ins) (k:Value→World→Prop):Bool→Prop
 | true=>stepD P Fix ρ ds w i k (kindF i)
 | false=>k undef w
def vcF (P:Program) (Fix:World→Prop) (ds:List Deferred):List In→(Env→World→Prop)→Env→World→Prop
 | [],K,ρ,w=>K ρ w
 | ⟨none,d,i⟩ :: l,K,ρ,w=>stepD P Fix ρ ds w i (fun v w'=>vcF P Fix ds l K (updO ρ d v) w') (kindF i)
 | ⟨some (s,want),d,i⟩ :: l,K,ρ,w=>gateF P Fix ρ ds w i (fun v w'=>vcF P Fix ds l K (updO ρ d v) w') (gate (ρ s) want)
def isSliceOp:Op→Bool
 | .slice .. => true
 | _=>false
def sliceOk (P:Program) (n:Nat) (ops:Array Oper):Bool:=ops.toList.all fun o => !sliceI (compOp P n o) || isSliceOp o.op
theorem val_look {o:Oper} {ρ:Env} {ds:List Deferred} {v:Value} (hso:sliceI (compOp P n o)=true→isSliceOp o.op=true) (hk:lookI (compOp P n o)=true)
  (h:∀w,Fix w→insVc P (fun v' w'=>w'=w∧v'=v) ρ [] w (compOp P n o)):Val P Fix o (mkA n ρ ds) v:=by
 by_cases hl:loadI (compOp P n o)=true
 ·exact val_of_ins (.inr hl) h
 have hs:sliceI (compOp P n o)=true:=by
  unfold lookI at hk
  cases hx:loadI (compOp P n o) with
  | true=>exact absurd hx hl
  | false=>simpa [hx] using hk
 intro w hw
 have h1:=sound_ins (P:=P) (ds:=[]) n o (h w hw)
 have hev:(mkA n ρ ds).eval=(mkA n ρ []).eval:=by funext x;cases x <;> rfl
 rw [hev]
 have hop:=hso hs
 have h2:NoEnter ((execOp (mkA n ρ []).eval o).run P w):=noEnter_of (by unfold isSliceOp at hop;split at hop <;> first|(rename_i e;rw [e];trivial)|cases hop) w
 revert h1 h2
 generalize (execOp (mkA n ρ []).eval o).run P w=r
 intro h1 h2
 match r,h1,h2 with
 | .ok (.value u) w',h1,_=>obtain ⟨rfl,rfl⟩:=h1;exact .inl rfl
 | .ok .skip w',h1,_=>obtain ⟨rfl,h⟩:=h1;exact .inr ⟨rfl,h.symm⟩
theorem walkD_of_vcF {K:Env→World→Prop} {ds:List Deferred} (hK:∀ρ w,Fix w→K ρ w→Q (mkA n ρ ds) w) {li0:List In}:∀(l:List Oper) (k:Nat) (li:List In),(∀o,o∈l→sliceI (compOp P n o)=true→isSliceOp o.op=true)→(∀j,j<l.length→l[j]? = ops[k+j]?)→(∀j,j<l.length→li[j]? = li0[k+j]?) →
  compOps P n ops l=some li→∀ρ w,Fix w→vcF P Fix ds li K ρ w→walkD P ops Fix (stepsF li0) Q l.length k (mkA n ρ ds) w:=by
 intro l
 induction l with
 | nil=>intro k li _ _ _ hc ρ w hw h;simp [compOps] at hc;subst hc;exact hK ρ w hw h
 | cons o l ih =>
  intro k li hso hl hli hc ρ w hw h
  simp only [compOps] at hc
  split at hc
  ·rename_i g l' hg hl'
   simp at hc;subst hc
   have h0:ops[k]? = some o:=by simpa using (hl 0 (by simp)).symm
   have hS:stepsF li0 k=isStepF ⟨g,o.dst,compOp P n o⟩:=by
    have:=hli 0 (by simp)
    simp only [Za,Nat.add_zero] at this
    simp [stepsF,← this]
   have hl2:∀j,j<l.length→l[j]? = ops[k+1+j]?:=fun j hj=>by have:=hl (j+1) (by rw [List.length_cons];omega);simpa [Nat.add_assoc,Nat.add_comm 1 j] using this
   have hli2:∀j,j<l.length→l'[j]? = li0[k+1+j]?:=fun j hj=>by have:=hli (j+1) (by rw [List.length_cons];omega);simpa [Nat.add_assoc,Nat.add_comm 1 j] using this
   have next:∀v w',Fix w'→vcF P Fix ds l' K (updO ρ o.dst v) w'→walkD P ops Fix (stepsF li0) Q l.length (k+1) ((mkA n ρ ds).put o.dst v) w':=by
    intro v w' hw' hv
    rw [mkA_put]
    exact ih (k+1) l' (fun o' ho'=>hso o' (List.mem_cons_of_mem _ ho')) hl2 hli2 hl' _ _ hw' hv
   have hwg:=wanted_gate (ρ:=ρ) (ds:=ds) hg
   have main:gateF P Fix ρ ds w (compOp P n o) (fun v w'=>vcF P Fix ds l' K (updO ρ o.dst v) w') (gateOf ρ g)→walkD P ops Fix (stepsF li0) Q (o :: l).length k (mkA n ρ ds) w:=by
    intro hgd
    simp only [Zak,walkD]
    unfold dOp
    simp only [h0,hwg]
    cases hgt:gateOf ρ g with
    | false =>
     rw [hgt] at hgd
     simp only [Bool.false_eq_true,Zaf]
     exact next undef w hw hgd
    | true =>
     rw [hgt] at hgd
     simp only [Zaa,hS]
     simp only [gateF,kindF] at hgd
     by_cases hp:pureI (compOp P n o)=true
     ·rw [if_pos hp] at hgd
      rw [if_neg (by simp [isStepF,hp])]
      obtain ⟨v,e,kv⟩:=pure_step (k:=fun v=>vcF P Fix ds l' K (updO ρ o.dst v) w) hp hgd
      exact ⟨v,val_of_ins (.inl hp) fun w' _=>e w',next v w hw kv⟩
     ·rw [if_neg hp] at hgd
      by_cases hld:lookI (compOp P n o)=true
      ·rw [if_pos hld] at hgd
       rw [if_neg (by simp [isStepF,hld])]
       obtain ⟨v,e,kv⟩:=hgd
       exact ⟨v,val_look (hso o (List.mem_cons_self ..)) hld e,next v w hw kv⟩
      ·rw [if_neg hld] at hgd
       rw [if_pos (by simp [isStepF,hp,hld])]
       have hgd':insVc P (fun v w'=>Fix w'∧vcF P Fix ds l' K (updO ρ o.dst v) w') ρ ds w (compOp P n o):=hgd
       exact upon_mono (fun v w' x=>⟨x.1,next v w' x.1 x.2⟩) (sound_ins n o hgd')
   cases g with
   | none=>exact main h
   | some p=>obtain ⟨s,want⟩:=p;exact main h
  ·contradiction
theorem draw_z (Fix:World→Prop) {id:Nat} {l:List In} {li:List In} {d:Option Nat} {i:Ins} {Q:QT} {ρ:Env} {ds:List Deferred} {w:World} (hm:P.follows .mixedOrders=true) (hSO:sliceOk P n ops=true) (hLB:lastB .any ops=true) (hB:lexLast .any ops=true) (hl:compOps P n ops ops.toList=some l)
  (hli:l=li ++ [⟨none,d,i⟩]) (hS:chainLast ops (stepsF l)=true) (hC:Fix w.drew) (h:vcF P Fix ds li (fun ρ' w'=>insVc P (fun v w''=>Q .normal (updO ρ' d v) ds w'') ρ' ds w' i) ρ w.drew):vc P ro n (.draw id ops l) Q ρ ds w:=by
 have hlen:l.length=ops.size:=by
  obtain ⟨la,lb,h1,h2,h3,h4⟩:=compOps_append ops.toList [] l (by simpa using hl)
  simp [compOps] at h2
  subst h2
  rw [h3,List.append_nil,h4,Array.length_toList]
 have hsz:li.length+1=ops.size:=by rw [← hlen,hli];simp
 obtain ⟨oL,hoL⟩:∃oL,ops[li.length]? = some oL:=⟨_,Array.getElem?_eq_getElem (by omega)⟩
 have hsplit:ops.toList=ops.toList.take li.length ++ [oL]:=by
  have:ops.toList.drop li.length=[oL]:=by
   rw [List.drop_eq_getElem?_toList_append,Array.getElem?_toList,hoL,List.drop_eq_nil_of_le (by rw [Array.length_toList];omega)];rfl
  rw [← this,List.take_append_drop]
 rw [hsplit] at hl
 obtain ⟨la,lb,h1,h2,h3,h4⟩:=compOps_append _ _ _ hl
 have hlal:la.length=li.length:=by rw [h4,List.length_take,Array.length_toList (xs:=ops)];omega
 rw [hli] at h3
 obtain ⟨e1,e2⟩:=List.append_inj h3 hlal.symm
 subst e1
 simp only [compOps] at h2
 split at h2
 rotate_left
 ·contradiction
 rename_i g l' hg hl'
 simp at hl'
 subst hl'
 simp at h2
 rw [← e2] at h2
 simp only [List.cons.injEq,and_true,In.mk.injEq] at h2
 obtain ⟨hg0,hd,hi⟩:=h2
 subst hg0
 intro t
 simp only [Region.schedule,hm,Zbw,Zaa]
 refine wpAnyIn_sound ops.size t _ _ _ ?_
 simp only [lexLast,Zbk] at hB
 rw [← hsz]
 have hrep:(Array.replicate (li.length+1) false).size=ops.size:=by rw [Array.size_replicate,hsz]
 refine wpAnyIn_last (Fix:=Fix) (S:=stepsF l) (Q:=fun a w'=>upon P (fun v w''=>lift n Q .normal (a.put oL.dst v) w'') ((execOp a.eval oL).run P w')∧Region.wanted oL (yielded ops a.tmps)=true) (L:=li.length) hLB hsz ?_ li.length _ _ _ hrep (by simp) ?_ hC ?_
 ·rintro a w' _ ⟨hq,hw⟩
  unfold wpOpIn
  simp only [hoL,hw,Zaa]
  exact wpIn_of_upon hq
 ·intro p o ho hp e he hb
  have hps:p<li.length+1:=by rw [hsz];exact (Array.getElem?_eq_some_iff.1 ho).1
  simp [hps] at hp
 ·have hr0:(Array.replicate (li.length+1) false).setIfInBounds li.length true=ready0 ops:=by unfold ready0;rw [← hsz];rfl
  rw [hr0]
  have hk:ops.size-1=li.length:=by omega
  have hB2:=hB.2
  rw [hk] at hB2
  have hS':=hS
  unfold chainLast at hS'
  rw [hk] at hS'
  refine wpAnyD_lex' hB.1 li.length 0 _ _ _ hC (by omega) hB2 hS' ?_
  have htl:(ops.toList.take li.length).length=li.length:=by rw [List.length_take,Array.length_toList (xs:=ops)];omega
  have hw:=walkD_of_vcF (P:=P) (ops:=ops) (Fix:=Fix) (n:=n) (ds:=ds) (Q:=fun a w'=>upon P (fun v w''=>lift n Q .normal (a.put oL.dst v) w'') ((execOp a.eval oL).run P w')∧Region.wanted oL (yielded ops a.tmps)=true)
   (K:=fun ρ' w'=>insVc P (fun v w''=>Q .normal (updO ρ' d v) ds w'') ρ' ds w' i) ?_ (li0:=l) (ops.toList.take li.length) 0 li (fun o ho hs=>by have:=List.all_eq_true.1 hSO o (List.mem_of_mem_take ho);simpa [hs] using this) ?_ ?_ h1 ρ w.drew hC h
  ·rw [htl] at hw;exact hw
  ·intro ρ' w' _ hk'
   have hwg:=wanted_gate (ρ:=ρ') (ds:=ds) hg
   refine ⟨?_,by rw [hwg];rfl⟩
   rw [← hi] at hk'
   refine upon_mono (fun v w'' x => ?_) (sound_ins n oL hk')
   rw [mkA_put,hd]
   exact ⟨_,_,rfl,x⟩
  ·intro j hj
   rw [List.getElem?_take,if_pos (by omega),Array.getElem?_toList,Nat.zero_add]
  ·intro j hj
   rw [hli,Nat.zero_add,List.getElem?_append_left (by omega)]
theorem draw_z' {ops:Array Oper} {ro:Option Nat} (Fix:World→Prop) {id:Nat} {l:List In} {d:Option Nat} {i:Ins} {Q:QT} {ρ:Env} {ds:List Deferred} {w:World} (hm:P.follows .mixedOrders=true) (hSO:sliceOk P n ops=true) (hLB:lastB .any ops=true) (hB:lexLast .any ops=true) (hl:compOps P n ops ops.toList=some l)
  (hS:chainLast ops (stepsF l)=true) (hli:l.getLast? = some ⟨none,d,i⟩) (hC:Fix w.drew) (h:vcF P Fix ds l.dropLast (fun ρ' w'=>insVc P (fun v w''=>Q .normal (updO ρ' d v) ds w'') ρ' ds w' i) ρ w.drew):vc P ro n (.draw id ops l) Q ρ ds w :=
 draw_z Fix hm hSO hLB hB hl (last_split _ _ hli) hS hC h
section
variable {K:Env→World→Prop} {ρ:Env} {ds:List Deferred} {w:World} {d:Option Nat} {i:Ins} {l:List In} {k:Value→World→Prop}
theorem vcF_nil:vcF P Fix ds [] K ρ w=K ρ w:=nr rfl
theorem vcF_cons:vcF P Fix ds (⟨none,d,i⟩ :: l) K ρ w=stepD P Fix ρ ds w i (fun v w'=>vcF P Fix ds l K (updO ρ d v) w') (kindF i):=nr rfl
end
end Go.Vc
