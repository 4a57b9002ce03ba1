import Derived.Test.YtpggpopbkmgodaaGreatDoorVmG
import Derived.Test.YtpggpopbkmgodaaGreatDoorVmF
import Derived.Test.YtpggpopbkmgodaaGreatDoorVnT
import Derived.Test.YtpggpopbkmgodaaGreatDoorVlJ
import Derived.Test.YtpggpopbkmgodaaGreatDoorVcX
set_option linter.unusedSimpArgs false
set_option linter.unusedVariables false
set_option linter.unusedSectionVars false
set_option linter.unnecessarySimpa false
namespace Go.Oct
open Go Go.Vc Go.VrA Go.VrK Go.VrL Go.VrN Go.Tal Go.Proofs.Tryz
set_option maxRecDepth 100000
theorem keysE_c (tb mb n:Nat) (w:World) (K:Value→World→Prop)
  (h:∀w' gf cap,Mod (fun _=>False) w w'→IterP prog gf cap [] (fun u=>TalE u tb mb n∧Kept w.heap.size w' u)→K (.func (.func gf) #[] cap.toArray) w') :
  Ok prog 40 #[ptr tb] w K:=by
 refine F40.enter (args:=[ptr tb]) (by simp) ?_
 unfold c40 r40
 simp only [ZB,endK,resK,packed,insVc,Value.cells,ne_eq,Nat.reduceEqDiff,Zac,Zae,Zab,Za,Zad]
 refine h _ _ [ptr w.heap.size] ((Mod.refl _ _).alloc _) (iterP_mono (keysE1_c _ tb mb n) ?_)
 rintro u ⟨h1,h2⟩
 refine ⟨h1,h2.at ?_ (Nat.le_refl _)⟩
 simp only [Zaa,get_alloc]
theorem allE1_c (c1 tb mb n:Nat):IterP prog 39 [ptr c1] [] (fun u=>TalE u tb mb n∧u.heap[c1]? = some (.cells #[ptr tb] 56 (0,0))):=by
 rintro y ⟨fy,ya,yb,hyf⟩ J Jx w hJ hF hS hSx hy
 refine F39.enter (args:=[y,ptr c1]) (by simp) ?_
 unfold c39 r39
 obtain ⟨hA,e1⟩:=hF 0 _ _ hJ
 have q1:=lt_of_get e1
 simp only [ZB,insVc,load1K,Value.cells,ne_eq,Nat.reduceEqDiff,Zac,Zae,Zab,Za,Zag,Zah,Zaj,Zaf,get_alloc,Nat.reduceEqDiff,e1,Nat.ne_of_lt q1]
 refine callK_gen ?_
 intro w1 hw1
 have hm1:Mod (fun _=>False) w w1:=by rw [hw1];exact (Mod.refl _ _).alloc _
 clear hw1
 refine keysE_c tb mb n w1 _ ?_
 intro w4 gf cap hm4 it
 have hm14:=hm1.trans hm4
 have hz1:=hm1.size
 have hz4:=hm4.size
 simp only [ZB]
 let XO:(Nat→Prop)→Nat→Prop:=fun X k=>(w.heap.size≤k∧k<w4.heap.size+2)∨X k
 have hXO:∀(X X':Nat→Prop) (a b:World),(∀k,X' k→X k∨a.heap.size≤k∧k<b.heap.size)→∀k,XO X' k→XO X k∨a.heap.size≤k∧k<b.heap.size:=by
  rintro X X' a b h k (hk|hk)
  ·exact .inl (.inl hk)
  ·exact (h k hk).elim (fun x=>.inl (.inr x)) .inr
 refine range_iter (by kernel_rfl) (by kernel_rfl) (by kernel_rfl) (gf:=gf) (cap:=cap) (by simp only [upd_same,ev_tmp]) it
  (fun i X u=>J 0 (XO X) u∧Kept w.heap.size w4 u) (fun c X u=>False) ?_ ?_ ?_ ?_ ?_ ?_ ?_ ?_
 ·intro X w' hm hsz hX
  refine ⟨hS 0 _ _ w w' hJ ((hm14.trans hm).mono fun _ _ x=>x.elim) ?_,(Kept.refl _ _).keep hm (fun _ _ _=>id)⟩
  rintro k (hk|hk)
  ·exact .inr ⟨hk.1,by omega⟩
  ·have:=hX k hk
   exact .inr (by omega)
 ·rintro i X u ⟨h1,h2⟩
  exact ⟨(hF _ _ _ h1).1,h2.1,fun k hk hk'=>h2.2 k (by omega) hk'⟩
 ·rintro i X X' a b ⟨h1,h2⟩ hX ha hm hx
  exact ⟨hS 0 _ _ a b h1 (hm.mono fun _ _ x=>.inr x) (hXO X X' a b hx),h2.keep hm (fun k _ hk x=>by have:=hX k x;omega)⟩
 ·rintro c X X' a b h
  exact h.elim
 ·intro i hi
  simp at hi
 ·intro i hi
  simp at hi
 ·rintro X u ⟨h3,h4⟩ ⟨a1,a2,a3⟩
  simp only [blockQ_normal,endQ_normal,endK,resK,size_set,markO,a1]
  have hm:Mod (XO X) u (Vc.set u w4.heap.size (.deferred none)):=(Mod.refl _ _).set (.inr (.inl ⟨by omega,by omega⟩))
  refine ⟨by omega,XO X, ?_,.inl (hS 0 _ _ u _ h3 hm (fun k hk=>.inl hk))⟩
  rintro k (hk|hk)
  ·omega
  ·have:=a3 k hk;omega
 ·rintro c X u h
  exact h.elim
theorem allE_c (tb mb n:Nat) (w:World) (K:Value→World→Prop)
  (h:∀w' gf cap,Mod (fun _=>False) w w'→IterP prog gf cap [] (fun u=>TalE u tb mb n∧Kept w.heap.size w' u)→K (.func (.func gf) #[] cap.toArray) w') :
  Ok prog 27 #[ptr tb] w K:=by
 refine F27.enter (args:=[ptr tb]) (by simp) ?_
 unfold c27 r27
 simp only [ZB,endK,resK,packed,insVc,Value.cells,ne_eq,Nat.reduceEqDiff,Zac,Zae,Zab,Za,Zad]
 refine h _ _ [ptr w.heap.size] ((Mod.refl _ _).alloc _) (iterP_mono (allE1_c _ tb mb n) ?_)
 rintro u ⟨h1,h2⟩
 refine ⟨h1,h2.at ?_ (Nat.le_refl _)⟩
 simp only [Zaa,get_alloc]
theorem mergeNE_c (ub mb n:Nat) (w:World) (K:Value→World→Prop) (hu:TalE w ub mb n) (h:∀w' v,Mod (fun _=>False) w w'→K v w'):Ok prog 26 #[.pointer none,ptr ub] w K:=by
 refine F26.enter (args:=[.pointer none,ptr ub]) (by simp) ?_
 unfold c26 r26
 simp only [ZB,insVc,Value.cells,ne_eq,Nat.reduceEqDiff,Zac,Zae,Zab,Za,Zag,Nat.reduceEqDiff]
 refine callK_gen ?_
 intro w1 hw1
 have hm1:Mod (fun _=>False) w w1:=by rw [hw1];exact (Mod.refl _ _).alloc _
 clear hw1
 refine allE_c ub mb n w1 _ ?_
 intro w4 gf cap hm4 it
 have hz1:=hm1.size
 have hz4:=hm4.size
 have hu4:TalE w4 ub mb n:=TalD.keep (TalD.keep hu hm1 id id) hm4 id id
 simp only [ZB]
 refine range_iter (by kernel_rfl) (by kernel_rfl) (by kernel_rfl) (gf:=gf) (cap:=cap) (by simp only [upd_same,ev_tmp]) it
  (fun i X u=>Mod (fun _=>False) w4 u) (fun c X u=>False) ?_ ?_ ?_ ?_ ?_ ?_ ?_ ?_
 ·intro X w' hm hsz hX
  exact hm
 ·intro i X u h1
  exact ⟨TalD.keep hu4 h1 id id,h1.size,fun k hk hk'=>h1.get k hk' id⟩
 ·intro i X X' a b h1 hX ha hm hx
  exact h1.then hm (fun k hk hx=>by have:=hX k hx;omega)
 ·rintro c X X' a b h
  exact h.elim
 ·intro i hi
  simp at hi
 ·intro i hi
  simp at hi
 ·rintro X u h1 ⟨a1,a2,a3⟩
  simp only [blockQ_normal,endQ_normal,endK,resK,packed,markO,a1]
  exact h _ _ (((hm1.trans hm4).trans h1).set (.inl (by omega)))
 ·rintro c X u h
  exact h.elim
theorem addN_c (k:Int) (x:Nat) (w:World) (K:Value→World→Prop) (h:∀v,K v w):Ok prog 19 #[.pointer none,.int .i64 k,.int .u64 x] w K:=by
 refine F19.enter (args:=[.pointer none,.int .i64 k,.int .u64 x]) (by simp) ?_
 unfold c19 r19
 simp only [ZB,endK,resK,packed,insVc,nilOf,pnilK,Zac,Za,Zaf,Option.isNone_none]
 exact h _
theorem ofN_c (k:Int) (w:World) (K:Value→World→Prop) (h:∀w',Mod (fun _=>False) w w'→K Rw.zero.val w'):Ok prog 20 #[.pointer none,.int .i64 k] w K:=by
 refine F20.enter (args:=[.pointer none,.int .i64 k]) (by simp) ?_
 unfold c20 r20
 simp only [ZB,endK,resK,resN,packed,insVc,storeNK,setMany,nilOf,pnilK,buildK,fillL,isPlain,Value.cells,ne_eq,Nat.reduceEqDiff,Nat.reduceAdd,Nat.reduceLeDiff,reduceCtorEq,Zac,Za,Zai,Zak,Zaj,Zal,Zam,Zan,Zad,Zaa,Zaf,Option.isNone_none,Zar,Zap,Zaq,Zao,Zas,Zat,Zau,Zav,Zax,Zbb,Zay,get_alloc,Nat.reduceAdd,Nat.reduceEqDiff]
 exact h _ (((Mod.refl _ _).alloc _).set (.inl (Nat.le_refl _)))
end Go.Oct
namespace Go.Vc
open Go
variable {P:Program} {ro:Option Nat} {n:Nat} {ops:Array Oper} {Fix:World→Prop} {md:Region.Mode} {Q:Act→World→Prop} {S:Nat→Bool}
def quietR:Ins→Bool
 | .raw _ o=>(match o.op with | .slice .. => true | .lookup .. => true | .binOp .. => true|_=>false)
 | _=>false
def lookQI (i:Ins):Bool:=loadI i || quietR i
def kindY (i:Ins):Kind:=if pureI i then .pure else if lookQI i then .load else .step
def isStepY (x:In):Bool:=!(pureI x.i) && !(lookQI x.i)
def stepsY (l:List In) (k:Nat):Bool:=((l[k]?).map isStepY).getD false
def gateY (P:Program) (Fix:World→Prop) (ρ:Env) (ds:List Deferred) (w:World) (i:Ins) (k:Value→World→Prop):Bool→Prop
 | true=>stepD P Fix ρ ds w i k (kindY i)
 | false=>k undef w
def vcY (P:Program) (Fix:World→Prop) (ds:List Deferred):List In→(Env→World→Prop)→Env→World→Prop
 | [],K,ρ,w=>K ρ w
 | ⟨none,d,i⟩ :: l,K,ρ,w=>stepD P Fix ρ ds w i (fun v w'=>vcY P Fix ds l K (updO ρ d v) w') (kindY i)
 | ⟨some (s,want),d,i⟩ :: l,K,ρ,w=>gateY P Fix ρ ds w i (fun v w'=>vcY P Fix ds l K (updO ρ d v) w') (gate (ρ s) want)
def isQuietOp:Op→Bool
 | .slice .. => true
 | .lookup .. => true
 | .binOp .. => true
 | _=>false
def quietOk (P:Program) (n:Nat) (ops:Array Oper):Bool:=ops.toList.all fun o => !quietR (compOp P n o) || isQuietOp o.op
theorem val_lookY {o:Oper} {ρ:Env} {ds:List Deferred} {v:Value} (hso:quietR (compOp P n o)=true→isQuietOp o.op=true) (hk:lookQI (compOp P n o)=true)
  (h:∀w,Fix w→insVc P (fun v' w'=>w'=w∧v'=v) ρ [] w (compOp P n o)):Val P Fix o (mkA n ρ ds) v:=by
 by_cases hl:loadI (compOp P n o)=true
 ·exact val_of_ins (.inr hl) h
 have hs:quietR (compOp P n o)=true:=by
  unfold lookQI at hk
  cases hx:loadI (compOp P n o) with
  | true=>exact absurd hx hl
  | false=>simpa [hx] using hk
 intro w hw
 have h1:=sound_ins (P:=P) (ds:=[]) n o (h w hw)
 have hev:(mkA n ρ ds).eval=(mkA n ρ []).eval:=by funext x;cases x <;> rfl
 rw [hev]
 have hop:=hso hs
 have h2:NoEnter ((execOp (mkA n ρ []).eval o).run P w):=noEnter_of (by unfold isQuietOp at hop;split at hop <;> first|(rename_i e;rw [e];trivial)|cases hop) w
 revert h1 h2
 generalize (execOp (mkA n ρ []).eval o).run P w=r
 intro h1 h2
 match r,h1,h2 with
 | .ok (.value u) w',h1,_=>obtain ⟨rfl,rfl⟩:=h1;exact .inl rfl
 | .ok .skip w',h1,_=>obtain ⟨rfl,h⟩:=h1;exact .inr ⟨rfl,h.symm⟩
theorem walkD_of_vcY {K:Env→World→Prop} {ds:List Deferred} (hK:∀ρ w,Fix w→K ρ w→Q (mkA n ρ ds) w) {li0:List In}:∀(l:List Oper) (k:Nat) (li:List In),(∀o,o∈l→quietR (compOp P n o)=true→isQuietOp o.op=true)→(∀j,j<l.length→l[j]? = ops[k+j]?)→(∀j,j<l.length→li[j]? = li0[k+j]?) →
  compOps P n ops l=some li→∀ρ w,Fix w→vcY P Fix ds li K ρ w→walkD P ops Fix (stepsY li0) Q l.length k (mkA n ρ ds) w:=by
 intro l
 induction l with
 | nil=>intro k li _ _ _ hc ρ w hw h;simp [compOps] at hc;subst hc;exact hK ρ w hw h
 | cons o l ih =>
  intro k li hso hl hli hc ρ w hw h
  simp only [compOps] at hc
  split at hc
  ·rename_i g l' hg hl'
   simp at hc;subst hc
   have h0:ops[k]? = some o:=by simpa using (hl 0 (by simp)).symm
   have hS:stepsY li0 k=isStepY ⟨g,o.dst,compOp P n o⟩:=by
    have:=hli 0 (by simp)
    simp only [Za,Nat.add_zero] at this
    simp [stepsY,← this]
   have hl2:∀j,j<l.length→l[j]? = ops[k+1+j]?:=fun j hj=>by have:=hl (j+1) (by rw [List.length_cons];omega);simpa [Nat.add_assoc,Nat.add_comm 1 j] using this
   have hli2:∀j,j<l.length→l'[j]? = li0[k+1+j]?:=fun j hj=>by have:=hli (j+1) (by rw [List.length_cons];omega);simpa [Nat.add_assoc,Nat.add_comm 1 j] using this
   have next:∀v w',Fix w'→vcY P Fix ds l' K (updO ρ o.dst v) w'→walkD P ops Fix (stepsY li0) Q l.length (k+1) ((mkA n ρ ds).put o.dst v) w':=by
    intro v w' hw' hv
    rw [mkA_put]
    exact ih (k+1) l' (fun o' ho'=>hso o' (List.mem_cons_of_mem _ ho')) hl2 hli2 hl' _ _ hw' hv
   have hwg:=wanted_gate (ρ:=ρ) (ds:=ds) hg
   have main:gateY P Fix ρ ds w (compOp P n o) (fun v w'=>vcY P Fix ds l' K (updO ρ o.dst v) w') (gateOf ρ g)→walkD P ops Fix (stepsY li0) Q (o :: l).length k (mkA n ρ ds) w:=by
    intro hgd
    simp only [Zak,walkD]
    unfold dOp
    simp only [h0,hwg]
    cases hgt:gateOf ρ g with
    | false =>
     rw [hgt] at hgd
     simp only [Bool.false_eq_true,Zaf]
     exact next undef w hw hgd
    | true =>
     rw [hgt] at hgd
     simp only [Zaa,hS]
     simp only [gateY,kindY] at hgd
     by_cases hp:pureI (compOp P n o)=true
     ·rw [if_pos hp] at hgd
      rw [if_neg (by simp [isStepY,hp])]
      obtain ⟨v,e,kv⟩:=pure_step (k:=fun v=>vcY P Fix ds l' K (updO ρ o.dst v) w) hp hgd
      exact ⟨v,val_of_ins (.inl hp) fun w' _=>e w',next v w hw kv⟩
     ·rw [if_neg hp] at hgd
      by_cases hld:lookQI (compOp P n o)=true
      ·rw [if_pos hld] at hgd
       rw [if_neg (by simp [isStepY,hld])]
       obtain ⟨v,e,kv⟩:=hgd
       exact ⟨v,val_lookY (hso o (List.mem_cons_self ..)) hld e,next v w hw kv⟩
      ·rw [if_neg hld] at hgd
       rw [if_pos (by simp [isStepY,hp,hld])]
       have hgd':insVc P (fun v w'=>Fix w'∧vcY P Fix ds l' K (updO ρ o.dst v) w') ρ ds w (compOp P n o):=hgd
       exact upon_mono (fun v w' x=>⟨x.1,next v w' x.1 x.2⟩) (sound_ins n o hgd')
   cases g with
   | none=>exact main h
   | some p=>obtain ⟨s,want⟩:=p;exact main h
  ·contradiction
theorem draw_y (Fix:World→Prop) {id:Nat} {l:List In} {li:List In} {d:Option Nat} {i:Ins} {Q:QT} {ρ:Env} {ds:List Deferred} {w:World} (hm:P.follows .mixedOrders=true) (hSO:quietOk P n ops=true) (hLB:lastB .any ops=true) (hB:lexLast .any ops=true) (hl:compOps P n ops ops.toList=some l)
  (hli:l=li ++ [⟨none,d,i⟩]) (hS:chainLast ops (stepsY l)=true) (hC:Fix w.drew) (h:vcY P Fix ds li (fun ρ' w'=>insVc P (fun v w''=>Q .normal (updO ρ' d v) ds w'') ρ' ds w' i) ρ w.drew):vc P ro n (.draw id ops l) Q ρ ds w:=by
 have hlen:l.length=ops.size:=by
  obtain ⟨la,lb,h1,h2,h3,h4⟩:=compOps_append ops.toList [] l (by simpa using hl)
  simp [compOps] at h2
  subst h2
  rw [h3,List.append_nil,h4,Array.length_toList]
 have hsz:li.length+1=ops.size:=by rw [← hlen,hli];simp
 obtain ⟨oL,hoL⟩:∃oL,ops[li.length]? = some oL:=⟨_,Array.getElem?_eq_getElem (by omega)⟩
 have hsplit:ops.toList=ops.toList.take li.length ++ [oL]:=by
  have:ops.toList.drop li.length=[oL]:=by
   rw [List.drop_eq_getElem?_toList_append,Array.getElem?_toList,hoL,List.drop_eq_nil_of_le (by rw [Array.length_toList];omega)];rfl
  rw [← this,List.take_append_drop]
 rw [hsplit] at hl
 obtain ⟨la,lb,h1,h2,h3,h4⟩:=compOps_append _ _ _ hl
 have hlal:la.length=li.length:=by rw [h4,List.length_take,Array.length_toList (xs:=ops)];omega
 rw [hli] at h3
 obtain ⟨e1,e2⟩:=List.append_inj h3 hlal.symm
 subst e1
 simp only [compOps] at h2
 split at h2
 rotate_left
 ·contradiction
 rename_i g l' hg hl'
 simp at hl'
 subst hl'
 simp at h2
 rw [← e2] at h2
 simp only [List.cons.injEq,and_true,In.mk.injEq] at h2
 obtain ⟨hg0,hd,hi⟩:=h2
 subst hg0
 intro t
 simp only [Region.schedule,hm,Zbw,Zaa]
 refine wpAnyIn_sound ops.size t _ _ _ ?_
 simp only [lexLast,Zbk] at hB
 rw [← hsz]
 have hrep:(Array.replicate (li.length+1) false).size=ops.size:=by rw [Array.size_replicate,hsz]
 refine wpAnyIn_last (Fix:=Fix) (S:=stepsY l) (Q:=fun a w'=>upon P (fun v w''=>lift n Q .normal (a.put oL.dst v) w'') ((execOp a.eval oL).run P w')∧Region.wanted oL (yielded ops a.tmps)=true) (L:=li.length) hLB hsz ?_ li.length _ _ _ hrep (by simp) ?_ hC ?_
 ·rintro a w' _ ⟨hq,hw⟩
  unfold wpOpIn
  simp only [hoL,hw,Zaa]
  exact wpIn_of_upon hq
 ·intro p o ho hp e he hb
  have hps:p<li.length+1:=by rw [hsz];exact (Array.getElem?_eq_some_iff.1 ho).1
  simp [hps] at hp
 ·have hr0:(Array.replicate (li.length+1) false).setIfInBounds li.length true=ready0 ops:=by unfold ready0;rw [← hsz];rfl
  rw [hr0]
  have hk:ops.size-1=li.length:=by omega
  have hB2:=hB.2
  rw [hk] at hB2
  have hS':=hS
  unfold chainLast at hS'
  rw [hk] at hS'
  refine wpAnyD_lex' hB.1 li.length 0 _ _ _ hC (by omega) hB2 hS' ?_
  have htl:(ops.toList.take li.length).length=li.length:=by rw [List.length_take,Array.length_toList (xs:=ops)];omega
  have hw:=walkD_of_vcY (P:=P) (ops:=ops) (Fix:=Fix) (n:=n) (ds:=ds) (Q:=fun a w'=>upon P (fun v w''=>lift n Q .normal (a.put oL.dst v) w'') ((execOp a.eval oL).run P w')∧Region.wanted oL (yielded ops a.tmps)=true)
   (K:=fun ρ' w'=>insVc P (fun v w''=>Q .normal (updO ρ' d v) ds w'') ρ' ds w' i) ?_ (li0:=l) (ops.toList.take li.length) 0 li (fun o ho hs=>by have:=List.all_eq_true.1 hSO o (List.mem_of_mem_take ho);simpa [hs] using this) ?_ ?_ h1 ρ w.drew hC h
  ·rw [htl] at hw;exact hw
  ·intro ρ' w' _ hk'
   have hwg:=wanted_gate (ρ:=ρ') (ds:=ds) hg
   refine ⟨?_,by rw [hwg];rfl⟩
   rw [← hi] at hk'
   refine upon_mono (fun v w'' x => ?_) (sound_ins n oL hk')
   rw [mkA_put,hd]
   exact ⟨_,_,rfl,x⟩
  ·intro j hj
   rw [List.getElem?_take,if_pos (by omega),Array.getElem?_toList,Nat.zero_add]
  ·intro j hj
   rw [hli,Nat.zero_add,List.getElem?_append_left (by omega)]
theorem draw_y' {ops:Array Oper} {ro:Option Nat} (Fix:World→Prop) {id:Nat} {l:List In} {d:Option Nat} {i:Ins} {Q:QT} {ρ:Env} {ds:List Deferred} {w:World} (hm:P.follows .mixedOrders=true) (hSO:quietOk P n ops=true) (hLB:lastB .any ops=true) (hB:lexLast .any ops=true) (hl:compOps P n ops ops.toList=some l)
  (hS:chainLast ops (stepsY l)=true) (hli:l.getLast? = some ⟨none,d,i⟩) (hC:Fix w.drew) (h:vcY P Fix ds l.dropLast (fun ρ' w'=>insVc P (fun v w''=>Q .normal (updO ρ' d v) ds w'') ρ' ds w' i) ρ w.drew):vc P ro n (.draw id ops l) Q ρ ds w :=
 draw_y Fix hm hSO hLB hB hl (last_split _ _ hli) hS hC h
section
variable {K:Env→World→Prop} {ρ:Env} {ds:List Deferred} {w:World} {d:Option Nat} {i:Ins} {l:List In} {k:Value→World→Prop}
theorem vcY_nil:vcY P Fix ds [] K ρ w=K ρ w:=nr rfl
theorem vcY_cons:vcY P Fix ds (⟨none,d,i⟩ :: l) K ρ w=stepD P Fix ρ ds w i (fun v w'=>vcY P Fix ds l K (updO ρ d v) w') (kindY i):=nr rfl
theorem vcY_gate {s:Nat} {want:Bool}:vcY P Fix ds (⟨some (s,want),d,i⟩ :: l) K ρ w=gateY P Fix ρ ds w i (fun v w'=>vcY P Fix ds l K (updO ρ d v) w') (gate (ρ s) want):=nr rfl
theorem gateY_true:gateY P Fix ρ ds w i k true=stepD P Fix ρ ds w i k (kindY i):=nr rfl
theorem vc_genE {c:CC} {Q:QT} (h:∀R,R=ρ→vc P ro n c Q R ds w):vc P ro n c Q ρ ds w:=h ρ rfl
theorem rawLook {P:Program} {Fix:World→Prop} {ρ:Env} {n:Nat} {o:Oper} {k:Value→Prop} (v:Value) (h:∀w,Fix w→RawK P (fun v' w'=>w'=w∧v'=v) ρ [] n o w) (hk:k v):LoadD Fix P ρ (.raw n o) k:=⟨v,fun w hw=>h w hw,hk⟩
end
end Go.Vc
namespace Go.Oct
open Go Go.Vc Go.VrA Go.VrB Go.VrE Go.VrH Go.VrI Go.VrJ Go.VrK Go.VrL Go.VrN Go.Tal Go.Proofs.Tryz
set_option maxRecDepth 100000
theorem row_zero (l:List Nat):rowOf l=Rw.zero ↔ l.length=0:=by
 constructor
 ·intro h;have:=congrArg Rw.c h;exact this
 ·intro h
  have:l=[]:=List.eq_nil_of_length_eq_zero h
  rw [this,rowOf_nil]
theorem atKey_held {m:MG Sl} {k:List UInt8} {v:Value} {ps:List MemPlace} {y:DataW Value} (hr:rdW v=some (y,ps)) (h:∀zd,(DG Sl.val m).atKey (.string k) zd=y):∃s,lookG k m=some s∧v=s.val:=by
 have e:y = .held v:=by unfold rdW at hr;injection hr with hr;injection hr with hr _;exact hr.symm
 subst e
 have h1:=h (.held (.bool true))
 have h2:=h (.held (.bool false))
 rw [DG_at] at h1 h2
 cases hq:lookG k m with
 | none =>
  rw [hq] at h1 h2
  simp only [Zbv,Option.getD_none] at h1 h2
  rw [← h1] at h2
  injection h2 with h2
  injection h2 with h2
  cases h2
 | some s =>
  rw [hq] at h1
  simp only [Zbn,Zac] at h1
  injection h1 with h1
  exact ⟨s,rfl,h1.symm⟩
def k0:List UInt8:=[110,111,32,115,117,99,104,32,107,101,121]
set_option maxHeartbeats 1000000 in
theorem counts_c (l:List Ac) (v:Value) (s o:Nat) (m:Int) (w:World) (K:Value→World→Prop) (hg:Gl m w) (hf:Forms w) (hv:IsT acCells 2 w v l) (hb:∀a∈l,a.2<18446744073709551616) (hk:∀a∈l,a.1.length≤maxLen) (hs:s<18446744073709551616) (ho:o<18446744073709551616)
  (h:∀w',Mod (fun _=>False) w w'→K (.bool true) w'):Ok prog 6 #[v,.int .u64 s,.int .u64 o] w K:=by
 refine F6.enter (args:=[v,.int .u64 s,.int .u64 o]) (by simp) ?_
 unfold c6 r6
 obtain ⟨va,vc',rfl⟩:=hv.1
 simp only [ZB,insVc,Value.cells,Zab]
 refine callK_gen ?_
 intro w1 hw1
 have hm1:Mod (fun _=>False) w w1:=by rw [hw1];exact (Mod.refl _ _).alloc _
 have r1:w1.heap[w.heap.size]? = some (.cells #[.bool false] 4 (0,0)):=by rw [hw1];simp only [Zaa,get_alloc]
 clear hw1
 refine awake36_c m w1 _ (hg.mod hm1 id) (hf.mod0 hm1) ?_
 intro w2 hm2
 have hm12:=hm1.trans hm2
 have r2:=hm2.keep r1 id
 have l2:=lt_of_get r2
 have hwl:=l2
 by_cases hl:(l.length:Int) > 100
 ·simp only [ZB,endK,resK,res1,packed,insVc,storeK,iopK,iopV,notK,lenLK,isPlain,ne_eq,Nat.reduceEqDiff,Nat.reduceLT,Nat.reduceLeDiff,reduceCtorEq,Zac,Za,Zai,Zak,Zaj,Zal,Zam,Zad,Zbb,Zay,Nat.reduceEqDiff,Nat.reduceLT,hl,r2,l2]
  exact h _ (hm12.set (.inl (Nat.le_refl _)))
 have hll:l.length≤100:=by omega
 simp only [ZB,insVc,iopK,iopV,notK,lenLK,ne_eq,reduceCtorEq,Zac,Zab,Za,hl]
 refine newSd_c w2 _ ?_
 intro w3 tb mb hm3 htb hmb ht3
 have ht3':TalG w3 tb mb 0 []:=ht3
 have hm13:=hm12.trans hm3
 have r3:=hm3.keep r2 id
 simp only [ZB,insVc,lenLK,ne_eq,reduceCtorEq,Zac,Za]
 refine vc_loop (fun k ρ ds u=>ds=[]∧ρ 0 = .slice va l.length vc'∧ρ 1 = .int .u64 s∧ρ 2 = .int .u64 o∧ρ 6=ptr w.heap.size∧ρ 7=ptr tb∧ρ 21 = .slice va l.length vc'∧ρ 22 = .int .i64 l.length∧Mod (fun _=>False) w u∧u.heap[w.heap.size]? = some (.cells #[.bool false] 4 (0,0)) ∧
  ∃(i:Nat) (mm:MG Rw),i+k=l.length∧ρ 23 = .int .i64 i∧TalG u tb mb i mm∧Counts mm (l.take i)) l.length ?_ ?_
 ·exact ⟨rfl,by simp only [upd_other,initE_at,ne_eq,not_false_eq_true,reduceCtorEq,Zac,Za],by simp only [upd_other,initE_at,ne_eq,not_false_eq_true,Nat.reduceEqDiff,Zac,Za,Zag],by simp only [upd_other,initE_at,ne_eq,not_false_eq_true,Nat.reduceEqDiff,Zac,Za,Zag],by simp only [upd_same,upd_other,ne_eq,not_false_eq_true,Nat.reduceEqDiff],by simp only [upd_same,upd_other,ne_eq,not_false_eq_true,Nat.reduceEqDiff],by simp only [upd_same,upd_other,ne_eq,not_false_eq_true,Nat.reduceEqDiff],by simp only [upd_same,upd_other,ne_eq,not_false_eq_true,Nat.reduceEqDiff],hm13,r3,0,[],by omega,by simp only [upd_same];rfl,ht3',Counts.nil⟩
 ·clear r1 r2 l2 r3 ht3 ht3'
  rintro k ρ ds u ⟨rfl,q0,q1,q2,q6,q7,q21,q22,hm,ru,i,mm,hik,q23,ht,hc⟩
  simp only [ZB,insVc,iopK,iopV,reduceCtorEq,q22,q23]
  by_cases hi:(i:Int)<l.length
  ·obtain ⟨r,hx⟩:∃r,l[i]? = some r:=⟨_,List.getElem?_eq_getElem (by omega)⟩
   have hrb:=hb r (List.mem_of_getElem? hx)
   have hrk:=hk r (List.mem_of_getElem? hx)
   obtain ⟨bk,of',cur,t,f,rfl,e1,e2,e3⟩:=(hv.keep hm).at hx
   have h0i:(0:Int)≤(i:Int)∧(i:Int)<(l.length:Int):=by omega
   have hat:l.take (i+1)=l.take i ++ [r]:=by rw [List.take_add_one,hx];rfl
   have wi:IntKind.i64.wrap ((i:Int)+1)=((i+1:Nat):Int):=by rw [wrap_i64 _ (by omega)];rfl
   have e2':of'+(i * 2+2)≤cur.size:=by omega
   have e3':cur.extract (of'+i * 2) (of'+(i * 2+2))=(acCells r).toArray:=by rw [← Nat.add_assoc];exact e3
   have lu:=Nat.lt_add_one u.heap.size
   simp only [ZB,insVc,load1K,loadNK,storeNK,setMany,faddrK,iaddrK,isPlain,Value.cells,ne_eq,Nat.reduceEqDiff,Nat.reduceAdd,Nat.reduceLeDiff,Zae,Zab,Za,Zag,Zah,Zai,Zak,Zaj,Zal,Zam,Zan,Zaa,Zbj,Zau,Zav,Zax,Zbb,Zay,get_alloc,Zb,Nat.reduceAdd,Nat.reduceEqDiff,hi,h0i,q7,q21,q23,e1,e2',e3',acCells]
   refine callK_gen ?_
   intro c hc'
   have hmc:Mod (fun _=>False) u c:=by rw [hc'];exact ((Mod.refl _ _).alloc _).set (.inl (Nat.le_refl _))
   have a1:c.heap[u.heap.size]? = some (.cells #[.string ⟨r.1.toArray⟩,.int .u64 (r.2:Int)] 29 (0,0)):=by rw [hc'];exact get_set_same _ _ _ (by rw [size_alloc];exact lu)
   clear hc'
   have hmbu:mb<u.heap.size:=World.ownsMap.lt ht.2.1
   refine addG_c tb mb i r.2 r.1 mm (l.take i) c _ (ht.keep hmc id id) hc (fun a ha=>hb a (List.mem_of_mem_take ha)) (by rw [List.length_take];omega) hrk (by omega) hrb ?_
   intro c2 vv mm2 hm2c ht2 hc2
   have a2:=hm2c.keep a1 (by omega)
   have rc:=hm2c.keep (hmc.keep ru id) (by omega)
   have hmwc:Mod (fun _=>False) w c2:=(hm.trans hmc).then hm2c (fun j hj e=>by omega)
   simp only [ZB]
   refine draw_e (by kernel_rfl) (by kernel_rfl) (by kernel_rfl) (by kernel_rfl) ?_
   simp only [ZB,insVc,load1K,iopK,iopV,faddrK,ne_eq,Nat.reduceEqDiff,reduceCtorEq,Zae,Zab,Za,Zag,Zah,Zaa,Zaf,pureI,kindI,loadI,vcE_nil,vcE_cons,stepE_pure,stepE_load,stepE_step,a2]
   have hd0:Mod (fun _=>False) c2 c2.drew:=(Mod.refl _ _).drew
   refine class_c r.2 c2.drew _ hrb ?_
   refine ⟨hd0, ?_⟩
   refine class36_c r.2 c2.drew _ hrb ?_
   refine ⟨hd0, ?_⟩
   have ecl:(((cls r.2:Nat):Int) != ((cls r.2:Nat):Int))=false:=by simp
   simp only [ZB,insVc,iopK,iopV,ne_eq,Nat.reduceEqDiff,reduceCtorEq,ecl,q0,q1,q2,q6,q7,q21,q22,q23,wi]
   rw [← hat] at hc2
   refine ⟨k-1,by omega,hmwc.drew,hd0.keep rc id,i+1,mm2,by omega,rfl,TalG.keep ht2 hd0 id id,hc2⟩
  ·have hil:i=l.length:=by omega
   subst hil
   rw [List.take_length] at hc
   simp only [ZB,insVc,ne_eq,reduceCtorEq,Zae,Zab,hi,q0]
   refine lists_c l _ u _ (hv.keep hm) (by omega) hk ?_
   intro u1 wb n mw hmu1 hwb hW hnl hL
   have hmw1:=hm.trans hmu1
   have r1:=hmu1.keep ru id
   have ht1:=ht.keep hmu1 id id
   obtain ⟨u2,hr2,hrg,hg2,hsz2⟩:=World.ownsMap.range hW.map (Maps.string_keyed tKeySd) tMapW
   have hm2':=mod_grown0 hg2
   simp only [ZB,insVc]
   refine rawK_rng rfl rfl (by simpa only [vc_skip,vc_seq,vc_cond,vc_block,vc_exit,vc_ret,vc_ops,vcOps_nil,vcOps_cons,vcOps_gate,gateK_true,gateK_false,gate_true,gate_false,gate_undef,goL_apply,thenQ_normal,thenQ_ret,thenQ_exit,blockQ_normal,blockQ_ret,blockQ_same,blockQ_exit,condP_true,condP_false,upd_same,upd_other,updO_some,updO_none,ev_tmp,ev_const,ev_global,ev_func,endQ_ret,endQ_normal,endK,resK,resN,res1,resO_cells,resNO_cells,packed,initE_at,insVc,pickK,load1K,loadO_cells,loadV_some,loadV_none,loadNK,loadNO_cells,storeK,storeO_cells,storeNK,storeNO_cells,setMany,nilK,nilM,iopK,iopV,sopK,sopV,bopK,nilOf,pnilK,notK,convK,sameK,faddrK,fld1K,fldNK,iaddrK,iaddrAK,sidxK,extK,lenSK,lenLK,callvK,invK,buildK,fillL,buildSK,boundOf,slSK,slLK,slAK,isPlain,Value.cells,ne_eq,not_false_eq_true,not_true_eq_false,Nat.reduceEqDiff,Nat.reduceAdd,Nat.reduceLT,Nat.reduceLeDiff,reduceCtorEq,Bool.not_true,Bool.not_false,Option.map_some,Option.map_none,Option.getD_some,Option.getD_none,List.map_cons,List.map_nil,List.getElem?_cons_zero,List.getElem?_cons_succ,List.getElem?_nil,List.getElem?_toArray,List.size_toArray,List.length_cons,List.length_nil,List.zipIdx_cons,List.zipIdx_nil,List.foldl_cons,List.foldl_nil,List.setIfInBounds_toArray,List.set_cons_zero,List.set_cons_succ,List.append_eq,List.nil_append,List.cons_append,List.append_nil,List.toList_toArray,true_and,and_true,true_or,or_true,or_false,false_or,and_self,if_true,if_false,ite_true,ite_false,Bool.false_eq_true,Nat.zero_add,Nat.add_zero,decide_true,decide_false,Bool.and_true,Bool.and_false,Bool.true_and,Bool.false_and,Option.isNone_some,Option.isNone_none,Int.reduceLT,Int.reduceLE,Int.reduceToNat,Int.toNat_natCast,Int.reduceAdd,Int.reduceSub,Int.reduceMul,Int.reduceNeg,Int.reduceEq,Int.reduceNe,Int.reduceBEq,Int.reduceBNe,Nat.mul_one,List.extract_toArray,List.extract_eq_take_drop,List.drop_zero,List.drop_succ_cons,List.take_zero,List.take_succ_cons,Nat.sub_zero,Nat.add_sub_cancel,Nat.add_sub_cancel_left,vcS_nil,vcS_cons,vcS_gate,gateS_true,gateS_false,stepB_true,stepB_false,pureI,Nat.zero_mul,Nat.one_mul,Nat.reduceMul,Nat.reduceSub,List.all_toArray',List.all_cons,List.all_nil,size_set,size_alloc,size_drew,get_alloc_new,get_set_same,get_drew,Nat.lt_add_one,vcD_nil,vcD_cons,vcD_gate,gateD_true,gateD_false,stepD_pure,stepD_load,stepD_step,kindI,loadI] using hr2) ?_
   simp only [ZB]
   have hmwu2:Mod (fun _=>False) w u2:=hmw1.trans hm2'
   have hrow:∀k s',lookG k mw=some s'→s'.l=numsAt k l∧lookG k mm=some (rowOf (numsAt k l)):=by
    intro k s' hks
    have h1:=hL.2 k
    rw [lookG_ls,hks] at h1
    by_cases hn0:numsAt k l=[]
    ·rw [if_pos hn0] at h1;cases h1
    ·rw [if_neg hn0] at h1
     have h2:=hc.2 k
     rw [if_neg hn0] at h2
     exact ⟨Option.some.inj h1,h2⟩
   refine vc_loop (fun cnt ρ ds u3=>ds=[]∧ρ 1 = .int .u64 s∧ρ 2 = .int .u64 o∧ρ 6=ptr w.heap.size∧ρ 7=ptr tb∧ρ 10 = .map (some wb)∧ρ 44=ptr u1.heap.size∧Mod (fun j=>j=u1.heap.size) u2 u3 ∧
    ∃left,u3.ranges prog 9 rdW wb u1.heap.size n (DG Sl.val mw) left cnt) (Maps.size (DG Sl.val mw)) ?_ ?_
   ·exact ⟨rfl,by simp only [upd_other,ne_eq,not_false_eq_true,Nat.reduceEqDiff,q1],by simp only [upd_other,ne_eq,not_false_eq_true,Nat.reduceEqDiff,q2],by simp only [upd_other,ne_eq,not_false_eq_true,Nat.reduceEqDiff,q6],by simp only [upd_other,ne_eq,not_false_eq_true,Nat.reduceEqDiff,q7],by simp only [upd_same,upd_other,ne_eq,not_false_eq_true,Nat.reduceEqDiff],by simp only [upd_same],Mod.refl _ _,_,hrg⟩
   ·clear q0 q1 q2 q6 q7 q21 q22 q23
    rintro cnt ρ ds u3 ⟨rfl,q1,q2,q6,q7,q10,q44,hm3',left,hrg3⟩
    have hu1:w.heap.size<u1.heap.size:=lt_of_get r1
    have hmw3:Mod (fun _=>False) w u3:=hmwu2.then hm3' (fun j hj e=>by omega)
    have hm13':Mod (fun _=>False) u1 u3:=hm2'.then hm3' (fun j hj e=>by omega)
    have r3:=hm13'.keep r1 id
    have ht3:=ht1.keep hm13' id id
    have hW3:=hW.keep hm13' (fun _ _ _=>id)
    simp only [vc_seq,vc_ops,vcOps_cons,insVc]
    rcases World.ranges.next hrg3 (Maps.string_keyed tKeySd) 0 with ⟨h0,_,hrun⟩|⟨key,v',kl,y,u4,cnt',hkl,hleft,hrd,hat,hrun,hrg4,hlt,hg4,hsz4,hent⟩
    ·refine rawK_nxt rfl rfl (by simpa only [vc_skip,vc_seq,vc_cond,vc_block,vc_exit,vc_ret,vc_ops,vcOps_nil,vcOps_cons,vcOps_gate,gateK_true,gateK_false,gate_true,gate_false,gate_undef,goL_apply,thenQ_normal,thenQ_ret,thenQ_exit,blockQ_normal,blockQ_ret,blockQ_same,blockQ_exit,condP_true,condP_false,upd_same,upd_other,updO_some,updO_none,ev_tmp,ev_const,ev_global,ev_func,endQ_ret,endQ_normal,endK,resK,resN,res1,resO_cells,resNO_cells,packed,initE_at,insVc,pickK,load1K,loadO_cells,loadV_some,loadV_none,loadNK,loadNO_cells,storeK,storeO_cells,storeNK,storeNO_cells,setMany,nilK,nilM,iopK,iopV,sopK,sopV,bopK,nilOf,pnilK,notK,convK,sameK,faddrK,fld1K,fldNK,iaddrK,iaddrAK,sidxK,extK,lenSK,lenLK,callvK,invK,buildK,fillL,buildSK,boundOf,slSK,slLK,slAK,isPlain,Value.cells,ne_eq,not_false_eq_true,not_true_eq_false,Nat.reduceEqDiff,Nat.reduceAdd,Nat.reduceLT,Nat.reduceLeDiff,reduceCtorEq,Bool.not_true,Bool.not_false,Option.map_some,Option.map_none,Option.getD_some,Option.getD_none,List.map_cons,List.map_nil,List.getElem?_cons_zero,List.getElem?_cons_succ,List.getElem?_nil,List.getElem?_toArray,List.size_toArray,List.length_cons,List.length_nil,List.zipIdx_cons,List.zipIdx_nil,List.foldl_cons,List.foldl_nil,List.setIfInBounds_toArray,List.set_cons_zero,List.set_cons_succ,List.append_eq,List.nil_append,List.cons_append,List.append_nil,List.toList_toArray,true_and,and_true,true_or,or_true,or_false,false_or,and_self,if_true,if_false,ite_true,ite_false,Bool.false_eq_true,Nat.zero_add,Nat.add_zero,decide_true,decide_false,Bool.and_true,Bool.and_false,Bool.true_and,Bool.false_and,Option.isNone_some,Option.isNone_none,Int.reduceLT,Int.reduceLE,Int.reduceToNat,Int.toNat_natCast,Int.reduceAdd,Int.reduceSub,Int.reduceMul,Int.reduceNeg,Int.reduceEq,Int.reduceNe,Int.reduceBEq,Int.reduceBNe,Nat.mul_one,List.extract_toArray,List.extract_eq_take_drop,List.drop_zero,List.drop_succ_cons,List.take_zero,List.take_succ_cons,Nat.sub_zero,Nat.add_sub_cancel,Nat.add_sub_cancel_left,vcS_nil,vcS_cons,vcS_gate,gateS_true,gateS_false,stepB_true,stepB_false,pureI,Nat.zero_mul,Nat.one_mul,Nat.reduceMul,Nat.reduceSub,List.all_toArray',List.all_cons,List.all_nil,size_set,size_alloc,size_drew,get_alloc_new,get_set_same,get_drew,Nat.lt_add_one,vcD_nil,vcD_cons,vcD_gate,gateD_true,gateD_false,stepD_pure,stepD_load,stepD_step,kindI,loadI,q44] using hrun) ?_
     simp only [ZB,insVc,extK,Zae,Zab,Za,Zah]
     refine addN_c 1 1 u3 _ ?_
     intro vv
     simp only [ZB,insVc,ne_eq,Nat.reduceEqDiff,Zab]
     refine newE_c u3 _ ?_
     intro u4 eb emb hm4 heb hemb hE
     simp only [ZB,insVc,ne_eq,Nat.reduceEqDiff,Zae,Zab]
     refine mergeNE_c eb emb 0 u4 _ hE ?_
     intro u5 vv5 hm5
     simp only [ZB,insVc,ne_eq,Nat.reduceEqDiff,Zae,Zab]
     refine allNI_c u5 _ ?_
     intro u6 gf cap hm6 it
     have hm36:=(hm4.trans hm5).trans hm6
     have r6:=hm36.keep r3 id
     simp only [ZB]
     refine range_iter (by kernel_rfl) (by kernel_rfl) (by kernel_rfl) (gf:=gf) (cap:=cap) (by simp only [upd_same,ev_tmp]) it
      (fun i X u=>Mod (fun _=>False) u6 u) (fun c X u=>False) ?_ ?_ ?_ ?_ ?_ ?_ ?_ ?_
     ·intro X w' hm hsz hX
      exact hm
     ·intro i X u h1
      exact ⟨h1.size,fun k hk hk'=>h1.get k hk' id⟩
     ·intro i X X' a b h1 hX ha hm hx
      exact h1.then hm (fun k hk hx=>by have:=hX k hx;omega)
     ·rintro c X X' a b h
      exact h.elim
     ·intro i hi
      simp at hi
     ·intro i hi
      simp at hi
     ·rintro X u7 hm7 ⟨a1,a2,_⟩
      have hm37:=hm36.trans hm7
      have r7:=hm7.keep r6 id
      have ht7:=ht3.keep hm37 id id
      have hW7:=hW3.keep hm37 (fun _ _ _=>id)
      have hmw7:=hmw3.trans hm37
      have z69:Rw.zero.cells.length=69:=by decide
      simp only [ZB,insVc,storeNK,setMany,buildK,fillL,isPlain,Value.cells,ne_eq,Nat.reduceEqDiff,Nat.reduceAdd,Nat.reduceLeDiff,Zai,Zak,Zaj,Zal,Zam,Zan,Zaa,Zau,Zav,Zax,get_alloc,Nat.reduceAdd,Nat.reduceEqDiff]
      refine vc_genT ?_
      intro u8 hu8
      have hm8:Mod (fun _=>False) u7 u8:=by rw [hu8];exact ((Mod.refl _ _).alloc _).set (.inl (Nat.le_refl _))
      have z8:u8.heap[u7.heap.size]? = some (.cells Rw.zero.cells.toArray 42 (0,0)):=by rw [hu8];exact get_set_same _ _ _ (by rw [size_alloc];omega)
      clear hu8
      have hm9:Mod (fun _=>False) u8 u8.drew:=(Mod.refl _ _).drew
      have ht9:=ht7.keep (hm8.trans hm9) id id
      have hW9:=hW7.keep (hm8.trans hm9) (fun _ _ _=>id)
      have r9:=(hm8.trans hm9).keep r7 id
      have d9:=(hm8.trans hm9).keep a1 id
      have k0z:k0.length≤maxLen:=by simp [k0,maxLen]
      have hn0:=numsAt_len k0 l
      have hrg0:(rowOf (numsAt k0 l)).good:=row_good _ (by omega) (nums_lt hb k0)
      have hD0:(DG Rw.val mm).atKey (.string k0) (.held Rw.zero.val) = .held (rowOf (numsAt k0 l)).val:=by
       rw [DG_at,← hc.get k0];cases lookG k0 mm <;> rfl
      obtain ⟨oa,oc,hov⟩:∃a c,oldV (lookG k0 mw) = .slice a (numsAt k0 l).length c:=by
       have h1:=hL.get k0
       rw [lookG_ls] at h1
       cases hq:lookG k0 mw with
       | none=>rw [hq] at h1;rw [← h1];exact ⟨none,0,rfl⟩
       | some s'=>rw [hq] at h1;rw [← h1];exact ⟨_,_,rfl⟩
      have hbb:(decide (rowOf (numsAt k0 l)=Rw.zero) == (((numsAt k0 l).length:Int) == 0))=true:=by
       by_cases hq:(numsAt k0 l).length=0
       ·rw [decide_eq_true ((row_zero _).2 hq),hq];rfl
       ·rw [decide_eq_false (fun e=>hq ((row_zero _).1 e))]
        have:(((numsAt k0 l).length:Int) == 0)=false:=beq_eq_false_iff_ne.2 (by omega)
        rw [this];rfl
      have hlook0:∀W,Mod (fun _=>False) u8 W→(Instr.lookup 44 (.map (some wb)) (.string ⟨#[110,111,32,115,117,99,104,32,107,101,121]⟩) false).run prog W = .ok (.slice oa (numsAt k0 l).length oc) W:=fun W hW=>by
       rw [← hov];exact (hW7.keep (hm8.trans hW) (fun _ _ _=>id)).look k0 k0z
      have hzz:decide (Rw.zero=Rw.zero)=true:=decide_eq_true rfl
      refine vc_genE ?_
      intro ρ' hρ
      have p6:ρ' 6=ptr w.heap.size:=by rw [hρ];simp only [upd_other,ne_eq,not_false_eq_true,Nat.reduceEqDiff,q6]
      have p7:ρ' 7=ptr tb:=by rw [hρ];simp only [upd_other,ne_eq,not_false_eq_true,Nat.reduceEqDiff,q7]
      have p10:ρ' 10 = .map (some wb):=by rw [hρ];simp only [upd_other,ne_eq,not_false_eq_true,Nat.reduceEqDiff,q10]
      have p13:ρ' 13 = .pointer none:=by rw [hρ];simp only [upd_same,upd_other,ne_eq,not_false_eq_true,Nat.reduceEqDiff]
      have p14:ρ' 14=ptr u7.heap.size:=by rw [hρ];simp only [upd_same]
      clear hρ
      refine draw_y' (Mod (fun _=>False) u8) (by kernel_rfl) (by kernel_rfl) (by kernel_rfl) (by kernel_rfl) (by kernel_rfl) (by kernel_rfl) rfl hm9 ?_
      simp only [ZB,List.dropLast,endK,resK,res1,packed,insVc,pickK,storeK,ne_eq,Nat.reduceEqDiff,Zae,Zab,Zad,Zaa,Zaf,pureI,stepD_pure,stepD_step,loadI,vcY_nil,vcY_cons,vcY_gate,kindY,lookQI,quietR,Zc,p7,p10]
      refine is_c tb mb l.length mm wb wb n mw l u8.drew _ ht9 hc hW9 hL hb (by omega) (by omega) ?_
      intro v1 hv1
      have hmv1:=hm9.trans hv1
      refine ⟨hmv1, ?_⟩
      simp only [ZB,insVc,iopK,iopV,bopK,lenLK,ne_eq,Nat.reduceEqDiff,reduceCtorEq,Zae,Zab,Zaa,Zaf,pureI,stepD_pure,stepD_load,stepD_step,loadI,gateY_true,kindY,lookQI,quietR,Zc,Bool.or_true,p7,p10]
      refine ofSd_c tb mb _ (.string ⟨#[110,111,32,115,117,99,104,32,107,101,121]⟩) (.string k0) (rowOf (numsAt k0 l)) (DG Rw.val mm) v1 _ hrg0 (TalG.keep ht9 hv1 id id) hD0 (key_ok k0 k0z) ?_
      intro v2 hv2
      have hmv2:=hmv1.trans hv2
      refine ⟨hmv2, ?_⟩
      have ez:Rw.zero.cells.toArray.extract 0 (0+69)=Rw.zero.cells.toArray:=by rfl
      refine loadDN (b:=u7.heap.size) (o:=0) (v:=Rw.zero.val) (by simp only [upd_other,ev_tmp,ne_eq,not_false_eq_true,Nat.reduceEqDiff,p14]) (fun W hW=>⟨_,_,_,hW.keep z8 id,by decide,by rw [ez];rfl⟩) ?_
      refine rawLook (.bool (decide (rowOf (numsAt k0 l)=Rw.zero))) (fun W hW=>rawK_eql_agg (xs:=(rowOf (numsAt k0 l)).cells.toArray) (ys:=Rw.zero.cells.toArray) rfl rfl rfl (by simp only [ZB,ne_eq,Nat.reduceEqDiff,Rw.val]) (by simp only [upd_same,ev_tmp,Rw.val]) (by kernel_rfl) (rowEqT _ _ hrg0 zero_good) ⟨rfl,rfl⟩) ?_
      refine rawLook (.slice oa (numsAt k0 l).length oc) (fun W hW=>rawK_lookup rfl rfl rfl (by simpa only [vc_skip,vc_seq,vc_cond,vc_block,vc_exit,vc_ret,vc_ops,vcOps_nil,vcOps_cons,vcOps_gate,gateK_true,gateK_false,gate_true,gate_false,gate_undef,goL_apply,thenQ_normal,thenQ_ret,thenQ_exit,blockQ_normal,blockQ_ret,blockQ_same,blockQ_exit,condP_true,condP_false,upd_same,upd_other,updO_some,updO_none,ev_tmp,ev_const,ev_global,ev_func,endQ_ret,endQ_normal,endK,resK,resN,res1,resO_cells,resNO_cells,packed,initE_at,insVc,pickK,load1K,loadO_cells,loadV_some,loadV_none,loadNK,loadNO_cells,storeK,storeO_cells,storeNK,storeNO_cells,setMany,nilK,nilM,iopK,iopV,sopK,sopV,bopK,nilOf,pnilK,notK,convK,sameK,faddrK,fld1K,fldNK,iaddrK,iaddrAK,sidxK,extK,lenSK,lenLK,callvK,invK,buildK,fillL,buildSK,boundOf,slSK,slLK,slAK,isPlain,Value.cells,ne_eq,not_false_eq_true,not_true_eq_false,Nat.reduceEqDiff,Nat.reduceAdd,Nat.reduceLT,Nat.reduceLeDiff,reduceCtorEq,Bool.not_true,Bool.not_false,Option.map_some,Option.map_none,Option.getD_some,Option.getD_none,List.map_cons,List.map_nil,List.getElem?_cons_zero,List.getElem?_cons_succ,List.getElem?_nil,List.getElem?_toArray,List.size_toArray,List.length_cons,List.length_nil,List.zipIdx_cons,List.zipIdx_nil,List.foldl_cons,List.foldl_nil,List.setIfInBounds_toArray,List.set_cons_zero,List.set_cons_succ,List.append_eq,List.nil_append,List.cons_append,List.append_nil,List.toList_toArray,true_and,and_true,true_or,or_true,or_false,false_or,and_self,if_true,if_false,ite_true,ite_false,Bool.false_eq_true,Nat.zero_add,Nat.add_zero,decide_true,decide_false,Bool.and_true,Bool.and_false,Bool.true_and,Bool.false_and,Option.isNone_some,Option.isNone_none,Int.reduceLT,Int.reduceLE,Int.reduceToNat,Int.toNat_natCast,Int.reduceAdd,Int.reduceSub,Int.reduceMul,Int.reduceNeg,Int.reduceEq,Int.reduceNe,Int.reduceBEq,Int.reduceBNe,Nat.mul_one,List.extract_toArray,List.extract_eq_take_drop,List.drop_zero,List.drop_succ_cons,List.take_zero,List.take_succ_cons,Nat.sub_zero,Nat.add_sub_cancel,Nat.add_sub_cancel_left,vcS_nil,vcS_cons,vcS_gate,gateS_true,gateS_false,stepB_true,stepB_false,pureI,Nat.zero_mul,Nat.one_mul,Nat.reduceMul,Nat.reduceSub,List.all_toArray',List.all_cons,List.all_nil,size_set,size_alloc,size_drew,get_alloc_new,get_set_same,get_drew,Nat.lt_add_one,vcD_nil,vcD_cons,vcD_gate,gateD_true,gateD_false,stepD_pure,stepD_load,stepD_step,kindI,loadI] using hlook0 W hW) ⟨rfl,rfl⟩) ?_
      simp only [ZB,insVc,ne_eq,Nat.reduceEqDiff,Zae,Zab,Zaa,Zaf,pureI,stepD_pure,stepD_load,stepD_step,loadI,gateY_true,kindY,lookQI,quietR,Zc,Bool.or_true,hbb,p13]
      refine ofN_c 1 v2 _ ?_
      intro v3 hv3
      have hmv3:=hmv2.trans hv3
      refine ⟨hmv3, ?_⟩
      refine loadDN (b:=u7.heap.size) (o:=0) (v:=Rw.zero.val) (by simp only [upd_other,ev_tmp,ne_eq,not_false_eq_true,Nat.reduceEqDiff,p14]) (fun W hW=>⟨_,_,_,hW.keep z8 id,by decide,by rw [ez];rfl⟩) ?_
      refine rawLook (.bool (decide (Rw.zero=Rw.zero))) (fun W hW=>rawK_eql_agg (xs:=Rw.zero.cells.toArray) (ys:=Rw.zero.cells.toArray) rfl rfl rfl (by simp only [ZB,ne_eq,Nat.reduceEqDiff,Rw.val]) (by simp only [upd_same,ev_tmp,Rw.val]) (by kernel_rfl) (rowEqT _ _ zero_good zero_good) ⟨rfl,rfl⟩) ?_
      rw [hzz]
      have r10:=(hmv3.mono fun _ _ x=>x).keep (hm8.keep r7 id) id
      have d10:=hmv3.keep (hm8.keep a1 id) id
      have l10:=lt_of_get r10
      have nrd:u6.heap.size≠w.heap.size:=by have:=hm36.size;have:=hmw3.size;have:=lt_of_get r6;omega
      simp only [storeO_cells,isPlain,Nat.reduceLT,Nat.reduceLeDiff,Zai,Zak,Zaj,Zal,Zam,true_and,and_true,and_self,Nat.zero_add,decide_true,decide_false,Bool.and_false,Zay,get_set,Nat.reduceLT,p6,r10,l10]
      have nrd':w.heap.size≠u6.heap.size:=fun e=>nrd e.symm
      simp only [Zaf,size_set,Zbb,get_set,size_set,false_and,markO,nrd,nrd',d10,l10]
      exact h _ ((((hmw7.trans hm8).trans hmv3).set (.inl (Nat.le_refl _))).set (.inl (by have:=hm36.size;have:=hmw3.size;omega)))
     ·rintro c X u h
      exact h.elim
    ·refine rawK_nxt rfl rfl (by simpa only [vc_skip,vc_seq,vc_cond,vc_block,vc_exit,vc_ret,vc_ops,vcOps_nil,vcOps_cons,vcOps_gate,gateK_true,gateK_false,gate_true,gate_false,gate_undef,goL_apply,thenQ_normal,thenQ_ret,thenQ_exit,blockQ_normal,blockQ_ret,blockQ_same,blockQ_exit,condP_true,condP_false,upd_same,upd_other,updO_some,updO_none,ev_tmp,ev_const,ev_global,ev_func,endQ_ret,endQ_normal,endK,resK,resN,res1,resO_cells,resNO_cells,packed,initE_at,insVc,pickK,load1K,loadO_cells,loadV_some,loadV_none,loadNK,loadNO_cells,storeK,storeO_cells,storeNK,storeNO_cells,setMany,nilK,nilM,iopK,iopV,sopK,sopV,bopK,nilOf,pnilK,notK,convK,sameK,faddrK,fld1K,fldNK,iaddrK,iaddrAK,sidxK,extK,lenSK,lenLK,callvK,invK,buildK,fillL,buildSK,boundOf,slSK,slLK,slAK,isPlain,Value.cells,ne_eq,not_false_eq_true,not_true_eq_false,Nat.reduceEqDiff,Nat.reduceAdd,Nat.reduceLT,Nat.reduceLeDiff,reduceCtorEq,Bool.not_true,Bool.not_false,Option.map_some,Option.map_none,Option.getD_some,Option.getD_none,List.map_cons,List.map_nil,List.getElem?_cons_zero,List.getElem?_cons_succ,List.getElem?_nil,List.getElem?_toArray,List.size_toArray,List.length_cons,List.length_nil,List.zipIdx_cons,List.zipIdx_nil,List.foldl_cons,List.foldl_nil,List.setIfInBounds_toArray,List.set_cons_zero,List.set_cons_succ,List.append_eq,List.nil_append,List.cons_append,List.append_nil,List.toList_toArray,true_and,and_true,true_or,or_true,or_false,false_or,and_self,if_true,if_false,ite_true,ite_false,Bool.false_eq_true,Nat.zero_add,Nat.add_zero,decide_true,decide_false,Bool.and_true,Bool.and_false,Bool.true_and,Bool.false_and,Option.isNone_some,Option.isNone_none,Int.reduceLT,Int.reduceLE,Int.reduceToNat,Int.toNat_natCast,Int.reduceAdd,Int.reduceSub,Int.reduceMul,Int.reduceNeg,Int.reduceEq,Int.reduceNe,Int.reduceBEq,Int.reduceBNe,Nat.mul_one,List.extract_toArray,List.extract_eq_take_drop,List.drop_zero,List.drop_succ_cons,List.take_zero,List.take_succ_cons,Nat.sub_zero,Nat.add_sub_cancel,Nat.add_sub_cancel_left,vcS_nil,vcS_cons,vcS_gate,gateS_true,gateS_false,stepB_true,stepB_false,pureI,Nat.zero_mul,Nat.one_mul,Nat.reduceMul,Nat.reduceSub,List.all_toArray',List.all_cons,List.all_nil,size_set,size_alloc,size_drew,get_alloc_new,get_set_same,get_drew,Nat.lt_add_one,vcD_nil,vcD_cons,vcD_gate,gateD_true,gateD_false,stepD_pure,stepD_load,stepD_step,kindI,loadI,q44] using hrun) ?_
     simp only [ZB,insVc,extK,Za,Zah]
     refine rawK_ent rfl rfl (by simpa only [vc_skip,vc_seq,vc_cond,vc_block,vc_exit,vc_ret,vc_ops,vcOps_nil,vcOps_cons,vcOps_gate,gateK_true,gateK_false,gate_true,gate_false,gate_undef,goL_apply,thenQ_normal,thenQ_ret,thenQ_exit,blockQ_normal,blockQ_ret,blockQ_same,blockQ_exit,condP_true,condP_false,upd_same,upd_other,updO_some,updO_none,ev_tmp,ev_const,ev_global,ev_func,endQ_ret,endQ_normal,endK,resK,resN,res1,resO_cells,resNO_cells,packed,initE_at,insVc,pickK,load1K,loadO_cells,loadV_some,loadV_none,loadNK,loadNO_cells,storeK,storeO_cells,storeNK,storeNO_cells,setMany,nilK,nilM,iopK,iopV,sopK,sopV,bopK,nilOf,pnilK,notK,convK,sameK,faddrK,fld1K,fldNK,iaddrK,iaddrAK,sidxK,extK,lenSK,lenLK,callvK,invK,buildK,fillL,buildSK,boundOf,slSK,slLK,slAK,isPlain,Value.cells,ne_eq,not_false_eq_true,not_true_eq_false,Nat.reduceEqDiff,Nat.reduceAdd,Nat.reduceLT,Nat.reduceLeDiff,reduceCtorEq,Bool.not_true,Bool.not_false,Option.map_some,Option.map_none,Option.getD_some,Option.getD_none,List.map_cons,List.map_nil,List.getElem?_cons_zero,List.getElem?_cons_succ,List.getElem?_nil,List.getElem?_toArray,List.size_toArray,List.length_cons,List.length_nil,List.zipIdx_cons,List.zipIdx_nil,List.foldl_cons,List.foldl_nil,List.setIfInBounds_toArray,List.set_cons_zero,List.set_cons_succ,List.append_eq,List.nil_append,List.cons_append,List.append_nil,List.toList_toArray,true_and,and_true,true_or,or_true,or_false,false_or,and_self,if_true,if_false,ite_true,ite_false,Bool.false_eq_true,Nat.zero_add,Nat.add_zero,decide_true,decide_false,Bool.and_true,Bool.and_false,Bool.true_and,Bool.false_and,Option.isNone_some,Option.isNone_none,Int.reduceLT,Int.reduceLE,Int.reduceToNat,Int.toNat_natCast,Int.reduceAdd,Int.reduceSub,Int.reduceMul,Int.reduceNeg,Int.reduceEq,Int.reduceNe,Int.reduceBEq,Int.reduceBNe,Nat.mul_one,List.extract_toArray,List.extract_eq_take_drop,List.drop_zero,List.drop_succ_cons,List.take_zero,List.take_succ_cons,Nat.sub_zero,Nat.add_sub_cancel,Nat.add_sub_cancel_left,vcS_nil,vcS_cons,vcS_gate,gateS_true,gateS_false,stepB_true,stepB_false,pureI,Nat.zero_mul,Nat.one_mul,Nat.reduceMul,Nat.reduceSub,List.all_toArray',List.all_cons,List.all_nil,size_set,size_alloc,size_drew,get_alloc_new,get_set_same,get_drew,Nat.lt_add_one,vcD_nil,vcD_cons,vcD_gate,gateD_true,gateD_false,stepD_pure,stepD_load,stepD_step,kindI,loadI,q44] using hent) ?_
     obtain ⟨kk,rfl,rfl,hkz⟩:=Maps.keyOf_str tKeySd hkl
     obtain ⟨s',hs',rfl⟩:=atKey_held hrd hat
     obtain ⟨hsl,hlm⟩:=hrow kk s' hs'
     have hm4:Mod (fun j=>j=u1.heap.size) u3 u4:=(mod_grown hg4).mono fun j _ e=>Option.some.inj e
     have htb1:=lt_of_get ht1.1
     have hmb1:mb<u1.heap.size:=World.ownsMap.lt ht1.2.1
     have ht4:=ht3.keep hm4 (by omega) (by omega)
     have hm14:Mod (fun _=>False) u1 u4:=hm13'.then hm4 (fun j hj e=>by omega)
     have hW4:=hW.keep hm14 (fun _ _ _=>id)
     have hnl':=numsAt_len kk l
     have hrg':(rowOf (numsAt kk l)).good:=row_good _ (by omega) (nums_lt hb kk)
     have hD:(DG Rw.val mm).atKey (.string kk) (.held Rw.zero.val) = .held (rowOf (numsAt kk l)).val:=by rw [DG_at,hlm];rfl
     have ekk:Go.Proofs.encStr kk = .string ⟨kk.toArray⟩:=rfl
     rw [ekk]
     simp only [ZB,insVc,extK,ne_eq,Nat.reduceEqDiff,Zae,Zab,Za,Zag,Zah,q7]
     refine ofSd_c tb mb _ (.string ⟨kk.toArray⟩) (.string kk) (rowOf (numsAt kk l)) (DG Rw.val mm) u4 _ hrg' ht4 hD (key_ok kk hkz) ?_
     intro u5 hm5
     simp only [ZB,insVc,ne_eq,Nat.reduceEqDiff,Zae,Zab,q1,q2]
     refine atG_c (rowOf (numsAt kk l)) s o u5 _ hrg' hs ho ?_
     intro u6 hm6
     have hm46:=hm5.trans hm6
     have hns:=((hW4.keep hm46 (fun _ _ _=>id)).own kk s' hs').1.ns
     have hsb:∀x∈s'.l,x<18446744073709551616:=by rw [hsl];exact nums_lt hb kk
     have hslen:s'.l.length<1048576:=by rw [hsl];omega
     simp only [ZB,insVc,ne_eq,Nat.reduceEqDiff,Zae,Zab,q1,q2]
     refine at36_c s'.l s'.val s o u6 _ hns hsb hslen hs ho ?_
     rw [hsl]
     have en:((((rowOf (numsAt kk l)).at s o:Nat):Int) != (((rowOf (numsAt kk l)).at s o:Nat):Int))=false:=by simp
     simp only [ZB,insVc,iopK,iopV,ne_eq,Nat.reduceEqDiff,reduceCtorEq,en,q1,q2,q6,q7,q10,q44]
     exact ⟨cnt',hlt,(hm3'.trans hm4).trans (hm46.mono fun _ _ x=>x.elim),_,ranges_mod hrg4 hm46 id id⟩
end Go.Oct
