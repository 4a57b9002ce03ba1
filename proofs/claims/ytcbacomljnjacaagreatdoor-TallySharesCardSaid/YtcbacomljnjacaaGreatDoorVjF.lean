import Derived.Test.YtcbacomljnjacaaGreatDoorVjC
import Derived.Test.YtcbacomljnjacaaGreatDoorVoV
import Derived.Test.YtcbacomljnjacaaGreatDoorVlJ
set_option linter.unusedSimpArgs false
set_option linter.unusedVariables false
set_option linter.unusedSectionVars false
set_option linter.unnecessarySimpa false
namespace Go.Oct
open Go Go.Vc Go.VrA Go.VrB Go.VrE Go.VrH Go.VrI Go.VrJ
set_option maxRecDepth 100000
variable {σ : Type} {St : StoC σ} {tb clock : Nat} {m : Int} {s s' : σ} {l : List Le} {v : Value} {w w' : World}
abbrev rp0 : Array Value:=#[.int .i64 0,.int .u64 0,.slice none 0 0,.slice none 0 0,.slice none 0 0,.slice none 0 0]
theorem publish0_c (c : Cm) (nid rb : Nat) (q : Qu) (s1 s2 s3 : σ) (w : World) (K : Value→World→Prop) (he : EntFree St) (hb : BrAt St tb m s l v clock w) (hex : c.ex = e0) (ht : c.time≤1099511627776)
    (hr : w.heap[rb]? = some (.cells rp0 52 (0,0))) (hrf : ¬ St.foot rb) (hrt : rb≠tb) (hrg : rb≠3) (hrm : rb≠2)
    (hnl : c.key.size < 4294967281) (hF0 : St.find s c.key = ((q,0),s)) (hF : St.find s c.key = ((q,0),s1)) (hq0 : q.most = 0) (hN : St.next s1 idB = ((nid,0),s2)) (hA : St.madd s2 (comeM c.key c.body nid clock c.time q.ttl) = (0,s3)) (hid : nid < 2 ^ 64) (hbody : c.body.size < 2 ^ 60)
    (hv1 : (St.get s (queueK c.key).1).1.1.size < 2 ^ 60) (hv2 : (St.get s1 (counterK idB).1).1.1.size < 2 ^ 60) (hf1 : St.fit (St.get s1 (counterK idB).1).2)
    (hf2 : St.fit (St.get s2 (keysR (comeM c.key c.body nid clock c.time q.ttl)).1).2) (hf3 : St.fit (St.put (St.get s2 (keysR (comeM c.key c.body nid clock c.time q.ttl)).1).2 (keysR (comeM c.key c.body nid clock c.time q.ttl)).1 (mbytes (comeM c.key c.body nid clock c.time q.ttl))).2)
    (h : ∀ w' vi',Mod (fun k=>St.own k∨k = rb) w w'→BrAt St tb m s3 l v clock w'→w'.heap[rb]? = some (.cells #[.int .i64 0,.int .u64 1,vi',.slice none 0 0,.slice none 0 0,.slice none 0 0] 52 (0,0))→OwnU w' 0 vi' [nid] →
      (∀ k,vi'.ownBlock = some k→w.heap.size≤k)→K (.int .i64 0) w') :
    Ok Proofs.Tryz.prog 101 #[ptr tb,c.val,ptr rb] w K:=by
  refine F101.enter (args:=[ptr tb,c.val,ptr rb]) (by simp) ?_
  unfold c101 r101
  have d1 : ¬ (c.time : Int) > 1099511627776:=by omega
  simp only [ZB,insVc,load1K,iopK,iopV,faddrK,Value.cells,ne_eq,Nat.reduceEqDiff,reduceCtorEq,Zaf,Za,Zag,Zah,Zab,get_alloc,Nat.reduceEqDiff,Cm.val,Cm.cells,d1]
  refine vc_gen ?_
  intro w1 hw1
  have hm1 : Mod (fun _=>False) w w1:=by rw [hw1]; exact (Mod.refl _ _).alloc _
  have b1 : w1.heap[w.heap.size]? = some (.cells c.cells.toArray 126 (0,0)):=by rw [hw1]; exact get_alloc_new _ _
  clear hw1
  have hb1:=hb.keep0 hm1
  refine draw_d (fun u=>u.heap[tb]? = some (.cells #[.iface St.t St.v,.func (.func 92) #[] #[],v,.int .u64 clock] 144 (0,0))∧u.heap[w.heap.size]? = some (.cells c.cells.toArray 126 (0,0))) (by kernel_rfl) (by kernel_rfl) (by kernel_rfl) (by kernel_rfl) ⟨hb1.st,b1⟩ ?_
  simp only [ZB,insVc,nilK,nilM,faddrK,extK,lenLK,ne_eq,Nat.reduceEqDiff,reduceCtorEq,Zaf,Zad,Zac,Za,Zab,Zae,pureI,vcD_nil,vcD_cons,stepD_pure,stepD_load,stepD_step,kindI,loadI]
  refine loadD1 (b:=tb) (o:=0) (v:=.iface St.t St.v) (by simp only [ZB]) (fun W hW=>⟨_,_,_,hW.1,rfl⟩) ?_
  refine loadD1 (b:=w.heap.size) (o:=10) (v:=.string ⟨#[]⟩) (by simp only [ZB]) (fun W hW=>⟨_,_,_,hW.2,by rw [← (show c.ex = ⟨#[]⟩ from hex)]; rfl⟩) ?_
  refine loadD1 (b:=w.heap.size) (o:=11) (v:=.string c.key) (by simp only [ZB]) (fun W hW=>⟨_,_,_,hW.2,rfl⟩) ?_
  have hb1d : BrAt St tb m s l v clock w1.drew:=hb1.keep0 (Mod.refl _ _).drew
  refine route0_c St.toSto s c.key m w1.drew _ hb1d.at_ hb1d.gl hnl hv1 (fun hx=>by rw [hF0] at hx; exact (hx rfl).elim) ?_
  rw [hF0]
  intro _ w2 g hm2 ha2 hg2
  have hb2:=hb1d.own he hm2 ha2
  have hnb : ¬ St.own w.heap.size:=fun x=>by have:=St.footLt _ _ _ hb.at_ (St.ownFoot _ x); omega
  have b2:=hm2.keep (show w1.drew.heap[w.heap.size]? = _ from b1) hnb
  have hr2:=hm2.keep (show w1.drew.heap[rb]? = _ from hm1.keep hr id) (fun x=>hrf (St.ownFoot _ x))
  refine ⟨⟨hb2.st,b2⟩, ?_⟩
  simp only [loadV_some,Za,Zag,Zah]
  refine vc_rounds 3 ?_
  have k0 : (0 : Int) < ((1 : Nat) : Int):=by decide
  have k0' : (0 : Int)≤0∧(0 : Int) < ((1 : Nat) : Int):=by decide
  have b2':=b2
  simp only [Cm.cells] at b2'
  simp only [ZB,insVc,load1K,iopK,iopV,faddrK,iaddrK,ne_eq,Nat.reduceEqDiff,reduceCtorEq,Zaf,Zad,Zac,Za,Zag,Zah,Int.reduceToNat,Zbm,k0,k0',hg2,b2']
  refine come0_c c.key c.body c.time nid rb 0 [] (.slice none 0 0) (.slice none 0 0) (.slice none 0 0) (.slice none 0 0) q s1 s2 s3 w2 _ he hb2 hr2 (World.ownsRow_nil _ _ _ _) (fun k hk=>by cases hk) hrf hrt hrg hrm hnl hF hq0 hN hA hid hbody (by decide) (by decide) hv1 hv2 hf1 hf2 hf3 ?_
  intro w3 vi3 hm3 hb3 hr3 hvi3 hbl3
  have z0 : ((0 : Int) != 0) = false:=rfl
  have k1 : IntKind.i64.wrap (0 + 1) = 1:=by decide
  have k2 : ¬ (1 : Int) < ((1 : Nat) : Int):=by decide
  simp only [ZB,insVc,iopK,iopV,ne_eq,Nat.reduceEqDiff,reduceCtorEq,Int.reduceAdd,z0]
  refine round_next ?_
  simp only [ZB,insVc,iopK,iopV,ne_eq,Nat.reduceEqDiff,reduceCtorEq]
  refine h w3 vi3 ?_ hb3 hr3 hvi3 ?_
  · have c1 : Mod (fun k=>St.own k∨k = rb) w w2:=((hm1.trans (Mod.refl _ _).drew).mono fun _ _ x=>x.elim).then hm2 (fun _ _ x=>.inl x)
    refine c1.then hm3 (fun k _ x => ?_)
    rcases x with x | x | x
    · exact .inl x
    · exact .inr x
    · cases x
  · intro k hk
    rcases hbl3 k hk with x | x
    · cases x
    · have:=hm1.size
      have:=hm2.size
      simp only [size_drew] at this
      omega
end Go.Oct
namespace Go.Vc
open Go
variable {P : Program} {ro : Option Nat} {n : Nat} {ops : Array Oper} {Fix : World→Prop} {md : Region.Mode} {Q : Act→World→Prop} {S : Nat→Bool}
def sliceI : Ins→Bool
  | .raw _ o=>(match o.op with | .slice .. => true | _=>false)
  | _=>false
def lookI (i : Ins) : Bool:=loadI i || sliceI i
def kindF (i : Ins) : Kind:=if pureI i then .pure else if lookI i then .load else .step
def isStepF (x : In) : Bool:=!(pureI x.i) && !(lookI x.i)
def stepsF (l : List In) (k : Nat) : Bool:=((l[k]?).map isStepF).getD false
def gateF (P : Program) (Fix : World→Prop) (ρ : Env) (ds : List Deferred) (w : World) (i : Ins) (k : Value→World→Prop) : Bool→Prop
  | true=>stepD P Fix ρ ds w i k (kindF i)
  | false=>k undef w
def vcF (P : Program) (Fix : World→Prop) (ds : List Deferred) : List In→(Env→World→Prop)→Env→World→Prop
  | [],K,ρ,w=>K ρ w
  | ⟨none,d,i⟩ :: l,K,ρ,w=>stepD P Fix ρ ds w i (fun v w'=>vcF P Fix ds l K (updO ρ d v) w') (kindF i)
  | ⟨some (s,want),d,i⟩ :: l,K,ρ,w=>gateF P Fix ρ ds w i (fun v w'=>vcF P Fix ds l K (updO ρ d v) w') (gate (ρ s) want)
def isSliceOp : Op→Bool
  | .slice .. => true
  | _=>false
def sliceOk (P : Program) (n : Nat) (ops : Array Oper) : Bool:=ops.toList.all fun o => !sliceI (compOp P n o) || isSliceOp o.op
theorem val_look {o : Oper} {ρ : Env} {ds : List Deferred} {v : Value} (hso : sliceI (compOp P n o) = true→isSliceOp o.op = true) (hk : lookI (compOp P n o) = true)
    (h : ∀ w,Fix w→insVc P (fun v' w'=>w' = w∧v' = v) ρ [] w (compOp P n o)) : Val P Fix o (mkA n ρ ds) v:=by
  by_cases hl : loadI (compOp P n o) = true
  · exact val_of_ins (.inr hl) h
  have hs : sliceI (compOp P n o) = true:=by
    unfold lookI at hk
    cases hx : loadI (compOp P n o) with
    | true=>exact absurd hx hl
    | false=>simpa [hx] using hk
  intro w hw
  have h1:=sound_ins (P:=P) (ds:=[]) n o (h w hw)
  have hev : (mkA n ρ ds).eval = (mkA n ρ []).eval:=by funext x; cases x <;> rfl
  rw [hev]
  have hop:=hso hs
  have h2 : NoEnter ((execOp (mkA n ρ []).eval o).run P w):=noEnter_of (by unfold isSliceOp at hop; split at hop <;> first | (rename_i e; rw [e]; trivial) | cases hop) w
  revert h1 h2
  generalize (execOp (mkA n ρ []).eval o).run P w = r
  intro h1 h2
  match r,h1,h2 with
  | .ok (.value u) w',h1,_=>obtain ⟨rfl,rfl⟩:=h1; exact .inl rfl
  | .ok .skip w',h1,_=>obtain ⟨rfl,h⟩:=h1; exact .inr ⟨rfl,h.symm⟩
theorem walkD_of_vcF {K : Env→World→Prop} {ds : List Deferred} (hK : ∀ ρ w,Fix w→K ρ w→Q (mkA n ρ ds) w) {li0 : List In} : ∀ (l : List Oper) (k : Nat) (li : List In),(∀ o,o ∈ l→sliceI (compOp P n o) = true→isSliceOp o.op = true)→(∀ j,j < l.length→l[j]? = ops[k + j]?)→(∀ j,j < l.length→li[j]? = li0[k + j]?) →
    compOps P n ops l = some li→∀ ρ w,Fix w→vcF P Fix ds li K ρ w→walkD P ops Fix (stepsF li0) Q l.length k (mkA n ρ ds) w:=by
  intro l
  induction l with
  | nil=>intro k li _ _ _ hc ρ w hw h; simp [compOps] at hc; subst hc; exact hK ρ w hw h
  | cons o l ih =>
    intro k li hso hl hli hc ρ w hw h
    simp only [compOps] at hc
    split at hc
    · rename_i g l' hg hl'
      simp at hc; subst hc
      have h0 : ops[k]? = some o:=by simpa using (hl 0 (by simp)).symm
      have hS : stepsF li0 k = isStepF ⟨g,o.dst,compOp P n o⟩:=by
        have:=hli 0 (by simp)
        simp only [Za,Nat.add_zero] at this
        simp [stepsF,← this]
      have hl2 : ∀ j,j < l.length→l[j]? = ops[k + 1 + j]?:=fun j hj=>by have:=hl (j + 1) (by rw [List.length_cons]; omega); simpa [Nat.add_assoc,Nat.add_comm 1 j] using this
      have hli2 : ∀ j,j < l.length→l'[j]? = li0[k + 1 + j]?:=fun j hj=>by have:=hli (j + 1) (by rw [List.length_cons]; omega); simpa [Nat.add_assoc,Nat.add_comm 1 j] using this
      have next : ∀ v w',Fix w'→vcF P Fix ds l' K (updO ρ o.dst v) w'→walkD P ops Fix (stepsF li0) Q l.length (k + 1) ((mkA n ρ ds).put o.dst v) w':=by
        intro v w' hw' hv
        rw [mkA_put]
        exact ih (k + 1) l' (fun o' ho'=>hso o' (List.mem_cons_of_mem _ ho')) hl2 hli2 hl' _ _ hw' hv
      have hwg:=wanted_gate (ρ:=ρ) (ds:=ds) hg
      have main : gateF P Fix ρ ds w (compOp P n o) (fun v w'=>vcF P Fix ds l' K (updO ρ o.dst v) w') (gateOf ρ g)→walkD P ops Fix (stepsF li0) Q (o :: l).length k (mkA n ρ ds) w:=by
        intro hgd
        simp only [Zaj,walkD]
        unfold dOp
        simp only [h0,hwg]
        cases hgt : gateOf ρ g with
        | false =>
          rw [hgt] at hgd
          simp only [Bool.false_eq_true,Zae]
          exact next undef w hw hgd
        | true =>
          rw [hgt] at hgd
          simp only [Zab,hS]
          simp only [gateF,kindF] at hgd
          by_cases hp : pureI (compOp P n o) = true
          · rw [if_pos hp] at hgd
            rw [if_neg (by simp [isStepF,hp])]
            obtain ⟨v,e,kv⟩:=pure_step (k:=fun v=>vcF P Fix ds l' K (updO ρ o.dst v) w) hp hgd
            exact ⟨v,val_of_ins (.inl hp) fun w' _=>e w',next v w hw kv⟩
          · rw [if_neg hp] at hgd
            by_cases hld : lookI (compOp P n o) = true
            · rw [if_pos hld] at hgd
              rw [if_neg (by simp [isStepF,hld])]
              obtain ⟨v,e,kv⟩:=hgd
              exact ⟨v,val_look (hso o (List.mem_cons_self ..)) hld e,next v w hw kv⟩
            · rw [if_neg hld] at hgd
              rw [if_pos (by simp [isStepF,hp,hld])]
              have hgd' : insVc P (fun v w'=>Fix w'∧vcF P Fix ds l' K (updO ρ o.dst v) w') ρ ds w (compOp P n o):=hgd
              exact upon_mono (fun v w' x=>⟨x.1,next v w' x.1 x.2⟩) (sound_ins n o hgd')
      cases g with
      | none=>exact main h
      | some p=>obtain ⟨s,want⟩:=p; exact main h
    · contradiction
theorem draw_z (Fix : World→Prop) {id : Nat} {l : List In} {li : List In} {d : Option Nat} {i : Ins} {Q : QT} {ρ : Env} {ds : List Deferred} {w : World} (hm : P.follows .mixedOrders = true) (hSO : sliceOk P n ops = true) (hLB : lastB .any ops = true) (hB : lexLast .any ops = true) (hl : compOps P n ops ops.toList = some l)
    (hli : l = li ++ [⟨none,d,i⟩]) (hS : chainLast ops (stepsF l) = true) (hC : Fix w.drew) (h : vcF P Fix ds li (fun ρ' w'=>insVc P (fun v w''=>Q .normal (updO ρ' d v) ds w'') ρ' ds w' i) ρ w.drew) : vc P ro n (.draw id ops l) Q ρ ds w:=by
  have hlen : l.length = ops.size:=by
    obtain ⟨la,lb,h1,h2,h3,h4⟩:=compOps_append ops.toList [] l (by simpa using hl)
    simp [compOps] at h2
    subst h2
    rw [h3,List.append_nil,h4,Array.length_toList]
  have hsz : li.length + 1 = ops.size:=by rw [← hlen,hli]; simp
  obtain ⟨oL,hoL⟩ : ∃ oL,ops[li.length]? = some oL:=⟨_,Array.getElem?_eq_getElem (by omega)⟩
  have hsplit : ops.toList = ops.toList.take li.length ++ [oL]:=by
    have : ops.toList.drop li.length = [oL]:=by
      rw [List.drop_eq_getElem?_toList_append,Array.getElem?_toList,hoL,List.drop_eq_nil_of_le (by rw [Array.length_toList]; omega)]; rfl
    rw [← this,List.take_append_drop]
  rw [hsplit] at hl
  obtain ⟨la,lb,h1,h2,h3,h4⟩:=compOps_append _ _ _ hl
  have hlal : la.length = li.length:=by rw [h4,List.length_take,Array.length_toList (xs:=ops)]; omega
  rw [hli] at h3
  obtain ⟨e1,e2⟩:=List.append_inj h3 hlal.symm
  subst e1
  simp only [compOps] at h2
  split at h2
  rotate_left
  · contradiction
  rename_i g l' hg hl'
  simp at hl'
  subst hl'
  simp at h2
  rw [← e2] at h2
  simp only [List.cons.injEq,and_true,In.mk.injEq] at h2
  obtain ⟨hg0,hd,hi⟩:=h2
  subst hg0
  intro t
  simp only [Region.schedule,hm,Zbx,Zab]
  refine wpAnyIn_sound ops.size t _ _ _ ?_
  simp only [lexLast,Zbl] at hB
  rw [← hsz]
  have hrep : (Array.replicate (li.length + 1) false).size = ops.size:=by rw [Array.size_replicate,hsz]
  refine wpAnyIn_last (Fix:=Fix) (S:=stepsF l) (Q:=fun a w'=>upon P (fun v w''=>lift n Q .normal (a.put oL.dst v) w'') ((execOp a.eval oL).run P w')∧Region.wanted oL (yielded ops a.tmps) = true) (L:=li.length) hLB hsz ?_ li.length _ _ _ hrep (by simp) ?_ hC ?_
  · rintro a w' _ ⟨hq,hw⟩
    unfold wpOpIn
    simp only [hoL,hw,Zab]
    exact wpIn_of_upon hq
  · intro p o ho hp e he hb
    have hps : p < li.length + 1:=by rw [hsz]; exact (Array.getElem?_eq_some_iff.1 ho).1
    simp [hps] at hp
  · have hr0 : (Array.replicate (li.length + 1) false).setIfInBounds li.length true = ready0 ops:=by unfold ready0; rw [← hsz]; rfl
    rw [hr0]
    have hk : ops.size - 1 = li.length:=by omega
    have hB2:=hB.2
    rw [hk] at hB2
    have hS':=hS
    unfold chainLast at hS'
    rw [hk] at hS'
    refine wpAnyD_lex' hB.1 li.length 0 _ _ _ hC (by omega) hB2 hS' ?_
    have htl : (ops.toList.take li.length).length = li.length:=by rw [List.length_take,Array.length_toList (xs:=ops)]; omega
    have hw:=walkD_of_vcF (P:=P) (ops:=ops) (Fix:=Fix) (n:=n) (ds:=ds) (Q:=fun a w'=>upon P (fun v w''=>lift n Q .normal (a.put oL.dst v) w'') ((execOp a.eval oL).run P w')∧Region.wanted oL (yielded ops a.tmps) = true)
      (K:=fun ρ' w'=>insVc P (fun v w''=>Q .normal (updO ρ' d v) ds w'') ρ' ds w' i) ?_ (li0:=l) (ops.toList.take li.length) 0 li (fun o ho hs=>by have:=List.all_eq_true.1 hSO o (List.mem_of_mem_take ho); simpa [hs] using this) ?_ ?_ h1 ρ w.drew hC h
    · rw [htl] at hw; exact hw
    · intro ρ' w' _ hk'
      have hwg:=wanted_gate (ρ:=ρ') (ds:=ds) hg
      refine ⟨?_,by rw [hwg]; rfl⟩
      rw [← hi] at hk'
      refine upon_mono (fun v w'' x => ?_) (sound_ins n oL hk')
      rw [mkA_put,hd]
      exact ⟨_,_,rfl,x⟩
    · intro j hj
      rw [List.getElem?_take,if_pos (by omega),Array.getElem?_toList,Nat.zero_add]
    · intro j hj
      rw [hli,Nat.zero_add,List.getElem?_append_left (by omega)]
theorem draw_z' {ops : Array Oper} {ro : Option Nat} (Fix : World→Prop) {id : Nat} {l : List In} {d : Option Nat} {i : Ins} {Q : QT} {ρ : Env} {ds : List Deferred} {w : World} (hm : P.follows .mixedOrders = true) (hSO : sliceOk P n ops = true) (hLB : lastB .any ops = true) (hB : lexLast .any ops = true) (hl : compOps P n ops ops.toList = some l)
    (hS : chainLast ops (stepsF l) = true) (hli : l.getLast? = some ⟨none,d,i⟩) (hC : Fix w.drew) (h : vcF P Fix ds l.dropLast (fun ρ' w'=>insVc P (fun v w''=>Q .normal (updO ρ' d v) ds w'') ρ' ds w' i) ρ w.drew) : vc P ro n (.draw id ops l) Q ρ ds w :=
  draw_z Fix hm hSO hLB hB hl (last_split _ _ hli) hS hC h
section
variable {K : Env→World→Prop} {ρ : Env} {ds : List Deferred} {w : World} {d : Option Nat} {i : Ins} {l : List In} {k : Value→World→Prop}
theorem vcF_nil : vcF P Fix ds [] K ρ w = K ρ w:=nr rfl
theorem vcF_cons : vcF P Fix ds (⟨none,d,i⟩ :: l) K ρ w = stepD P Fix ρ ds w i (fun v w'=>vcF P Fix ds l K (updO ρ d v) w') (kindF i):=nr rfl
end
end Go.Vc
namespace Go.Oct
open Go Go.Vc Go.VrA Go.VrB Go.VrE Go.VrH Go.VrI Go.VrJ
set_option maxRecDepth 100000
variable {σ : Type} {St : StoC σ} {tb clock : Nat} {m : Int} {s s' : σ} {l : List Le} {v : Value} {w w' : World}
def OwnMs (w : World) (B : Nat) (v : Value) (L : List Ms) : Prop:=w.ownsRow B 128 5 v L.length (L.flatMap Ms.cells)
theorem OwnMs.form {B : Nat} {v : Value} {L : List Ms} (h : OwnMs w B v L) : ∃ a c,v = .slice a L.length c:=by
  rcases h.2 with ⟨rfl,h0⟩ | ⟨g,cap,cur,rfl,_⟩
  · exact ⟨none,0,by rw [h0]⟩
  · exact ⟨_,_,rfl⟩
theorem OwnMs.cells {B k : Nat} {vi : Value} {li : List Ms} (hv : OwnMs w B vi li) (hk : vi.ownBlock = some k) : ∃ cs,w.heap[k]? = some (.cells cs 128 (0,0)):=by
  rcases hv.2 with ⟨hx,_⟩ | ⟨g,cap,cur,hx,_,hg,_⟩
  · rw [hx] at hk; cases hk
  · rw [hx] at hk
    have hgk : g = k:=Option.some.inj hk
    exact ⟨_,hgk ▸ hg⟩
theorem lend0_c (q : Qu) (ms : Ms) (time rb : Nat) (L : List Ms) (ve vn vi vl vd vm : Value) (s1 : σ) (w : World) (K : Value→World→Prop) (he : EntFree St) (hb : BrAt St tb m s l v clock w) (hq0 : q.tries = 0) (htb : tb≠3∧tb≠2)
    (hr : w.heap[rb]? = some (.cells #[ve,vn,vi,vl,vd,vm] 52 (0,0))) (hvm : OwnMs w 0 vm L) (hib : ∀ k,vm.ownBlock = some k→¬ St.foot k∧k≠rb∧k≠tb∧k≠3∧k≠2) (hrf : ¬ St.foot rb) (hrt : rb≠tb) (hrg : rb≠3) (hrm : rb≠2)
    (hLl : L.length < 2 ^ 20) (hlen : (lendE ms.queue ms.id ((clock + time) % 18446744073709551616) l).length < 2 ^ 40) (hlast : bsE (freeE ms.queue ms.id l) ⟨ms.queue,ms.id,(clock + time) % 18446744073709551616⟩ = (freeE ms.queue ms.id l).length)
    (hp : PureGet St.toSto s) (hs : ms.queue.size < 4294967281) (hi : ms.id < 2 ^ 64) (hmt : ms.tries < 4294967295) (hme : ms.expiry < 2 ^ 64) (hmb : ms.body.size < 2 ^ 60)
    (hv : (St.get s (messageK ms.queue ms.id).1).1.1.size < 2 ^ 60)
    (hx : (St.mgetR s ms.queue ms.id).1.queue.size < 4294967281∧(St.mgetR s ms.queue ms.id).1.id < 2 ^ 64∧(St.mgetR s ms.queue ms.id).1.expiry < 2 ^ 64)
    (hf : ∀ s',s' = s∨s' = (St.mcut s (St.mgetR s ms.queue ms.id).1).2→St.fit s'∧St.fit (St.put s' (keysR { ms with tries:=ms.tries + 1 }).1 (mbytes { ms with tries:=ms.tries + 1 })).2)
    (hS : St.msave s { ms with tries:=ms.tries + 1 } = (0,s1))
    (h : ∀ w' v' vm',Mod (fun k=>St.own k∨k = rb∨k = tb∨vm.ownBlock = some k) w w'→BrAt St tb m s1 (lendE ms.queue ms.id ((clock + time) % 18446744073709551616) l) v' clock w'→w'.heap[rb]? = some (.cells #[ve,vn,vi,vl,vd,vm'] 52 (0,0)) →
      OwnMs w' 0 vm' (L ++ [{ ms with tries:=ms.tries + 1 }])→(∀ k,vm'.ownBlock = some k→vm.ownBlock = some k∨w.heap.size≤k)→K (.int .i64 0) w') :
    Ok Proofs.Tryz.prog 177 #[ptr tb,q.val,ms.val,.int .u64 time,ptr rb] w K:=by
  refine F177.enter (args:=[ptr tb,q.val,ms.val,.int .u64 time,ptr rb]) (by simp) ?_
  unfold c177 r177
  have z0 : ((((0 : Nat) : Int)) != 0) = false:=rfl
  have hw32 : IntKind.u32.wrap ((ms.tries : Int) + 1) = ((ms.tries + 1 : Nat) : Int):=by
    have e : IntKind.u32.wrap ((ms.tries : Int) + 1) = ((ms.tries : Int) + 1) % 4294967296:=by rfl
    rw [e]; omega
  simp only [ZB,insVc,pickK,load1K,storeK,iopK,iopV,faddrK,isPlain,Value.cells,ne_eq,Nat.reduceEqDiff,Nat.reduceAdd,Nat.reduceLT,Nat.reduceLeDiff,reduceCtorEq,Zaf,Za,Zag,Zah,Zai,Zaj,Zak,Zal,Zam,Zan,Zab,Zae,get_alloc,Nat.reduceAdd,Zba,Zbi,Nat.reduceEqDiff,Nat.reduceLT,Zay,Qu.val,Qu.cells,Ms.val,Ms.cells,hq0,z0,hw32]
  refine vc_gen ?_
  intro w1 hw1
  have hm1 : Mod (fun _=>False) w w1:=by rw [hw1]; exact (((Mod.refl _ _).alloc _).alloc _).set (.inl (by omega))
  have q1 : w1.heap[w.heap.size + 1]? = some (.cells #[.string ms.queue,.int .u64 ms.id,.int .u32 ((ms.tries + 1 : Nat) : Int),.int .u64 ms.expiry,.string ms.body] 128 (0,0)):=by rw [hw1]; simp only [Nat.reduceAdd,size_alloc,Zbf,Zb,size_alloc,Zaz,Nat.reduceAdd]
  clear hw1
  have hb1:=hb.keep0 hm1
  have hr1:=hm1.keep hr id
  have hvm1 : OwnMs w1 0 vm L:=own_keep' hvm hm1 (fun _ _=>id)
  have hadd : IntKind.u64.wrap ((clock : Int) + (time : Int)) = (((clock + time) % 18446744073709551616 : Nat) : Int):=by rw [IntKind.wrap_u64]; omega
  refine draw_z' (fun u=>u.heap[tb]? = some (.cells #[.iface St.t St.v,.func (.func 92) #[] #[],v,.int .u64 clock] 144 (0,0))∧u.heap[w.heap.size + 1]? = some (.cells #[.string ms.queue,.int .u64 ms.id,.int .u32 ((ms.tries + 1 : Nat) : Int),.int .u64 ms.expiry,.string ms.body] 128 (0,0))) (by kernel_rfl) (by kernel_rfl) (by kernel_rfl) (by kernel_rfl) (by kernel_rfl) (by kernel_rfl) rfl ⟨hb1.st,q1⟩ ?_
  simp only [ZB,List.dropLast,insVc,storeNK,nilK,nilM,iopK,iopV,faddrK,ne_eq,Nat.reduceEqDiff,reduceCtorEq,Zaf,Zad,Zac,Za,Zag,Zab,Zae,pureI,stepD_pure,stepD_load,stepD_step,loadI,vcF_nil,vcF_cons,kindF,lookI,sliceI,Bool.or_false]
  refine loadDN (b:=tb) (o:=1) (v:=.agg #[.func (.func 92) #[] #[],v]) (by simp only [ZB]) (fun W hW=>⟨_,_,_,hW.1,by simp,rfl⟩) ?_
  refine loadDN (b:=w.heap.size + 1) (o:=0) (v:=({ ms with tries:=ms.tries + 1 } : Ms).val) (by simp only [ZB,ne_eq,Nat.reduceEqDiff]) (fun W hW=>⟨_,_,_,hW.2,by simp,rfl⟩) ?_
  refine bkey_c { ms with tries:=ms.tries + 1 } w1.drew _ ?_
  intro w2 hm2
  have m2 : Mod (fun _=>False) w1 w2:=(Mod.refl _ w1).drew.trans hm2
  have hb2:=hb1.keep0 m2
  have q2:=m2.keep q1 id
  refine ⟨⟨hb2.st,q2⟩, ?_⟩
  simp only []
  refine loadD1 (b:=tb) (o:=3) (v:=.int .u64 clock) (by simp only [ZB]) (fun W hW=>⟨_,_,_,hW.1,rfl⟩) ?_
  simp only [true_and,hadd]
  refine llend_c l v ms.queue ms.id ((clock + time) % 18446744073709551616) w2 _ hb2.les hb2.ll hlast ?_
  intro w3 v3 hm3 hv3
  have hb3:=hb2.keep0 hm3
  have q3:=hm3.keep q2 id
  refine ⟨⟨hb3.st,q3⟩, ?_⟩
  obtain ⟨a3,c3,rfl,_⟩:=hv3.form
  have hst3:=hb3.st
  obtain ⟨w4,hw4⟩ : ∃ w4,w4 = Vc.set w3 tb (.cells #[.iface St.t St.v,.func (.func 92) #[] #[],.slice a3 (lendE ms.queue ms.id ((clock + time) % 18446744073709551616) l).length c3,.int .u64 clock] 144):=⟨_,rfl⟩
  have hm4 : Mod (fun k=>k = tb) w3 w4:=by rw [hw4]; exact (Mod.refl _ _).set (.inr rfl)
  have hb4:=hb3.table hv3 hlen hw4 htb.1 htb.2
  simp only [storeNO_cells,setMany,isPlain,Nat.reduceAdd,Nat.reduceLeDiff,Zai,Zaj,Zak,Zal,Zam,Zan,true_and,and_self,Nat.zero_add,Bool.and_true,Zau,Zaw,Zax,tabV,hst3]
  rw [← hw4]
  clear hw4
  have q4:=hm4.keep q3 (by have:=lt_of_get hb.st; omega)
  have hr4:=hm4.keep (hm3.keep (m2.keep hr1 id) id) hrt
  have hvm4 : OwnMs w4 0 vm L:=own_keep' (own_keep' (own_keep' hvm1 m2 (fun _ _=>id)) hm3 (fun _ _=>id)) hm4 (fun k hk=>(hib k hk).2.2.1)
  obtain ⟨am,cm,rfl⟩:=hvm.form
  refine draw_z' (fun u=>u.heap[rb]? = some (.cells #[ve,vn,vi,vl,vd,.slice am L.length cm] 52 (0,0))∧u.heap[w.heap.size + 1]? = some (.cells #[.string ms.queue,.int .u64 ms.id,.int .u32 ((ms.tries + 1 : Nat) : Int),.int .u64 ms.expiry,.string ms.body] 128 (0,0))) (by kernel_rfl) (by kernel_rfl) (by kernel_rfl) (by kernel_rfl) (by kernel_rfl) (by kernel_rfl) rfl ⟨hr4,q4⟩ ?_
  simp only [ZB,List.dropLast,insVc,storeK,nilK,nilM,faddrK,fillL,buildSK,Value.cells,ne_eq,Nat.reduceEqDiff,Nat.reduceAdd,Nat.reduceLeDiff,Zaf,Za,Zag,Zai,Zaj,Zak,Zab,Zae,pureI,stepD_pure,stepD_load,stepD_step,loadI,vcF_nil,vcF_cons,kindF,lookI,sliceI,Bool.or_false]
  refine loadD1 (b:=rb) (o:=5) (v:=.slice am L.length cm) (by simp only [ZB]) (fun W hW=>⟨_,_,_,hW.1,rfl⟩) ?_
  refine loadDN (b:=w.heap.size + 1) (o:=0) (v:=({ ms with tries:=ms.tries + 1 } : Ms).val) (by simp only [ZB,ne_eq,Nat.reduceEqDiff]) (fun W hW=>⟨_,_,_,hW.2,by simp,rfl⟩) ?_
  have hml : L.flatMap Ms.cells = msFlat (L.map fun x=>(x,0)):=by unfold msFlat; rw [List.flatMap_map]
  obtain ⟨vm5,w5,hr5,ho5,hm5,hbl5⟩:=append_ms 0 (.slice am L.length cm) L.length _ { ms with tries:=ms.tries + 1 } w4.drew hvm4 (Nat.zero_le _) hLl 50
  have ho5' : OwnMs w5 0 vm5 (L ++ [{ ms with tries:=ms.tries + 1 }]):=by
    unfold OwnMs
    rw [List.length_append,List.length_singleton,List.flatMap_append]
    simpa using ho5
  have hma : Mod (fun _=>False) w4 (w4.drew.alloc (.cells ({ ms with tries:=ms.tries + 1 } : Ms).cells.toArray 128)):=((Mod.refl _ w4).drew).alloc _
  simp only [Nat.reduceAdd,Zai,Zaj,Zak,Zbd,Zbe,Zbc,Zbb,Zal,Zam,Zan,Zbh,Zab,Nat.zero_add,Ms.val,Ms.cells]
  refine ⟨⟨hma.keep hr4 id,hma.keep q4 id⟩, ?_⟩
  refine rawK_append rfl rfl rfl (by simp only [ZB,ne_eq,Nat.reduceEqDiff]; exact hr5) ?_
  have hm45 : Mod (fun k=>(Value.slice am L.length cm).ownBlock = some k) w4 w5:=((Mod.refl _ w4).drew).trans hm5
  have hr5' : w5.heap[rb]? = some (.cells #[ve,vn,vi,vl,vd,.slice am L.length cm] 52 (0,0)):=hm5.keep (show w4.drew.heap[rb]? = _ from hr4) (fun hk=>(hib _ hk).2.1 rfl)
  have hb5 : BrAt St tb m s _ _ clock w5:=hb4.other hm45 (fun k hk=>by
    obtain ⟨cs,hcs⟩:=hvm4.cells hk
    exact ⟨(hib k hk).2.2.1,fun _=>(hib k hk).1,ownE_ne hb4.les hcs (by decide),(hib k hk).2.2.2.1,(hib k hk).2.2.2.2⟩)
  have hvlt : ∀ k,(Value.slice am L.length cm).ownBlock = some k→k < w.heap.size:=fun k hk=>(World.ownsRow.lt hvm k hk).2
  have q5:=hm45.keep q4 (fun hk=>by have:=hvlt _ hk; omega)
  refine ⟨⟨hr5',q5⟩, ?_⟩
  obtain ⟨a6,c6,rfl⟩:=ho5'.form
  obtain ⟨w6,hw6⟩ : ∃ w6,w6 = Vc.set w5 rb (.cells #[ve,vn,vi,vl,vd,.slice a6 (L ++ [{ ms with tries:=ms.tries + 1 }]).length c6] 52):=⟨_,rfl⟩
  have hm6 : Mod (fun k=>k = rb) w5 w6:=by rw [hw6]; exact (Mod.refl _ _).set (.inr rfl)
  have hr6 : w6.heap[rb]? = some (.cells #[ve,vn,vi,vl,vd,.slice a6 (L ++ [{ ms with tries:=ms.tries + 1 }]).length c6] 52 (0,0)):=by rw [hw6]; exact get_set_same _ _ _ (lt_of_get hr5')
  simp only [storeO_cells,isPlain,Nat.reduceAdd,Nat.reduceLT,Nat.reduceLeDiff,Zai,Zaj,Zak,Zal,Zam,Zan,true_and,and_self,Nat.zero_add,decide_true,decide_false,Bool.and_false,Zb,hr5']
  rw [← hw6]
  clear hw6
  have hb6:=hb5.other hm6 (fun k hk=>by subst hk; exact ⟨hrt,fun _=>hrf,ownE_ne hb5.les hr5' (by decide),hrg,hrm⟩)
  have q6:=hm6.keep q5 (by have:=lt_of_get hr; omega)
  have ho6 : OwnMs w6 0 (.slice a6 (L ++ [{ ms with tries:=ms.tries + 1 }]).length c6) (L ++ [{ ms with tries:=ms.tries + 1 }]):=own_keep' ho5' hm6 (fun k hk hh=>by
    subst hh
    obtain ⟨cs,hcs⟩:=ho5'.cells hk
    rw [hr5'] at hcs; simp at hcs)
  refine draw_d (fun u=>u.heap[tb]? = some (.cells #[.iface St.t St.v,.func (.func 92) #[] #[],.slice a3 (lendE ms.queue ms.id ((clock + time) % 18446744073709551616) l).length c3,.int .u64 clock] 144 (0,0))∧u.heap[w.heap.size + 1]? = some (.cells #[.string ms.queue,.int .u64 ms.id,.int .u32 ((ms.tries + 1 : Nat) : Int),.int .u64 ms.expiry,.string ms.body] 128 (0,0))) (by kernel_rfl) (by kernel_rfl) (by kernel_rfl) (by kernel_rfl) ⟨hb6.st,q6⟩ ?_
  simp only [ZB,endK,resK,packed,insVc,nilK,nilM,faddrK,ne_eq,Nat.reduceEqDiff,reduceCtorEq,Zaf,Zad,Zac,Za,Zaa,Zab,Zae,pureI,vcD_nil,vcD_cons,stepD_pure,stepD_load,stepD_step,kindI,loadI]
  refine loadD1 (b:=tb) (o:=0) (v:=.iface St.t St.v) (by simp only [ZB]) (fun W hW=>⟨_,_,_,hW.1,rfl⟩) ?_
  refine loadDN (b:=w.heap.size + 1) (o:=0) (v:=({ ms with tries:=ms.tries + 1 } : Ms).val) (by simp only [ZB,ne_eq,Nat.reduceEqDiff]) (fun W hW=>⟨_,_,_,hW.2,by simp,rfl⟩) ?_
  have hb6d : BrAt St tb m s _ _ clock w6.drew:=hb6.keep0 (Mod.refl _ _).drew
  refine msave_c St s hp { ms with tries:=ms.tries + 1 } m w6.drew _ hb6d.at_ hb6d.gl hb6d.gl.lt hs hi ⟨by show ms.tries + 1 < 2 ^ 32; omega,hme,hmb⟩ hv hx hf ?_
  rw [hS]
  intro w7 hm7 ha7
  have hb7:=hb6d.own he hm7 ha7
  have hr7:=hm7.keep (show w6.drew.heap[rb]? = _ from hr6) (fun x=>hrf (St.ownFoot _ x))
  have hnq : ¬ St.own (w.heap.size + 1):=fun x=>by have:=St.footLt _ _ _ hb.at_ (St.ownFoot _ x); omega
  refine ⟨⟨hb7.st,hm7.keep (show w6.drew.heap[w.heap.size + 1]? = _ from q6) hnq⟩, ?_⟩
  simp only []
  have hnew : ∀ k,(Value.slice a6 (L ++ [{ ms with tries:=ms.tries + 1 }]).length c6).ownBlock = some k→(Value.slice am L.length cm).ownBlock = some k∨w.heap.size≤k:=by
    intro k hk
    rcases hbl5 k hk with x | x
    · exact .inl x
    · have:=hm1.size
      have:=m2.size
      have:=hm3.size
      have:=hm4.size
      simp only [size_drew] at x
      exact .inr (by omega)
  have hnf : ∀ k,(Value.slice a6 (L ++ [{ ms with tries:=ms.tries + 1 }]).length c6).ownBlock = some k→¬ St.own k:=by
    intro k hk ho
    rcases hnew k hk with x | x
    · exact (hib k x).1 (St.ownFoot _ ho)
    · have:=St.footLt _ _ _ hb.at_ (St.ownFoot _ ho)
      omega
  refine h w7 _ _ ?_ hb7 hr7 (own_keep' (own_keep' ho6 (Mod.refl (fun _=>False) _).drew (fun _ _=>id)) hm7 hnf) hnew
  have c1 : Mod (fun k=>St.own k∨k = rb∨k = tb∨(Value.slice am L.length cm).ownBlock = some k) w w3:=((hm1.trans m2).trans hm3).mono fun _ _ x=>x.elim
  have c2:=c1.then hm4 (fun _ _ x=>.inr (.inr (.inl x)))
  have c3:=c2.then hm45 (fun _ _ x=>.inr (.inr (.inr x)))
  have c4:=c3.then hm6 (fun _ _ x=>.inr (.inl x))
  exact (c4.drew).then hm7 (fun _ _ x=>.inl x)
end Go.Oct
namespace Go.Oct
open Go Go.Vc Go.VrA Go.VrB Go.VrE Go.VrH Go.VrI Go.VrJ
set_option maxRecDepth 100000
variable {σ : Type} {St : StoC σ} {tb clock : Nat} {m : Int} {s s' : σ} {l : List Le} {v : Value} {w w' : World}
theorem deliver1_c (q : Qu) (c : Cm) (ms : Ms) (rb : Nat) (s1 : σ) (w : World) (K : Value→World→Prop) (he : EntFree St) (hb : BrAt St tb m s l v clock w) (hq0 : q.tries = 0) (htb : tb≠3∧tb≠2)
    (hn : 1≤c.n∧c.n≤32) (ht : 1≤c.time∧c.time≤1099511627776) (hpr : PureRng St.toSto s) (hqs : q.name.size < 4294967281)
    (hR : ∀ r ∈ (St.rng s (boundsL q.name 0).1 (boundsL q.name 0).2).1,r.1.2.length < 2 ^ 60) (hL : St.listRows s q.name 0 = [(ms,0)]) (hun : untilE ms.queue ms.id l = none)
    (hr : w.heap[rb]? = some (.cells rp0 52 (0,0))) (hrf : ¬ St.foot rb) (hrt : rb≠tb) (hrg : rb≠3) (hrm : rb≠2)
    (hlen : (lendE ms.queue ms.id ((clock + c.time) % 18446744073709551616) l).length < 2 ^ 40) (hlast : bsE (freeE ms.queue ms.id l) ⟨ms.queue,ms.id,(clock + c.time) % 18446744073709551616⟩ = (freeE ms.queue ms.id l).length)
    (hp : PureGet St.toSto s) (hs : ms.queue.size < 4294967281) (hi : ms.id < 2 ^ 64) (hmt : ms.tries < 4294967295) (hme : ms.expiry < 2 ^ 64) (hmb : ms.body.size < 2 ^ 60)
    (hv : (St.get s (messageK ms.queue ms.id).1).1.1.size < 2 ^ 60)
    (hx : (St.mgetR s ms.queue ms.id).1.queue.size < 4294967281∧(St.mgetR s ms.queue ms.id).1.id < 2 ^ 64∧(St.mgetR s ms.queue ms.id).1.expiry < 2 ^ 64)
    (hf : ∀ s',s' = s∨s' = (St.mcut s (St.mgetR s ms.queue ms.id).1).2→St.fit s'∧St.fit (St.put s' (keysR { ms with tries:=ms.tries + 1 }).1 (mbytes { ms with tries:=ms.tries + 1 })).2)
    (hS : St.msave s { ms with tries:=ms.tries + 1 } = (0,s1))
    (h : ∀ w' v' vm',Mod (fun k=>St.own k∨k = rb∨k = tb) w w'→BrAt St tb m s1 (lendE ms.queue ms.id ((clock + c.time) % 18446744073709551616) l) v' clock w'→w'.heap[rb]? = some (.cells #[.int .i64 0,.int .u64 0,.slice none 0 0,.slice none 0 0,.slice none 0 0,vm'] 52 (0,0)) →
      OwnMs w' 0 vm' [{ ms with tries:=ms.tries + 1 }]→(∀ k,vm'.ownBlock = some k→w.heap.size≤k)→K (.int .i64 0) w') :
    Ok Proofs.Tryz.prog 105 #[ptr tb,q.val,c.val,ptr rb] w K:=by
  refine F105.enter (args:=[ptr tb,q.val,c.val,ptr rb]) (by simp) ?_
  unfold c105 r105
  simp only [ZB,insVc,load1K,faddrK,Value.cells,ne_eq,Nat.reduceEqDiff,Zaf,Zad,Zac,Za,Zag,Zah,Zab,Zae,get_alloc,Zba,Nat.reduceEqDiff,Zay,Qu.val,Qu.cells,Cm.val,Cm.cells]
  refine callK_gen ?_
  intro w1 hw1
  have hm1 : Mod (fun _=>False) w w1:=by rw [hw1]; exact ((Mod.refl _ _).alloc _).alloc _
  have q1 : w1.heap[w.heap.size]? = some (.cells q.cells.toArray 121 (0,0)):=by rw [hw1]; simp only [Zab,Zae,size_alloc,get_alloc,size_alloc,Zbi,Zay]; rfl
  have c1 : w1.heap[w.heap.size + 1]? = some (.cells c.cells.toArray 126 (0,0)):=by rw [hw1]; simp only [Zab,Zae,size_alloc,get_alloc,size_alloc,Zba,Zay]; rfl
  clear hw1
  have c1':=c1
  simp only [Cm.cells] at c1'
  have q1':=q1
  simp only [Qu.cells] at q1'
  refine within_c c.n 32 w1 _ ?_
  rw [decide_eq_true hn]
  simp only [ZB,insVc,load1K,notK,faddrK,ne_eq,Nat.reduceEqDiff,Zad,Zac,Za,Zag,Zah,c1']
  refine within_c c.time 1099511627776 w1 _ ?_
  rw [decide_eq_true ht]
  simp only [ZB,insVc,pickK,load1K,notK,faddrK,ne_eq,Nat.reduceEqDiff,reduceCtorEq,Zaf,Zad,Zac,Za,Zah,Zae,q1']
  have hb1:=hb.keep0 hm1
  refine ball_c q.name [(ms,0)] hL.symm w1 _ hb1 hpr hqs hR (by simp) ?_
  intro w2 v2 hm2 ho2 _
  have ho2:=ho2 rfl
  have m2:=hm1.trans hm2
  have hb2:=hb1.keep0 hm2
  have q2:=hm2.keep q1' id
  have c2:=hm2.keep c1' id
  have hr2:=m2.keep hr id
  obtain ⟨g,cap,cur,hv2,hg2,hsz,hex⟩ : ∃ g cap cur,v2 = .slice (some ⟨g,0,none⟩) 1 cap∧w2.heap[g]? = some (.cells cur 128 (0,0))∧0 + 0 * 5 + 5≤cur.size∧cur.extract (0 + 0 * 5) (0 + 0 * 5 + 5) = ms.cells.toArray:=by
    rcases ho2.2 with ⟨_,h0⟩ | ⟨g,cap,cur,rfl,_,hg,_,_,hcs,hc⟩
    · simp at h0
    · have:=row_at (s:=5) (off:=0) (cells:=Ms.cells) (l:=[ms]) (j:=0) (fun _=>rfl) (by simpa [msFlat] using hc) rfl (by decide)
      exact ⟨g,cap,cur,rfl,hg,this.1,this.2⟩
  subst hv2
  have hfe : firstE [(ms,(0 : Int))] = 0:=rfl
  rw [hfe]
  simp only [ZB,insVc,extK,lenLK,ne_eq,Nat.reduceEqDiff,Za,Zag,Zah]
  refine vc_rounds 3 ?_
  have k0 : (0 : Int) < ((1 : Nat) : Int):=by decide
  have k0' : (0 : Int)≤0∧(0 : Int) < ((1 : Nat) : Int):=by decide
  simp only [Zbq,Nat.add_zero,Nat.zero_add] at hsz hex
  simp only [ZB,insVc,loadNK,storeNK,setMany,iopK,iopV,iaddrK,isPlain,Value.cells,ne_eq,Nat.reduceEqDiff,Nat.reduceAdd,Nat.reduceLeDiff,reduceCtorEq,Zai,Zaj,Zak,Zal,Zam,Zan,Int.reduceToNat,Zbq,Zau,Zaw,Zax,Zbk,k0,k0',hg2,hsz,hex,Ms.cells]
  refine vc_gen ?_
  intro w3 hw3
  have hm3 : Mod (fun _=>False) w2 w3:=by rw [hw3]; exact ((Mod.refl _ _).alloc _).set (.inl (Nat.le_refl _))
  have p3 : w3.heap[w2.heap.size]? = some (.cells #[.string ms.queue,.int .u64 ms.id,.int .u32 ms.tries,.int .u64 ms.expiry,.string ms.body] 128 (0,0)):=by rw [hw3]; exact get_set_same _ _ _ (by rw [size_alloc]; omega)
  clear hw3
  have m3:=m2.trans hm3
  have hb3:=hb2.keep0 hm3
  have q3:=hm3.keep q2 id
  have c3:=hm3.keep c2 id
  have hr3:=hm3.keep hr2 id
  have hwl : IntKind.u64.wrap ((0 : Nat) : Int) = 0:=by decide
  have hne : ((0 : Int) == (c.n : Int)) = false:=by simp; omega
  refine draw_e (by kernel_rfl) (by kernel_rfl) (by kernel_rfl) (by kernel_rfl) ?_
  simp only [ZB,insVc,load1K,loadNK,nilK,nilM,iopK,iopV,convK,faddrK,lenLK,ne_eq,Nat.reduceEqDiff,reduceCtorEq,Zaf,Za,Zag,Zah,Zab,Zae,pureI,kindI,loadI,vcE_nil,vcE_cons,stepE_pure,stepE_load,hr3,c3,hwl,hne]
  have hbd : BrAt St tb m s l v clock w3.drew:=hb3.keep0 (Mod.refl _ _).drew
  simp only [ZB,insVc,ne_eq,Nat.reduceEqDiff,Nat.reduceAdd,Nat.reduceLeDiff,Zad,Zac,Zai,Zaj,Zak,Zaq,Zap,Zar,Zao,Zas,Zat,p3]
  refine lent_c ms w3.drew _ hbd ?_
  rw [hun]
  intro w4 hm4
  have m34 : Mod (fun _=>False) w3 w4:=(Mod.refl _ w3).drew.trans hm4
  have hb4:=hb3.keep0 m34
  have q4:=m34.keep q3 id
  have c4:=m34.keep c3 id
  have p4:=m34.keep p3 id
  have hr4:=m34.keep hr3 id
  simp only [ZB,insVc,load1K,loadNK,faddrK,ne_eq,Nat.reduceEqDiff,Nat.reduceAdd,Nat.reduceLeDiff,reduceCtorEq,Zaf,Zad,Zac,Za,Zag,Zah,Zai,Zaj,Zak,Zaq,Zap,Zar,Zao,Zas,Zat,Option.isSome_none,q4,p4,c4]
  refine lend0_c q ms c.time rb [] (.int .i64 0) (.int .u64 0) (.slice none 0 0) (.slice none 0 0) (.slice none 0 0) (.slice none 0 0) s1 w4 _ he hb4 hq0 htb hr4 (World.ownsRow_nil _ _ _ _) (fun k hk=>by cases hk) hrf hrt hrg hrm (by decide) hlen hlast hp hs hi hmt hme hmb hv hx hf hS ?_
  intro w5 v5 vm5 hm5 hb5 hr5 ho5 hbl5
  have z0 : ((0 : Int) != 0) = false:=rfl
  have k1 : IntKind.i64.wrap (0 + 1) = 1:=by decide
  have k2 : ¬ (1 : Int) < ((1 : Nat) : Int):=by decide
  simp only [ZB,insVc,iopK,iopV,ne_eq,Nat.reduceEqDiff,reduceCtorEq,Int.reduceAdd,z0]
  refine round_next ?_
  simp only [ZB,insVc,iopK,iopV,ne_eq,Nat.reduceEqDiff,reduceCtorEq]
  refine h w5 v5 vm5 ?_ hb5 hr5 ho5 ?_
  · have c1 : Mod (fun k=>St.own k∨k = rb∨k = tb) w w4:=(m3.trans m34).mono fun _ _ x=>x.elim
    refine c1.then hm5 (fun k _ x => ?_)
    rcases x with x | x | x | x
    · exact .inl x
    · exact .inr (.inl x)
    · exact .inr (.inr x)
    · cases x
  · intro k hk
    rcases hbl5 k hk with x | x
    · cases x
    · have:=m3.size
      have:=m34.size
      omega
end Go.Oct
