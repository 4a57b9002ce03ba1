import Derived.Test.YtpggpopbkmgodaaGreatDoorVcN
import Derived.Test.YtpggpopbkmgodaaGreatDoorVrA
set_option linter.unusedSimpArgs false
set_option linter.unusedVariables false
set_option linter.unusedSectionVars false
set_option linter.unnecessarySimpa false
namespace Go.Vc
open Go Go.Proofs.Tryz
variable {P:Program} {ro:Option Nat} {n:Nat} {ops:Array Oper} {Fix:World→Prop} {md:Region.Mode} {Q:Act→World→Prop} {S:Nat→Bool}
def reach (md:Region.Mode) (ops:Array Oper) (k:Nat):Nat→Nat→List Nat→List Nat
 | 0,_,W=>W
 | f+1,p,W=>reach md ops k f (p+1) (match ops[p]? with
  | some o=>if o.after.any (fun e=>Region.binds md e && (e.on == k || W.contains e.on)) then p :: W else W
  | none=>W)
def waitB (md:Region.Mode) (ops:Array Oper) (S:Nat→Bool) (k:Nat) (listed:Array Bool):Bool :=
 let W:=reach md ops k (ops.size-k) (k+1) []
 (W.all fun p => !listed.getD p false) &&
 (W.all fun p=>match ops[p]? with|some o=>o.after.any (fun e=>Region.binds md e && (e.on == k || W.contains e.on))|none=>true) &&
 (List.range listed.size).all fun j=>j == k || !S j || listed.getD j true || W.contains j
def lexD (md:Region.Mode) (ops:Array Oper) (S:Nat→Bool):Nat→Nat→Array Bool→Bool
 | 0,_,_=>true
 | f+1,k,listed=>(!S k || waitB md ops S k listed) && lexD md ops S f (k+1) (listed.setIfInBounds k true)
def chainB (ops:Array Oper) (S:Nat→Bool):Bool:=lexD .any ops S ops.size 0 (Array.replicate ops.size false)
theorem waits_of_waitB {k:Nat} {listed:Array Bool} (h:waitB md ops S k listed=true):Waits md ops S k listed (fun p=>p∈reach md ops k (ops.size-k) (k+1) []):=by
 unfold waitB at h
 simp only [Zbk,List.all_eq_true] at h
 obtain ⟨⟨h1,h2⟩,h3⟩:=h
 refine ⟨fun p hp=>by simpa using h1 p hp,fun p o hp ho => ?_,fun j hj hne hun => ?_⟩
 ·have:=h2 p hp
  simp only [ho] at this
  obtain ⟨e,he,hb⟩:=Array.any_eq_true'.1 this
  simp only [Zbk,Zbx,beq_iff_eq,Zca] at hb
  exact ⟨e,he,hb.1,hb.2⟩
 ·rcases Nat.lt_or_ge j listed.size with h'|h'
  ·have:=h3 j (List.mem_range.2 h')
   simp only [Zbx,beq_iff_eq,hne,false_or,hj,Bool.not_true,Bool.false_eq_true,hun,Zca] at this
   exact this
  ·simp [Array.getElem?_eq_none h'] at hun
def walkD (P:Program) (ops:Array Oper) (Fix:World→Prop) (S:Nat→Bool) (Q:Act→World→Prop):Nat→Nat→Act→World→Prop
 | 0,_,a,w=>Q a w
 | f+1,k,a,w=>dOp P ops Fix S k (walkD P ops Fix S Q f (k+1)) a w
theorem wpAnyD_lex (hs:Region.noSelect ops=true):∀(f k:Nat) (listed:Array Bool) (a:Act) (w:World),Fix w→k+f=ops.size→Region.lexFrom md ops f k listed=true→lexD md ops S f k listed=true →
  walkD P ops Fix S Q f k a w→wpAnyD P md ops Fix S Q f listed a w
 | 0,_,_,_,_,_,_,hB,_,h=>⟨by simpa [Region.lexFrom] using hB,h⟩
 | f+1,k,listed,a,w,hw,hk,hB,hD,h=>by
  obtain ⟨o,ho⟩:∃o,ops[k]? = some o:=⟨_,Array.getElem?_eq_getElem (by omega)⟩
  simp only [Region.lexFrom,Zbk] at hB
  obtain ⟨⟨hr,hf⟩,hB'⟩:=hB
  simp only [lexD,Zbk,Zbx,Bool.not_eq_true'] at hD
  refine wpAnyD_first (W:=fun p=>p∈reach md ops k (ops.size-k) (k+1) []) ho (Region.noSelect_spec hs) f listed a w hw (Region.free_spec ho hf) (by simpa using hr) ?_ ?_
  ·intro hsk
   rcases hD.1 with h'|h'
   ·rw [hsk] at h';cases h'
   ·exact waits_of_waitB h'
  ·exact dOp_mono hw (fun a' w' hw' h'=>wpAnyD_lex hs f (k+1) _ a' w' hw' (by omega) hB' hD.2 h') h
def loadI:Ins→Bool
 | .load1 _ | .loadN .. => true
 | _=>false
inductive Kind where
 | pure|load|step
def kindI (i:Ins):Kind:=if pureI i then .pure else if loadI i then .load else .step
def isStep (x:In):Bool:=!(pureI x.i) && !(loadI x.i)
def stepsOf (l:List In) (k:Nat):Bool:=((l[k]?).map isStep).getD false
def LoadD (Fix:World→Prop) (P:Program) (ρ:Env) (i:Ins) (k:Value→Prop):Prop:=∃v,(∀w,Fix w→insVc P (fun v' w'=>w'=w∧v'=v) ρ [] w i)∧k v
def stepD (P:Program) (Fix:World→Prop) (ρ:Env) (ds:List Deferred) (w:World) (i:Ins) (k:Value→World→Prop):Kind→Prop
 | .pure=>insVc P (fun v _=>k v w) ρ [] default i
 | .load=>LoadD Fix P ρ i (fun v=>k v w)
 | .step=>insVc P (fun v w'=>Fix w'∧k v w') ρ ds w i
def gateD (P:Program) (Fix:World→Prop) (ρ:Env) (ds:List Deferred) (w:World) (i:Ins) (k:Value→World→Prop):Bool→Prop
 | true=>stepD P Fix ρ ds w i k (kindI i)
 | false=>k undef w
def vcD (P:Program) (Fix:World→Prop) (ds:List Deferred):List In→(Env→World→Prop)→Env→World→Prop
 | [],K,ρ,w=>K ρ w
 | ⟨none,d,i⟩ :: l,K,ρ,w=>stepD P Fix ρ ds w i (fun v w'=>vcD P Fix ds l K (updO ρ d v) w') (kindI i)
 | ⟨some (s,want),d,i⟩ :: l,K,ρ,w=>gateD P Fix ρ ds w i (fun v w'=>vcD P Fix ds l K (updO ρ d v) w') (gate (ρ s) want)
theorem noEnter_comp {o:Oper} {ρ:Env} {ds:List Deferred} (h:pureI (compOp P n o)=true∨loadI (compOp P n o)=true) (w:World):NoEnter ((execOp (mkA n ρ ds).eval o).run P w):=by
 have hraw:compOp P n o≠.raw n o:=by intro e;rw [e] at h;simp [pureI,loadI] at h
 by_cases hb:o.op.operands.toList.all (inB n)=true
 case neg=>exact absurd (by unfold compOp;rw [if_pos (by simpa using hb)]) hraw
 have hneg:¬(!o.op.operands.toList.all (inB n))=true:=by simpa using hb
 by_cases hcall:∃c,o.op = .call c
 case neg =>
  refine noEnter_of ?_ w
  cases hop:o.op
  case call c=>exact absurd ⟨c,hop⟩ hcall
  all_goals first|trivial|skip
  all_goals (exact absurd (by unfold compOp;rw [if_neg hneg];simp only [hop]) hraw)
 case pos =>
  obtain ⟨c,hop⟩:=hcall
  obtain ⟨cal,args,ats⟩:=c
  cases cal with
  | builtin b =>
   cases b with
   | len=>exact noEnter_len hop w
   | _=>exact absurd (by unfold compOp;rw [if_neg hneg];simp only [hop]) hraw
  | value x =>
   exfalso
   cases x with
   | func f =>
    have hc:compOp P n o=if okF P f then .call f args.toList else .raw n o:=by unfold compOp;rw [if_neg hneg];simp only [hop]
    by_cases hf:okF P f=true
    ·rw [if_pos hf] at hc;rw [hc] at h;simp [pureI,loadI] at h
    ·rw [if_neg hf] at hc;exact hraw hc
   | tmp t=>have hc:compOp P n o = .callv (.tmp t) args.toList:=(by unfold compOp;rw [if_neg hneg];simp only [hop]);rw [hc] at h;simp [pureI,loadI] at h
   | const t=>have hc:compOp P n o = .callv (.const t) args.toList:=(by unfold compOp;rw [if_neg hneg];simp only [hop]);rw [hc] at h;simp [pureI,loadI] at h
   | global t=>have hc:compOp P n o = .callv (.global t) args.toList:=(by unfold compOp;rw [if_neg hneg];simp only [hop]);rw [hc] at h;simp [pureI,loadI] at h
  | invoke x name =>
   exfalso
   have hc:compOp P n o = .inv x name args.toList:=by unfold compOp;rw [if_neg hneg];simp only [hop]
   rw [hc] at h;simp [pureI,loadI] at h
theorem val_of_ins {o:Oper} {ρ:Env} {ds:List Deferred} {v:Value} (hk:pureI (compOp P n o)=true∨loadI (compOp P n o)=true)
  (h:∀w,Fix w→insVc P (fun v' w'=>w'=w∧v'=v) ρ [] w (compOp P n o)):Val P Fix o (mkA n ρ ds) v:=by
 intro w hw
 have hq:quietI (compOp P n o)=true:=by
  cases hc:compOp P n o <;> first|rfl|(rw [hc] at hk;simp [pureI,loadI] at hk)
 have h1:=sound_ins (P:=P) (ds:=ds) n o (insVc_ds hq (h w hw))
 have h2:=noEnter_comp (P:=P) (n:=n) (ρ:=ρ) (ds:=ds) hk w
 revert h1 h2
 generalize (execOp (mkA n ρ ds).eval o).run P w=r
 intro h1 h2
 match r,h1,h2 with
 | .ok (.value u) w',h1,_=>obtain ⟨rfl,rfl⟩:=h1;exact .inl rfl
 | .ok .skip w',h1,_=>obtain ⟨rfl,h⟩:=h1;exact .inr ⟨rfl,h.symm⟩
theorem walkD_of_vcD {K:Env→World→Prop} {ds:List Deferred} (hK:∀ρ w,Fix w→K ρ w→Q (mkA n ρ ds) w) {li0:List In}:∀(l:List Oper) (k:Nat) (li:List In),(∀j,l[j]? = ops[k+j]?)→(∀j,li[j]? = li0[k+j]?) →
  compOps P n ops l=some li→∀ρ w,Fix w→vcD P Fix ds li K ρ w→walkD P ops Fix (stepsOf li0) Q l.length k (mkA n ρ ds) w:=by
 intro l
 induction l with
 | nil=>intro k li _ _ hc ρ w hw h;simp [compOps] at hc;subst hc;exact hK ρ w hw h
 | cons o l ih =>
  intro k li hl hli hc ρ w hw h
  simp only [compOps] at hc
  split at hc
  ·rename_i g l' hg hl'
   simp at hc;subst hc
   have h0:ops[k]? = some o:=by simpa using (hl 0).symm
   have hS:stepsOf li0 k=isStep ⟨g,o.dst,compOp P n o⟩:=by
    have:=hli 0
    simp only [Za,Nat.add_zero] at this
    simp [stepsOf,← this]
   have hl2:∀j,l[j]? = ops[k+1+j]?:=fun j=>by have:=hl (j+1);simpa [Nat.add_assoc,Nat.add_comm 1 j] using this
   have hli2:∀j,l'[j]? = li0[k+1+j]?:=fun j=>by have:=hli (j+1);simpa [Nat.add_assoc,Nat.add_comm 1 j] using this
   have next:∀v w',Fix w'→vcD P Fix ds l' K (updO ρ o.dst v) w'→walkD P ops Fix (stepsOf li0) Q l.length (k+1) ((mkA n ρ ds).put o.dst v) w':=by
    intro v w' hw' hv
    rw [mkA_put]
    exact ih (k+1) l' hl2 hli2 hl' _ _ hw' hv
   have hwg:=wanted_gate (ρ:=ρ) (ds:=ds) hg
   have main:gateD P Fix ρ ds w (compOp P n o) (fun v w'=>vcD P Fix ds l' K (updO ρ o.dst v) w') (gateOf ρ g)→walkD P ops Fix (stepsOf li0) Q (o :: l).length k (mkA n ρ ds) w:=by
    intro hgd
    simp only [Zak,walkD]
    unfold dOp
    simp only [h0,hwg]
    cases hgt:gateOf ρ g with
    | false =>
     rw [hgt] at hgd
     simp only [Bool.false_eq_true,Zaf]
     exact next undef w hw hgd
    | true =>
     rw [hgt] at hgd
     simp only [Zaa,hS]
     simp only [gateD,kindI] at hgd
     by_cases hp:pureI (compOp P n o)=true
     ·rw [if_pos hp] at hgd
      rw [if_neg (by simp [isStep,hp])]
      obtain ⟨v,e,kv⟩:=pure_step (k:=fun v=>vcD P Fix ds l' K (updO ρ o.dst v) w) hp hgd
      exact ⟨v,val_of_ins (.inl hp) fun w' _=>e w',next v w hw kv⟩
     ·rw [if_neg hp] at hgd
      by_cases hld:loadI (compOp P n o)=true
      ·rw [if_pos hld] at hgd
       rw [if_neg (by simp [isStep,hld])]
       obtain ⟨v,e,kv⟩:=hgd
       exact ⟨v,val_of_ins (.inr hld) e,next v w hw kv⟩
      ·rw [if_neg hld] at hgd
       rw [if_pos (by simp [isStep,hp,hld])]
       have hgd':insVc P (fun v w'=>Fix w'∧vcD P Fix ds l' K (updO ρ o.dst v) w') ρ ds w (compOp P n o):=hgd
       exact upon_mono (fun v w' x=>⟨x.1,next v w' x.1 x.2⟩) (sound_ins n o hgd')
   cases g with
   | none=>exact main h
   | some p=>obtain ⟨s,want⟩:=p;exact main h
  ·contradiction
theorem draw_d (Fix:World→Prop) {id:Nat} {l:List In} {Q:QT} {ρ:Env} {ds:List Deferred} {w:World} (hm:P.follows .mixedOrders=true) (hB:Region.lexB .any ops=true) (hl:compOps P n ops ops.toList=some l)
  (hS:chainB ops (stepsOf l)=true) (hC:Fix w.drew) (h:vcD P Fix ds l (fun ρ' w'=>Q .normal ρ' ds w') ρ w.drew):vc P ro n (.draw id ops l) Q ρ ds w:=by
 intro t
 simp only [Region.schedule,hm,Zbw,Zaa]
 refine wpAnyIn_sound ops.size t _ _ _ ?_
 simp only [Region.lexB,Zbk] at hB
 refine wpAnyIn_of_D (Fix:=Fix) (S:=stepsOf l) (Q:=fun a w'=>lift n Q .normal a w') (fun _ _ _ h=>h) _ _ _ _ hC ?_
 refine wpAnyD_lex hB.1 ops.size 0 _ _ _ hC (by simp) hB.2 hS ?_
 have:=walkD_of_vcD (P:=P) (ops:=ops) (Fix:=Fix) (Q:=fun a w'=>lift n Q .normal a w') (ds:=ds) (K:=fun ρ' w'=>Q .normal ρ' ds w') (fun ρ' w' _ hk=>⟨ρ',ds,rfl,hk⟩) (li0:=l) ops.toList 0 l (by simp) (by simp) hl ρ w.drew hC h
 simpa using this
section
variable {K:Env→World→Prop} {ρ:Env} {ds:List Deferred} {w:World} {d:Option Nat} {i:Ins} {l:List In} {k:Value→World→Prop}
theorem vcD_nil:vcD P Fix ds [] K ρ w=K ρ w:=nr rfl
theorem vcD_cons:vcD P Fix ds (⟨none,d,i⟩ :: l) K ρ w=stepD P Fix ρ ds w i (fun v w'=>vcD P Fix ds l K (updO ρ d v) w') (kindI i):=nr rfl
theorem vcD_gate {s:Nat} {want:Bool}:vcD P Fix ds (⟨some (s,want),d,i⟩ :: l) K ρ w=gateD P Fix ρ ds w i (fun v w'=>vcD P Fix ds l K (updO ρ d v) w') (gate (ρ s) want):=nr rfl
theorem gateD_true:gateD P Fix ρ ds w i k true=stepD P Fix ρ ds w i k (kindI i):=nr rfl
theorem gateD_false:gateD P Fix ρ ds w i k false=k undef w:=nr rfl
theorem stepD_pure:stepD P Fix ρ ds w i k .pure=insVc P (fun v _=>k v w) ρ [] default i:=nr rfl
theorem stepD_load:stepD P Fix ρ ds w i k .load=LoadD Fix P ρ i (fun v=>k v w):=nr rfl
theorem stepD_step:stepD P Fix ρ ds w i k .step=insVc P (fun v w'=>Fix w'∧k v w') ρ ds w i:=nr rfl
theorem loadD1 {x:Operand} {k:Value→Prop} {b o:Nat} {v:Value} (hx:ev ρ x = .pointer (some ⟨b,o,none⟩)) (h:∀w,Fix w→∃c t f,w.heap[b]? = some (.cells c t f)∧c[o]? = some v) (hk:k v):LoadD Fix P ρ (.load1 x) k:=by
 refine ⟨v,fun w hw => ?_,hk⟩
 obtain ⟨c,t,f,h1,h2⟩:=h w hw
 simp only [insVc,hx,load1K,h1,loadO,h2,loadV]
 exact ⟨trivial,trivial⟩
theorem loadDN {x:Operand} {k:Value→Prop} {b o m:Nat} {v:Value} (hx:ev ρ x = .pointer (some ⟨b,o,none⟩)) (h:∀w,Fix w→∃c t f,w.heap[b]? = some (.cells c t f)∧o+m≤c.size∧.agg (c.extract o (o+m))=v) (hk:k v):LoadD Fix P ρ (.loadN m x) k:=by
 refine ⟨v,fun w hw => ?_,hk⟩
 obtain ⟨c,t,f,h1,h2,h3⟩:=h w hw
 simp only [insVc,hx,loadNK,h1,loadNO,h2,h3]
 exact ⟨trivial,trivial,trivial⟩
end
theorem get_alloc (w:World) (o:Obj) (k:Nat):(w.alloc o).heap[k]? = if k=w.heap.size then some o else w.heap[k]?:=by
 simp only [World.alloc,Array.getElem?_push]
theorem get_set (w:World) (b:Nat) (o:Obj) (k:Nat):(set w b o).heap[k]? = if k=b∧b<w.heap.size then some o else w.heap[k]?:=by
 by_cases h:k=b
 ·subst h
  by_cases hl:k<w.heap.size
  ·rw [if_pos ⟨rfl,hl⟩];exact get_set_same w k o hl
  ·rw [if_neg (fun h=>hl h.2)]
   rw [Array.getElem?_eq_none (by rw [size_set];omega),Array.getElem?_eq_none (by omega)]
 ·rw [if_neg (fun h'=>h h'.1)];exact get_set_other w b k o h
end Go.Vc
namespace Go.Oct
open Go Go.Vc
abbrev Rd:=ByteArray × Int
def e0:ByteArray:=⟨#[]⟩
def take (r:Rd) (n:Int):ByteArray × Rd :=
 if r.2≠0 then (e0,r) else if n<0∨n > r.1.size then (e0,(r.1,3)) else (r.1.extract 0 n.toNat,(r.1.extract n.toNat r.1.size,r.2))
def numL (l:List UInt8):Nat:=l.foldl (fun a c=>(a * 256+c.toNat)%2^64) 0
def num (t:ByteArray):Nat:=numL t.data.toList
def number (r:Rd) (n:Int):Nat × Rd:=(num (take r n).1,(take r n).2)
def fail (r:Rd) (e:Int):Rd:=if r.2=0 then (r.1,e) else r
def text (r:Rd) (most:Int):ByteArray × Rd :=
 let a:=number r 4
 let n:=a.1%2^32
 if n > (max most 0).toNat then (e0,fail a.2 5) else take a.2 n
def ende (r:Rd):Int:=if r.2≠0 then r.2 else if r.1.size > 0 then 4 else 0
def big (n:Nat) (k:Nat):ByteArray:=⟨((List.range k).map fun i=>UInt8.ofNat (n/2^(8*(k-1-i)))).toArray⟩
def textB (s:ByteArray):ByteArray:=big (s.size%2^32) 4 ++ s
theorem numL_lt (l:List UInt8):numL l<2^64:=by
 unfold numL
 suffices h:∀(l:List UInt8) (a:Nat),a<2^64→l.foldl (fun a c=>(a * 256+c.toNat)%2^64) a<2^64 from h _ 0 (by decide)
 intro l
 induction l with
 | nil=>intro a h;exact h
 | cons c l ih=>intro a _;exact ih _ (Nat.mod_lt _ (by decide))
theorem num_lt (t:ByteArray):num t<2^64:=numL_lt _
theorem numL_snoc (l:List UInt8) (c:UInt8):numL (l ++ [c])=(numL l * 256+c.toNat)%2^64:=by simp [numL]
theorem take_snoc (t:ByteArray) (i:Nat) (c:UInt8) (h:t.data[i]? = some c):t.data.toList.take (i+1)=t.data.toList.take i ++ [c]:=by
 rw [List.take_add_one];simp [h]
theorem wrap_u64 (n:Nat) (h:n<2^64):IntKind.u64.wrap (n:Int)=n:=by
 rw [IntKind.wrap_u64];omega
theorem or_low (a c:Nat) (hc:c<256):(a * 256) ||| c=a * 256+c:=by
 have h:=Nat.shiftLeft_add_eq_or_of_lt (a:=a) (b:=c) (i:=8) (by omega)
 rw [Nat.shiftLeft_eq] at h
 exact h.symm
theorem step_or (a c:Nat) (ha:a<2^64) (hc:c<256) :
  IntKind.u64.wrap ((BitVec.ofInt IntKind.u64.bits (IntKind.u64.wrap ((a:Int)*2^(min 8 IntKind.u64.bits))) ||| BitVec.ofInt IntKind.u64.bits (IntKind.u64.wrap (c:Int))).toNat:Int)=(((a * 256+c)%2^64:Nat):Int):=by
 have e1:IntKind.u64.wrap ((a:Int)*2^(min 8 IntKind.u64.bits))=((a%2^56*256:Nat):Int):=by
  rw [IntKind.wrap_u64]
  have:(2:Int)^(min 8 IntKind.u64.bits)=256:=by decide
  rw [this];omega
 have e2:IntKind.u64.wrap (c:Int)=(c:Int):=by rw [IntKind.wrap_u64];omega
 rw [e1,e2,BitVec.ofInt_natCast,BitVec.ofInt_natCast,BitVec.toNat_or,BitVec.toNat_ofNat,BitVec.toNat_ofNat]
 have h1:(a%2^56*256)%2^IntKind.u64.bits=a%2^56*256:=by
  have:(2:Nat)^IntKind.u64.bits=2^64:=rfl
  rw [this];omega
 have h2:c%2^IntKind.u64.bits=c:=by
  have:(2:Nat)^IntKind.u64.bits=2^64:=rfl
  rw [this];omega
 rw [h1,h2,or_low _ _ hc,IntKind.wrap_u64]
 omega
theorem wrap_i64 (n:Int) (h : -(2^63)≤n∧n<2^63):IntKind.i64.wrap n=n:=by
 rw [IntKind.wrap_i64];omega
end Go.Oct
namespace Go.Oct
open Go Go.Vc Go.VrA Go.Proofs.Tryz
abbrev ptr (b:Nat):Value:=.pointer (some ⟨b,0,none⟩)
def IsRd (w:World) (b:Nat) (r:Rd):Prop:=w.heap[b]? = some (.cells #[.string r.1,.int .i64 r.2] 359 (0,0))
theorem over_c (s:ByteArray) (w:World) (K:Value→World→Prop) (h:K (ptr w.heap.size) (w.alloc (.cells #[.string s,.int .i64 0] 359))) :
  Ok prog 214 #[.string s] w K:=by
 refine F214.enter (args:=[.string s]) (by simp) ?_
 unfold c214 r214
 simp only [ZB,endK,resK,packed,insVc,buildK,fillL,Value.cells,ne_eq,Nat.reduceAdd,Nat.reduceLeDiff,reduceCtorEq,Zac,Za,Zai,Zak,Zaj,Zbe,Zbf,Zbd,Zbc,Zal,Zam,Zad,Zbh,Zaa]
 exact h
theorem take_c (b:Nat) (r:Rd) (n:Int) (w:World) (K:Value→World→Prop) (hb:IsRd w b r)
  (h:∀w',Mod (fun k=>k=b) w w'→IsRd w' b (take r n).2→K (.string (take r n).1) w') :
  Ok prog 269 #[ptr b,.int .i64 n] w K:=by
 refine F269.enter (args:=[ptr b,.int .i64 n]) (by simp) ?_
 unfold c269 r269
 have hlt:=lt_of_get hb
 unfold IsRd at hb h
 simp only [ZB,insVc,pickK,load1K,nilK,iopK,iopV,nilOf,pnilK,faddrK,ne_eq,Nat.reduceEqDiff,reduceCtorEq,Zac,Za,Zag,Zah,Zaf,Zbq,hb]
 refine condP_split ?_ ?_
 ·intro he
  have he':r.2≠0:=by simpa using he
  simp only [ZB,endK,resK,packed,insVc,Zad]
  have ht:take r n=(e0,r):=by simp [take,he']
  rw [ht] at h
  exact h w (Mod.refl _ _) hb
 ·intro he
  have he':r.2=0:=by simpa using he
  simp only [ZB,insVc,iopK,iopV,ne_eq,Nat.reduceEqDiff,reduceCtorEq,Zac,Za,Zag]
  by_cases h1:n<0
  ·have ht:take r n=(e0,(r.1,3)):=by simp [take,he',h1]
   rw [ht] at h
   simp only [ZB,endK,resK,packed,insVc,pickK,storeK,nilK,faddrK,isPlain,ne_eq,Nat.reduceEqDiff,Nat.reduceAdd,Nat.reduceLT,Nat.reduceLeDiff,reduceCtorEq,Zac,Za,Zai,Zak,Zaj,Zal,Zam,Zan,Zad,Zaa,Zay,h1,hb]
   exact h _ ((Mod.refl _ _).set (.inr rfl)) (get_set_same _ _ _ hlt)
  ·simp only [ZB,insVc,pickK,load1K,nilK,iopK,iopV,faddrK,lenSK,ne_eq,Nat.reduceEqDiff,reduceCtorEq,Zac,Za,Zag,Zah,Zaf,h1,hb]
   by_cases h2:n > r.1.size
   ·have ht:take r n=(e0,(r.1,3)):=by simp [take,he',h2]
    rw [ht] at h
    simp only [ZB,endK,resK,packed,insVc,storeK,nilK,faddrK,isPlain,ne_eq,Nat.reduceAdd,Nat.reduceLT,Nat.reduceLeDiff,reduceCtorEq,Zac,Za,Zai,Zak,Zaj,Zal,Zam,Zan,Zad,Zay,h2,hb]
    exact h _ ((Mod.refl _ _).set (.inr rfl)) (get_set_same _ _ _ hlt)
   ·have ht:take r n=(r.1.extract 0 n.toNat,(r.1.extract n.toNat r.1.size,r.2)):=by simp [take,he',h1,h2]
    rw [ht] at h
    simp only [ZB,endK,resK,packed,insVc,load1K,storeK,nilK,faddrK,boundOf,slSK,isPlain,ne_eq,Nat.reduceEqDiff,Nat.reduceAdd,Nat.reduceLT,Nat.reduceLeDiff,reduceCtorEq,Zbn,Zbv,Zac,Za,Zag,Zah,Zai,Zak,Zaj,Zal,Zam,Zad,Zbj,h2,hb]
    refine ⟨by omega,by omega, ?_⟩
    exact h _ ((Mod.refl _ _).set (.inr rfl)) (by simpa using get_set_same _ _ _ hlt)
theorem number_c (b:Nat) (r:Rd) (n:Int) (w:World) (K:Value→World→Prop) (hb:IsRd w b r) (hs:(r.1.size:Int)<2^63)
  (h:∀w',Mod (fun k=>k=b) w w'→IsRd w' b (number r n).2→K (.int .u64 ((number r n).1:Nat)) w') :
  Ok prog 268 #[ptr b,.int .i64 n] w K:=by
 refine F268.enter (args:=[ptr b,.int .i64 n]) (by simp) ?_
 unfold c268 r268
 simp only [ZB,insVc,ne_eq,Nat.reduceEqDiff,reduceCtorEq,Zac,Zae,Zab,Za,Zag]
 refine take_c b r n w _ hb ?_
 intro w1 hm hb1
 simp only [ZB,insVc,lenSK]
 have hts:((take r n).1.size:Int)<2^63:=by
  unfold take;split
  ·simp [e0,ByteArray.size]
  ·split
   ·simp [e0,ByteArray.size]
   ·simp only [ByteArray.size_extract];omega
 have hK:=h w1 hm hb1
 unfold number at hK
 generalize (take r n).1=t at *
 refine vc_loop (fun m ρ ds w=>ds=[]∧w=w1∧ρ 6 = .string t∧ρ 12 = .int .i64 t.size∧∃i:Nat,i+m=t.size∧ρ 13 = .int .i64 i∧ρ 5 = .int .u64 (numL (t.data.toList.take i):Nat)) t.size ?_ ?_
 ·exact ⟨rfl,rfl,by simp only [upd_same,upd_other,ne_eq,not_false_eq_true,Nat.reduceEqDiff],by simp only [upd_same,upd_other,ne_eq,not_false_eq_true,Nat.reduceEqDiff],0,by simp,by simp only [upd_same];rfl,by simp only [upd_same,upd_other,ne_eq,not_false_eq_true,Nat.reduceEqDiff,Zao];rfl⟩
 ·rintro m ρ ds w ⟨rfl,rfl,h6,h12,i,him,h13,h5⟩
  simp only [ZB,insVc,iopK,iopV,reduceCtorEq,h12,h13]
  by_cases hi:(i:Int)<t.size
  ·obtain ⟨c,hc⟩:∃c,t.data[i]? = some c:=⟨_,Array.getElem?_eq_getElem (by have:i<t.size:=by omega
                                                                          exact this)⟩
   simp only [ZB,insVc,iopK,iopV,convK,sidxK,ne_eq,Nat.reduceEqDiff,reduceCtorEq,Zbn,or_true,Zaf,Int.reduceLT,Int.reduceToNat,Zbj,hi,h6,h12,h13,h5,hc,step_or _ _ (numL_lt (t.data.toList.take i)) (UInt8.toNat_lt c)]
   refine ⟨by omega,m-1,by omega,i+1,by omega, ?_, ?_⟩
   ·rw [wrap_i64 _ (by omega)];rfl
   ·rw [take_snoc t i c hc,numL_snoc]
  ·simp only [ZB,endK,resK,packed,insVc,ne_eq,Nat.reduceEqDiff,Zad,hi,h5]
   have:i=t.size:=by omega
   subst this
   rw [List.take_of_length_le (by rw [Array.length_toList];exact Nat.le_refl _)]
   exact hK
end Go.Oct
namespace Go.Oct
open Go Go.Vc Go.VrA Go.Proofs.Tryz
set_option maxRecDepth 100000
theorem wrap_u8 (n:Nat):IntKind.u8.wrap (n:Int)=((n%256:Nat):Int):=by rw [IntKind.wrap_u8];omega
theorem wrap_u32 (n:Nat):IntKind.u32.wrap (n:Int)=((n%2^32:Nat):Int):=by rw [IntKind.wrap_u32];omega
theorem one_c (b:Nat) (r:Rd) (w:World) (K:Value→World→Prop) (hb:IsRd w b r) (hs:(r.1.size:Int)<2^63)
  (h:∀w',Mod (fun k=>k=b) w w'→IsRd w' b (number r 1).2→K (.int .u8 ((number r 1).1%256:Nat)) w') :
  Ok prog 261 #[ptr b] w K:=by
 refine F261.enter (args:=[ptr b]) (by simp) ?_
 unfold c261 r261
 simp only [ZB,insVc,ne_eq,reduceCtorEq,Zac,Zae,Zab,Za]
 refine number_c b r 1 w _ hb hs ?_
 intro w1 hm hb1
 simp only [ZB,endK,resK,packed,insVc,convK,Zad,wrap_u8]
 exact h w1 hm hb1
theorem four_c (b:Nat) (r:Rd) (w:World) (K:Value→World→Prop) (hb:IsRd w b r) (hs:(r.1.size:Int)<2^63)
  (h:∀w',Mod (fun k=>k=b) w w'→IsRd w' b (number r 4).2→K (.int .u32 ((number r 4).1%2^32:Nat)) w') :
  Ok prog 224 #[ptr b] w K:=by
 refine F224.enter (args:=[ptr b]) (by simp) ?_
 unfold c224 r224
 simp only [ZB,insVc,ne_eq,reduceCtorEq,Zac,Zae,Zab,Za]
 refine number_c b r 4 w _ hb hs ?_
 intro w1 hm hb1
 simp only [ZB,endK,resK,packed,insVc,convK,Zad,wrap_u32]
 exact h w1 hm hb1
theorem eight_c (b:Nat) (r:Rd) (w:World) (K:Value→World→Prop) (hb:IsRd w b r) (hs:(r.1.size:Int)<2^63)
  (h:∀w',Mod (fun k=>k=b) w w'→IsRd w' b (number r 8).2→K (.int .u64 ((number r 8).1:Nat)) w') :
  Ok prog 225 #[ptr b] w K:=by
 refine F225.enter (args:=[ptr b]) (by simp) ?_
 unfold c225 r225
 simp only [ZB,insVc,ne_eq,reduceCtorEq,Zac,Zae,Zab,Za]
 refine number_c b r 8 w _ hb hs ?_
 intro w1 hm hb1
 simp only [ZB,endK,resK,packed,insVc,Zad]
 exact h w1 hm hb1
theorem fail_c (b:Nat) (r:Rd) (e:Int) (w:World) (K:Value→World→Prop) (hb:IsRd w b r)
  (h:∀w' v,Mod (fun k=>k=b) w w'→IsRd w' b (fail r e)→K v w') :
  Ok prog 263 #[ptr b,.int .i64 e] w K:=by
 refine F263.enter (args:=[ptr b,.int .i64 e]) (by simp) ?_
 unfold c263 r263
 have hlt:=lt_of_get hb
 unfold IsRd at hb h
 simp only [ZB,insVc,pickK,load1K,nilK,iopK,iopV,nilOf,pnilK,faddrK,ne_eq,Nat.reduceEqDiff,reduceCtorEq,Zac,Za,Zag,Zah,Zaa,Zbq,hb]
 refine condP_split ?_ ?_
 ·intro he
  have he':r.2=0:=by simpa using he
  have ht:fail r e=(r.1,e):=by simp [fail,he']
  rw [ht] at h
  simp only [ZB,endK,resK,packed,insVc,storeK,nilK,faddrK,isPlain,ne_eq,Nat.reduceEqDiff,Nat.reduceAdd,Nat.reduceLT,Nat.reduceLeDiff,reduceCtorEq,Zac,Za,Zag,Zai,Zak,Zaj,Zal,Zam,Zan,Zay,hb]
  exact h _ _ ((Mod.refl _ _).set (.inr rfl)) (get_set_same _ _ _ hlt)
 ·intro he
  have he':r.2≠0:=by simpa using he
  have ht:fail r e=r:=by simp [fail,he']
  rw [ht] at h
  simp only [vc_skip,endQ_normal,endK,resK,packed]
  exact h _ _ (Mod.refl _ _) hb
theorem left_c (b:Nat) (r:Rd) (w:World) (K:Value→World→Prop) (hb:IsRd w b r) (h:K (.int .i64 r.1.size) w) :
  Ok prog 291 #[ptr b] w K:=by
 refine F291.enter (args:=[ptr b]) (by simp) ?_
 unfold c291 r291
 unfold IsRd at hb
 simp only [ZB,endK,resK,packed,insVc,load1K,nilK,nilOf,pnilK,faddrK,lenSK,ne_eq,reduceCtorEq,Zac,Za,Zah,Zad,Zaf,Zbq,hb]
 exact h
theorem err_c (b:Nat) (r:Rd) (w:World) (K:Value→World→Prop) (hb:IsRd w b r) (h:K (.int .i64 r.2) w) :
  Ok prog 262 #[ptr b] w K:=by
 refine F262.enter (args:=[ptr b]) (by simp) ?_
 unfold c262 r262
 unfold IsRd at hb
 simp only [ZB,endK,resK,packed,insVc,load1K,nilK,nilOf,pnilK,faddrK,ne_eq,reduceCtorEq,Zac,Za,Zag,Zah,Zad,Zaf,Zbq,hb]
 exact h
theorem ende_c (b:Nat) (r:Rd) (w:World) (K:Value→World→Prop) (hb:IsRd w b r) (h:K (.int .i64 (ende r)) w) :
  Ok prog 215 #[ptr b] w K:=by
 refine F215.enter (args:=[ptr b]) (by simp) ?_
 unfold c215 r215
 simp only [ZB,insVc,ne_eq,reduceCtorEq,Zac,Zae,Zab,Za]
 refine err_c b r w _ hb ?_
 unfold IsRd at hb
 simp only [ZB,insVc,iopK,iopV,reduceCtorEq]
 refine condP_split ?_ ?_
 ·intro he
  have he':r.2≠0:=by simpa using he
  have ht:ende r=r.2:=by simp [ende,he']
  rw [ht] at h
  exact h
 ·intro he
  have he':r.2=0:=by simpa using he
  simp only [ZB,insVc,load1K,nilK,iopK,iopV,faddrK,lenSK,ne_eq,reduceCtorEq,Zac,Za,Zah,hb]
  refine condP_split ?_ ?_
  ·intro he2
   have ht:ende r=4:=by unfold ende;rw [if_neg (by simpa using he'),if_pos (by have:=of_decide_eq_true he2;omega)]
   rw [ht] at h
   simp only [ZB,endK,resK,packed,insVc,Zad]
   exact h
  ·intro he2
   have ht:ende r=0:=by unfold ende;rw [if_neg (by simpa using he'),if_neg (by have:=of_decide_eq_false he2;omega)]
   rw [ht] at h
   simp only [ZB,endK,resK,packed,insVc,Zad]
   exact h
theorem take_size (r:Rd) (n:Int):(take r n).2.1.size≤r.1.size:=by
 unfold take
 split
 ·exact Nat.le_refl _
 ·split
  ·exact Nat.le_refl _
  ·simp only [ByteArray.size_extract];omega
theorem text_c (b:Nat) (r:Rd) (most:Int) (w:World) (K:Value→World→Prop) (hb:IsRd w b r) (hs:(r.1.size:Int)<2^63) (hm:most<2^63)
  (h:∀w',Mod (fun k=>k=b) w w'→IsRd w' b (text r most).2→K (.string (text r most).1) w') :
  Ok prog 226 #[ptr b,.int .i64 most] w K:=by
 refine F226.enter (args:=[ptr b,.int .i64 most]) (by simp) ?_
 unfold c226 r226
 simp only [ZB,insVc,ne_eq,reduceCtorEq,Zac,Zae,Zab,Za]
 refine four_c b r w _ hb hs ?_
 intro w1 hm1 hb1
 simp only [ZB,insVc,convK,ne_eq,Nat.reduceEqDiff,Zac,Za,Zag]
 refine rawK_max (a:=most) (b:=0) (k:=.i64) (k':=.i64) rfl rfl rfl (by simp only [upd_same,ev_tmp]) (by simp only [ev_const]) ?_
 simp only [ZB,insVc,iopK,iopV,convK,ne_eq,Nat.reduceEqDiff,reduceCtorEq]
 have e1:IntKind.u64.wrap (((number r 4).1%2^32:Nat):Int)=((number r 4).1%2^32:Nat):=wrap_u64 _ (by omega)
 have e2:IntKind.u64.wrap (max most 0)=((max most 0).toNat:Int):=by rw [IntKind.wrap_u64];omega
 simp only [e1,e2]
 refine condP_split ?_ ?_
 ·intro hg
  have hg':=of_decide_eq_true hg
  have ht:text r most=(e0,fail (number r 4).2 5):=by
   unfold text;simp only [];rw [if_pos (by omega)]
  rw [ht] at h
  simp only [ZB,insVc,ne_eq,reduceCtorEq,Zac,Zae,Zab,Za]
  refine fail_c b _ 5 w1 _ hb1 ?_
  intro w2 v hm2 hb2
  simp only [ZB,endK,resK,packed,insVc,Zad]
  exact h w2 (hm1.trans hm2) hb2
 ·intro hg
  have hg':=of_decide_eq_false hg
  have ht:text r most=take (number r 4).2 (((number r 4).1%2^32:Nat):Int):=by
   unfold text;simp only [];rw [if_neg (by omega)]
  rw [ht] at h
  simp only [ZB,insVc,convK,ne_eq,Nat.reduceEqDiff,reduceCtorEq,Zac,Zae,Zab,Za,wrap_i64 (((number r 4).1%2^32:Nat):Int) (by omega)]
  refine take_c b _ _ w1 _ hb1 ?_
  intro w2 hm2 hb2
  simp only [ZB,endK,resK,packed,insVc,Zad]
  exact h w2 (hm1.trans hm2) hb2
def byteN (n i:Nat):UInt8:=UInt8.ofNat (n/2^(8*(7-i)))
def cellsAt (n i:Nat):List Value:=(List.range 8).map fun j=>.int .u8 (if j<i then ((byteN n j).toNat:Int) else 0)
theorem cellsAt_set (n i:Nat):(cellsAt n i).set i (.int .u8 ((byteN n i).toNat:Int))=cellsAt n (i+1):=by
 apply List.ext_getElem?
 intro k
 rw [List.getElem?_set]
 simp only [cellsAt,List.getElem?_map,List.length_map,List.length_range]
 by_cases hk:k<8
 ·simp only [List.getElem?_range hk,Zbn]
  by_cases e:i=k
  ·subst e;simp [hk]
  ·rw [if_neg e]
   by_cases h1:k<i
   ·simp [h1,show k<i+1 by omega]
   ·simp [h1,show ¬k<i+1 by omega]
 ·have:(List.range 8)[k]? = none:=by simp;omega
  simp [this]
  omega
theorem byte_shr (n i:Nat) (hi:i<8):IntKind.u8.wrap ((n:Int).fdiv (2^(min (IntKind.i64.wrap (8*IntKind.i64.wrap (7-(i:Int)))).toNat IntKind.u64.bits)))=((byteN n i).toNat:Int):=by
 rw [wrap_i64 (7-(i:Int)) (by omega),wrap_i64 _ (by omega)]
 have e:min (8*(7-(i:Int))).toNat IntKind.u64.bits=8*(7-i):=by
  have:IntKind.u64.bits=64:=rfl
  rw [this];omega
 rw [e]
 have e2:(n:Int).fdiv (2^(8*(7-i)))=((n/2^(8*(7-i)):Nat):Int):=by
  rw [Int.fdiv_eq_ediv_of_nonneg _ (by exact Int.le_of_lt (Int.pow_pos (by decide)))]
  push_cast
  rfl
 rw [e2,wrap_u8]
 simp [byteN]
theorem big_c (n k:Nat) (w:World) (K:Value→World→Prop) (hn:n<2^64) (hk1:1≤k) (hk:k≤8)
  (h:∀w',Mod (fun _=>False) w w'→K (.string (big n k)) w') :
  Ok prog 157 #[.int .u64 n,.int .i64 k] w K:=by
 refine F157.enter (args:=[.int .u64 n,.int .i64 k]) (by simp) ?_
 unfold c157 r157
 simp only [ZB,insVc,Value.cells]
 refine vc_loop (fun m ρ ds w'=>ds=[]∧ρ 0 = .int .u64 n∧ρ 1 = .int .i64 k∧ρ 5=ptr w.heap.size∧Mod (fun _=>False) w w'∧∃i:Nat,i+m=8∧ρ 7 = .int .i64 i∧w'.heap[w.heap.size]? = some (.cells (cellsAt n i).toArray 318 (0,0))) 8 ?_ ?_
 ·exact ⟨rfl,by simp only [upd_other,initE_at,ne_eq,not_false_eq_true,reduceCtorEq,Zac,Za],by simp only [upd_other,initE_at,ne_eq,not_false_eq_true,Nat.reduceEqDiff,Zac,Za,Zag],by simp only [upd_same,upd_other,ne_eq,not_false_eq_true,Nat.reduceEqDiff],(Mod.refl _ _).alloc _,0,by simp,by simp only [upd_same];rfl,get_alloc_new _ _⟩
 ·rintro m ρ ds w' ⟨rfl,h0,h1,h5,hm,i,him,h7,hb⟩
  simp only [ZB,insVc,iopK,iopV,reduceCtorEq,h7]
  by_cases hi:(i:Int)<8
  ·have hneg:¬IntKind.i64.wrap (8*IntKind.i64.wrap (7-(i:Int)))<0:=by rw [wrap_i64 (7-(i:Int)) (by omega),wrap_i64 _ (by omega)];omega
   simp only [ZB,insVc,storeK,iopK,iopV,convK,iaddrAK,isPlain,ne_eq,Nat.reduceEqDiff,reduceCtorEq,Zai,Zal,or_true,Zaf,Zbj,Zbm,hi,h0,h1,h5,h7,hb,hneg,byte_shr n i (by omega)]
   have hsz:i<(cellsAt n i).length:=by simp [cellsAt];omega
   refine ⟨by omega,by simp;omega,m-1,by omega, ?_⟩
   refine ⟨hm.set (.inl (Nat.le_refl _)),i+1,by omega,by rw [wrap_i64 _ (by omega)];rfl, ?_⟩
   rw [get_set_same _ _ _ (lt_of_get hb),cellsAt_set]
  ·have h8:i=8:=by omega
   subst h8
   simp only [ZB,insVc,iopK,iopV,boundOf,slAK,ne_eq,Nat.reduceEqDiff,reduceCtorEq,Zbn,Zbv,Zbj,Zbm,hi,h1,h5]
   rw [wrap_i64 (8-(k:Int)) (by omega)]
   refine ⟨by omega, ?_⟩
   have e1:8-(8-(k:Int)).toNat=k:=by omega
   have hne:¬(8=(8-(k:Int)).toNat):=by omega
   rw [e1]
   refine rawK_conv (v:=.string (big n k)) rfl rfl ?_ ?_
   ·simp only [upd_same,ev_tmp]
    have hl:((List.range k).map fun i=>UInt8.ofNat (n/2^(8*(k-1-i)))).length=k:=by simp
    have:=run_convert_bytes_back (P:=prog) w' 319 9 5 ((⟨w.heap.size,0,none⟩:Addr).add ((8-(k:Int)).toNat * 1)) k ((List.range k).map fun i=>UInt8.ofNat (n/2^(8*(k-1-i)))) (by kernel_rfl) (by kernel_rfl) (by kernel_rfl) ?_
    ·rw [hl,Nat.mul_one] at this;rw [if_neg hne];exact this
    ·intro j hj
     rw [hl] at hj
     have hget:(cellsAt n 8)[(8-(k:Int)).toNat+j]? = some (.int .u8 ((byteN n ((8-(k:Int)).toNat+j)).toNat:Int)):=by
      simp only [cellsAt,List.getElem?_map,List.getElem?_range (show (8-(k:Int)).toNat+j<8 by omega),Zbn]
      rw [if_pos (by omega)]
     simp only [Addr.add_lit,World.cell?,hb,Zbm,Nat.zero_add,Zah,hget]
     simp only [byteN,List.getElem_map,List.getElem_range,show 7-((8-(k:Int)).toNat+j)=k-1-j by omega]
     rfl
   ·simp only [ZB,endK,resK,packed,insVc,Zad]
    exact h w' hm
theorem wone_c (n:Nat) (w:World) (K:Value→World→Prop) (hn:n<256) (h:∀w',Mod (fun _=>False) w w'→K (.string (big n 1)) w') :
  Ok prog 96 #[.int .u8 n] w K:=by
 refine F96.enter (args:=[.int .u8 n]) (by simp) ?_
 unfold c96 r96
 simp only [ZB,insVc,convK,ne_eq,reduceCtorEq,Zac,Zae,Zab,Za,wrap_u64 n (by omega)]
 refine big_c n 1 w _ (by omega) (by omega) (by omega) ?_
 intro w1 hm
 simp only [ZB,endK,resK,packed,insVc,Zad]
 exact h w1 hm
theorem wfour_c (n:Nat) (w:World) (K:Value→World→Prop) (hn:n<2^32) (h:∀w',Mod (fun _=>False) w w'→K (.string (big n 4)) w') :
  Ok prog 159 #[.int .u32 n] w K:=by
 refine F159.enter (args:=[.int .u32 n]) (by simp) ?_
 unfold c159 r159
 simp only [ZB,insVc,convK,ne_eq,reduceCtorEq,Zac,Zae,Zab,Za,wrap_u64 n (by omega)]
 refine big_c n 4 w _ (by omega) (by omega) (by omega) ?_
 intro w1 hm
 simp only [ZB,endK,resK,packed,insVc,Zad]
 exact h w1 hm
theorem weight_c (n:Nat) (w:World) (K:Value→World→Prop) (hn:n<2^64) (h:∀w',Mod (fun _=>False) w w'→K (.string (big n 8)) w') :
  Ok prog 160 #[.int .u64 n] w K:=by
 refine F160.enter (args:=[.int .u64 n]) (by simp) ?_
 unfold c160 r160
 simp only [ZB,insVc,ne_eq,reduceCtorEq,Zac,Zae,Zab,Za]
 refine big_c n 8 w _ hn (by omega) (by omega) ?_
 intro w1 hm
 simp only [ZB,endK,resK,packed,insVc,Zad]
 exact h w1 hm
theorem big_size (n k:Nat):(big n k).size=k:=by simp [big,ByteArray.size]
theorem wtext_c (s:ByteArray) (w:World) (K:Value→World→Prop) (hs:s.size<2^62) (h:∀w',Mod (fun _=>False) w w'→K (.string (textB s)) w') :
  Ok prog 158 #[.string s] w K:=by
 refine F158.enter (args:=[.string s]) (by simp) ?_
 unfold c158 r158
 simp only [ZB,insVc,convK,lenSK,ne_eq,reduceCtorEq,Zac,Zae,Zab,Za,wrap_u32]
 refine wfour_c (s.size%2^32) w _ (by omega) ?_
 intro w1 hm
 have hmax:¬(((big (s.size%2^32) 4).size+s.size:Nat):Int) > IntKind.i64.max:=by
  rw [big_size];have:IntKind.i64.max=9223372036854775807:=rfl
  rw [this];omega
 simp only [ZB,endK,resK,packed,insVc,sopK,sopV,ne_eq,Nat.reduceEqDiff,reduceCtorEq,Zac,Za,Zad,Zaf,hmax]
 exact h w1 hm
end Go.Oct
