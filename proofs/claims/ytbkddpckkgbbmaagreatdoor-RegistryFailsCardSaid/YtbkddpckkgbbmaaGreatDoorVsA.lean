import Derived.Test.YtbkddpckkgbbmaaGreatDoorVcN
import Derived.Lib.Replace
import Derived.Lib.SplitLaws
import Derived.Maps.OwnSet
set_option linter.unusedSimpArgs false
set_option linter.unusedVariables false
set_option linter.unusedSectionVars false
set_option linter.unnecessarySimpa false
namespace Go.Vc
open Go
variable {P : Program} {ro : Option Nat} {n : Nat} {ops : Array Oper} {Fix : World→Prop} {md : Region.Mode} {Q : Act→World→Prop} {S : Nat→Bool}
def reach (md : Region.Mode) (ops : Array Oper) (k : Nat) : Nat→Nat→List Nat→List Nat
  | 0,_,W=>W
  | f + 1,p,W=>reach md ops k f (p + 1) (match ops[p]? with
    | some o=>if o.after.any (fun e=>Region.binds md e && (e.on == k || W.contains e.on)) then p :: W else W
    | none=>W)
def waitB (md : Region.Mode) (ops : Array Oper) (S : Nat→Bool) (k : Nat) (listed : Array Bool) : Bool :=
  let W:=reach md ops k (ops.size - k) (k + 1) []
  (W.all fun p => !listed.getD p false) &&
  (W.all fun p=>match ops[p]? with | some o=>o.after.any (fun e=>Region.binds md e && (e.on == k || W.contains e.on)) | none=>true) &&
  (List.range listed.size).all fun j=>j == k || !S j || listed.getD j true || W.contains j
def lexD (md : Region.Mode) (ops : Array Oper) (S : Nat→Bool) : Nat→Nat→Array Bool→Bool
  | 0,_,_=>true
  | f + 1,k,listed=>(!S k || waitB md ops S k listed) && lexD md ops S f (k + 1) (listed.setIfInBounds k true)
def chainB (ops : Array Oper) (S : Nat→Bool) : Bool:=lexD .any ops S ops.size 0 (Array.replicate ops.size false)
theorem waits_of_waitB {k : Nat} {listed : Array Bool} (h : waitB md ops S k listed = true) : Waits md ops S k listed (fun p=>p ∈ reach md ops k (ops.size - k) (k + 1) []):=by
  unfold waitB at h
  simp only [Zbo,List.all_eq_true] at h
  obtain ⟨⟨h1,h2⟩,h3⟩:=h
  refine ⟨fun p hp=>by simpa using h1 p hp,fun p o hp ho => ?_,fun j hj hne hun => ?_⟩
  · have:=h2 p hp
    simp only [ho] at this
    obtain ⟨e,he,hb⟩:=Array.any_eq_true'.1 this
    simp only [Zbo,Zch,beq_iff_eq,Zck] at hb
    exact ⟨e,he,hb.1,hb.2⟩
  · rcases Nat.lt_or_ge j listed.size with h' | h'
    · have:=h3 j (List.mem_range.2 h')
      simp only [Zch,beq_iff_eq,hne,false_or,hj,Bool.not_true,Bool.false_eq_true,hun,Zck] at this
      exact this
    · simp [Array.getElem?_eq_none h'] at hun
def walkD (P : Program) (ops : Array Oper) (Fix : World→Prop) (S : Nat→Bool) (Q : Act→World→Prop) : Nat→Nat→Act→World→Prop
  | 0,_,a,w=>Q a w
  | f + 1,k,a,w=>dOp P ops Fix S k (walkD P ops Fix S Q f (k + 1)) a w
theorem wpAnyD_lex (hs : Region.noSelect ops = true) : ∀ (f k : Nat) (listed : Array Bool) (a : Act) (w : World),Fix w→k + f = ops.size→Region.lexFrom md ops f k listed = true→lexD md ops S f k listed = true →
    walkD P ops Fix S Q f k a w→wpAnyD P md ops Fix S Q f listed a w
  | 0,_,_,_,_,_,_,hB,_,h=>⟨by simpa [Region.lexFrom] using hB,h⟩
  | f + 1,k,listed,a,w,hw,hk,hB,hD,h=>by
    obtain ⟨o,ho⟩ : ∃ o,ops[k]? = some o:=⟨_,Array.getElem?_eq_getElem (by omega)⟩
    simp only [Region.lexFrom,Zbo] at hB
    obtain ⟨⟨hr,hf⟩,hB'⟩:=hB
    simp only [lexD,Zbo,Zch,Bool.not_eq_true'] at hD
    refine wpAnyD_first (W:=fun p=>p ∈ reach md ops k (ops.size - k) (k + 1) []) ho (Region.noSelect_spec hs) f listed a w hw (Region.free_spec ho hf) (by simpa using hr) ?_ ?_
    · intro hsk
      rcases hD.1 with h' | h'
      · rw [hsk] at h'; cases h'
      · exact waits_of_waitB h'
    · exact dOp_mono hw (fun a' w' hw' h'=>wpAnyD_lex hs f (k + 1) _ a' w' hw' (by omega) hB' hD.2 h') h
def loadI : Ins→Bool
  | .load1 _ | .loadN .. => true
  | _=>false
inductive Kind where
  | pure | load | step
def kindI (i : Ins) : Kind:=if pureI i then .pure else if loadI i then .load else .step
def isStep (x : In) : Bool:=!(pureI x.i) && !(loadI x.i)
def stepsOf (l : List In) (k : Nat) : Bool:=((l[k]?).map isStep).getD false
def LoadD (Fix : World→Prop) (P : Program) (ρ : Env) (i : Ins) (k : Value→Prop) : Prop:=∃ v,(∀ w,Fix w→insVc P (fun v' w'=>w' = w∧v' = v) ρ [] w i)∧k v
def stepD (P : Program) (Fix : World→Prop) (ρ : Env) (ds : List Deferred) (w : World) (i : Ins) (k : Value→World→Prop) : Kind→Prop
  | .pure=>insVc P (fun v _=>k v w) ρ [] default i
  | .load=>LoadD Fix P ρ i (fun v=>k v w)
  | .step=>insVc P (fun v w'=>Fix w'∧k v w') ρ ds w i
def gateD (P : Program) (Fix : World→Prop) (ρ : Env) (ds : List Deferred) (w : World) (i : Ins) (k : Value→World→Prop) : Bool→Prop
  | true=>stepD P Fix ρ ds w i k (kindI i)
  | false=>k undef w
def vcD (P : Program) (Fix : World→Prop) (ds : List Deferred) : List In→(Env→World→Prop)→Env→World→Prop
  | [],K,ρ,w=>K ρ w
  | ⟨none,d,i⟩ :: l,K,ρ,w=>stepD P Fix ρ ds w i (fun v w'=>vcD P Fix ds l K (updO ρ d v) w') (kindI i)
  | ⟨some (s,want),d,i⟩ :: l,K,ρ,w=>gateD P Fix ρ ds w i (fun v w'=>vcD P Fix ds l K (updO ρ d v) w') (gate (ρ s) want)
theorem noEnter_comp {o : Oper} {ρ : Env} {ds : List Deferred} (h : pureI (compOp P n o) = true∨loadI (compOp P n o) = true) (w : World) : NoEnter ((execOp (mkA n ρ ds).eval o).run P w):=by
  have hraw : compOp P n o≠.raw n o:=by intro e; rw [e] at h; simp [pureI,loadI] at h
  by_cases hb : o.op.operands.toList.all (inB n) = true
  case neg=>exact absurd (by unfold compOp; rw [if_pos (by simpa using hb)]) hraw
  have hneg : ¬ (!o.op.operands.toList.all (inB n)) = true:=by simpa using hb
  by_cases hcall : ∃ c,o.op = .call c
  case neg =>
    refine noEnter_of ?_ w
    cases hop : o.op
    case call c=>exact absurd ⟨c,hop⟩ hcall
    all_goals first | trivial | skip
    all_goals (exact absurd (by unfold compOp; rw [if_neg hneg]; simp only [hop]) hraw)
  case pos =>
    obtain ⟨c,hop⟩:=hcall
    obtain ⟨cal,args,ats⟩:=c
    cases cal with
    | builtin b =>
      cases b with
      | len=>exact noEnter_len hop w
      | _=>exact absurd (by unfold compOp; rw [if_neg hneg]; simp only [hop]) hraw
    | value x =>
      exfalso
      cases x with
      | func f =>
        have hc : compOp P n o = if okF P f then .call f args.toList else .raw n o:=by unfold compOp; rw [if_neg hneg]; simp only [hop]
        by_cases hf : okF P f = true
        · rw [if_pos hf] at hc; rw [hc] at h; simp [pureI,loadI] at h
        · rw [if_neg hf] at hc; exact hraw hc
      | tmp t=>have hc : compOp P n o = .callv (.tmp t) args.toList:=(by unfold compOp; rw [if_neg hneg]; simp only [hop]); rw [hc] at h; simp [pureI,loadI] at h
      | const t=>have hc : compOp P n o = .callv (.const t) args.toList:=(by unfold compOp; rw [if_neg hneg]; simp only [hop]); rw [hc] at h; simp [pureI,loadI] at h
      | global t=>have hc : compOp P n o = .callv (.global t) args.toList:=(by unfold compOp; rw [if_neg hneg]; simp only [hop]); rw [hc] at h; simp [pureI,loadI] at h
    | invoke x name =>
      exfalso
      have hc : compOp P n o = .inv x name args.toList:=by unfold compOp; rw [if_neg hneg]; simp only [hop]
      rw [hc] at h; simp [pureI,loadI] at h
theorem val_of_ins {o : Oper} {ρ : Env} {ds : List Deferred} {v : Value} (hk : pureI (compOp P n o) = true∨loadI (compOp P n o) = true)
    (h : ∀ w,Fix w→insVc P (fun v' w'=>w' = w∧v' = v) ρ [] w (compOp P n o)) : Val P Fix o (mkA n ρ ds) v:=by
  intro w hw
  have hq : quietI (compOp P n o) = true:=by
    cases hc : compOp P n o <;> first | rfl | (rw [hc] at hk; simp [pureI,loadI] at hk)
  have h1:=sound_ins (P:=P) (ds:=ds) n o (insVc_ds hq (h w hw))
  have h2:=noEnter_comp (P:=P) (n:=n) (ρ:=ρ) (ds:=ds) hk w
  revert h1 h2
  generalize (execOp (mkA n ρ ds).eval o).run P w = r
  intro h1 h2
  match r,h1,h2 with
  | .ok (.value u) w',h1,_=>obtain ⟨rfl,rfl⟩:=h1; exact .inl rfl
  | .ok .skip w',h1,_=>obtain ⟨rfl,h⟩:=h1; exact .inr ⟨rfl,h.symm⟩
theorem walkD_of_vcD {K : Env→World→Prop} {ds : List Deferred} (hK : ∀ ρ w,Fix w→K ρ w→Q (mkA n ρ ds) w) {li0 : List In} : ∀ (l : List Oper) (k : Nat) (li : List In),(∀ j,l[j]? = ops[k + j]?)→(∀ j,li[j]? = li0[k + j]?) →
    compOps P n ops l = some li→∀ ρ w,Fix w→vcD P Fix ds li K ρ w→walkD P ops Fix (stepsOf li0) Q l.length k (mkA n ρ ds) w:=by
  intro l
  induction l with
  | nil=>intro k li _ _ hc ρ w hw h; simp [compOps] at hc; subst hc; exact hK ρ w hw h
  | cons o l ih =>
    intro k li hl hli hc ρ w hw h
    simp only [compOps] at hc
    split at hc
    · rename_i g l' hg hl'
      simp at hc; subst hc
      have h0 : ops[k]? = some o:=by simpa using (hl 0).symm
      have hS : stepsOf li0 k = isStep ⟨g,o.dst,compOp P n o⟩:=by
        have:=hli 0
        simp only [Za,Nat.add_zero] at this
        simp [stepsOf,← this]
      have hl2 : ∀ j,l[j]? = ops[k + 1 + j]?:=fun j=>by have:=hl (j + 1); simpa [Nat.add_assoc,Nat.add_comm 1 j] using this
      have hli2 : ∀ j,l'[j]? = li0[k + 1 + j]?:=fun j=>by have:=hli (j + 1); simpa [Nat.add_assoc,Nat.add_comm 1 j] using this
      have next : ∀ v w',Fix w'→vcD P Fix ds l' K (updO ρ o.dst v) w'→walkD P ops Fix (stepsOf li0) Q l.length (k + 1) ((mkA n ρ ds).put o.dst v) w':=by
        intro v w' hw' hv
        rw [mkA_put]
        exact ih (k + 1) l' hl2 hli2 hl' _ _ hw' hv
      have hwg:=wanted_gate (ρ:=ρ) (ds:=ds) hg
      have main : gateD P Fix ρ ds w (compOp P n o) (fun v w'=>vcD P Fix ds l' K (updO ρ o.dst v) w') (gateOf ρ g)→walkD P ops Fix (stepsOf li0) Q (o :: l).length k (mkA n ρ ds) w:=by
        intro hgd
        simp only [Zai,walkD]
        unfold dOp
        simp only [h0,hwg]
        cases hgt : gateOf ρ g with
        | false =>
          rw [hgt] at hgd
          simp only [Bool.false_eq_true,Zag]
          exact next undef w hw hgd
        | true =>
          rw [hgt] at hgd
          simp only [Zac,hS]
          simp only [gateD,kindI] at hgd
          by_cases hp : pureI (compOp P n o) = true
          · rw [if_pos hp] at hgd
            rw [if_neg (by simp [isStep,hp])]
            obtain ⟨v,e,kv⟩:=pure_step (k:=fun v=>vcD P Fix ds l' K (updO ρ o.dst v) w) hp hgd
            exact ⟨v,val_of_ins (.inl hp) fun w' _=>e w',next v w hw kv⟩
          · rw [if_neg hp] at hgd
            by_cases hld : loadI (compOp P n o) = true
            · rw [if_pos hld] at hgd
              rw [if_neg (by simp [isStep,hld])]
              obtain ⟨v,e,kv⟩:=hgd
              exact ⟨v,val_of_ins (.inr hld) e,next v w hw kv⟩
            · rw [if_neg hld] at hgd
              rw [if_pos (by simp [isStep,hp,hld])]
              have hgd' : insVc P (fun v w'=>Fix w'∧vcD P Fix ds l' K (updO ρ o.dst v) w') ρ ds w (compOp P n o):=hgd
              exact upon_mono (fun v w' x=>⟨x.1,next v w' x.1 x.2⟩) (sound_ins n o hgd')
      cases g with
      | none=>exact main h
      | some p=>obtain ⟨s,want⟩:=p; exact main h
    · contradiction
theorem draw_d (Fix : World→Prop) {id : Nat} {l : List In} {Q : QT} {ρ : Env} {ds : List Deferred} {w : World} (hm : P.follows .mixedOrders = true) (hB : Region.lexB .any ops = true) (hl : compOps P n ops ops.toList = some l)
    (hS : chainB ops (stepsOf l) = true) (hC : Fix w.drew) (h : vcD P Fix ds l (fun ρ' w'=>Q .normal ρ' ds w') ρ w.drew) : vc P ro n (.draw id ops l) Q ρ ds w:=by
  intro t
  simp only [Region.schedule,hm,Bool.true_or,Zac]
  refine wpAnyIn_sound ops.size t _ _ _ ?_
  simp only [Region.lexB,Zbo] at hB
  refine wpAnyIn_of_D (Fix:=Fix) (S:=stepsOf l) (Q:=fun a w'=>lift n Q .normal a w') (fun _ _ _ h=>h) _ _ _ _ hC ?_
  refine wpAnyD_lex hB.1 ops.size 0 _ _ _ hC (by simp) hB.2 hS ?_
  have:=walkD_of_vcD (P:=P) (ops:=ops) (Fix:=Fix) (Q:=fun a w'=>lift n Q .normal a w') (ds:=ds) (K:=fun ρ' w'=>Q .normal ρ' ds w') (fun ρ' w' _ hk=>⟨ρ',ds,rfl,hk⟩) (li0:=l) ops.toList 0 l (by simp) (by simp) hl ρ w.drew hC h
  simpa using this
section
variable {K : Env→World→Prop} {ρ : Env} {ds : List Deferred} {w : World} {d : Option Nat} {i : Ins} {l : List In} {k : Value→World→Prop}
theorem vcD_nil : vcD P Fix ds [] K ρ w = K ρ w:=nr rfl
theorem vcD_cons : vcD P Fix ds (⟨none,d,i⟩ :: l) K ρ w = stepD P Fix ρ ds w i (fun v w'=>vcD P Fix ds l K (updO ρ d v) w') (kindI i):=nr rfl
theorem vcD_gate {s : Nat} {want : Bool} : vcD P Fix ds (⟨some (s,want),d,i⟩ :: l) K ρ w = gateD P Fix ρ ds w i (fun v w'=>vcD P Fix ds l K (updO ρ d v) w') (gate (ρ s) want):=nr rfl
theorem gateD_true : gateD P Fix ρ ds w i k true = stepD P Fix ρ ds w i k (kindI i):=nr rfl
theorem gateD_false : gateD P Fix ρ ds w i k false = k undef w:=nr rfl
theorem stepD_pure : stepD P Fix ρ ds w i k .pure = insVc P (fun v _=>k v w) ρ [] default i:=nr rfl
theorem stepD_load : stepD P Fix ρ ds w i k .load = LoadD Fix P ρ i (fun v=>k v w):=nr rfl
theorem stepD_step : stepD P Fix ρ ds w i k .step = insVc P (fun v w'=>Fix w'∧k v w') ρ ds w i:=nr rfl
theorem loadD1 {x : Operand} {k : Value→Prop} {b o : Nat} {v : Value} (hx : ev ρ x = .pointer (some ⟨b,o,none⟩)) (h : ∀ w,Fix w→∃ c t f,w.heap[b]? = some (.cells c t f)∧c[o]? = some v) (hk : k v) : LoadD Fix P ρ (.load1 x) k:=by
  refine ⟨v,fun w hw => ?_,hk⟩
  obtain ⟨c,t,f,h1,h2⟩:=h w hw
  simp only [insVc,hx,load1K,h1,loadO,h2,loadV]
  exact ⟨trivial,trivial⟩
theorem loadDN {x : Operand} {k : Value→Prop} {b o m : Nat} {v : Value} (hx : ev ρ x = .pointer (some ⟨b,o,none⟩)) (h : ∀ w,Fix w→∃ c t f,w.heap[b]? = some (.cells c t f)∧o + m≤c.size∧.agg (c.extract o (o + m)) = v) (hk : k v) : LoadD Fix P ρ (.loadN m x) k:=by
  refine ⟨v,fun w hw => ?_,hk⟩
  obtain ⟨c,t,f,h1,h2,h3⟩:=h w hw
  simp only [insVc,hx,loadNK,h1,loadNO,h2,h3]
  exact ⟨trivial,trivial,trivial⟩
end
theorem get_alloc (w : World) (o : Obj) (k : Nat) : (w.alloc o).heap[k]? = if k = w.heap.size then some o else w.heap[k]?:=by
  simp only [World.alloc,Array.getElem?_push]
theorem get_set (w : World) (b : Nat) (o : Obj) (k : Nat) : (set w b o).heap[k]? = if k = b∧b < w.heap.size then some o else w.heap[k]?:=by
  by_cases h : k = b
  · subst h
    by_cases hl : k < w.heap.size
    · rw [if_pos ⟨rfl,hl⟩]; exact get_set_same w k o hl
    · rw [if_neg (fun h=>hl h.2)]
      rw [Array.getElem?_eq_none (by rw [size_set]; omega),Array.getElem?_eq_none (by omega)]
  · rw [if_neg (fun h'=>h h'.1)]; exact get_set_other w b k o h
end Go.Vc
namespace Go.Oct
open Go Go.Vc
abbrev Rd:=ByteArray × Int
def e0 : ByteArray:=⟨#[]⟩
def take (r : Rd) (n : Int) : ByteArray × Rd :=
  if r.2≠0 then (e0,r) else if n < 0∨n > r.1.size then (e0,(r.1,3)) else (r.1.extract 0 n.toNat,(r.1.extract n.toNat r.1.size,r.2))
def numL (l : List UInt8) : Nat:=l.foldl (fun a c=>(a * 256 + c.toNat) % 2 ^ 64) 0
def num (t : ByteArray) : Nat:=numL t.data.toList
def number (r : Rd) (n : Int) : Nat × Rd:=(num (take r n).1,(take r n).2)
def fail (r : Rd) (e : Int) : Rd:=if r.2 = 0 then (r.1,e) else r
def text (r : Rd) (most : Int) : ByteArray × Rd :=
  let a:=number r 4
  let n:=a.1 % 2 ^ 32
  if n > (max most 0).toNat then (e0,fail a.2 5) else take a.2 n
def ende (r : Rd) : Int:=if r.2≠0 then r.2 else if r.1.size > 0 then 4 else 0
def big (n : Nat) (k : Nat) : ByteArray:=⟨((List.range k).map fun i=>UInt8.ofNat (n / 2 ^ (8 * (k - 1 - i)))).toArray⟩
def textB (s : ByteArray) : ByteArray:=big (s.size % 2 ^ 32) 4 ++ s
theorem numL_lt (l : List UInt8) : numL l < 2 ^ 64:=by
  unfold numL
  suffices h : ∀ (l : List UInt8) (a : Nat),a < 2 ^ 64→l.foldl (fun a c=>(a * 256 + c.toNat) % 2 ^ 64) a < 2 ^ 64 from h _ 0 (by decide)
  intro l
  induction l with
  | nil=>intro a h; exact h
  | cons c l ih=>intro a _; exact ih _ (Nat.mod_lt _ (by decide))
theorem num_lt (t : ByteArray) : num t < 2 ^ 64:=numL_lt _
theorem numL_snoc (l : List UInt8) (c : UInt8) : numL (l ++ [c]) = (numL l * 256 + c.toNat) % 2 ^ 64:=by simp [numL]
theorem take_snoc (t : ByteArray) (i : Nat) (c : UInt8) (h : t.data[i]? = some c) : t.data.toList.take (i + 1) = t.data.toList.take i ++ [c]:=by
  rw [List.take_add_one]; simp [h]
theorem wrap_u64 (n : Nat) (h : n < 2 ^ 64) : IntKind.u64.wrap (n : Int) = n:=by
  rw [IntKind.wrap_u64]; omega
theorem or_low (a c : Nat) (hc : c < 256) : (a * 256) ||| c = a * 256 + c:=by
  have h:=Nat.shiftLeft_add_eq_or_of_lt (a:=a) (b:=c) (i:=8) (by omega)
  rw [Nat.shiftLeft_eq] at h
  exact h.symm
theorem step_or (a c : Nat) (ha : a < 2 ^ 64) (hc : c < 256) :
    IntKind.u64.wrap ((BitVec.ofInt IntKind.u64.bits (IntKind.u64.wrap ((a : Int) * 2 ^ (min 8 IntKind.u64.bits))) ||| BitVec.ofInt IntKind.u64.bits (IntKind.u64.wrap (c : Int))).toNat : Int) = (((a * 256 + c) % 2 ^ 64 : Nat) : Int):=by
  have e1 : IntKind.u64.wrap ((a : Int) * 2 ^ (min 8 IntKind.u64.bits)) = ((a % 2 ^ 56 * 256 : Nat) : Int):=by
    rw [IntKind.wrap_u64]
    have : (2 : Int) ^ (min 8 IntKind.u64.bits) = 256:=by decide
    rw [this]; omega
  have e2 : IntKind.u64.wrap (c : Int) = (c : Int):=by rw [IntKind.wrap_u64]; omega
  rw [e1,e2,BitVec.ofInt_natCast,BitVec.ofInt_natCast,BitVec.toNat_or,BitVec.toNat_ofNat,BitVec.toNat_ofNat]
  have h1 : (a % 2 ^ 56 * 256) % 2 ^ IntKind.u64.bits = a % 2 ^ 56 * 256:=by
    have : (2 : Nat) ^ IntKind.u64.bits = 2 ^ 64:=rfl
    rw [this]; omega
  have h2 : c % 2 ^ IntKind.u64.bits = c:=by
    have : (2 : Nat) ^ IntKind.u64.bits = 2 ^ 64:=rfl
    rw [this]; omega
  rw [h1,h2,or_low _ _ hc,IntKind.wrap_u64]
  omega
theorem wrap_i64 (n : Int) (h : -(2 ^ 63)≤n∧n < 2 ^ 63) : IntKind.i64.wrap n = n:=by
  rw [IntKind.wrap_i64]; omega
end Go.Oct
namespace Go.Oct
open Go
def esc (l : List UInt8) : List UInt8:=l.flatMap fun c=>if c = 0 then [0,255] else [c]
theorem index_zero_cons (b : UInt8) (l : List UInt8) : Lib.index (b :: l) [0] = if b = 0 then 0 else if Lib.index l [0] == -1 then -1 else Lib.index l [0] + 1:=by
  rw [Lib.index]
  by_cases h : b = 0
  · subst h; simp
  · have : ([0] : List UInt8).isPrefixOf (b :: l) = false:=by
      simp [List.isPrefixOf]; exact fun e=>h e.symm
    rw [this]; simp [h]
theorem repl_esc : ∀ s : List UInt8,Lib.replaceK [0] [0,255] (Lib.count s [0]) s = esc s:=by
  intro s
  induction s with
  | nil=>rfl
  | cons c l ih =>
    by_cases h : c = 0
    · subst h
      rw [Lib.count_cons_eq,Nat.add_comm,Lib.replaceK_hit _ _ _ _ 0 (by rw [index_zero_cons]; simp)]
      simp [esc,ih]
    · rw [Lib.count_cons_ne _ _ _ h]
      have e : esc (c :: l) = c :: esc l:=by simp [esc,h]
      rw [e,← ih]
      generalize hk : Lib.count l [0] = k
      cases k with
      | zero=>rfl
      | succ k =>
        obtain ⟨i,hi⟩:=Lib.index_of_count (s:=l) (old:=[0]) (by omega)
        have hi' : Lib.index (c :: l) [0] = ((i + 1 : Nat) : Int):=by
          rw [index_zero_cons,if_neg h,hi]
          have : ((i : Int) == -1) = false:=by rw [beq_eq_false_iff_ne]; omega
          simp [this]
        rw [Lib.replaceK_hit _ _ _ _ _ hi',Lib.replaceK_hit _ _ _ _ _ hi]
        simp []
theorem replaceAll_esc (s : List UInt8) : Lib.replaceAll s [0] [0,255] = esc s:=by
  unfold Lib.replaceAll Lib.replace Lib.replaceNum
  rw [if_neg (by decide),if_pos (by left; decide)]
  exact repl_esc s
theorem esc_length (l : List UInt8) : (esc l).length≤2 * l.length:=by
  induction l with
  | nil=>simp [esc]
  | cons c l ih =>
    have : (esc (c :: l)).length = (if c = 0 then [0,255] else [c]).length + (esc l).length:=by simp [esc]
    rw [this]
    by_cases h : c = 0
    · simp [h]; omega
    · simp [h]; omega
structure Pt where
  t : Bool
  n : Nat
  s : ByteArray
def Pt.cells (p : Pt) : List Value:=[.bool p.t,.int .u64 p.n,.string p.s]
def Pt.val (p : Pt) : Value:=.agg p.cells.toArray
def num' (n : Nat) : Pt:=⟨false,n,e0⟩
def str (s : ByteArray) : Pt:=⟨true,0,s⟩
def Pt.good (p : Pt) : Prop:=p.n < 2 ^ 64∧p.s.size < 4294967281
def Pt.bytes (p : Pt) : List UInt8:=if p.t then 2 :: (esc p.s.data.toList ++ [0,0]) else 1 :: (big p.n 8).data.toList
def keyL : List Pt→List UInt8→ByteArray × Int
  | [],acc=>(⟨acc.toArray⟩,0)
  | p :: l,acc=>if (acc ++ p.bytes).length > 255 then (e0,5) else keyL l (acc ++ p.bytes)
end Go.Oct
namespace Go.Oct
open Go Go.Vc
abbrev M:=List (List UInt8 × List UInt8)
def encM (m : M) : List (Lit × DataW Unit):=m.map fun p=>(.string p.1,.lit (.string p.2))
def DM (m : M) : DataW Unit:=.map (encM m)
def insM (x : List UInt8 × List UInt8) : M→M
  | []=>[x]
  | y :: r=>if bytesBefore x.1 y.1 then x :: y :: r else y :: insM x r
def putM (k v : List UInt8) (m : M) : M:=insM (k,v) (m.filter fun p => !(p.1 == k))
def delM (k : List UInt8) (m : M) : M:=m.filter fun p => !(p.1 == k)
def lookM (k : List UInt8) : M→Option (List UInt8)
  | []=>none
  | p :: r=>if p.1 == k then some p.2 else lookM k r
theorem enc_ins (x : List UInt8 × List UInt8) (m : M) : encM (insM x m) = DataW.insert (.string x.1,.lit (.string x.2)) (encM m):=by
  induction m with
  | nil=>rfl
  | cons y r ih =>
    have hb : ∀ (a b : List UInt8 × List UInt8),((Lit.string a.1,DataW.lit (Lit.string a.2)) : Lit × DataW Unit).1.before ((Lit.string b.1,DataW.lit (Lit.string b.2)) : Lit × DataW Unit).1 = bytesBefore a.1 b.1:=fun _ _=>rfl
    show encM (if bytesBefore x.1 y.1 then x :: y :: r else y :: insM x r) = DataW.insert _ ((Lit.string y.1,DataW.lit (Lit.string y.2)) :: encM r)
    by_cases h : bytesBefore x.1 y.1 = true
    · rw [if_pos h,DataW.insert,if_pos (by rw [hb]; exact h)]; rfl
    · rw [if_neg h,DataW.insert,if_neg (by rw [hb]; exact h),← ih]; rfl
theorem enc_filter (k : List UInt8) (m : M) : encM (m.filter fun p => !(p.1 == k)) = (encM m).filter fun p => !p.1.sameKey (.string k):=by
  induction m with
  | nil=>rfl
  | cons y r ih =>
    simp only [encM,Zad,List.filter_cons,Lit.sameKey] at ih ⊢
    split
    · simp only [Zad]; congr 1
    · exact ih
theorem DM_put (k v : List UInt8) (m : M) : (DM m).put (.string k) (.lit (.string v)) = DM (putM k v m):=by
  simp only [DM,DataW.put,putM,enc_ins,enc_filter]
theorem DM_del (k : List UInt8) (m : M) : (DM m).del (.string k) = DM (delM k m):=by
  simp only [DM,DataW.del,delM,enc_filter]
theorem DM_has (k : List UInt8) (m : M) : Maps.has (DM m) (.string k) = (lookM k m).isSome:=by
  induction m with
  | nil=>rfl
  | cons y r ih =>
    simp only [DM,encM,Maps.has,Zad,List.any_cons,Lit.sameKey,lookM] at ih ⊢
    by_cases h : y.1 == k
    · simp [h]
    · simp only [h,Zci]; simpa using ih
theorem DM_at (k z : List UInt8) (m : M) : (DM m).atKey (.string k) (.lit (.string z)) = .lit (.string ((lookM k m).getD z)):=by
  induction m with
  | nil=>rfl
  | cons y r ih =>
    simp only [DM,encM,DataW.atKey,Zad,List.find?_cons,Lit.sameKey,lookM] at ih ⊢
    by_cases h : y.1 == k
    · simp [h]
    · simp only [h] at ih ⊢; simpa using ih
end Go.Oct
namespace Go.Vc
open Go
variable {P : Program}
theorem callK_mono {K K' : Value→World→Prop} {f : FuncId} {args : List Value} {w : World} (h : CallK P K f args w) (hk : ∀ v w',K v w'→K' v w') : CallK P K' f args w:=Ok.mono h hk
theorem callvK_mono {K K' : Value→World→Prop} {w : World} {args : List Value} {y : Value} (h : callvK P K w args y) (hk : ∀ v w',K v w'→K' v w') : callvK P K' w args y:=by
  cases y with
  | func f first cap =>
    cases f with
    | func f=>exact callK_mono h hk
    | yield l=>exact upon_mono hk h
    | _=>exact False.elim h
  | _=>exact False.elim h
def Kept (lo : Nat) (w u : World) : Prop:=w.heap.size≤u.heap.size∧∀ k,lo≤k→k < w.heap.size→u.heap[k]? = w.heap[k]?
theorem Kept.refl (lo : Nat) (w : World) : Kept lo w w:=⟨Nat.le_refl _,fun _ _ _=>rfl⟩
theorem Kept.keep {lo : Nat} {w a b : World} (h : Kept lo w a) {S : Nat→Prop} (hm : Mod S a b) (hS : ∀ k,lo≤k→k < w.heap.size→¬ S k) : Kept lo w b:=by
  have h1:=h.1
  exact ⟨Nat.le_trans h.1 hm.size,fun k h2 h3=>(hm.get k (by omega) (hS k h2 h3)).trans (h.2 k h2 h3)⟩
theorem Kept.at {lo : Nat} {w u : World} (h : Kept lo w u) {k : Nat} {o : Obj} (hk : w.heap[k]? = some o) (hlo : lo≤k) : u.heap[k]? = some o:=(h.2 k hlo (lt_of_get hk)).trans hk
theorem Kept.trans {lo : Nat} {a b c : World} (h : Kept lo a b) (k : Kept lo b c) : Kept lo a c:=by
  have h1:=h.1
  exact ⟨Nat.le_trans h.1 k.1,fun i h2 h3=>(k.2 i h2 (by omega)).trans (h.2 i h2 h3)⟩
end Go.Vc
