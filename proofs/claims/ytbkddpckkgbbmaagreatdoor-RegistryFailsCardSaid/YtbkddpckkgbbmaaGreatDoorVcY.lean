import Derived.Test.YtbkddpckkgbbmaaGreatDoorVcT
set_option linter.unusedSimpArgs false
set_option linter.unusedVariables false
set_option linter.unusedSectionVars false
set_option linter.unnecessarySimpa false
namespace Go.Vc
open Go
variable {P : Program} {ro : Option Nat} {n : Nat} {ops : Array Oper} {Fix : World→Prop} {md : Region.Mode} {Q : Act→World→Prop} {S : Nat→Bool}
def lastB (md : Region.Mode) (ops : Array Oper) : Bool :=
  ((List.range ops.size).all fun j=>match ops[j]? with | some o=>o.after.all (fun e => !Region.binds md e || decide (e.on < j)) | none=>true) &&
  (List.range (ops.size - 1)).all fun j=>(List.range ops.size).any fun p=>decide (j < p) && match ops[p]? with | some o=>o.after.any (fun e=>Region.binds md e && e.on == j) | none=>false
theorem lastB_back (h : lastB md ops = true) {j : Nat} {o : Oper} (ho : ops[j]? = some o) {e} (he : e ∈ o.after) (hb : Region.binds md e = true) : e.on < j:=by
  have hj : j < ops.size:=(Array.getElem?_eq_some_iff.1 ho).1
  unfold lastB at h
  simp only [Zbo,List.all_eq_true] at h
  have:=h.1 j (List.mem_range.2 hj)
  simp only [ho] at this
  have h2:=(Array.all_eq_true_iff_forall_mem.1 this) e he
  simpa [hb] using h2
theorem lastB_need (h : lastB md ops = true) {j : Nat} (hj : j + 1 < ops.size) : ∃ p o e,j < p∧ops[p]? = some o∧e ∈ o.after∧Region.binds md e = true∧e.on = j:=by
  unfold lastB at h
  simp only [Zbo,List.all_eq_true] at h
  have:=h.2 j (List.mem_range.2 (by omega))
  obtain ⟨p,_,hp⟩:=List.any_eq_true.1 this
  simp only [Zbo,decide_eq_true_eq] at hp
  obtain ⟨h1,h2⟩:=hp
  cases ho : ops[p]? with
  | none=>rw [ho] at h2; cases h2
  | some o =>
    rw [ho] at h2
    obtain ⟨e,he,hb⟩:=Array.any_eq_true'.1 h2
    simp only [Zbo,beq_iff_eq] at hb
    exact ⟨p,o,e,h1,ho,he,hb.1,hb.2⟩
def Closed (md : Region.Mode) (ops : Array Oper) (listed : Array Bool) : Prop :=
  ∀ p o,ops[p]? = some o→listed.getD p true = true→∀ e ∈ o.after,Region.binds md e = true→listed.getD e.on false = true
theorem getD_tf {listed : Array Bool} {j : Nat} (hj : j < listed.size) : listed.getD j true = listed.getD j false:=by
  simp [hj]
theorem closed_step {listed : Array Bool} (h : Closed md ops listed) {i : Nat} (hi : i ∈ Region.ready md ops listed) : Closed md ops (listed.setIfInBounds i true):=by
  intro p o ho hp e he hb
  obtain ⟨_,oi,hoi,hall⟩:=mem_ready.1 hi
  by_cases hpi : i = p
  · subst hpi
    rw [ho] at hoi
    obtain rfl:=Option.some.inj hoi
    exact getD_set_true (hall e he hb)
  · rw [getD_set_ne true hpi] at hp
    exact getD_set_true (h p o ho hp e he hb)
theorem ready_ne {listed : Array Bool} (hB : lastB md ops = true) (hs : listed.size = ops.size) : ∀ (j : Nat),j < ops.size→listed.getD j true = false→Region.ready md ops listed≠[]:=by
  intro j
  induction j using Nat.strongRecOn with
  | _ j ih =>
    intro hj hu
    obtain ⟨o,ho⟩ : ∃ o,ops[j]? = some o:=⟨_,Array.getElem?_eq_getElem hj⟩
    by_cases hall : ∀ e ∈ o.after,Region.binds md e = true→listed.getD e.on false = true
    · intro h
      have : j ∈ Region.ready md ops listed:=mem_ready.2 ⟨hu,o,ho,hall⟩
      rw [h] at this; cases this
    · have : ∃ e,e ∈ o.after∧Region.binds md e = true∧¬ listed.getD e.on false = true:=by
        refine Classical.byContradiction fun hc=>hall fun e he hb => ?_
        refine Classical.byContradiction fun hd=>hc ⟨e,he,hb,hd⟩
      obtain ⟨e,he,hb,hd⟩:=this
      have hlt:=lastB_back hB ho he hb
      refine ih e.on hlt (by omega) ?_
      rw [getD_tf (by omega)]
      simpa using hd
theorem last_ready {listed : Array Bool} {L : Nat} (hB : lastB md ops = true) (hL : L + 1 = ops.size) (hs : listed.size = ops.size) (hc : Closed md ops listed) (hr : L ∈ Region.ready md ops listed) : ∀ (d j : Nat),L - j = d→j < L→listed.getD j true = true:=by
  intro d
  induction d using Nat.strongRecOn with
  | _ d ih =>
    intro j hd hj
    obtain ⟨p,o,e,h1,h2,h3,h4,h5⟩:=lastB_need hB (show j + 1 < ops.size by omega)
    have hp : p < ops.size:=(Array.getElem?_eq_some_iff.1 h2).1
    rw [getD_tf (by omega),← h5]
    by_cases hpL : p = L
    · subst hpL
      obtain ⟨_,oL,hoL,hall⟩:=mem_ready.1 hr
      rw [h2] at hoL
      obtain rfl:=Option.some.inj hoL
      exact hall e h3 h4
    · have:=ih (L - p) (by omega) p rfl (by omega)
      exact hc p o h2 this e h3 h4
theorem wpAnyIn_last {L : Nat} {Q' : Exit→Act→World→Prop} (hB : lastB md ops = true) (hL : L + 1 = ops.size) (hQ : ∀ a w,Fix w→Q a w→wpOpIn (FW ro) 0 P ops Q' L (fun a w=>Q' .normal a w) a w) :
    ∀ (fuel : Nat) (listed : Array Bool) (a : Act) (w : World),listed.size = ops.size→listed.getD L true = false→Closed md ops listed→Fix w →
      wpAnyD P md ops Fix S Q fuel (listed.setIfInBounds L true) a w→wpAnyIn (FW ro) 0 P md ops Q' (fuel + 1) listed a w:=by
  intro fuel
  induction fuel with
  | zero =>
    intro listed a w hs hu hc hw h
    refine ⟨fun h0=>absurd h0 (ready_ne hB hs L (by omega) hu),fun i hi => ?_⟩
    by_cases hiL : i = L
    · subst hiL
      exact wpOpIn_mono (fun a w hq=>⟨h.1,hq⟩) (hQ a w hw h.2)
    · have:=ready_mono hi hiL
      rw [h.1] at this; cases this
  | succ fuel ih =>
    intro listed a w hs hu hc hw h
    refine ⟨fun h0=>absurd h0 (ready_ne hB hs L (by omega) hu),fun i hi => ?_⟩
    by_cases hiL : i = L
    · subst hiL
      have hnil : Region.ready md ops (listed.setIfInBounds i true) = []:=by
        refine List.eq_nil_iff_forall_not_mem.2 fun j hj => ?_
        obtain ⟨h1,o,ho,_⟩:=mem_ready.1 hj
        have hjs : j < ops.size:=(Array.getElem?_eq_some_iff.1 ho).1
        by_cases hji : i = j
        · subst hji
          simp [show i < listed.size by omega] at h1
        · rw [getD_set_ne true hji,last_ready hB hL hs hc hi _ j rfl (by omega)] at h1
          cases h1
      exact wpOpIn_mono (fun a w hq=>⟨fun _=>hq,fun j hj=>by rw [hnil] at hj; cases hj⟩) (hQ a w hw (h.1 hnil))
    · have hi':=ready_mono hi hiL
      have hq:=h.2 i hi'
      have hu' : (listed.setIfInBounds i true).getD L true = false:=by rw [getD_set_ne true hiL]; exact hu
      have hs' : (listed.setIfInBounds i true).size = ops.size:=by rw [Array.size_setIfInBounds]; exact hs
      have hc':=closed_step hc hi
      have hcomm : (listed.setIfInBounds L true).setIfInBounds i true = (listed.setIfInBounds i true).setIfInBounds L true:=Array.setIfInBounds_comm _ _ (Ne.symm hiL)
      rw [hcomm] at hq
      unfold dOp at hq
      unfold wpOpIn
      split
      · rename_i ho; simp only [ho] at hq; exact ih _ _ _ hs' hu' hc' hw hq
      · rename_i o ho
        simp only [ho] at hq
        split
        · rename_i hwt
          simp only [hwt,Zac] at hq
          by_cases hsi : S i = true
          · rw [if_pos hsi] at hq
            exact wpIn_of_upon (upon_mono (fun v w' x=>ih _ _ _ hs' hu' hc' x.1 x.2) hq)
          · rw [if_neg hsi] at hq
            obtain ⟨u,h1,h2⟩:=hq
            refine wpIn_of_upon ?_
            rcases h1 w hw with e | ⟨e,rfl⟩
            · rw [e]; exact ih _ _ _ hs' hu' hc' hw h2
            · rw [e]; exact ih _ _ _ hs' hu' hc' hw h2
        · rename_i hwt; simp only [hwt] at hq
          exact ⟨fun f _=>trivial,ih _ _ _ hs' hu' hc' hw hq⟩
def waitB2 (md : Region.Mode) (ops : Array Oper) (S : Nat→Bool) (k : Nat) (listed : Array Bool) : Bool :=
  let W:=reach md ops k (ops.size - 1 - (k + 1)) (k + 1) []
  (W.all fun p => !listed.getD p false) &&
  (W.all fun p=>match ops[p]? with | some o=>o.after.any (fun e=>Region.binds md e && (e.on == k || W.contains e.on)) | none=>true) &&
  (List.range listed.size).all fun j=>j == k || !S j || listed.getD j true || W.contains j
def lexD2 (md : Region.Mode) (ops : Array Oper) (S : Nat→Bool) : Nat→Nat→Array Bool→Bool
  | 0,_,_=>true
  | f + 1,k,listed=>(!S k || waitB2 md ops S k listed) && lexD2 md ops S f (k + 1) (listed.setIfInBounds k true)
theorem waits_of_waitB2 {k : Nat} {listed : Array Bool} (h : waitB2 md ops S k listed = true) : Waits md ops S k listed (fun p=>p ∈ reach md ops k (ops.size - 1 - (k + 1)) (k + 1) []):=by
  unfold waitB2 at h
  simp only [Zbo,List.all_eq_true] at h
  obtain ⟨⟨h1,h2⟩,h3⟩:=h
  refine ⟨fun p hp=>by simpa using h1 p hp,fun p o hp ho => ?_,fun j hj hne hun => ?_⟩
  · have:=h2 p hp
    simp only [ho] at this
    obtain ⟨e,he,hb⟩:=Array.any_eq_true'.1 this
    simp only [Zbo,Zch,beq_iff_eq,Zck] at hb
    exact ⟨e,he,hb.1,hb.2⟩
  · rcases Nat.lt_or_ge j listed.size with h' | h'
    · have:=h3 j (List.mem_range.2 h')
      simp only [Zch,beq_iff_eq,hne,false_or,hj,Bool.not_true,Bool.false_eq_true,hun,Zck] at this
      exact this
    · simp [Array.getElem?_eq_none h'] at hun
theorem wpAnyD_lex' (hs : Region.noSelect ops = true) : ∀ (f k : Nat) (listed : Array Bool) (a : Act) (w : World),Fix w→k + f≤ops.size→Region.lexFrom md ops f k listed = true→lexD2 md ops S f k listed = true →
    walkD P ops Fix S Q f k a w→wpAnyD P md ops Fix S Q f listed a w
  | 0,_,_,_,_,_,_,hB,_,h=>⟨by simpa [Region.lexFrom] using hB,h⟩
  | f + 1,k,listed,a,w,hw,hk,hB,hD,h=>by
    obtain ⟨o,ho⟩ : ∃ o,ops[k]? = some o:=⟨_,Array.getElem?_eq_getElem (by omega)⟩
    simp only [Region.lexFrom,Zbo] at hB
    obtain ⟨⟨hr,hf⟩,hB'⟩:=hB
    simp only [lexD2,Zbo,Zch,Bool.not_eq_true'] at hD
    refine wpAnyD_first (W:=fun p=>p ∈ reach md ops k (ops.size - 1 - (k + 1)) (k + 1) []) ho (Region.noSelect_spec hs) f listed a w hw (Region.free_spec ho hf) (by simpa using hr) ?_ ?_
    · intro hsk
      rcases hD.1 with h' | h'
      · rw [hsk] at h'; cases h'
      · exact waits_of_waitB2 h'
    · exact dOp_mono hw (fun a' w' hw' h'=>wpAnyD_lex' hs f (k + 1) _ a' w' hw' (by omega) hB' hD.2 h') h
theorem compOps_append : ∀ (a b : List Oper) (l : List In),compOps P n ops (a ++ b) = some l→∃ la lb,compOps P n ops a = some la∧compOps P n ops b = some lb∧l = la ++ lb∧la.length = a.length:=by
  intro a
  induction a with
  | nil=>intro b l h; exact ⟨[],l,rfl,h,rfl,rfl⟩
  | cons o a ih =>
    intro b l h
    simp only [Zap,compOps] at h
    split at h
    · rename_i g l' hg hl'
      simp at h; subst h
      obtain ⟨la,lb,h1,h2,rfl,h3⟩:=ih b l' hl'
      exact ⟨⟨g,o.dst,compOp P n o⟩ :: la,lb,by simp only [compOps,hg,h1],h2,rfl,by simp [h3]⟩
    · contradiction
def ready0 (ops : Array Oper) : Array Bool:=(Array.replicate ops.size false).setIfInBounds (ops.size - 1) true
def lexLast (md : Region.Mode) (ops : Array Oper) : Bool:=Region.noSelect ops && Region.lexFrom md ops (ops.size - 1) 0 (ready0 ops)
def chainLast (ops : Array Oper) (S : Nat→Bool) : Bool:=lexD2 .any ops S (ops.size - 1) 0 (ready0 ops)
end Go.Vc
namespace Go.Vc
open Go
variable {P : Program} {go : Value→World→Prop} {ρ : Env} {ds : List Deferred} {n : Nat} {w : World} {o : Oper}
def capV : Value→Value
  | .slice a n _=>.slice a n n
  | v=>v
theorem rawK_slice3 {t e : TypeId} {sz : Nat} {x hi mx : Operand} {a : Option Addr} {k cap : Nat} {kh km : IntKind} (ho : o.op = .slice t x none (some hi) (some mx)) (hx : inB n x = true) (hhi : inB n hi = true) (hmx : inB n mx = true)
    (hs : P.underlying t = some (.slice e)) (hse : csz P e = some sz) (ex : ev ρ x = .slice a k cap) (eh : ev ρ hi = .int kh (k : Nat)) (em : ev ρ mx = .int km (k : Nat)) (hk : k≤cap) (ha : a.map (·.add 0) = a) (h : go (.slice a k k) w) : RawK P go ρ ds n o w:=by
  unfold RawK
  simp only [execOp,ho,Zbn,Zbk,mkA_eval n ρ ds x hx,mkA_eval n ρ ds hi hhi,mkA_eval n ρ ds mx hmx,ex,eh,em]
  refine upon_v ⟨_,w, ?_,h⟩
  have hb1 : (0 : Int)≤(k : Int)∧(k : Int)≤(cap : Int):=by omega
  have hb2 : (0 : Int)≤(k : Int)∧(k : Int)≤(k : Int):=by omega
  simp [Instr.sliceAt,Instr.slice,Instr.sliceBounds,Instr.sliceBound,asIntOf,Sem.run_bind,run_underlying hs,Result.andThen,run_sizeOf hse,pure,Sem.run,hb1,ha]
theorem run_append_capped (base : Nat) (t tx ty e : TypeId) (i : TypeInfo) (z : Value) (size : Nat) (ht : P.underlying t = some (.slice e)) (hi : P.info? e = some i) (hz : i.zero = some z)
    (hsize : i.size = size) (hzs : z.cells.size = size) (hsz : 0 < size)
    (v : Value) (n : Nat) (xs : List Value) (hown : w.ownsRow base e size v n xs) (x : Value) (m : Nat) (news : List Value) (hsrc : Src P size tx x m news w) (hm : 0 < m)
    (h63 : n + m≤maxLen) (hbytes : (n + m) * i.bytes≤140737488355328) :
    ∃ v' w',(Builtin.append_ #[t,tx] ty #[capV v,x]).run P w = .ok v' w'∧w'.ownsRow w.heap.size e size v' (n + m) (xs ++ news)∧Mod (fun _=>False) w w'∧v'.ownBlock = some w.heap.size:=by
  subst hsize
  have hl:=hsrc.newsLen
  have hsmall : n + m≤9223372036854775807:=by simp only [maxLen] at h63; omega
  have hlen : (xs ++ news).length = (n + m) * i.size:=by rw [List.length_append,hown.1,hl,Nat.add_mul]
  have grown : ∀ (old : Nat),old < n + m →
      (w.drew.alloc (.cells ((xs ++ news).toArray ++ Builtin.zeroCells z.cells (grownCap w (n + m) old e - (n + m))) e)).ownsRow w.heap.size e i.size
        (.slice (some ⟨w.heap.size,0,none⟩) (n + m) (grownCap w (n + m) old e)) (n + m) (xs ++ news) ∧
      Mod (fun _=>False) w (w.drew.alloc (.cells ((xs ++ news).toArray ++ Builtin.zeroCells z.cells (grownCap w (n + m) old e - (n + m))) e)):=by
    intro old ho
    have hge:=grownCap_ge w (n + m) old e
    have hcm : grownCap w (n + m) old e≤maxLen:=grownCap_le_maxLen w (n + m) old e h63
    refine ⟨⟨hlen,.inr ⟨w.heap.size,_,_,rfl,Nat.le_refl _,heap_alloc_new w.drew _,hge,hcm, ?_, ?_⟩⟩,(Mod.refl _ w).drew.alloc _⟩
    · simp only [Array.size_append,Zak,size_zeroCells,hzs,hlen,← Nat.add_mul]
      congr 1
      omega
    · simp only [Zcj]
      rw [← hlen]
      exact List.take_left
  rcases hown.2 with ⟨rfl,rfl⟩ | ⟨g,cap,cur,rfl,hbg,hg,hnc,hcm,hcs,htake⟩
  · have hx : xs = []:=List.eq_nil_of_length_eq_zero (by simpa using hown.1)
    subst hx
    have hr:=run_append_grow_src (P:=P) w t tx ty e i z ht hi hz none 0 0 [] (run_firstCells_none w.drew i.size 0 0 0) x m news hsrc (by omega) (by omega) (growslice_fits (by omega) hbytes)
    have hgr:=grown 0 (by omega)
    simp only [Zaa] at hgr hr ⊢
    exact ⟨_,_,hr,hgr.1,hgr.2,rfl⟩
  · have holds : ∀ j u,xs[j]? = some u→w.drew.cell? ((⟨g,0,none⟩ : Addr).add j) = some u:=by
      intro j u hj; have:=hown.cells (g:=g) rfl j u hj; simpa using this
    have hr:=run_append_grow_src (P:=P) w t tx ty e i z ht hi hz (some ⟨g,0,none⟩) n n xs (run_firstCells_some (P:=P) w.drew i.size n ⟨g,0,none⟩ n n xs hown.1 holds) x m news hsrc (by omega) (by omega) (growslice_fits (by omega) hbytes)
    have hgr:=grown n (by omega)
    exact ⟨_,_,hr,hgr.1,hgr.2,rfl⟩
theorem last_split {α : Type} : ∀ (l : List α) (x : α),l.getLast? = some x→l = l.dropLast ++ [x]:=by
  intro l
  induction l with
  | nil=>intro x h; cases h
  | cons a l ih =>
    intro x h
    cases l with
    | nil=>simp at h; rw [h]; rfl
    | cons b l =>
      have:=ih x (by simpa using h)
      show a :: b :: l = a :: ((b :: l).dropLast ++ [x])
      rw [← this]
end Go.Vc
namespace Go.Vc
open Go
variable {P : Program} {ro : Option Nat} {n : Nat} {ops : Array Oper} {Fix : World→Prop} {md : Region.Mode} {Q : Act→World→Prop} {S : Nat→Bool}
def sliceI : Ins→Bool
  | .raw _ o=>(match o.op with | .slice .. => true | _=>false)
  | _=>false
def lookI (i : Ins) : Bool:=loadI i || sliceI i
def kindF (i : Ins) : Kind:=if pureI i then .pure else if lookI i then .load else .step
def isStepF (x : In) : Bool:=!(pureI x.i) && !(lookI x.i)
def stepsF (l : List In) (k : Nat) : Bool:=((l[k]?).map isStepF).getD false
def gateF (P : Program) (Fix : World→Prop) (ρ : Env) (ds : List Deferred) (w : World) (i : Ins) (k : Value→World→Prop) : Bool→Prop
  | true=>stepD P Fix ρ ds w i k (kindF i)
  | false=>k undef w
def vcF (P : Program) (Fix : World→Prop) (ds : List Deferred) : List In→(Env→World→Prop)→Env→World→Prop
  | [],K,ρ,w=>K ρ w
  | ⟨none,d,i⟩ :: l,K,ρ,w=>stepD P Fix ρ ds w i (fun v w'=>vcF P Fix ds l K (updO ρ d v) w') (kindF i)
  | ⟨some (s,want),d,i⟩ :: l,K,ρ,w=>gateF P Fix ρ ds w i (fun v w'=>vcF P Fix ds l K (updO ρ d v) w') (gate (ρ s) want)
def isSliceOp : Op→Bool
  | .slice .. => true
  | _=>false
def sliceOk (P : Program) (n : Nat) (ops : Array Oper) : Bool:=ops.toList.all fun o => !sliceI (compOp P n o) || isSliceOp o.op
theorem val_look {o : Oper} {ρ : Env} {ds : List Deferred} {v : Value} (hso : sliceI (compOp P n o) = true→isSliceOp o.op = true) (hk : lookI (compOp P n o) = true)
    (h : ∀ w,Fix w→insVc P (fun v' w'=>w' = w∧v' = v) ρ [] w (compOp P n o)) : Val P Fix o (mkA n ρ ds) v:=by
  by_cases hl : loadI (compOp P n o) = true
  · exact val_of_ins (.inr hl) h
  have hs : sliceI (compOp P n o) = true:=by
    unfold lookI at hk
    cases hx : loadI (compOp P n o) with
    | true=>exact absurd hx hl
    | false=>simpa [hx] using hk
  intro w hw
  have h1:=sound_ins (P:=P) (ds:=[]) n o (h w hw)
  have hev : (mkA n ρ ds).eval = (mkA n ρ []).eval:=by funext x; cases x <;> rfl
  rw [hev]
  have hop:=hso hs
  have h2 : NoEnter ((execOp (mkA n ρ []).eval o).run P w):=noEnter_of (by unfold isSliceOp at hop; split at hop <;> first | (rename_i e; rw [e]; trivial) | cases hop) w
  revert h1 h2
  generalize (execOp (mkA n ρ []).eval o).run P w = r
  intro h1 h2
  match r,h1,h2 with
  | .ok (.value u) w',h1,_=>obtain ⟨rfl,rfl⟩:=h1; exact .inl rfl
  | .ok .skip w',h1,_=>obtain ⟨rfl,h⟩:=h1; exact .inr ⟨rfl,h.symm⟩
theorem walkD_of_vcF {K : Env→World→Prop} {ds : List Deferred} (hK : ∀ ρ w,Fix w→K ρ w→Q (mkA n ρ ds) w) {li0 : List In} : ∀ (l : List Oper) (k : Nat) (li : List In),(∀ o,o ∈ l→sliceI (compOp P n o) = true→isSliceOp o.op = true)→(∀ j,j < l.length→l[j]? = ops[k + j]?)→(∀ j,j < l.length→li[j]? = li0[k + j]?) →
    compOps P n ops l = some li→∀ ρ w,Fix w→vcF P Fix ds li K ρ w→walkD P ops Fix (stepsF li0) Q l.length k (mkA n ρ ds) w:=by
  intro l
  induction l with
  | nil=>intro k li _ _ _ hc ρ w hw h; simp [compOps] at hc; subst hc; exact hK ρ w hw h
  | cons o l ih =>
    intro k li hso hl hli hc ρ w hw h
    simp only [compOps] at hc
    split at hc
    · rename_i g l' hg hl'
      simp at hc; subst hc
      have h0 : ops[k]? = some o:=by simpa using (hl 0 (by simp)).symm
      have hS : stepsF li0 k = isStepF ⟨g,o.dst,compOp P n o⟩:=by
        have:=hli 0 (by simp)
        simp only [Za,Nat.add_zero] at this
        simp [stepsF,← this]
      have hl2 : ∀ j,j < l.length→l[j]? = ops[k + 1 + j]?:=fun j hj=>by have:=hl (j + 1) (by rw [List.length_cons]; omega); simpa [Nat.add_assoc,Nat.add_comm 1 j] using this
      have hli2 : ∀ j,j < l.length→l'[j]? = li0[k + 1 + j]?:=fun j hj=>by have:=hli (j + 1) (by rw [List.length_cons]; omega); simpa [Nat.add_assoc,Nat.add_comm 1 j] using this
      have next : ∀ v w',Fix w'→vcF P Fix ds l' K (updO ρ o.dst v) w'→walkD P ops Fix (stepsF li0) Q l.length (k + 1) ((mkA n ρ ds).put o.dst v) w':=by
        intro v w' hw' hv
        rw [mkA_put]
        exact ih (k + 1) l' (fun o' ho'=>hso o' (List.mem_cons_of_mem _ ho')) hl2 hli2 hl' _ _ hw' hv
      have hwg:=wanted_gate (ρ:=ρ) (ds:=ds) hg
      have main : gateF P Fix ρ ds w (compOp P n o) (fun v w'=>vcF P Fix ds l' K (updO ρ o.dst v) w') (gateOf ρ g)→walkD P ops Fix (stepsF li0) Q (o :: l).length k (mkA n ρ ds) w:=by
        intro hgd
        simp only [Zai,walkD]
        unfold dOp
        simp only [h0,hwg]
        cases hgt : gateOf ρ g with
        | false =>
          rw [hgt] at hgd
          simp only [Bool.false_eq_true,Zag]
          exact next undef w hw hgd
        | true =>
          rw [hgt] at hgd
          simp only [Zac,hS]
          simp only [gateF,kindF] at hgd
          by_cases hp : pureI (compOp P n o) = true
          · rw [if_pos hp] at hgd
            rw [if_neg (by simp [isStepF,hp])]
            obtain ⟨v,e,kv⟩:=pure_step (k:=fun v=>vcF P Fix ds l' K (updO ρ o.dst v) w) hp hgd
            exact ⟨v,val_of_ins (.inl hp) fun w' _=>e w',next v w hw kv⟩
          · rw [if_neg hp] at hgd
            by_cases hld : lookI (compOp P n o) = true
            · rw [if_pos hld] at hgd
              rw [if_neg (by simp [isStepF,hld])]
              obtain ⟨v,e,kv⟩:=hgd
              exact ⟨v,val_look (hso o (List.mem_cons_self ..)) hld e,next v w hw kv⟩
            · rw [if_neg hld] at hgd
              rw [if_pos (by simp [isStepF,hp,hld])]
              have hgd' : insVc P (fun v w'=>Fix w'∧vcF P Fix ds l' K (updO ρ o.dst v) w') ρ ds w (compOp P n o):=hgd
              exact upon_mono (fun v w' x=>⟨x.1,next v w' x.1 x.2⟩) (sound_ins n o hgd')
      cases g with
      | none=>exact main h
      | some p=>obtain ⟨s,want⟩:=p; exact main h
    · contradiction
theorem draw_z (Fix : World→Prop) {id : Nat} {l : List In} {li : List In} {d : Option Nat} {i : Ins} {Q : QT} {ρ : Env} {ds : List Deferred} {w : World} (hm : P.follows .mixedOrders = true) (hSO : sliceOk P n ops = true) (hLB : lastB .any ops = true) (hB : lexLast .any ops = true) (hl : compOps P n ops ops.toList = some l)
    (hli : l = li ++ [⟨none,d,i⟩]) (hS : chainLast ops (stepsF l) = true) (hC : Fix w.drew) (h : vcF P Fix ds li (fun ρ' w'=>insVc P (fun v w''=>Q .normal (updO ρ' d v) ds w'') ρ' ds w' i) ρ w.drew) : vc P ro n (.draw id ops l) Q ρ ds w:=by
  have hlen : l.length = ops.size:=by
    obtain ⟨la,lb,h1,h2,h3,h4⟩:=compOps_append ops.toList [] l (by simpa using hl)
    simp [compOps] at h2
    subst h2
    rw [h3,List.append_nil,h4,Array.length_toList]
  have hsz : li.length + 1 = ops.size:=by rw [← hlen,hli]; simp
  obtain ⟨oL,hoL⟩ : ∃ oL,ops[li.length]? = some oL:=⟨_,Array.getElem?_eq_getElem (by omega)⟩
  have hsplit : ops.toList = ops.toList.take li.length ++ [oL]:=by
    have : ops.toList.drop li.length = [oL]:=by
      rw [List.drop_eq_getElem?_toList_append,Array.getElem?_toList,hoL,List.drop_eq_nil_of_le (by rw [Array.length_toList]; omega)]; rfl
    rw [← this,List.take_append_drop]
  rw [hsplit] at hl
  obtain ⟨la,lb,h1,h2,h3,h4⟩:=compOps_append _ _ _ hl
  have hlal : la.length = li.length:=by rw [h4,List.length_take,Array.length_toList (xs:=ops)]; omega
  rw [hli] at h3
  obtain ⟨e1,e2⟩:=List.append_inj h3 hlal.symm
  subst e1
  simp only [compOps] at h2
  split at h2
  rotate_left
  · contradiction
  rename_i g l' hg hl'
  simp at hl'
  subst hl'
  simp at h2
  rw [← e2] at h2
  simp only [List.cons.injEq,and_true,In.mk.injEq] at h2
  obtain ⟨hg0,hd,hi⟩:=h2
  subst hg0
  intro t
  simp only [Region.schedule,hm,Bool.true_or,Zac]
  refine wpAnyIn_sound ops.size t _ _ _ ?_
  simp only [lexLast,Zbo] at hB
  rw [← hsz]
  have hrep : (Array.replicate (li.length + 1) false).size = ops.size:=by rw [Array.size_replicate,hsz]
  refine wpAnyIn_last (Fix:=Fix) (S:=stepsF l) (Q:=fun a w'=>upon P (fun v w''=>lift n Q .normal (a.put oL.dst v) w'') ((execOp a.eval oL).run P w')∧Region.wanted oL (yielded ops a.tmps) = true) (L:=li.length) hLB hsz ?_ li.length _ _ _ hrep (by simp) ?_ hC ?_
  · rintro a w' _ ⟨hq,hw⟩
    unfold wpOpIn
    simp only [hoL,hw,Zac]
    exact wpIn_of_upon hq
  · intro p o ho hp e he hb
    have hps : p < li.length + 1:=by rw [hsz]; exact (Array.getElem?_eq_some_iff.1 ho).1
    simp [hps] at hp
  · have hr0 : (Array.replicate (li.length + 1) false).setIfInBounds li.length true = ready0 ops:=by unfold ready0; rw [← hsz]; rfl
    rw [hr0]
    have hk : ops.size - 1 = li.length:=by omega
    have hB2:=hB.2
    rw [hk] at hB2
    have hS':=hS
    unfold chainLast at hS'
    rw [hk] at hS'
    refine wpAnyD_lex' hB.1 li.length 0 _ _ _ hC (by omega) hB2 hS' ?_
    have htl : (ops.toList.take li.length).length = li.length:=by rw [List.length_take,Array.length_toList (xs:=ops)]; omega
    have hw:=walkD_of_vcF (P:=P) (ops:=ops) (Fix:=Fix) (n:=n) (ds:=ds) (Q:=fun a w'=>upon P (fun v w''=>lift n Q .normal (a.put oL.dst v) w'') ((execOp a.eval oL).run P w')∧Region.wanted oL (yielded ops a.tmps) = true)
      (K:=fun ρ' w'=>insVc P (fun v w''=>Q .normal (updO ρ' d v) ds w'') ρ' ds w' i) ?_ (li0:=l) (ops.toList.take li.length) 0 li (fun o ho hs=>by have:=List.all_eq_true.1 hSO o (List.mem_of_mem_take ho); simpa [hs] using this) ?_ ?_ h1 ρ w.drew hC h
    · rw [htl] at hw; exact hw
    · intro ρ' w' _ hk'
      have hwg:=wanted_gate (ρ:=ρ') (ds:=ds) hg
      refine ⟨?_,by rw [hwg]; rfl⟩
      rw [← hi] at hk'
      refine upon_mono (fun v w'' x => ?_) (sound_ins n oL hk')
      rw [mkA_put,hd]
      exact ⟨_,_,rfl,x⟩
    · intro j hj
      rw [List.getElem?_take,if_pos (by omega),Array.getElem?_toList,Nat.zero_add]
    · intro j hj
      rw [hli,Nat.zero_add,List.getElem?_append_left (by omega)]
theorem draw_z' {ops : Array Oper} {ro : Option Nat} (Fix : World→Prop) {id : Nat} {l : List In} {d : Option Nat} {i : Ins} {Q : QT} {ρ : Env} {ds : List Deferred} {w : World} (hm : P.follows .mixedOrders = true) (hSO : sliceOk P n ops = true) (hLB : lastB .any ops = true) (hB : lexLast .any ops = true) (hl : compOps P n ops ops.toList = some l)
    (hS : chainLast ops (stepsF l) = true) (hli : l.getLast? = some ⟨none,d,i⟩) (hC : Fix w.drew) (h : vcF P Fix ds l.dropLast (fun ρ' w'=>insVc P (fun v w''=>Q .normal (updO ρ' d v) ds w'') ρ' ds w' i) ρ w.drew) : vc P ro n (.draw id ops l) Q ρ ds w :=
  draw_z Fix hm hSO hLB hB hl (last_split _ _ hli) hS hC h
section
variable {K : Env→World→Prop} {ρ : Env} {ds : List Deferred} {w : World} {d : Option Nat} {i : Ins} {l : List In} {k : Value→World→Prop}
theorem vcF_nil : vcF P Fix ds [] K ρ w = K ρ w:=nr rfl
theorem vcF_cons : vcF P Fix ds (⟨none,d,i⟩ :: l) K ρ w = stepD P Fix ρ ds w i (fun v w'=>vcF P Fix ds l K (updO ρ d v) w') (kindF i):=nr rfl
theorem slice3D {t e : TypeId} {sz : Nat} {x hi mx : Operand} {a : Option Addr} {m c cap : Nat} {kh km : IntKind} {o : Oper} {k : Value→Prop} (ho : o.op = .slice t x none (some hi) (some mx)) (hx : inB m x = true) (hhi : inB m hi = true) (hmx : inB m mx = true)
    (hs : P.underlying t = some (.slice e)) (hse : csz P e = some sz) (ex : ev ρ x = .slice a c cap) (eh : ev ρ hi = .int kh (c : Nat)) (em : ev ρ mx = .int km (c : Nat)) (hk : c≤cap) (ha : a.map (·.add 0) = a) (h : k (.slice a c c)) : LoadD Fix P ρ (.raw m o) k :=
  ⟨.slice a c c,fun w _=>rawK_slice3 (go:=fun v' w'=>w' = w∧v' = .slice a c c) ho hx hhi hmx hs hse ex eh em hk ha ⟨rfl,rfl⟩,h⟩
end
end Go.Vc
namespace Go.Vc
open Go
variable {P : Program} {ro : Option Nat} {n : Nat}
def IterZ (P : Program) (gf : FuncId) (cap : List Value) (xs : List (List Value)) (X0 : Nat→Prop) (Pre Facts Post : World→Prop) : Prop :=
  ∀ (y : Value) (_ : ∃ f a b,y = .func f a b) (J : Nat→(Nat→Prop)→World→Prop) (Jx : (Nat→Prop)→World→Prop) (w : World),J 0 X0 w→Pre w→(∀ k,X0 k→k < w.heap.size) →
    (∀ i X w,J i X w→Facts w)→(∀ i,Stab (J i))→Stab Jx →
    (∀ i (_ : i < xs.length) (X : Nat→Prop) a,J i X a→(∀ k,X k→(X0 k∨w.heap.size≤k)∧k < a.heap.size)→w.heap.size≤a.heap.size →
      callvK P (fun v b=>(a.heap.size≤b.heap.size∧∀ k,X k→b.heap[k]? = a.heap[k]?)∧((v = .bool true∧J (i + 1) X b)∨(v = .bool false∧Jx X b))) a (xs[i]?.getD []) y) →
    Ok P gf (y :: cap).toArray w (fun _ b=>w.heap.size≤b.heap.size∧Post b∧∃ X : Nat→Prop,(∀ k,X k→(X0 k∨w.heap.size≤k)∧k < b.heap.size)∧(J xs.length X b∨Jx X b))
theorem range_iterZ {f : Operand} {params : Array Tmp} {asg body : Code} {casg cbody : CC} {Q : QT} {ρ : Env} {ds : List Deferred} {w : World}
    (hca : comp P n asg = casg) (hcb : comp P n body = cbody) (hfb : inB n f = true)
    {gf : FuncId} {cap : List Value} (hf : ev ρ f = .func (.func gf) #[] cap.toArray) {xs : List (List Value)} {X0 : Nat→Prop} {Pre Facts Post : World→Prop} (it : IterZ P gf cap xs X0 Pre Facts Post) (hPost : ∀ a k o,w.heap.size≤k→Post a→Post (set a k o)) (hX0 : ∀ k,X0 k→k < w.heap.size) (hPre : ∀ w',Mod (fun _=>False) w w'→Pre w')
    (I : Nat→(Nat→Prop)→World→Prop) (Ix : Code→(Nat→Prop)→World→Prop)
    (h0 : ∀ X w',Mod (fun _=>False) w w'→w'.heap.size = w.heap.size + 2→(∀ k,X k→X0 k∨k = w.heap.size∨k = w.heap.size + 1)→I 0 X w')
    (hF : ∀ i X w',I i X w'→Facts w')
    (stab : ∀ i X X' a b,I i X a→(∀ k,X k→X0 k∨w.heap.size≤k)→w.heap.size≤a.heap.size→Mod X a b→(∀ k,X' k→X k∨a.heap.size≤k∧k < b.heap.size)→I i X' b)
    (stabx : ∀ c X X' a b,Ix c X a→(∀ k,X k→X0 k∨w.heap.size≤k)→w.heap.size≤a.heap.size→Mod X a b→(∀ k,X' k→X k∨a.heap.size≤k∧k < b.heap.size)→Ix c X' b)
    (hlen : ∀ i (_ : i < xs.length),(xs[i]?.getD []).length = params.size)
    (round : ∀ i (_ : i < xs.length) (X : Nat→Prop) a,I i X a→(∀ k,X k→(X0 k∨w.heap.size≤k)∧k < a.heap.size)→w.heap.size + 2≤a.heap.size →
      vc P (some (w.heap.size + 1)) n casg (fun e ρ1 ds1 b=>e = .normal∧ds1 = []∧Mod (fun _=>False) a b∧∀ c,Mod X b c→I i X c →
        vc P (some (w.heap.size + 1)) n cbody (fun e _ _ d=>(c.heap.size≤d.heap.size∧∀ k,X k→d.heap[k]? = c.heap[k]?) ∧
          ((e = .normal∧I (i + 1) X d)∨∃ cc,(cc = .ret∧e = .ret∨∃ id,cc = .exit id∧e = .exit id)∧Ix cc X d)) ρ1 [] c) (updMany ρ params.toList (xs[i]?.getD [])) [] a)
    (done : ∀ X w',I xs.length X w'→Post w'→AtEndX w w' X0 X→Q .normal ρ (markD w.heap.size :: ds) w')
    (stop : ∀ c X w',Ix c X w'→Post w'→AtEndX w w' X0 X→Q (exitOf c) ρ (markD w.heap.size :: ds) w') :
    vc P none n (.range f params asg body casg cbody) Q ρ ds w:=by
  subst hca hcb
  have hfE:=mkA_eval n ρ ds f hfb
  show (Code.rangeFunc f params asg body).wpIn Fence.wide 0 P (lift n Q) (mkA n ρ ds) w
  refine wpIn_rangeFunc (F:=Fence.wide) fun fn _ => ?_
  let D:=w.heap.size
  let L : Loop:={ state:=.ready,pending:=none,fn,tmps:=tm n ρ,params,assign:=asg,body,defers:=D }
  let w0:=w.alloc (.deferred (some []))
  let w1:=w0.alloc (.loop L)
  have hw0s : w0.heap.size = D + 1:=size_alloc _ _
  have hw1s : w1.heap.size = D + 2:=by show (w0.alloc _).heap.size = _; rw [size_alloc,hw0s]
  have hD1 : w1.heap[D]? = some (.deferred (some [])):=by
    show (w0.alloc _).heap[D]? = _
    rw [get_alloc_old _ _ _ (by rw [hw0s]; omega)]
    exact get_alloc_new _ _
  have hL1 : w1.heap[D + 1]? = some (.loop L):=get_alloc_new' _ _ _ hw0s.symm
  have hm1 : Mod (fun _=>False) w w1:=((Mod.refl _ _).alloc _).alloc _
  let y : Value:=.func (.yield (D + 1)) #[] #[]
  let XD : (Nat→Prop)→Nat→Prop:=fun X k=>k = D∨k = D + 1∨X k
  let J : Nat→(Nat→Prop)→World→Prop:=fun i X w'=>I i (XD X) w'∧w'.heap[D]? = some (.deferred (some []))∧LoopAt w' (D + 1) n ρ params asg body .ready none∧D + 2≤w'.heap.size∧∀ k,X k→X0 k∨D + 2≤k
  let Jx : (Nat→Prop)→World→Prop:=fun X w' => ∃ c,(c = .ret∨∃ id,c = .exit id)∧Ix c (XD X) w'∧w'.heap[D]? = some (.deferred (some []))∧LoopAt w' (D + 1) n ρ params asg body .done (some c)∧D + 2≤w'.heap.size∧∀ k,X k→X0 k∨D + 2≤k
  have hXD : ∀ X : Nat→Prop,(∀ k,X k→X0 k∨D + 2≤k)→∀ k,XD X k→X0 k∨w.heap.size≤k:=by
    rintro X hX k (rfl | rfl | h)
    · exact .inr (Nat.le_refl _)
    · exact .inr (show D≤D + 1 by omega)
    · exact (hX k h).imp id (fun h=>show D≤k by omega)
  have hD0 : ∀ k,X0 k→k < D:=hX0
  have hXX : ∀ (X X' : Nat→Prop) (a b : World),(∀ k,X' k→X k∨a.heap.size≤k∧k < b.heap.size)→∀ k,XD X' k→XD X k∨a.heap.size≤k∧k < b.heap.size:=by
    rintro X X' a b h k (rfl | rfl | hk)
    · exact .inl (.inl rfl)
    · exact .inl (.inr (.inl rfl))
    · exact (h k hk).elim (fun x=>.inl (.inr (.inr x))) .inr
  have hX2 : ∀ (X X' : Nat→Prop) (a b : World),(∀ k,X k→X0 k∨D + 2≤k)→D + 2≤a.heap.size→(∀ k,X' k→X k∨a.heap.size≤k∧k < b.heap.size)→∀ k,X' k→X0 k∨D + 2≤k:=by
    intro X X' a b hX ha h k hk
    rcases h k hk with h | h
    · exact hX k h
    · exact .inr (by omega)
  have hcall : Ok P gf (y :: cap).toArray w1 (fun _ b=>w1.heap.size≤b.heap.size∧Post b∧∃ X : Nat→Prop,(∀ k,X k→(X0 k∨w1.heap.size≤k)∧k < b.heap.size)∧(J xs.length X b∨Jx X b)):=by
    refine it y ⟨_,_,_,rfl⟩ J Jx w1 ⟨h0 _ _ hm1 hw1s ?_,hD1,⟨fn,D,hL1⟩,by rw [hw1s]; exact Nat.le_refl _,fun _ x=>.inl x⟩ (hPre w1 hm1) (fun k hk=>by have:=hD0 k hk; omega) (fun i X w' h=>hF i _ w' h.1) ?_ ?_ ?_
    · rintro k (rfl | rfl | h)
      · exact .inr (.inl rfl)
      · exact .inr (.inr rfl)
      · exact .inl h
    · rintro i X X' a b ⟨h1,h2,h3,h4,h5⟩ hm hx
      have hn0 : ¬ X D:=fun x=>by rcases h5 _ x with h | h; (have:=hD0 _ h; omega); omega
      have hn1 : ¬ X (D + 1):=fun x=>by rcases h5 _ x with h | h; (have:=hD0 _ h; omega); omega
      refine ⟨stab i (XD X) (XD X') a b h1 (hXD X h5) (by show D≤_; omega) (hm.mono fun _ _ x=>.inr (.inr x)) (hXX X X' a b hx),(hm.get _ (by omega) hn0).trans h2,h3.of_eq (hm.get _ (by omega) hn1),Nat.le_trans h4 hm.size,hX2 X X' a b h5 h4 hx⟩
    · rintro X X' a b ⟨c,hc,h1,h2,h3,h4,h5⟩ hm hx
      have hn0 : ¬ X D:=fun x=>by rcases h5 _ x with h | h; (have:=hD0 _ h; omega); omega
      have hn1 : ¬ X (D + 1):=fun x=>by rcases h5 _ x with h | h; (have:=hD0 _ h; omega); omega
      refine ⟨c,hc,stabx c (XD X) (XD X') a b h1 (hXD X h5) (by show D≤_; omega) (hm.mono fun _ _ x=>.inr (.inr x)) (hXX X X' a b hx),(hm.get _ (by omega) hn0).trans h2,h3.of_eq (hm.get _ (by omega) hn1),Nat.le_trans h4 hm.size,hX2 X X' a b h5 h4 hx⟩
    · rintro i hi X a ⟨h1,h2,h3,h4,h5⟩ hXb _
      show callvK P _ a (xs[i]?.getD []) (.func (.yield (D + 1)) #[] #[])
      simp only [callvK,Zaa]
      refine yield_rule (n:=n) h3 (hlen i hi) ?_
      have hXDa : ∀ k,XD X k→(X0 k∨w.heap.size≤k)∧k < a.heap.size:=by
        intro k hk
        refine ⟨hXD X h5 k hk, ?_⟩
        rcases hk with rfl | rfl | hk
        · omega
        · omega
        · exact (hXb k hk).2
      refine wpIn_mono (vc_sound asg _ _ _ _ (round i hi (XD X) a h1 hXDa h4)) (lift_mono ?_)
      rintro e ρ1 ds1 b ⟨rfl,rfl,hm,hI'⟩
      refine ⟨rfl,rfl,hm.get _ (by omega) id,fun c hmc => ?_⟩
      have hms:=hm.size
      have hmcs:=hmc.size
      have hsz : D + 2≤c.heap.size:=Nat.le_trans (Nat.le_trans h4 hm.size) hmc.size
      have hcD : c.heap[D]? = some (.deferred (some [])):=(hmc.get _ (by omega) (by omega)).trans ((hm.get _ (by omega) id).trans h2)
      have hmX : Mod (XD X) b c:=hmc.mono fun k _ x=>.inr (.inl x)
      have hIc : I i (XD X) c:=stab i (XD X) (XD X) b c (stab i (XD X) (XD X) a b h1 (hXD X h5) (by show D≤_; omega) (hm.mono fun _ _ x=>x.elim) (fun k x=>.inl x)) (hXD X h5) (by show D≤_; omega) hmX (fun k x=>.inl x)
      refine wpIn_mono (vc_sound body _ _ _ _ (hI' c hmX hIc)) (lift_mono ?_)
      rintro e ρ2 ds2 d ⟨⟨k1,k2⟩,hq⟩
      have hsz' : D + 2≤d.heap.size:=Nat.le_trans hsz k1
      have kX : ∀ w4,Mod (fun k=>k = D + 1) d w4→a.heap.size≤w4.heap.size∧∀ k,X k→w4.heap[k]? = a.heap[k]?:=by
        intro w4 hm4
        have hm4s:=hm4.size
        refine ⟨by omega,fun k hk => ?_⟩
        have hk2 : k≠D∧k≠D + 1:=by rcases h5 k hk with h | h; (have:=hD0 _ h; omega); omega
        have hka:=(hXb k hk).2
        rw [hm4.get k (by omega) (by omega),k2 k (.inr (.inr hk)),hmc.get k (by omega) (by omega),hm.get k (by omega) id]
      have kS : ∀ w4,Mod (fun k=>k = D + 1) d w4→Mod (XD X) d w4:=fun w4 hm4=>hm4.mono fun k _ x=>.inr (.inl x)
      refine ⟨k2 _ (.inr (.inl rfl)), ?_⟩
      rcases hq with ⟨rfl,hI⟩ | ⟨cc,hc,hIx⟩
      · exact .inl ⟨rfl,fun w4 hm4 hl4=>⟨kX w4 hm4,.inl ⟨rfl,stab _ (XD X) (XD X) d w4 hI (hXD X h5) (by show D≤_; omega) (kS w4 hm4) (fun k x=>.inl x),(hm4.get _ (by omega) (by omega)).trans ((k2 _ (.inl rfl)).trans hcD),hl4,Nat.le_trans hsz' hm4.size,h5⟩⟩⟩
      · refine .inr ⟨cc,hc,fun w4 hm4 hl4=>⟨kX w4 hm4,.inr ⟨rfl,cc, ?_,stabx _ (XD X) (XD X) d w4 hIx (hXD X h5) (by show D≤_; omega) (kS w4 hm4) (fun k x=>.inl x),(hm4.get _ (by omega) (by omega)).trans ((k2 _ (.inl rfl)).trans hcD),hl4,Nat.le_trans hsz' hm4.size,h5⟩⟩⟩
        rcases hc with ⟨h,_⟩ | ⟨id,h,_⟩
        · exact .inl h
        · exact .inr ⟨id,h⟩
  refine ⟨D + 1,[markD D],w1,⟨.fn (.func gf) cap.toArray,#[y]⟩,w1,gf,(y :: cap).toArray,w1, ?_, ?_,fun _ _=>trivial, ?_,fun h=>by simp [Fence.wide] at h, ?_⟩
  · simp only [Instr.enterLoop,Fence.wide,Sem.run_bind,run_newObj,Result.andThen,pure,Sem.run]
    show Result.ok (w0.heap.size,_) _ = _
    rw [hw0s]; rfl
  · simp only [resolve,hfE,hf,Deferred.ofValue,pure]
    simp [Sem.run,y,Act.eval]
  · have e : #[y] ++ cap.toArray = (y :: cap).toArray:=by apply Array.ext'; simp
    simp only [invoke]
    rw [e]; exact callFunc_ok hcall.1
  · refine CallsIn.mono hcall.2 ?_
    rintro e w3 ⟨v,rfl,hs3,hP3,X,hXb,hj⟩
    have hend : ∀ (st : LoopState) (pend : Option Code),st≠.busy→LoopAt w3 (D + 1) n ρ params asg body st pend→∃ w4,(Instr.endLoop (D + 1)).run P w3 = .ok pend w4∧Mod (XD X) w3 w4∧w4.heap[D]? = w3.heap[D]?∧Post w4:=by
      rintro st pend hst ⟨fn',D',hl⟩
      refine ⟨set w3 (D + 1) (.loop { state:=.exhausted,pending:=pend,fn:=fn',tmps:=tm n ρ,params,assign:=asg,body,defers:=D' }), ?_,(Mod.refl _ _).set (.inr (.inr (.inl rfl))),get_set_other _ _ _ _ (by omega),hPost _ _ _ (by show D≤D + 1; omega) hP3⟩
      simp [Instr.endLoop,Instr.getLoop,getObj,setObj,Sem.run_bind,Sem.run,hl,Result.andThen,pure,hst,set]
    have ha : ({ mkA n ρ ds with defers:=[markD D] ++ (mkA n ρ ds).defers } : Act) = mkA n ρ (markD D :: ds):=rfl
    have hbd : ∀ w4,Mod (XD X) w3 w4→D + 2≤w3.heap.size→∀ k,XD X k→(X0 k∨w.heap.size≤k)∧k < w4.heap.size:=by
      rintro w4 m4 h4 k hk
      have:=m4.size
      refine ⟨?_, ?_⟩
      · rcases hk with rfl | rfl | hk
        · exact .inr (Nat.le_refl _)
        · exact .inr (show D≤D + 1 by omega)
        · exact (hXb k hk).1.imp id (fun h=>show D≤k by omega)
      · rcases hk with rfl | rfl | hk
        · omega
        · omega
        · have:=(hXb k hk).2; omega
    rcases hj with ⟨h1,h2,h3,h4,h5⟩ | ⟨c,hc,h1,h2,h3,h4,h5⟩
    · obtain ⟨w4,e4,m4,d4,P4⟩:=hend _ _ (by simp) h3
      exact ⟨none,w4,e4,ρ,_,rfl,done (XD X) w4 (stab _ (XD X) (XD X) _ _ h1 (hXD X h5) (by show D≤_; omega) m4 (fun k x=>.inl x)) P4 ⟨d4.trans h2,Nat.le_trans h4 m4.size,hbd w4 m4 h4⟩⟩
    · obtain ⟨w4,e4,m4,d4,P4⟩:=hend _ _ (by simp) h3
      have hs:=stop c (XD X) w4 (stabx _ (XD X) (XD X) _ _ h1 (hXD X h5) (by show D≤_; omega) m4 (fun k x=>.inl x)) P4 ⟨d4.trans h2,Nat.le_trans h4 m4.size,hbd w4 m4 h4⟩
      refine ⟨some c,w4,e4, ?_⟩
      rw [ha]
      rcases hc with rfl | ⟨id,rfl⟩
      · exact wpIn_ret ⟨ρ,_,rfl,hs⟩
      · exact wpIn_exit ⟨ρ,_,rfl,hs⟩
end Go.Vc
