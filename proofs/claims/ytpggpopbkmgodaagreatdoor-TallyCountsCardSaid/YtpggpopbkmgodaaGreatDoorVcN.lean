import Derived.Test.YtpggpopbkmgodaaGreatDoorVcL
set_option linter.unusedSimpArgs false
set_option linter.unusedVariables false
set_option linter.unusedSectionVars false
set_option linter.unnecessarySimpa false
namespace Go.Vc
open Go
variable {P:Program} {ro:Option Nat} {n:Nat} {ops:Array Oper} {C:World→Prop}
def pureI:Ins→Bool
 | .mv _ | .pick .. | .nilc _ | .iop .. | .sop .. | .bop .. | .pnil .. | .not _ | .conv .. | .same _ | .mkI .. | .mkF .. | .faddr .. | .fld1 .. | .fldN .. | .iaddr .. | .iaddrA .. | .sidx .. | .ext .. | .lenS _ | .lenL _ | .build .. | .slS .. | .slL .. | .slA .. => true
 | _=>false
theorem loadV_pure {w0:World} {k:Value→Prop} {o:Option Value} (h:loadV (fun v _=>k v) w0 o):∃v,(∀w,loadV (fun v' w'=>w'=w∧v'=v) w o)∧k v:=by
 cases o with
 | none=>exact h.elim
 | some v=>exact ⟨v,fun w=>⟨rfl,rfl⟩,h⟩
theorem pure_step {ρ:Env} {w0:World} {k:Value→Prop} {i:Ins} (hi:pureI i=true) (h:insVc P (fun v _=>k v) ρ [] w0 i):∃v,(∀w,insVc P (fun v' w'=>w'=w∧v'=v) ρ [] w i)∧k v:=by
 cases i <;> first|(simp [pureI] at hi;done)|skip
 all_goals simp only [insVc] at h ⊢
 case mv x=>exact ⟨_,fun w=>⟨by trivial,rfl⟩,h⟩
 case pick c a b=>unfold pickK at h ⊢; split at h <;> first|exact ⟨_,fun w=>⟨rfl,rfl⟩,h⟩|exact h.elim
 case nilc x=>unfold nilK at h ⊢; split at h <;> first|exact ⟨_,fun w=>⟨rfl,rfl⟩,h⟩|exact ⟨_,fun w=>⟨h.1,rfl,rfl⟩,h.2⟩|exact h.elim
 case iop op x y =>
  unfold iopK at h ⊢
  split at h
  ·obtain ⟨h1,h2⟩:=h
   obtain ⟨v,e,kv⟩:=loadV_pure h2
   exact ⟨v,fun w=>⟨h1,e w⟩,kv⟩
  ·exact h.elim
 case sop op x y=>unfold sopK at h ⊢; split at h <;> first|exact loadV_pure h|exact h.elim
 case bop neq x y=>unfold bopK at h ⊢; split at h <;> first|exact ⟨_,fun w=>⟨rfl,rfl⟩,h⟩|exact h.elim
 case pnil k' neq x=>unfold pnilK at h ⊢; split at h <;> first|exact ⟨_,fun w=>⟨rfl,rfl⟩,h⟩|exact h.elim
 case not x=>unfold notK at h ⊢; split at h <;> first|exact ⟨_,fun w=>⟨rfl,rfl⟩,h⟩|exact h.elim
 case conv k' x=>unfold convK at h ⊢; split at h <;> first|exact ⟨_,fun w=>⟨rfl,rfl⟩,h⟩|exact h.elim
 case same x=>unfold sameK at h ⊢; split at h <;> first|exact ⟨_,fun w=>⟨rfl,rfl⟩,h⟩|exact h.elim
 case mkI t x=>exact ⟨_,fun w=>⟨by trivial,rfl⟩,h⟩
 case mkF fn f c=>exact ⟨_,fun w=>⟨by trivial,rfl⟩,h⟩
 case faddr off x=>unfold faddrK at h ⊢; split at h <;> first|exact ⟨_,fun w=>⟨rfl,rfl⟩,h⟩|exact h.elim
 case fld1 off x=>unfold fld1K at h ⊢; split at h <;> first|exact loadV_pure h|exact h.elim
 case fldN off m x=>unfold fldNK at h ⊢; split at h <;> first|exact ⟨_,fun w=>⟨rfl,rfl⟩,h⟩|exact h.elim
 case iaddr sz x i=>unfold iaddrK at h ⊢; split at h <;> first|exact ⟨_,fun w=>⟨h.1,rfl,rfl⟩,h.2⟩|exact h.elim
 case iaddrA len sz x i=>unfold iaddrAK at h ⊢; split at h <;> first|exact ⟨_,fun w=>⟨h.1,rfl,rfl⟩,h.2⟩|exact h.elim
 case sidx x i =>
  unfold sidxK at h ⊢
  split at h
  ·obtain ⟨h1,h2⟩:=h
   obtain ⟨v,e,kv⟩:=loadV_pure h2
   exact ⟨v,fun w=>⟨h1,e w⟩,kv⟩
  ·exact h.elim
 case ext x i=>unfold extK at h ⊢; split at h <;> first|exact loadV_pure h|exact h.elim
 case lenS x=>unfold lenSK at h ⊢; split at h <;> first|exact ⟨_,fun w=>⟨rfl,rfl⟩,h⟩|exact h.elim
 case lenL x=>unfold lenLK at h ⊢; split at h <;> first|exact ⟨_,fun w=>⟨rfl,rfl⟩,h⟩|exact h.elim
 case build zero parts=>unfold buildK at h ⊢; split at h <;> first|exact ⟨_,fun w=>⟨rfl,rfl⟩,h⟩|exact h.elim
 case slS x lo hi =>
  unfold slSK at h ⊢
  split at h
  ·split at h
   ·exact ⟨_,fun w=>⟨h.1,rfl,rfl⟩,h.2⟩
   ·exact h.elim
  ·exact h.elim
 case slL sz x lo hi =>
  unfold slLK at h ⊢
  split at h
  ·split at h
   ·exact ⟨_,fun w=>⟨h.1,rfl,rfl⟩,h.2⟩
   ·exact h.elim
  ·exact h.elim
 case slA m sz x lo hi =>
  unfold slAK at h ⊢
  split at h
  ·split at h
   ·exact ⟨_,fun w=>⟨h.1,rfl,rfl⟩,h.2⟩
   ·exact h.elim
  ·exact h.elim
def LookQ (P:Program) (C:World→Prop) (ρ:Env) (i:Ins) (k:Value→Prop):Prop:=∃v,(∀w,C w→insQ P C ρ w v i)∧k v
def stepB (P:Program) (C:World→Prop) (ρ:Env) (i:Ins) (k:Value→Prop):Bool→Prop
 | true=>insVc P (fun v _=>k v) ρ [] default i
 | false=>LookQ P C ρ i k
theorem stepB_sound {ρ:Env} {i:Ins} {k:Value→Prop} (h:stepB P C ρ i k (pureI i)):∃v,(∀w,C w→insQ P C ρ w v i)∧k v:=by
 cases hp:pureI i with
 | false=>rw [hp] at h;exact h
 | true =>
  rw [hp] at h
  obtain ⟨v,e,kv⟩:=pure_step hp h
  refine ⟨v,fun w _ => ?_,kv⟩
  have:=e w
  cases i <;> first|exact this|(simp [pureI] at hp;done)
def vcS (P:Program) (C:World→Prop):List In→(Env→Prop)→Env→Prop
 | [],K,ρ=>K ρ
 | ⟨none,d,i⟩ :: l,K,ρ=>stepB P C ρ i (fun v=>vcS P C l K (updO ρ d v)) (pureI i)
 | ⟨some (s,want),d,i⟩ :: l,K,ρ =>
  match gate (ρ s) want with
  | true=>stepB P C ρ i (fun v=>vcS P C l K (updO ρ d v)) (pureI i)
  | false=>vcS P C l K (updO ρ d undef)
def gateS (P:Program) (C:World→Prop) (i:Ins) (l:List In) (K:Env→Prop) (ρ:Env) (d:Option Nat):Bool→Prop
 | true=>stepB P C ρ i (fun v=>vcS P C l K (updO ρ d v)) (pureI i)
 | false=>vcS P C l K (updO ρ d undef)
theorem vcS_nil {K:Env→Prop} {ρ:Env}:vcS P C [] K ρ=K ρ:=nr rfl
theorem vcS_cons {K:Env→Prop} {ρ:Env} {d:Option Nat} {i:Ins} {l:List In}:vcS P C (⟨none,d,i⟩ :: l) K ρ=stepB P C ρ i (fun v=>vcS P C l K (updO ρ d v)) (pureI i):=nr rfl
theorem vcS_gate {K:Env→Prop} {ρ:Env} {s:Nat} {want:Bool} {d:Option Nat} {i:Ins} {l:List In}:vcS P C (⟨some (s,want),d,i⟩ :: l) K ρ=gateS P C i l K ρ d (gate (ρ s) want):=by
 simp only [vcS];cases gate (ρ s) want <;> rfl
theorem gateS_true {K:Env→Prop} {ρ:Env} {d:Option Nat} {i:Ins} {l:List In}:gateS P C i l K ρ d true=stepB P C ρ i (fun v=>vcS P C l K (updO ρ d v)) (pureI i):=nr rfl
theorem gateS_false {K:Env→Prop} {ρ:Env} {d:Option Nat} {i:Ins} {l:List In}:gateS P C i l K ρ d false=vcS P C l K (updO ρ d undef):=nr rfl
theorem stepB_true {ρ:Env} {i:Ins} {k:Value→Prop}:stepB P C ρ i k true=insVc P (fun v _=>k v) ρ [] default i:=nr rfl
theorem stepB_false {ρ:Env} {i:Ins} {k:Value→Prop}:stepB P C ρ i k false=LookQ P C ρ i k:=nr rfl
theorem vcQ_of_vcS {K:Env→Prop}:∀(l:List In) (ρ:Env),vcS P C l K ρ→vcQ P C l K ρ:=by
 intro l
 induction l with
 | nil=>intro ρ h;exact h
 | cons x l ih =>
  intro ρ h
  obtain ⟨g,d,i⟩:=x
  cases g with
  | none =>
   obtain ⟨v,e,kv⟩:=stepB_sound h
   exact ⟨v,e,ih _ kv⟩
  | some p =>
   obtain ⟨s,want⟩:=p
   simp only [vcS] at h
   simp only [vcQ]
   cases hg:gate (ρ s) want with
   | true =>
    simp only [hg] at h
    obtain ⟨v,e,kv⟩:=stepB_sound h
    exact ⟨v,e,ih _ kv⟩
   | false=>simp only [hg] at h;exact ih _ h
theorem draw_s (C:World→Prop) {id:Nat} {l:List In} {Q:QT} {ρ:Env} {ds:List Deferred} {w:World} (hm:P.follows .mixedOrders=true) (hB:Region.lexB .any ops=true) (hl:compOps P n ops ops.toList=some l)
  (hC:C w.drew) (h:vcS P C l (fun ρ' => ∀w',C w'→Q .normal ρ' ds w') ρ):vc P ro n (.draw id ops l) Q ρ ds w :=
 draw_quiet C hm hB hl hC (vcQ_of_vcS l ρ h)
theorem look_call {ρ:Env} {f:FuncId} {args:List Operand} {k:Value→Prop} (v:Value) (h:∀w,C w→Ok P f (args.map (ev ρ)).toArray w fun v' w'=>v'=v∧C w') (hk:k v):LookQ P C ρ (.call f args) k:=⟨v,h,hk⟩
theorem look_load {ρ:Env} {x:Operand} {k:Value→Prop} {b o:Nat} {v:Value} (hx:ev ρ x = .pointer (some ⟨b,o,none⟩)) (h:∀w,C w→∃c t f,w.heap[b]? = some (.cells c t f)∧c[o]? = some v) (hk:k v):LookQ P C ρ (.load1 x) k:=by
 refine ⟨v,fun w hw => ?_,hk⟩
 obtain ⟨c,t,f,h1,h2⟩:=h w hw
 simp only [insQ,insVc,hx,load1K,h1,loadO,h2,loadV]
 exact ⟨trivial,trivial⟩
variable {P:Program} {ro:Option Nat} {n:Nat} {ops:Array Oper} {Fix:World→Prop} {md:Region.Mode} {Q:Act→World→Prop} {S:Nat→Bool}
def Val (P:Program) (Fix:World→Prop) (o:Oper) (a:Act) (u:Value):Prop :=
 ∀w,Fix w→(execOp a.eval o).run P w = .ok (.value u) w∨((execOp a.eval o).run P w = .ok .skip w∧u=undef)
theorem Val.unique {o:Oper} {a:Act} {u u':Value} {w:World} (hw:Fix w) (h:Val P Fix o a u) (h':Val P Fix o a u'):u=u':=by
 rcases h w hw with e|⟨e,rfl⟩ <;> rcases h' w hw with e'|⟨e',rfl⟩ <;> rw [e] at e' <;> simp at e' <;> first|exact e'|rfl
def dOp (P:Program) (ops:Array Oper) (Fix:World→Prop) (S:Nat→Bool) (i:Nat) (K:Act→World→Prop) (a:Act) (w:World):Prop :=
 match ops[i]? with
 | none=>K a w
 | some o =>
  if Region.wanted o (yielded ops a.tmps) then
   (if S i then upon P (fun v w'=>Fix w'∧K (a.put o.dst v) w') ((execOp a.eval o).run P w) else ∃u,Val P Fix o a u∧K (a.put o.dst u) w)
  else K (a.put o.dst undef) w
theorem upon_mono {K K':Value→World→Prop} (h:∀v w,K v w→K' v w) {r:Result Next} (hr:upon P K r):upon P K' r:=by
 match r,hr with
 | .ok (.value v) w,x=>exact h _ _ x
 | .ok .skip w,x=>exact h _ _ x
 | .ok (.enter f args) w,x=>exact callP_mono x h
 | .ok (.round l f tmps as bd) w,x=>exact RoundIn.mono x fun e w' ⟨v,he,y⟩=>⟨v,he,h _ _ y⟩
theorem upon_false {r:Result Next} (h:upon P (fun _ _=>False) r):False:=by
 match r,h with
 | .ok (.enter f args) w,x =>
  obtain ⟨_,_,_,⟨_,_,y⟩,_⟩:=x.2 [] (room_wide _)
  exact y
 | .ok (.round l f tmps as bd) w,x =>
  obtain ⟨_,_,⟨_,_,y⟩,_⟩:=x.2 default [] (room_wide _)
  exact y
theorem dOp_mono {i:Nat} {K K':Act→World→Prop} {a:Act} {w:World} (hw:Fix w) (h:∀a w,Fix w→K a w→K' a w) (hh:dOp P ops Fix S i K a w):dOp P ops Fix S i K' a w:=by
 unfold dOp at *
 cases ho:ops[i]? with
 | none=>simp only [ho] at hh ⊢; exact h _ _ hw hh
 | some o =>
  simp only [ho] at hh ⊢
  by_cases hwt:Region.wanted o (yielded ops a.tmps)=true
  ·rw [if_pos hwt] at hh ⊢
   by_cases hs:S i=true
   ·rw [if_pos hs] at hh ⊢; exact upon_mono (fun v w' x=>⟨x.1,h _ _ x.1 x.2⟩) hh
   ·rw [if_neg hs] at hh ⊢; obtain ⟨u,h1,h2⟩:=hh;exact ⟨u,h1,h _ _ hw h2⟩
  ·rw [if_neg hwt] at hh ⊢; exact h _ _ hw hh
def wpAnyD (P:Program) (md:Region.Mode) (ops:Array Oper) (Fix:World→Prop) (S:Nat→Bool) (Q:Act→World→Prop):Nat→Array Bool→Act→World→Prop
 | 0,listed,a,w=>Region.ready md ops listed=[]∧Q a w
 | fuel+1,listed,a,w =>
  (Region.ready md ops listed=[]→Q a w) ∧
  ∀i∈Region.ready md ops listed,dOp P ops Fix S i (wpAnyD P md ops Fix S Q fuel (listed.setIfInBounds i true)) a w
theorem wpIn_of_upon {o:Oper} {a:Act} {w:World} {K:Act→World→Prop} {Q':Exit→Act→World→Prop} (h:upon P (fun v w'=>K (a.put o.dst v) w') ((execOp a.eval o).run P w)):o.wpIn (FW ro) 0 P a w K Q':=by
 refine ⟨fun f _=>trivial, ?_⟩
 have hnd:∀c,o.op≠.defer c:=by
  intro c hc'
  simp only [execOp,hc',Sem.run_bind] at h
  cases hr:(resolve a.eval c o.type).run P w with
  | ok d w'=>simp [hr,Result.andThen,pure,upon] at h
  | halt x w'=>simp [hr,Result.andThen,upon] at h
 rw [Oper.semAt_eq _ _ _ hnd]
 exact uponIn_of_upon h
theorem wpAnyIn_of_D {Q':Exit→Act→World→Prop} (hQ:∀a w,Fix w→Q a w→Q' .normal a w):∀(fuel:Nat) (listed:Array Bool) (a:Act) (w:World),Fix w →
  wpAnyD P md ops Fix S Q fuel listed a w→wpAnyIn (FW ro) 0 P md ops Q' fuel listed a w
 | 0,_,_,_,hw,h=>⟨h.1,hQ _ _ hw h.2⟩
 | fuel+1,_,a,w,hw,h=>⟨fun h0=>hQ _ _ hw (h.1 h0),fun i hi=>by
   have hq:=h.2 i hi
   unfold dOp at hq
   unfold wpOpIn
   split
   ·rename_i ho;simp only [ho] at hq;exact wpAnyIn_of_D hQ fuel _ _ _ hw hq
   ·rename_i o ho
    simp only [ho] at hq
    split
    ·rename_i hwt
     simp only [hwt,Zaa] at hq
     by_cases hs:S i=true
     ·rw [if_pos hs] at hq
      exact wpIn_of_upon (upon_mono (fun v w' x=>wpAnyIn_of_D hQ fuel _ _ _ x.1 x.2) hq)
     ·rw [if_neg hs] at hq
      obtain ⟨u,h1,h2⟩:=hq
      refine wpIn_of_upon ?_
      rcases h1 w hw with e|⟨e,rfl⟩
      ·rw [e];exact wpAnyIn_of_D hQ fuel _ _ _ hw h2
      ·rw [e];exact wpAnyIn_of_D hQ fuel _ _ _ hw h2
    ·rename_i hwt;simp only [hwt] at hq
     exact ⟨fun f _=>trivial,wpAnyIn_of_D hQ fuel _ _ _ hw hq⟩⟩
def FixedAt (P:Program) (ops:Array Oper) (Fix:World→Prop) (S:Nat→Bool) (i:Nat) (o:Oper) (v:Value) (a:Act):Prop :=
 (Region.wanted o (yielded ops a.tmps)=true∧S i=false∧Val P Fix o a v)∨(Region.wanted o (yielded ops a.tmps)=false∧v=undef)
theorem FixedAt.dOp {i:Nat} {o:Oper} {v:Value} {a:Act} {w:World} (hi:ops[i]? = some o) (h:FixedAt P ops Fix S i o v a) {K:Act→World→Prop} (hk:K (a.put o.dst v) w):dOp P ops Fix S i K a w:=by
 unfold Vc.dOp
 simp only [hi]
 rcases h with ⟨h1,h2,h3⟩|⟨h1,rfl⟩
 ·simp only [h1,Zaa,h2];exact ⟨v,h3,hk⟩
 ·simp only [h1,Bool.false_eq_true,Zaf];exact hk
theorem FixedAt.of_same {i:Nat} {o:Oper} {v:Value} {a a':Act} (h:FixedAt P ops Fix S i o v a) (he:execOp a'.eval o=execOp a.eval o)
  (hw:Region.wanted o (yielded ops a'.tmps)=Region.wanted o (yielded ops a.tmps)):FixedAt P ops Fix S i o v a':=by
 unfold FixedAt Val at *
 rw [he,hw];exact h
theorem dOp_put {i j:Nat} {oi oj:Oper} {v:Value} (hj:ops[j]? = some oj) (hap:oi.apart ops oj=true) (hsi:∀cs b,oi.op≠.select cs b) (hsj:∀cs b,oj.op≠.select cs b)
  {K:Act→World→Prop} {a:Act} {w:World} (hy:FixedAt P ops Fix S i oi v a) (h:dOp P ops Fix S j K (a.put oi.dst v) w) :
  dOp P ops Fix S j (fun a' w'=>FixedAt P ops Fix S i oi v a'∧K (a'.put oi.dst v) w') a w:=by
 obtain ⟨h1,h2,h3⟩:=Oper.apart_spec hap
 have keep:∀u,FixedAt P ops Fix S i oi v (a.put oj.dst u):=fun u=>hy.of_same (execOp_put oi hsi a oj.dst u h3) (wanted_put oi a oj.dst u h3)
 unfold dOp at *
 simp only [hj] at *
 rw [wanted_put oj a oi.dst v h1] at h
 split
 ·rename_i hw
  simp only [hw,Zaa] at h
  by_cases hs:S j=true
  ·rw [if_pos hs] at h ⊢
   rw [execOp_put oj hsj a oi.dst v h1] at h
   exact upon_mono (fun u w' x=>⟨x.1,keep u,by rw [← Act.put_comm a v u h2];exact x.2⟩) h
  ·rw [if_neg hs] at h ⊢
   obtain ⟨u,hu,hn⟩:=h
   refine ⟨u, ?_,keep u,by rw [← Act.put_comm a v u h2];exact hn⟩
   unfold Val at hu ⊢
   rwa [execOp_put oj hsj a oi.dst v h1] at hu
 ·rename_i hw
  simp only [hw] at h
  exact ⟨keep _,by rw [← Act.put_comm a v undef h2];exact h⟩
structure Waits (md:Region.Mode) (ops:Array Oper) (S:Nat→Bool) (i:Nat) (listed:Array Bool) (W:Nat→Prop):Prop where
 unlisted:∀p,W p→listed.getD p false=false
 edge:∀p o,W p→ops[p]? = some o→∃e∈o.after,Region.binds md e=true∧(e.on=i∨W e.on)
 steps:∀j,S j=true→j≠i→listed.getD j true=false→W j
theorem Waits.not_ready {i:Nat} {listed:Array Bool} {W:Nat→Prop} (h:Waits md ops S i listed W) (hi:listed.getD i true=false) {j:Nat} (hj:j∈Region.ready md ops listed):¬W j:=by
 intro hw
 obtain ⟨_,o,ho,hall⟩:=mem_ready.1 hj
 obtain ⟨e,he,hb,hor⟩:=h.edge j o hw ho
 have h1:=hall e he hb
 rcases hor with heq|hwe
 ·rw [heq] at h1
  rcases Nat.lt_or_ge i listed.size with h'|h'
  ·simp [h'] at hi h1;rw [hi] at h1;cases h1
  ·simp [Array.getElem?_eq_none h'] at h1
 ·rw [h.unlisted _ hwe] at h1;cases h1
theorem Waits.step {i:Nat} {listed:Array Bool} {W:Nat→Prop} (h:Waits md ops S i listed W) {j:Nat} (hj:¬W j):Waits md ops S i (listed.setIfInBounds j true) W:=by
 refine ⟨fun p hp => ?_,h.edge,fun k hk hne hun=>h.steps k hk hne ?_⟩
 ·have:j≠p:=fun e=>hj (e ▸ hp)
  rw [getD_set_ne false this];exact h.unlisted p hp
 ·by_cases hjk:j=k
  ·subst hjk
   rcases Nat.lt_or_ge j listed.size with h'|h'
   ·simp [h'] at hun
   ·simp [] at hun
  ·rw [getD_set_ne true hjk] at hun;exact hun
theorem wpAnyD_first {i:Nat} {oi:Oper} (hi:ops[i]? = some oi) (hsel:∀(j:Nat) (o:Oper) cs b,ops[j]? = some o→o.op≠.select cs b) {W:Nat→Prop} :
  ∀(fuel:Nat) (listed:Array Bool) (a:Act) (w:World),Fix w →
   (∀j oj,ops[j]? = some oj→j≠i→listed.getD j true=false→(∀e∈oj.after,Region.binds md e=true→e.on≠i)→oi.apart ops oj=true) →
   i∈Region.ready md ops listed→(S i=true→Waits md ops S i listed W) →
   dOp P ops Fix S i (wpAnyD P md ops Fix S Q fuel (listed.setIfInBounds i true)) a w→wpAnyD P md ops Fix S Q (fuel+1) listed a w:=by
 intro fuel
 induction fuel with
 | zero =>
  intro listed a w hw _ hr _ H
  refine ⟨fun h=>(by rw [h] at hr;cases hr),fun j hj => ?_⟩
  by_cases hji:j=i
  ·subst hji;exact H
  ·exfalso
   have hjr:=ready_mono hj hji
   have hno:∀a w,wpAnyD P md ops Fix S Q 0 (listed.setIfInBounds i true) a w→False:=fun a w h=>by rw [h.1] at hjr;cases hjr
   unfold dOp at H
   simp only [hi] at H
   split at H
   ·split at H
    ·exact upon_false (upon_mono (fun v w' x=>hno _ _ x.2) H)
    ·obtain ⟨u,_,h⟩:=H;exact hno _ _ h
   ·exact hno _ _ H
 | succ fuel ih =>
  intro listed a w hw hfree hr hW H
  refine ⟨fun h=>(by rw [h] at hr;cases hr),fun j hj => ?_⟩
  by_cases hji:j=i
  ·subst hji;exact H
  ·obtain ⟨hjun,oj,hoj,hall⟩:=mem_ready.1 hj
   have hiun:=(mem_ready.1 hr).1
   have hnot:∀e∈oj.after,Region.binds md e=true→e.on≠i:=fun e he hb heq=>by
    have h1:=hall e he hb
    rw [heq] at h1
    rcases Nat.lt_or_ge i listed.size with h'|h'
    ·simp [h'] at hiun h1;rw [hiun] at h1;cases h1
    ·simp [Array.getElem?_eq_none h'] at h1
   have hap:=hfree j oj hoj hji hjun hnot
   have hsi:=fun cs b=>hsel i oi cs b hi
   have hsj:=fun cs b=>hsel j oj cs b hoj
   have hfree':∀k ok,ops[k]? = some ok→k≠i→(listed.setIfInBounds j true).getD k true=false →
     (∀e∈ok.after,Region.binds md e=true→e.on≠i)→oi.apart ops ok=true:=fun k ok hk hki hun hno=>by
    refine hfree k ok hk hki ?_ hno
    by_cases hjk:j=k
    ·subst hjk;exact hjun
    ·rw [getD_set_ne true hjk] at hun;exact hun
   have hr':=ready_mono hr (Ne.symm hji)
   have hW':S i=true→Waits md ops S i (listed.setIfInBounds j true) W:=fun hs=>(hW hs).step ((hW hs).not_ready hiun hj)
   have hjr:=ready_mono hj hji
   by_cases hwi:Region.wanted oi (yielded ops a.tmps)=true∧S i=true
   ·
    obtain ⟨hwt,hs⟩:=hwi
    have hsjf:S j=false:=by
     cases hsj':S j with
     | false=>rfl
     | true=>exact absurd ((hW hs).steps j hsj' hji hjun) ((hW hs).not_ready hiun hj)
    obtain ⟨h1,h2,h3⟩:=Oper.apart_spec hap
    have H':upon P (fun v w'=>Fix w'∧wpAnyD P md ops Fix S Q (fuel+1) (listed.setIfInBounds i true) (a.put oi.dst v) w') ((execOp a.eval oi).run P w):=by
     unfold dOp at H;simp only [hi,hwt,Zaa,hs] at H;exact H
    have goi:∀u,(∀v w',Fix w'→wpAnyD P md ops Fix S Q (fuel+1) (listed.setIfInBounds i true) (a.put oi.dst v) w'→wpAnyD P md ops Fix S Q fuel ((listed.setIfInBounds j true).setIfInBounds i true) ((a.put oj.dst u).put oi.dst v) w') →
      wpAnyD P md ops Fix S Q (fuel+1) (listed.setIfInBounds j true) (a.put oj.dst u) w:=by
     intro u hu
     refine ih (listed.setIfInBounds j true) (a.put oj.dst u) w hw hfree' hr' hW' ?_
     unfold dOp
     simp only [hi]
     rw [wanted_put oi a oj.dst u h3,if_pos hwt,if_pos hs,execOp_put oi hsi a oj.dst u h3]
     exact upon_mono (fun v w' x=>⟨x.1,hu v w' x.1 x.2⟩) H'
    unfold dOp
    simp only [hoj]
    by_cases hwj:Region.wanted oj (yielded ops a.tmps)=true
    ·rw [if_pos hwj,if_neg (by simp [hsjf])]
     have outcome:∀v w',Fix w'→wpAnyD P md ops Fix S Q (fuel+1) (listed.setIfInBounds i true) (a.put oi.dst v) w'→∃u,Val P Fix oj a u∧wpAnyD P md ops Fix S Q fuel ((listed.setIfInBounds i true).setIfInBounds j true) ((a.put oi.dst v).put oj.dst u) w':=by
      intro v w' _ h
      have hq:=h.2 j hjr
      unfold dOp at hq
      simp only [hoj] at hq
      rw [wanted_put oj a oi.dst v h1,if_pos hwj,if_neg (by simp [hsjf])] at hq
      obtain ⟨u,hu,hk⟩:=hq
      unfold Val at hu
      rw [execOp_put oj hsj a oi.dst v h1] at hu
      exact ⟨u,hu,hk⟩
     by_cases hex:∃u,Val P Fix oj a u
     ·obtain ⟨u0,hu0⟩:=hex
      refine ⟨u0,hu0,goi u0 fun v w' hfw h => ?_⟩
      obtain ⟨u,hu,hk⟩:=outcome v w' hfw h
      have:u=u0:=hu.unique hw hu0
      subst this
      rw [Array.setIfInBounds_comm _ _ hji,Act.put_comm a u v (fun d hd hd'=>(h2 d hd') hd)]
      exact hk
     ·exact (upon_false (upon_mono (fun v w' x=>hex (let ⟨u,hu,_⟩:=outcome v w' x.1 x.2;⟨u,hu⟩)) H')).elim
    ·rw [if_neg hwj]
     refine goi undef fun v w' _ h => ?_
     have hq:=h.2 j hjr
     unfold dOp at hq
     simp only [hoj] at hq
     rw [wanted_put oj a oi.dst v h1,if_neg hwj] at hq
     rw [Array.setIfInBounds_comm _ _ hji,Act.put_comm a undef v (fun d hd hd'=>(h2 d hd') hd)]
     exact hq
   ·
    have hfx:∃v,FixedAt P ops Fix S i oi v a∧wpAnyD P md ops Fix S Q (fuel+1) (listed.setIfInBounds i true) (a.put oi.dst v) w:=by
     unfold dOp at H
     simp only [hi] at H
     by_cases hwt:Region.wanted oi (yielded ops a.tmps)=true
     ·have hs:S i=false:=by
       cases h:S i with
       | false=>rfl
       | true=>exact absurd ⟨hwt,h⟩ hwi
      rw [if_pos hwt,if_neg (by simp [hs])] at H
      obtain ⟨u,hu,hk⟩:=H
      exact ⟨u,.inl ⟨hwt,hs,hu⟩,hk⟩
     ·rw [if_neg hwt] at H
      exact ⟨undef,.inr ⟨by simpa using hwt,rfl⟩,H⟩
    obtain ⟨v,hy,hk⟩:=hfx
    have h2:=dOp_put hoj hap hsi hsj hy (hk.2 j hjr)
    refine dOp_mono hw (fun a' w' hw' h3=>ih (listed.setIfInBounds j true) a' w' hw' hfree' hr' hW' ?_) h2
    refine h3.1.dOp hi ?_
    rw [Array.setIfInBounds_comm _ _ hji]
    exact h3.2
end Go.Vc
