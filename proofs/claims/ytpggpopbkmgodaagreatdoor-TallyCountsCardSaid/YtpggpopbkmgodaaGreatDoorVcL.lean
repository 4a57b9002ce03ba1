import Derived.Test.YtpggpopbkmgodaaGreatDoorVcI
import Derived.Deep.Quiet
import Derived.OrdersIn
import Derived.Deep.AppendSrc
import Derived.Laws.OwnMore
import Derived.Laws.IdiomStrings
set_option linter.unusedSimpArgs false
set_option linter.unusedVariables false
set_option linter.unusedSectionVars false
set_option linter.unnecessarySimpa false
namespace Go.Vc
open Go
variable {P:Program} {ro:Option Nat} {n:Nat} {ops:Array Oper} {C:World→Prop}
theorem wpIn_of_quiet {o:Oper} {a:Act} {K:Act→Prop} {K':Act→World→Prop} {Q':Exit→Act→World→Prop} {w:World} (hw:C w) (h:∀a w',C w'→K a→K' a w') (hh:o.quiet P a C K) :
  o.wpIn (FW ro) 0 P a w K' Q':=by
 obtain ⟨v,h1,h2⟩:=hh
 have h3:=h1 w hw
 refine ⟨fun f _=>trivial, ?_⟩
 have hnd:∀c,o.op≠.defer c:=by
  intro c hc'
  unfold Oper.quietAt at h3
  simp only [execOp,hc',Sem.run_bind] at h3
  cases hr:(resolve a.eval c o.type).run P w with
  | ok d w'=>simp [hr,Result.andThen,pure,Oper.quietUpon] at h3
  | halt x w'=>simp [hr,Result.andThen,Oper.quietUpon] at h3
 rw [Oper.semAt_eq _ _ _ hnd]
 unfold Oper.quietAt at h3
 refine uponIn_of_upon ?_
 revert h3
 generalize (execOp a.eval o).run P w=r
 intro h3
 match r,h3 with
 | .ok (.value u) w',h3=>obtain ⟨e1,e2⟩:=h3;rw [e1,e2];exact h _ _ hw h2
 | .ok .skip w',h3=>obtain ⟨e1,e2⟩:=h3;subst e1;subst e2;exact h _ _ hw h2
 | .ok (.enter f args) w',h3 =>
  obtain ⟨e1,hc⟩:=h3
  rw [e1]
  have hc':CallsIn Fence.wide 0 P f args w (fun e w''=>e = .returned v∧C w''):=callsIn_wide.2 hc
  exact CallsIn.mono hc' fun e w'' ⟨he,hw''⟩=>⟨v,he,h _ _ hw'' h2⟩
theorem wpAnyIn_of_quiet {Q:Act→Prop} {Q':Exit→Act→World→Prop} {md:Region.Mode} (hQ:∀a w,C w→Q a→Q' .normal a w):∀(fuel:Nat) (listed:Array Bool) (a:Act) (w:World),C w →
  wpAnyQ P md ops C Q fuel listed a→wpAnyIn (FW ro) 0 P md ops Q' fuel listed a w
 | 0,_,_,_,hw,h=>⟨h.1,hQ _ _ hw h.2⟩
 | fuel+1,_,_,_,hw,h=>⟨fun h0=>hQ _ _ hw (h.1 h0),fun i hi=>by
   have hq:=h.2 i hi
   unfold qOp at hq
   unfold wpOpIn
   split
   ·rename_i ho;simp only [ho] at hq;exact wpAnyIn_of_quiet hQ fuel _ _ _ hw hq
   ·rename_i o ho
    simp only [ho] at hq
    split
    ·rename_i hwt;simp only [hwt,if_true] at hq
     exact wpIn_of_quiet hw (fun a' w' hw' hk=>wpAnyIn_of_quiet hQ fuel _ a' w' hw' hk) hq
    ·rename_i hwt;simp only [hwt] at hq
     exact ⟨fun f _=>trivial,wpAnyIn_of_quiet hQ fuel _ _ _ hw hq⟩⟩
def isCallI:Ins→Bool
 | .call .. | .callv .. | .inv .. => true
 | _=>false
def callQ (P:Program) (C:World→Prop) (f:FuncId) (args:List Value) (w:World) (v:Value):Prop:=Ok P f args.toArray w fun v' w'=>v'=v∧C w'
def callvQ (P:Program) (C:World→Prop) (args:List Value) (w:World) (v:Value):Value→Prop
 | .func (.func f) first cap=>callQ P C f (first.toList ++ args ++ cap.toList) w v
 | _=>False
def invQ (P:Program) (C:World→Prop) (name:String) (args:List Value) (w:World) (v:Value):Value→Prop
 | .iface t x => ∃f y,(method (P.types.size+Made.depth) t x name).run P w = .ok (f,y) w∧callQ P C f (y :: args) w v
 | _=>False
def insQ (P:Program) (C:World→Prop) (ρ:Env) (w:World) (v:Value):Ins→Prop
 | .call f args=>callQ P C f (args.map (ev ρ)) w v
 | .callv x args=>callvQ P C (args.map (ev ρ)) w v (ev ρ x)
 | .inv x name args=>invQ P C name (args.map (ev ρ)) w v (ev ρ x)
 | .raw .. => False
 | i=>insVc P (fun v' w'=>w'=w∧v'=v) ρ [] w i
def vcQ (P:Program) (C:World→Prop):List In→(Env→Prop)→Env→Prop
 | [],K,ρ=>K ρ
 | ⟨none,d,i⟩ :: l,K,ρ => ∃v,(∀w,C w→insQ P C ρ w v i)∧vcQ P C l K (updO ρ d v)
 | ⟨some (s,want),d,i⟩ :: l,K,ρ =>
  match gate (ρ s) want with
  | true => ∃v,(∀w,C w→insQ P C ρ w v i)∧vcQ P C l K (updO ρ d v)
  | false=>vcQ P C l K (updO ρ d undef)
def NoEnter:Result Next→Prop
 | .ok (.enter _ _) _ | .ok (.round ..) _=>False
 | _=>True
theorem quietAt_of_upon {r:Result Next} {w:World} {v:Value} (h:upon P (fun v' w'=>w'=w∧v'=v) r) (hn:NoEnter r):Oper.quietUpon P C w v r:=by
 cases r with
 | halt x w'=>exact h.elim
 | ok x w'=>cases x <;> first|exact h|exact ⟨h.1,h.2.symm⟩|exact hn.elim|exact h.elim
theorem noEnter_v (s:Sem Value) (w:World):NoEnter ((do pure (Next.value (← s)):Sem Next).run P w):=by
 rw [run_v];cases s.run P w <;> trivial
theorem noEnter_u (s:Sem Unit) (w:World):NoEnter ((do s;pure Next.skip:Sem Next).run P w):=by
 rw [run_u];cases s.run P w <;> trivial
def quietI:Ins→Bool
 | .raw .. => false
 | _=>true
theorem noEnter_of {o:Oper} {E:Operand→Value} (h:match o.op with | .call _ | .go _ | .defer _ | .send .. | .recv .. | .select .. => False|_=>True) (w:World):NoEnter ((execOp E o).run P w):=by
 unfold execOp
 cases hop:o.op <;> simp only [hop] at h ⊢ <;> first
  | exact noEnter_v _ _
  | exact noEnter_u _ _
  | trivial
  | skip
 case pick c a b=>rw [Sem.run_bind];cases E c <;> trivial
 case nilCheck x =>
  split
  ·simp [runtimePanic,program,goPanic,Sem.run_bind,Sem.run,Result.andThen,NoEnter]
  ·simp [runtimePanic,program,goPanic,Sem.run_bind,Sem.run,Result.andThen,NoEnter]
  ·simp [runtimePanic,program,goPanic,Sem.run_bind,Sem.run,Result.andThen,NoEnter]
  ·split
   ·simp [runtimePanic,program,goPanic,Sem.run_bind,Sem.run,Result.andThen,NoEnter]
   ·rw [Sem.run_bind]
    simp only [run_program,Result.andThen]
    rw [Sem.run_bind]
    cases (nilAhead _ _ _ _).run P w with
    | ok a w'=>simp only [Result.andThen];split <;> simp [unsupported,pure,Sem.run,NoEnter,Sem.run_bind,Result.andThen]
    | halt=>trivial
   ·trivial
  ·trivial
theorem quiet_call {f:FuncId} {args:Array Value} {w:World} {v:Value} (h:Ok P f args w fun v' w'=>v'=v∧C w'):Oper.quietUpon P C w v ((callFunc f args).run P w):=by
 rw [callFunc_ok h.1]
 refine ⟨rfl,callsIn_wide.1 (CallsIn.mono h.2 ?_)⟩
 rintro e w' ⟨u,rfl,rfl,hc⟩
 exact ⟨rfl,hc⟩
theorem noEnter_len {o:Oper} {E:Operand→Value} {args:Array Operand} {ats:Array TypeId} (h:o.op = .call { callee:=.builtin .len,args,argTypes:=ats }) (w:World):NoEnter ((execOp E o).run P w):=by
 simp only [execOp,h,resolve,Sem.run_bind,pure,Sem.run,Result.andThen,invoke,builtin]
 cases (Builtin.len_ ats o.type (args.map E)).run P w <;> trivial
theorem quiet_of_insVc {o:Oper} {ρ:Env} {ds:List Deferred} {w:World} {v:Value} (h:insVc P (fun v' w'=>w'=w∧v'=v) ρ ds w (compOp P n o)) (hn:NoEnter ((execOp (mkA n ρ ds).eval o).run P w)) :
  Oper.quietAt P o (mkA n ρ ds) C w v:=quietAt_of_upon (sound_ins n o h) hn
theorem insVc_ds {go:Value→World→Prop} {ρ:Env} {ds ds':List Deferred} {w:World} {i:Ins} (hi:quietI i=true) (h:insVc P go ρ ds w i):insVc P go ρ ds' w i:=by
 cases i <;> first|exact h|simp [quietI] at hi
theorem sound_q {o:Oper} {ρ:Env} {ds:List Deferred} {w:World} {v:Value} (h:insQ P C ρ w v (compOp P n o)):Oper.quietAt P o (mkA n ρ ds) C w v:=by
 have hq:quietI (compOp P n o)=true:=by
  cases hc:compOp P n o <;> first|rfl|(rw [hc] at h;simp [insQ] at h)
 by_cases hb:o.op.operands.toList.all (inB n)=true
 case neg =>
  have:compOp P n o = .raw n o:=by unfold compOp;rw [if_pos (by simpa using hb)]
  rw [this] at hq;simp [quietI] at hq
 have hneg:¬(!o.op.operands.toList.all (inB n))=true:=by simpa using hb
 have hb':o.op.operands.all (inB n)=true:=by rw [← Array.all_toList];exact hb
 have hE:=evals (ρ:=ρ) (ds:=ds) hb'
 have gen:isCallI (compOp P n o)=false→NoEnter ((execOp (mkA n ρ ds).eval o).run P w)→Oper.quietAt P o (mkA n ρ ds) C w v:=by
  intro hc hn
  refine quiet_of_insVc ?_ hn
  have h':insVc P (fun v' w'=>w'=w∧v'=v) ρ [] w (compOp P n o):=by
   revert h hc
   cases compOp P n o <;> intro h hc <;> first|exact h|(exfalso;simp [insQ] at h;done)|(exfalso;simp [isCallI] at hc;done)
  exact insVc_ds hq h'
 by_cases hcall:∃c,o.op = .call c
 case neg =>
  have hc:isCallI (compOp P n o)=false:=by
   unfold compOp
   rw [if_neg hneg]
   split <;> first|rfl|(exact absurd ⟨_,by assumption⟩ hcall)|((repeat' split) <;> rfl)|(unfold compBin;(repeat' split) <;> rfl)
  refine gen hc (noEnter_of ?_ w)
  cases hop:o.op
  case call c=>exact absurd ⟨c,hop⟩ hcall
  all_goals first|trivial|skip
  all_goals (exfalso;have:compOp P n o = .raw n o:=(by unfold compOp;rw [if_neg hneg];simp only [hop]);rw [this] at hq;simp [quietI] at hq)
 case pos =>
  obtain ⟨c,hop⟩:=hcall
  obtain ⟨cal,args,ats⟩:=c
  have hE':=hE
  simp only [hop,Op.operands,Call.operands] at hE'
  cases cal with
  | builtin b =>
   cases b with
   | len =>
    refine gen ?_ (noEnter_len hop w)
    unfold compOp
    rw [if_neg hneg]
    simp only [hop]
    (repeat' split) <;> rfl
   | _ =>
    exfalso
    have:compOp P n o = .raw n o:=by unfold compOp;rw [if_neg hneg];simp only [hop]
    rw [this] at hq;simp [quietI] at hq
  | value x =>
   have e:=map_evals (fun x hx=>hE' x (by simp [hx])) (xs:=args)
   have hx:=hE' x (by simp)
   have callv:compOp P n o = .callv x args.toList→Oper.quietAt P o (mkA n ρ ds) C w v:=by
    intro hc
    rw [hc] at h
    simp only [insQ,callvQ] at h
    split at h
    ·rename_i f first cap hv
     unfold Oper.quietAt
     simp only [execOp,hop,resolve,hx,hv,e,Deferred.ofValue,Sem.run_bind,pure,Sem.run,Result.andThen,invoke]
     have e2:first ++ (args.toList.map (ev ρ)).toArray ++ cap=(first.toList ++ args.toList.map (ev ρ) ++ cap.toList).toArray:=by apply Array.ext';simp
     rw [e2];exact quiet_call h
    ·exact False.elim h
   cases x with
   | func f =>
    have hc:compOp P n o=if okF P f then .call f args.toList else .raw n o:=by unfold compOp;rw [if_neg hneg];simp only [hop]
    by_cases hf:okF P f=true
    ·rw [if_pos hf] at hc
     rw [hc] at h
     unfold Oper.quietAt
     simp only [execOp,hop,resolve,Sem.run_bind,Act.eval,Deferred.ofValue,pure,Sem.run,Result.andThen,invoke]
     have e3:(#[] ++ args.map (fun x=>(mkA n ρ ds).eval x) ++ #[]:Array Value)=(args.toList.map (ev ρ)).toArray:=by
      have e':args.map (fun x=>(mkA n ρ ds).eval x)=(args.toList.map (ev ρ)).toArray:=e
      rw [e'];simp
     rw [e3];exact quiet_call h
    ·rw [if_neg hf] at hc;rw [hc] at hq;simp [quietI] at hq
   | tmp t=>exact callv (by unfold compOp;rw [if_neg hneg];simp only [hop])
   | const t=>exact callv (by unfold compOp;rw [if_neg hneg];simp only [hop])
   | global t=>exact callv (by unfold compOp;rw [if_neg hneg];simp only [hop])
  | invoke x name =>
   have e:=map_evals (fun x hx=>hE' x (by simp [hx])) (xs:=args)
   have hx:=hE' x (by simp)
   have hc:compOp P n o = .inv x name args.toList:=by unfold compOp;rw [if_neg hneg];simp only [hop]
   rw [hc] at h
   simp only [insQ,invQ] at h
   split at h
   ·rename_i t y hv
    obtain ⟨f,z,hm,hcall⟩:=h
    unfold Oper.quietAt
    simp only [execOp,hop,resolve,hx,hv,e,Sem.run_bind,pure,Sem.run,Result.andThen,invoke]
    have e2:(#[Value.iface t y] ++ (args.toList.map (ev ρ)).toArray)[0]? = some (.iface t y):=by simp
    have e3:(#[Value.iface t y] ++ (args.toList.map (ev ρ)).toArray).extract 1 (#[Value.iface t y] ++ (args.toList.map (ev ρ)).toArray).size=(args.toList.map (ev ρ)).toArray:=by
     apply Array.ext';simp [List.take_of_length_le]
    simp only [e2,e3,callMethod,Sem.run_bind,run_program,Result.andThen,hm]
    have e4 : #[z] ++ (args.toList.map (ev ρ)).toArray=(z :: args.toList.map (ev ρ)).toArray:=by apply Array.ext';simp
    rw [e4];exact quiet_call hcall
   ·exact False.elim h
theorem wpQuiet_of_vcQ {K:Env→Prop} {Q:Act→Prop} {ds:List Deferred} (hK:∀ρ,K ρ→Q (mkA n ρ ds)):∀(l:List Oper) (li:List In),compOps P n ops l=some li→∀ρ,vcQ P C li K ρ→wpQuiet P ops C Q l (mkA n ρ ds):=by
 intro l
 induction l with
 | nil=>intro li hc ρ h;simp [compOps] at hc;subst hc;exact hK ρ h
 | cons o l ih =>
  intro li hc ρ h
  simp only [compOps] at hc
  split at hc
  ·rename_i g l' hg hl
   simp at hc;subst hc
   have hgate:=wanted_gate (ρ:=ρ) (ds:=ds) hg
   simp only [wpQuiet,hgate]
   have step:(∃v,(∀w,C w→insQ P C ρ w v (compOp P n o))∧vcQ P C l' K (updO ρ o.dst v))→o.quiet P (mkA n ρ ds) C (wpQuiet P ops C Q l):=by
    rintro ⟨v,h1,h2⟩
    refine ⟨v,fun w hw=>sound_q (h1 w hw), ?_⟩
    rw [mkA_put]
    exact ih l' hl _ h2
   cases g with
   | none=>simp only [gateOf,if_true];exact step h
   | some p =>
    obtain ⟨s,want⟩:=p
    simp only [vcQ] at h
    by_cases hgt:gateOf ρ (some (s,want))=true
    ·have hgf:gate (ρ s) want=true:=hgt
     rw [if_pos hgt];simp only [hgf] at h;exact step h
    ·have hgf:gate (ρ s) want=false:=by simpa [gateOf] using hgt
     rw [if_neg hgt];simp only [hgf] at h
     rw [mkA_put]
     exact ih l' hl _ h
  ·contradiction
theorem draw_quiet (C:World→Prop) {id:Nat} {l:List In} {Q:QT} {ρ:Env} {ds:List Deferred} {w:World} (hm:P.follows .mixedOrders=true) (hB:Region.lexB .any ops=true) (hl:compOps P n ops ops.toList=some l)
  (hC:C w.drew) (h:vcQ P C l (fun ρ' => ∀w',C w'→Q .normal ρ' ds w') ρ):vc P ro n (.draw id ops l) Q ρ ds w:=by
 intro t
 simp only [Region.schedule,hm,Bool.true_or,if_true]
 refine wpAnyIn_sound ops.size t _ _ _ ?_
 simp only [Region.lexB,Bool.and_eq_true] at hB
 have hw:=wpQuiet_of_vcQ (C:=C) (Q:=fun a => ∀w',C w'→lift n Q .normal a w') (ds:=ds) (fun ρ' hk w' hw'=>⟨ρ',ds,rfl,hk w' hw'⟩) _ _ hl ρ h
 refine wpAnyIn_of_quiet (C:=C) (Q:=fun a => ∀w',C w'→lift n Q .normal a w') (fun _ w' hw' hk=>hk w' hw') _ _ _ _ hC ?_
 have:=wpAnyQ_lex (C:=C) (md:=.any) hB.1 ops.toList 0 (Array.replicate ops.size false) _ (by simp) (by simpa using hB.2) hw
 simpa using this
variable {P:Program} {ro:Option Nat} {n:Nat}
def updMany (ρ:Env):List Nat→List Value→Env
 | t :: ts,v :: vs=>updMany (upd ρ t v) ts vs
 | _,_=>ρ
theorem tm_many (n:Nat):∀(ts:List Nat) (vs:List Value) (ρ:Env),(ts.zip vs).foldl (fun tmps (t,a)=>tmps.setIfInBounds t a) (tm n ρ)=tm n (updMany ρ ts vs):=by
 intro ts
 induction ts with
 | nil=>intro vs ρ;rfl
 | cons t ts ih =>
  intro vs ρ
  cases vs with
  | nil=>rfl
  | cons v vs=>simp only [List.zip_cons_cons,List.foldl_cons,tm_set,updMany];exact ih vs _
def LoopAt (w:World) (l n:Nat) (ρ:Env) (params:Array Tmp) (asg body:Code) (st:LoopState) (pend:Option Code):Prop :=
 ∃fn D,w.heap[l]? = some (.loop { state:=st,pending:=pend,fn,tmps:=tm n ρ,params,assign:=asg,body,defers:=D })
theorem LoopAt.of_eq {w w':World} {l:Nat} {ρ:Env} {params:Array Tmp} {asg body:Code} {st:LoopState} {pend:Option Code} (h:LoopAt w l n ρ params asg body st pend) (e:w'.heap[l]? = w.heap[l]?) :
  LoopAt w' l n ρ params asg body st pend:=by obtain ⟨fn,D,x⟩:=h;exact ⟨fn,D,e.trans x⟩
def exitOf:Code→Exit
 | .ret=>.ret
 | .exit id=>.exit id
 | _=>.normal
theorem yield_rule {l:Nat} {ρ:Env} {params:Array Tmp} {asg body:Code} {args:List Value} {w:World} {K:Value→World→Prop}
  (hL:LoopAt w l n ρ params asg body .ready none) (hlen:args.length=params.size)
  (h:asg.wpIn (FW (some l)) 0 P (lift n fun e ρ1 ds1 w1=>e = .normal∧ds1=[]∧w1.heap[l]? = w.heap[l]? ∧
   ∀w2,Mod (fun k=>k=l) w1 w2→body.wpIn (FW (some l)) 0 P (lift n fun e _ _ w3=>w3.heap[l]? = w2.heap[l]? ∧
    ((e = .normal∧∀w4,Mod (fun k=>k=l) w3 w4→LoopAt w4 l n ρ params asg body .ready none→K (.bool true) w4) ∨
     (∃c,(c = .ret∧e = .ret∨∃id,c = .exit id∧e = .exit id)∧∀w4,Mod (fun k=>k=l) w3 w4→LoopAt w4 l n ρ params asg body .done (some c)→K (.bool false) w4))) (mkA n ρ1 []) w2) (mkA n (updMany ρ params.toList args) []) w) :
  YieldK P K l args w:=by
 obtain ⟨fn,D,hl⟩:=hL
 have hy:(Instr.yield l args.toArray).run P w = .ok (.round l fn (tm n (updMany ρ params.toList args)) asg body) w:=by
  have e:(params.zip args.toArray).foldl (fun tmps (t,a)=>tmps.setIfInBounds t a) (tm n ρ)=tm n (updMany ρ params.toList args):=by
   rw [← tm_many,← Array.foldl_toList];simp
  simp only [Instr.yield,Instr.getLoop,getObj,Sem.run_bind,Sem.run,hl,Result.andThen,pure]
  rw [if_neg (by simp [hlen])]
  simp only [Sem.run]
  rw [← e]
 unfold YieldK
 rw [hy]
 show RoundIn Fence.wide 0 P l fn _ asg body w _
 refine roundIn_of_wpIn (F:=Fence.wide) trivial ?_
 refine wpIn_mono h ?_
 rintro e _ w1 ⟨ρ1,ds1,rfl,rfl,rfl,hk,hb⟩
 have hl1:w1.heap[l]? = some (.loop { state:=.ready,pending:=none,fn,tmps:=tm n ρ,params,assign:=asg,body,defers:=D }):=hk.trans hl
 have hb1:=lt_of_get hl1
 let L:Loop:={ state:=.ready,pending:=none,fn,tmps:=tm n ρ,params,assign:=asg,body,defers:=D }
 let w2:=set w1 l (.loop { L with state:=.busy })
 have h2:=hb w2 ((Mod.refl _ _).set (.inr rfl))
 have hl2:w2.heap[l]? = some (.loop { L with state:=.busy }):=get_set_same _ _ _ hb1
 refine ⟨w2, ?_, ?_⟩
 ·simp [Instr.beginRound,Instr.getLoop,getObj,setObj,Sem.run_bind,Sem.run,hl1,Result.andThen,pure,w2,L,set]
 ·refine wpIn_mono h2 ?_
  rintro e _ w3 ⟨ρ3,ds3,rfl,hk3,hq⟩
  have hl3:w3.heap[l]? = some (.loop { L with state:=.busy }):=hk3.trans hl2
  have hb3:=lt_of_get hl3
  have hend:∀j:Option Code,(Instr.endRound l j).run P w3 = .ok (.bool j.isNone) (set w3 l (.loop { L with state:=if j.isNone then .ready else .done,pending:=j })):=by
   intro j
   simp [Instr.endRound,Instr.getLoop,getObj,setObj,Sem.run_bind,Sem.run,hl3,Result.andThen,pure,L,set]
  rcases hq with ⟨rfl,hK⟩|⟨c,hc,hK⟩
  ·exact ⟨_,_,hend none,_,rfl,hK _ ((Mod.refl _ _).set (.inr rfl)) ⟨fn,D,get_set_same _ _ _ hb3⟩⟩
  ·have:=hK _ ((Mod.refl _ _).set (.inr rfl)) ⟨fn,D,get_set_same (o:=.loop { L with state:=.done,pending:=some c }) _ _ hb3⟩
   rcases hc with ⟨rfl,rfl⟩|⟨id,rfl,rfl⟩
   ·exact ⟨_,_,hend (some .ret),_,rfl,this⟩
   ·exact ⟨_,_,hend (some (.exit id)),_,rfl,this⟩
def Stab (J:(Nat→Prop)→World→Prop):Prop :=
 ∀(X X':Nat→Prop) (a b:World),J X a→Mod X a b→(∀k,X' k→X k∨a.heap.size≤k∧k<b.heap.size)→J X' b
def IterP (P:Program) (gf:FuncId) (cap:List Value) (xs:List (List Value)) (Facts:World→Prop):Prop :=
 ∀(y:Value) (_:∃f a b,y = .func f a b) (J:Nat→(Nat→Prop)→World→Prop) (Jx:(Nat→Prop)→World→Prop) (w:World),J 0 (fun _=>False) w →
  (∀i X w,J i X w→Facts w)→(∀i,Stab (J i))→Stab Jx →
  (∀i (_:i<xs.length) (X:Nat→Prop) a,J i X a→(∀k,X k→w.heap.size≤k∧k<a.heap.size)→w.heap.size≤a.heap.size →
   callvK P (fun v b=>(a.heap.size≤b.heap.size∧∀k,X k→b.heap[k]? = a.heap[k]?)∧((v = .bool true∧J (i+1) X b)∨(v = .bool false∧Jx X b))) a (xs[i]?.getD []) y) →
  Ok P gf (y :: cap).toArray w (fun _ b=>w.heap.size≤b.heap.size∧∃X:Nat→Prop,(∀k,X k→w.heap.size≤k∧k<b.heap.size)∧(J xs.length X b∨Jx X b))
abbrev markD (D:Nat):Deferred:={ target:=.collected D,args:=#[] }
def AtEnd (w w':World) (X:Nat→Prop):Prop :=
 w'.heap[w.heap.size]? = some (.deferred (some []))∧w.heap.size+2≤w'.heap.size∧∀k,X k→w.heap.size≤k∧k<w'.heap.size
theorem range_iter {f:Operand} {params:Array Tmp} {asg body:Code} {casg cbody:CC} {Q:QT} {ρ:Env} {ds:List Deferred} {w:World}
  (hca:comp P n asg=casg) (hcb:comp P n body=cbody) (hfb:inB n f=true)
  {gf:FuncId} {cap:List Value} (hf:ev ρ f = .func (.func gf) #[] cap.toArray) {xs:List (List Value)} {Facts:World→Prop} (it:IterP P gf cap xs Facts)
  (I:Nat→(Nat→Prop)→World→Prop) (Ix:Code→(Nat→Prop)→World→Prop)
  (h0:∀X w',Mod (fun _=>False) w w'→w'.heap.size=w.heap.size+2→(∀k,X k→k=w.heap.size∨k=w.heap.size+1)→I 0 X w')
  (hF:∀i X w',I i X w'→Facts w')
  (stab:∀i X X' a b,I i X a→(∀k,X k→w.heap.size≤k)→w.heap.size≤a.heap.size→Mod X a b→(∀k,X' k→X k∨a.heap.size≤k∧k<b.heap.size)→I i X' b)
  (stabx:∀c X X' a b,Ix c X a→(∀k,X k→w.heap.size≤k)→w.heap.size≤a.heap.size→Mod X a b→(∀k,X' k→X k∨a.heap.size≤k∧k<b.heap.size)→Ix c X' b)
  (hlen:∀i (_:i<xs.length),(xs[i]?.getD []).length=params.size)
  (round:∀i (_:i<xs.length) (X:Nat→Prop) a,I i X a→(∀k,X k→w.heap.size≤k∧k<a.heap.size)→w.heap.size+2≤a.heap.size →
   vc P (some (w.heap.size+1)) n casg (fun e ρ1 ds1 b=>e = .normal∧ds1=[]∧Mod (fun _=>False) a b∧∀c,Mod X b c→I i X c →
    vc P (some (w.heap.size+1)) n cbody (fun e _ _ d=>(c.heap.size≤d.heap.size∧∀k,X k→d.heap[k]? = c.heap[k]?) ∧
     ((e = .normal∧I (i+1) X d)∨∃cc,(cc = .ret∧e = .ret∨∃id,cc = .exit id∧e = .exit id)∧Ix cc X d)) ρ1 [] c) (updMany ρ params.toList (xs[i]?.getD [])) [] a)
  (done:∀X w',I xs.length X w'→AtEnd w w' X→Q .normal ρ (markD w.heap.size :: ds) w')
  (stop:∀c X w',Ix c X w'→AtEnd w w' X→Q (exitOf c) ρ (markD w.heap.size :: ds) w') :
  vc P none n (.range f params asg body casg cbody) Q ρ ds w:=by
 subst hca hcb
 have hfE:=mkA_eval n ρ ds f hfb
 show (Code.rangeFunc f params asg body).wpIn Fence.wide 0 P (lift n Q) (mkA n ρ ds) w
 refine wpIn_rangeFunc (F:=Fence.wide) fun fn _ => ?_
 let D:=w.heap.size
 let L:Loop:={ state:=.ready,pending:=none,fn,tmps:=tm n ρ,params,assign:=asg,body,defers:=D }
 let w0:=w.alloc (.deferred (some []))
 let w1:=w0.alloc (.loop L)
 have hw0s:w0.heap.size=D+1:=size_alloc _ _
 have hw1s:w1.heap.size=D+2:=by show (w0.alloc _).heap.size=_;rw [size_alloc,hw0s]
 have hD1:w1.heap[D]? = some (.deferred (some [])):=by
  show (w0.alloc _).heap[D]? = _
  rw [get_alloc_old _ _ _ (by rw [hw0s];omega)]
  exact get_alloc_new _ _
 have hL1:w1.heap[D+1]? = some (.loop L):=get_alloc_new' _ _ _ hw0s.symm
 have hm1:Mod (fun _=>False) w w1:=((Mod.refl _ _).alloc _).alloc _
 let y:Value:=.func (.yield (D+1)) #[] #[]
 let XD:(Nat→Prop)→Nat→Prop:=fun X k=>k=D∨k=D+1∨X k
 let J:Nat→(Nat→Prop)→World→Prop:=fun i X w'=>I i (XD X) w'∧w'.heap[D]? = some (.deferred (some []))∧LoopAt w' (D+1) n ρ params asg body .ready none∧D+2≤w'.heap.size∧∀k,X k→D+2≤k
 let Jx:(Nat→Prop)→World→Prop:=fun X w' => ∃c,(c = .ret∨∃id,c = .exit id)∧Ix c (XD X) w'∧w'.heap[D]? = some (.deferred (some []))∧LoopAt w' (D+1) n ρ params asg body .done (some c)∧D+2≤w'.heap.size∧∀k,X k→D+2≤k
 have hXD:∀X:Nat→Prop,(∀k,X k→D+2≤k)→∀k,XD X k→w.heap.size≤k:=by
  rintro X hX k (rfl|rfl|h)
  ·exact Nat.le_refl _
  ·show D≤D+1;omega
  ·have:=hX k h;show D≤k;omega
 have hXX:∀(X X':Nat→Prop) (a b:World),(∀k,X' k→X k∨a.heap.size≤k∧k<b.heap.size)→∀k,XD X' k→XD X k∨a.heap.size≤k∧k<b.heap.size:=by
  rintro X X' a b h k (rfl|rfl|hk)
  ·exact .inl (.inl rfl)
  ·exact .inl (.inr (.inl rfl))
  ·exact (h k hk).elim (fun x=>.inl (.inr (.inr x))) .inr
 have hX2:∀(X X':Nat→Prop) (a b:World),(∀k,X k→D+2≤k)→D+2≤a.heap.size→(∀k,X' k→X k∨a.heap.size≤k∧k<b.heap.size)→∀k,X' k→D+2≤k:=by
  intro X X' a b hX ha h k hk
  rcases h k hk with h|h
  ·exact hX k h
  ·omega
 have hcall:Ok P gf (y :: cap).toArray w1 (fun _ b=>w1.heap.size≤b.heap.size∧∃X:Nat→Prop,(∀k,X k→w1.heap.size≤k∧k<b.heap.size)∧(J xs.length X b∨Jx X b)):=by
  refine it y ⟨_,_,_,rfl⟩ J Jx w1 ⟨h0 _ _ hm1 hw1s ?_,hD1,⟨fn,D,hL1⟩,by rw [hw1s];exact Nat.le_refl _,fun _ x=>x.elim⟩ (fun i X w' h=>hF i _ w' h.1) ?_ ?_ ?_
  ·rintro k (rfl|rfl|h)
   ·exact .inl rfl
   ·exact .inr rfl
   ·exact h.elim
  ·rintro i X X' a b ⟨h1,h2,h3,h4,h5⟩ hm hx
   have hn0:¬X D:=fun x=>by have:=h5 _ x;omega
   have hn1:¬X (D+1):=fun x=>by have:=h5 _ x;omega
   refine ⟨stab i (XD X) (XD X') a b h1 (hXD X h5) (by show D≤_;omega) (hm.mono fun _ _ x=>.inr (.inr x)) (hXX X X' a b hx),(hm.get _ (by omega) hn0).trans h2,h3.of_eq (hm.get _ (by omega) hn1),Nat.le_trans h4 hm.size,hX2 X X' a b h5 h4 hx⟩
  ·rintro X X' a b ⟨c,hc,h1,h2,h3,h4,h5⟩ hm hx
   have hn0:¬X D:=fun x=>by have:=h5 _ x;omega
   have hn1:¬X (D+1):=fun x=>by have:=h5 _ x;omega
   refine ⟨c,hc,stabx c (XD X) (XD X') a b h1 (hXD X h5) (by show D≤_;omega) (hm.mono fun _ _ x=>.inr (.inr x)) (hXX X X' a b hx),(hm.get _ (by omega) hn0).trans h2,h3.of_eq (hm.get _ (by omega) hn1),Nat.le_trans h4 hm.size,hX2 X X' a b h5 h4 hx⟩
  ·rintro i hi X a ⟨h1,h2,h3,h4,h5⟩ hXb _
   show callvK P _ a (xs[i]?.getD []) (.func (.yield (D+1)) #[] #[])
   simp only [callvK,List.nil_append]
   refine yield_rule (n:=n) h3 (hlen i hi) ?_
   have hXDa:∀k,XD X k→w.heap.size≤k∧k<a.heap.size:=by
    intro k hk
    refine ⟨hXD X h5 k hk, ?_⟩
    rcases hk with rfl|rfl|hk
    ·omega
    ·omega
    ·exact (hXb k hk).2
   refine wpIn_mono (vc_sound asg _ _ _ _ (round i hi (XD X) a h1 hXDa h4)) (lift_mono ?_)
   rintro e ρ1 ds1 b ⟨rfl,rfl,hm,hI'⟩
   refine ⟨rfl,rfl,hm.get _ (by omega) id,fun c hmc => ?_⟩
   have hms:=hm.size
   have hmcs:=hmc.size
   have hsz:D+2≤c.heap.size:=Nat.le_trans (Nat.le_trans h4 hm.size) hmc.size
   have hcD:c.heap[D]? = some (.deferred (some [])):=(hmc.get _ (by omega) (by omega)).trans ((hm.get _ (by omega) id).trans h2)
   have hmX:Mod (XD X) b c:=hmc.mono fun k _ x=>.inr (.inl x)
   have hIc:I i (XD X) c:=stab i (XD X) (XD X) b c (stab i (XD X) (XD X) a b h1 (hXD X h5) (by show D≤_;omega) (hm.mono fun _ _ x=>x.elim) (fun k x=>.inl x)) (hXD X h5) (by show D≤_;omega) hmX (fun k x=>.inl x)
   refine wpIn_mono (vc_sound body _ _ _ _ (hI' c hmX hIc)) (lift_mono ?_)
   rintro e ρ2 ds2 d ⟨⟨k1,k2⟩,hq⟩
   have hsz':D+2≤d.heap.size:=Nat.le_trans hsz k1
   have kX:∀w4,Mod (fun k=>k=D+1) d w4→a.heap.size≤w4.heap.size∧∀k,X k→w4.heap[k]? = a.heap[k]?:=by
    intro w4 hm4
    have hm4s:=hm4.size
    refine ⟨by omega,fun k hk => ?_⟩
    have hk2:=h5 k hk
    have hka:=(hXb k hk).2
    rw [hm4.get k (by omega) (by omega),k2 k (.inr (.inr hk)),hmc.get k (by omega) (by omega),hm.get k (by omega) id]
   have kS:∀w4,Mod (fun k=>k=D+1) d w4→Mod (XD X) d w4:=fun w4 hm4=>hm4.mono fun k _ x=>.inr (.inl x)
   refine ⟨k2 _ (.inr (.inl rfl)), ?_⟩
   rcases hq with ⟨rfl,hI⟩|⟨cc,hc,hIx⟩
   ·exact .inl ⟨rfl,fun w4 hm4 hl4=>⟨kX w4 hm4,.inl ⟨rfl,stab _ (XD X) (XD X) d w4 hI (hXD X h5) (by show D≤_;omega) (kS w4 hm4) (fun k x=>.inl x),(hm4.get _ (by omega) (by omega)).trans ((k2 _ (.inl rfl)).trans hcD),hl4,Nat.le_trans hsz' hm4.size,h5⟩⟩⟩
   ·refine .inr ⟨cc,hc,fun w4 hm4 hl4=>⟨kX w4 hm4,.inr ⟨rfl,cc, ?_,stabx _ (XD X) (XD X) d w4 hIx (hXD X h5) (by show D≤_;omega) (kS w4 hm4) (fun k x=>.inl x),(hm4.get _ (by omega) (by omega)).trans ((k2 _ (.inl rfl)).trans hcD),hl4,Nat.le_trans hsz' hm4.size,h5⟩⟩⟩
    rcases hc with ⟨h,_⟩|⟨id,h,_⟩
    ·exact .inl h
    ·exact .inr ⟨id,h⟩
 refine ⟨D+1,[markD D],w1,⟨.fn (.func gf) cap.toArray,#[y]⟩,w1,gf,(y :: cap).toArray,w1, ?_, ?_,fun _ _=>trivial, ?_,fun h=>by simp [Fence.wide] at h, ?_⟩
 ·simp only [Instr.enterLoop,Fence.wide,Sem.run_bind,run_newObj,Result.andThen,pure,Sem.run]
  show Result.ok (w0.heap.size,_) _=_
  rw [hw0s];rfl
 ·simp only [resolve,hfE,hf,Deferred.ofValue,pure]
  simp [Sem.run,y,Act.eval]
 ·have e : #[y] ++ cap.toArray=(y :: cap).toArray:=by apply Array.ext';simp
  simp only [invoke]
  rw [e];exact callFunc_ok hcall.1
 ·refine CallsIn.mono hcall.2 ?_
  rintro e w3 ⟨v,rfl,hs3,X,hXb,hj⟩
  have hend:∀(st:LoopState) (pend:Option Code),st≠.busy→LoopAt w3 (D+1) n ρ params asg body st pend→∃w4,(Instr.endLoop (D+1)).run P w3 = .ok pend w4∧Mod (XD X) w3 w4∧w4.heap[D]? = w3.heap[D]?:=by
   rintro st pend hst ⟨fn',D',hl⟩
   refine ⟨set w3 (D+1) (.loop { state:=.exhausted,pending:=pend,fn:=fn',tmps:=tm n ρ,params,assign:=asg,body,defers:=D' }), ?_,(Mod.refl _ _).set (.inr (.inr (.inl rfl))),get_set_other _ _ _ _ (by omega)⟩
   simp [Instr.endLoop,Instr.getLoop,getObj,setObj,Sem.run_bind,Sem.run,hl,Result.andThen,pure,hst,set]
  have ha:({ mkA n ρ ds with defers:=[markD D] ++ (mkA n ρ ds).defers }:Act)=mkA n ρ (markD D :: ds):=rfl
  have hbd:∀w4,Mod (XD X) w3 w4→D+2≤w3.heap.size→∀k,XD X k→w.heap.size≤k∧k<w4.heap.size:=by
   rintro w4 m4 h4 k hk
   have:=m4.size
   refine ⟨?_, ?_⟩
   ·rcases hk with rfl|rfl|hk
    ·exact Nat.le_refl _
    ·show D≤D+1;omega
    ·have:=(hXb k hk).1;show D≤k;omega
   ·rcases hk with rfl|rfl|hk
    ·omega
    ·omega
    ·have:=(hXb k hk).2;omega
  rcases hj with ⟨h1,h2,h3,h4,h5⟩|⟨c,hc,h1,h2,h3,h4,h5⟩
  ·obtain ⟨w4,e4,m4,d4⟩:=hend _ _ (by simp) h3
   exact ⟨none,w4,e4,ρ,_,rfl,done (XD X) w4 (stab _ (XD X) (XD X) _ _ h1 (hXD X h5) (by show D≤_;omega) m4 (fun k x=>.inl x)) ⟨d4.trans h2,Nat.le_trans h4 m4.size,hbd w4 m4 h4⟩⟩
  ·obtain ⟨w4,e4,m4,d4⟩:=hend _ _ (by simp) h3
   have hs:=stop c (XD X) w4 (stabx _ (XD X) (XD X) _ _ h1 (hXD X h5) (by show D≤_;omega) m4 (fun k x=>.inl x)) ⟨d4.trans h2,Nat.le_trans h4 m4.size,hbd w4 m4 h4⟩
   refine ⟨some c,w4,e4, ?_⟩
   rw [ha]
   rcases hc with rfl|⟨id,rfl⟩
   ·exact wpIn_ret ⟨ρ,_,rfl,hs⟩
   ·exact wpIn_exit ⟨ρ,_,rfl,hs⟩
variable {P:Program} {n:Nat} {go:Value→World→Prop} {ρ:Env} {ds:List Deferred} {w:World} {o:Oper}
theorem ok_of_calls {f:FuncId} {args:Array Value} {R:Ending→World→Prop} {K:Value→World→Prop} (hf:okF P f=true) (h:Calls P f args w R) (hk:∀e w',R e w'→∃v,e = .returned v∧K v w'):Ok P f args w K :=
 ⟨hf,CallsIn.mono (callsIn_wide.2 h) hk⟩
theorem Mod.keep {S:Nat→Prop} {w w':World} (h:Mod S w w') {b:Nat} {o:Obj} (hb:w.heap[b]? = some o) (hs:¬S b):w'.heap[b]? = some o:=(h.get b (lt_of_get hb) hs).trans hb
theorem rawK_append {s x:Operand} {t tx:TypeId} {v:Value} {w':World} (ho:o.op = .call { callee:=.builtin .append,args:=#[s,x],argTypes:=#[t,tx] })
  (hs:inB n s=true) (hx:inB n x=true) (hr:(Builtin.append_ #[t,tx] o.type #[ev ρ s,ev ρ x]).run P w = .ok v w') (h:go v w'):RawK P go ρ ds n o w:=by
 unfold RawK
 simp only [execOp,ho,resolve,Sem.run_bind,pure,Sem.run,Result.andThen,invoke,builtin]
 have e:(#[s,x]:Array Operand).map (mkA n ρ ds).eval = #[ev ρ s,ev ρ x]:=by simp [mkA_eval n ρ ds s hs,mkA_eval n ρ ds x hx]
 rw [e,hr]
 exact h
theorem rawK_max {s x:Operand} {t tx:TypeId} {k k':IntKind} {a b:Int} (ho:o.op = .call { callee:=.builtin .max,args:=#[s,x],argTypes:=#[t,tx] })
  (hs:inB n s=true) (hx:inB n x=true) (ha:ev ρ s = .int k a) (hb:ev ρ x = .int k' b) (h:go (.int k (max a b)) w):RawK P go ρ ds n o w:=by
 unfold RawK
 simp only [execOp,ho,resolve,Sem.run_bind,pure,Sem.run,Result.andThen,invoke,builtin]
 have e:(#[s,x]:Array Operand).map (mkA n ρ ds).eval = #[.int k a,.int k' b]:=by simp [mkA_eval n ρ ds s hs,mkA_eval n ρ ds x hx,ha,hb]
 rw [e]
 have e2:(if b > a then b else a)=max a b:=by omega
 simp only [Builtin.max_,List.foldlM_cons,List.foldlM_nil,Sem.run_bind,Builtin.max2,pure,Sem.run,Result.andThen,e2]
 exact h
theorem rawK_conv {x:Operand} {src dst:TypeId} {v:Value} (ho:o.op = .convert src dst x) (hx:inB n x=true) (hr:(convert src dst (ev ρ x)).run P w = .ok v w) (h:go v w):RawK P go ρ ds n o w:=by
 unfold RawK
 simp only [execOp,ho,Sem.run_bind,mkA_eval n ρ ds x hx,hr,Result.andThen,pure,Sem.run]
 exact h
theorem run_append_mine (base:Nat) (t tx ty e:TypeId) (i:TypeInfo) (z:Value) (size:Nat) (ht:P.underlying t=some (.slice e)) (hi:P.info? e=some i) (hz:i.zero=some z)
  (hsize:i.size=size) (hzs:z.cells.size=size) (hsz:0<size)
  (v:Value) (n:Nat) (xs:List Value) (hown:w.ownsRow base e size v n xs) (x:Value) (m:Nat) (news:List Value) (hsrc:Src P size tx x m news w)
  (h63:n+m≤maxLen) (hbytes:(n+m)*i.bytes≤140737488355328) (hbase:base≤w.heap.size) :
  ∃v' w',(Builtin.append_ #[t,tx] ty #[v,x]).run P w = .ok v' w'∧w'.ownsRow base e size v' (n+m) (xs ++ news)∧Mod (fun k=>v.ownBlock=some k) w w' ∧
   (v'.ownBlock=v.ownBlock∨v'.ownBlock=some w.heap.size):=by
 subst hsize
 have hl:=hsrc.newsLen
 have hsmall:n+m≤9223372036854775807:=by simp only [maxLen] at h63;omega
 have hlen:(xs ++ news).length=(n+m)*i.size:=by rw [List.length_append,hown.1,hl,Nat.add_mul]
 have grown:∀(old:Nat),old<n+m→∀(S:Nat→Prop),
   (w.drew.alloc (.cells ((xs ++ news).toArray ++ Builtin.zeroCells z.cells (grownCap w (n+m) old e-(n+m))) e)).ownsRow base e i.size
    (.slice (some ⟨w.heap.size,0,none⟩) (n+m) (grownCap w (n+m) old e)) (n+m) (xs ++ news) ∧
   Mod S w (w.drew.alloc (.cells ((xs ++ news).toArray ++ Builtin.zeroCells z.cells (grownCap w (n+m) old e-(n+m))) e)):=by
  intro old ho S
  have hge:=grownCap_ge w (n+m) old e
  have hcm:grownCap w (n+m) old e≤maxLen:=grownCap_le_maxLen w (n+m) old e h63
  refine ⟨⟨hlen,.inr ⟨w.heap.size,_,_,rfl,hbase,heap_alloc_new w.drew _,hge,hcm, ?_, ?_⟩⟩,(Mod.refl S w).drew.alloc _⟩
  ·simp only [Array.size_append,List.size_toArray,size_zeroCells,hzs,hlen,← Nat.add_mul]
   congr 1
   omega
  ·simp only [Array.toList_append]
   rw [← hlen]
   exact List.take_left
 rcases hown.2 with ⟨rfl,rfl⟩|⟨g,cap,cur,rfl,hbg,hg,hnc,hcm,hcs,htake⟩
 ·have hx:xs=[]:=List.eq_nil_of_length_eq_zero (by simpa using hown.1)
  subst hx
  by_cases hm:m=0
  ·subst hm
   have hn:news=[]:=List.eq_nil_of_length_eq_zero (by simpa using hl)
   subst hn
   refine ⟨.slice none 0 0,w, ?_,World.ownsRow_nil w base e i.size,Mod.refl _ w,.inl rfl⟩
   have h1:=hsrc.cells
   have h2:=hsrc.len w
   rcases hsrc.kind with ⟨e',hk⟩|hk <;> simp [Builtin.append_,run_underlying ht,run_underlying hk,sizeOf,typeInfo,hi,h1,hsrc.len]
  ·have hr:=run_append_grow_src (P:=P) w t tx ty e i z ht hi hz none 0 0 [] (run_firstCells_none w.drew i.size 0 0 0) x m news hsrc (by omega) (by omega) (growslice_fits (by omega) hbytes)
   have hgr:=grown 0 (by omega) (fun k=>(Value.slice none 0 0).ownBlock=some k)
   simp only [List.nil_append] at hgr hr ⊢
   exact ⟨_,_,hr,hgr.1,hgr.2,.inr rfl⟩
 ·by_cases hroom:n+m≤cap
  ·have hfit:n * i.size+news.length≤cur.size:=by rw [hl,hcs,← Nat.add_mul];exact Nat.mul_le_mul_right _ hroom
   have hst:=run_storeCells_at P g (n * i.size) e news 0 cur w hg (by simpa using hfit) hsrc.one
   simp only [Nat.add_zero] at hst
   refine ⟨.slice (some ⟨g,0,none⟩) (n+m) cap,w.setRow g (cur.toList.take (n * i.size) ++ news ++ cur.toList.drop (n * i.size+news.length)).toArray, ?_,⟨hlen,.inr ⟨g,cap,_,rfl,hbg,setRow_heap w g cur _ e _ hg,hroom,hcm, ?_, ?_⟩⟩,⟨rfl,rfl,rfl,by simp,fun k _ hk=>setRow_other w g k _ (fun e=>hk (by simp [Value.ownBlock,e]))⟩,.inl rfl⟩
   ·rcases hsrc.kind with ⟨e',hk⟩|hk <;> simp [Builtin.append_,run_underlying ht,run_underlying hk,sizeOf,typeInfo,hi,hsrc.len,hroom,hsrc.cells,Addr.add_lit,hst]
   ·simp only [List.size_toArray,List.length_append,List.length_take,List.length_drop,Array.length_toList]
    omega
   ·rw [htake,← hlen]
    exact List.take_left
  ·have holds:∀j u,xs[j]? = some u→w.drew.cell? ((⟨g,0,none⟩:Addr).add j)=some u:=by
    intro j u hj;have:=hown.cells (g:=g) rfl j u hj;simpa using this
   have hr:=run_append_grow_src (P:=P) w t tx ty e i z ht hi hz (some ⟨g,0,none⟩) n cap xs (run_firstCells_some (P:=P) w.drew i.size n ⟨g,0,none⟩ n cap xs hown.1 holds) x m news hsrc (by omega) (by omega) (growslice_fits (by omega) hbytes)
   have hgr:=grown cap (by omega) (fun k=>(Value.slice (some ⟨g,0,none⟩) n cap).ownBlock=some k)
   exact ⟨_,_,hr,hgr.1,hgr.2,.inr rfl⟩
theorem vc_loop {ro:Option Nat} {b:CC} {Q:QT} (I:Nat→Env→List Deferred→World→Prop) (m:Nat) (h0:I m ρ ds w)
  (hstep:∀m ρ ds w,I m ρ ds w→vc P ro n b (thenQ (fun ρ' ds' w' => ∃m',m'<m∧I m' ρ' ds' w') Q) ρ ds w):vc P ro n (.loop b) Q ρ ds w:=⟨I,⟨m,h0⟩,hstep⟩
theorem loadV_some {v:Value}:loadV go w (some v)=go v w:=nr rfl
theorem loadV_none:loadV go w none=False:=nr rfl
theorem loadO_cells {i:Nat} {c:Array Value} {t:TypeId} {f:Nat × Nat}:loadO go w i (some (.cells c t f))=loadV go w c[i]?:=nr rfl
theorem loadNO_cells {i m:Nat} {c:Array Value} {t:TypeId} {f:Nat × Nat}:loadNO go w i m (some (.cells c t f))=(i+m≤c.size∧go (.agg (c.extract i (i+m))) w):=nr rfl
theorem storeO_cells {b i:Nat} {v:Value} {c:Array Value} {t:TypeId} {f:Nat × Nat}:storeO go w b i v (some (.cells c t f))=((i<c.size∧(decide (f.1≤i) && decide (i<f.2))=false∧isPlain v=true)∧go undef (set w b (.cells (c.setIfInBounds i v) t f))):=nr rfl
theorem storeNO_cells {b i m:Nat} {cs:Array Value} {c:Array Value} {t:TypeId} {f:Nat × Nat}:storeNO go w b i m cs (some (.cells c t f))=((cs.size=m∧i+m≤c.size∧f=(0,0)∧cs.all isPlain=true)∧go undef (set w b (.cells (setMany c i cs.toList) t f))):=nr rfl
theorem resO_cells {k:Value→Prop} {i:Nat} {c:Array Value} {t:TypeId} {f:Nat × Nat} {v:Value} (h:c[i]? = some v):resO k i (some (.cells c t f))=k v:=by simp [resO,h]
theorem resNO_cells {k:Value→Prop} {i m:Nat} {c:Array Value} {t:TypeId} {f:Nat × Nat}:resNO k i m (some (.cells c t f))=(i+m≤c.size∧k (.agg (c.extract i (i+m)))):=nr rfl
end Go.Vc
namespace Go
open Go.Vc
abbrev ZB:=And.intro @vc_skip (And.intro @vc_seq (And.intro @vc_cond (And.intro @vc_block (And.intro @vc_exit (And.intro @vc_ret (And.intro @vc_ops (And.intro @vcOps_nil (And.intro @vcOps_cons (And.intro @vcOps_gate (And.intro @gateK_true (And.intro @gateK_false (And.intro @gate_true (And.intro @gate_false (And.intro @gate_undef (And.intro @goL_apply (And.intro @thenQ_normal (And.intro @thenQ_ret (And.intro @thenQ_exit (And.intro @blockQ_normal (And.intro @blockQ_ret (And.intro @blockQ_same (And.intro @condP_true (And.intro @condP_false (And.intro @upd_same (And.intro @upd_other (And.intro @updO_some (And.intro @updO_none (And.intro @ev_tmp (And.intro @ev_const (And.intro @ev_global (And.intro @ev_func (And.intro @endQ_ret (And.intro @endQ_normal (And.intro @initE_at (And.intro @resNO_cells (And.intro @loadO_cells (And.intro @loadV_some (And.intro @loadNO_cells (And.intro @storeO_cells (And.intro @storeNO_cells (And.intro @not_false_eq_true (And.intro @true_and (And.intro @and_true (And.intro @or_false (And.intro @false_or (And.intro @true_or (And.intro @and_self (And.intro @Bool.false_eq_true (And.intro @Bool.not_true (And.intro @Bool.not_false (And.intro @Bool.and_true (And.intro @Bool.and_false (And.intro @Bool.true_and (And.intro @Bool.false_and (And.intro @Nat.zero_add (And.intro @Nat.add_zero (And.intro @decide_true (And.intro @decide_false (And.intro @size_alloc (And.intro @size_set (And.intro @size_drew (@get_drew))))))))))))))))))))))))))))))))))))))))))))))))))))))))))))))
abbrev Za:=@List.getElem?_cons_zero
abbrev Zaa:=@if_true
abbrev Zab:=@List.map_nil
abbrev Zac:=@Option.getD_some
abbrev Zad:=@List.nil_append
abbrev Zae:=@List.map_cons
abbrev Zaf:=@if_false
abbrev Zag:=@List.getElem?_cons_succ
abbrev Zah:=@List.getElem?_toArray
abbrev Zai:=@List.size_toArray
abbrev Zaj:=@List.length_nil
abbrev Zak:=@List.length_cons
abbrev Zal:=@List.setIfInBounds_toArray
abbrev Zam:=@List.set_cons_zero
abbrev Zan:=@List.set_cons_succ
abbrev Zao:=@List.take_zero
abbrev Zap:=@List.extract_eq_take_drop
abbrev Zaq:=@List.drop_zero
abbrev Zar:=@List.extract_toArray
abbrev Zas:=@List.take_succ_cons
abbrev Zat:=@Nat.sub_zero
abbrev Zau:=@List.all_toArray'
abbrev Zav:=@List.all_cons
abbrev Zaw:=@List.cons_append
abbrev Zax:=@List.all_nil
abbrev Zay:=@Nat.lt_add_one
abbrev Zaz:=@Nat.one_ne_zero
abbrev Zb:=@Nat.add_assoc
abbrev Zba:=@Nat.add_eq_left
abbrev Zbb:=@get_set_same
abbrev Zbc:=@List.foldl_nil
abbrev Zbd:=@List.foldl_cons
abbrev Zbe:=@List.zipIdx_cons
abbrev Zbf:=@List.zipIdx_nil
abbrev Zbg:=@Nat.add_left_cancel_iff
abbrev Zbh:=@List.toList_toArray
abbrev Zbi:=@Nat.left_eq_add
abbrev Zbj:=@Int.toNat_natCast
abbrev Zbk:=@Bool.and_eq_true
abbrev Zbl:=@get_alloc_new
abbrev Zbm:=@Nat.mul_one
abbrev Zbn:=@Option.map_some
abbrev Zbo:=@List.mem_cons
abbrev Zbp:=@List.not_mem_nil
abbrev Zbq:=@Option.isNone_some
abbrev Zbr:=@Nat.add_lt_add_iff_left
abbrev Zbs:=@Nat.zero_mul
abbrev Zbt:=@ByteArray.size_append
abbrev Zbu:=@List.append_nil
abbrev Zbv:=@Option.map_none
abbrev Zbw:=@Bool.true_or
abbrev Zbx:=@Bool.or_eq_true
abbrev Zby:=@List.drop_succ_cons
abbrev Zbz:=@Bool.false_or
abbrev Zc:=@Bool.or_false
abbrev Zca:=@List.contains_iff_mem
abbrev Zcb:=@List.length_append
abbrev Zcc:=@Nat.lt_add_right_iff_pos
abbrev Zcd:=@Option.isSome_some
abbrev Zce:=@Array.getD_eq_getD_getElem?
end Go
