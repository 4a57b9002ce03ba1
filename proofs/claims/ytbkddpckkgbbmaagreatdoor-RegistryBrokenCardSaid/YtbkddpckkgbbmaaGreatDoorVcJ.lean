import Derived.Test.YtbkddpckkgbbmaaGreatDoorVcI
import Derived.Deep.Quiet
import Derived.OrdersIn
namespace Go.Vc
open Go

variable {P : Program} {ro : Option Nat} {n : Nat} {ops : Array Oper} {C : World → Prop}

theorem wpIn_of_quiet {o : Oper} {a : Act} {K : Act → Prop} {K' : Act → World → Prop} {Q' : Exit → Act → World → Prop} {w : World} (hw : C w) (h : ∀ a w', C w' → K a → K' a w') (hh : o.quiet P a C K) :
    o.wpIn (FW ro) 0 P a w K' Q' := by
  obtain ⟨v, h1, h2⟩ := hh
  have h3 := h1 w hw
  refine ⟨fun f _ => trivial, ?_⟩
  have hnd : ∀ c, o.op ≠ .defer c := by
    intro c hc'
    unfold Oper.quietAt at h3
    simp only [execOp, hc', Sem.run_bind] at h3
    cases hr : (resolve a.eval c o.type).run P w with
    | ok d w' => simp [hr, Result.andThen, pure, Sem.run, Oper.quietUpon] at h3
    | halt x w' => simp [hr, Result.andThen, Oper.quietUpon] at h3
  rw [Oper.semAt_eq _ _ _ hnd]
  unfold Oper.quietAt at h3
  refine uponIn_of_upon ?_
  revert h3
  generalize (execOp a.eval o).run P w = r
  intro h3
  match r, h3 with
  | .ok (.value u) w', h3 => obtain ⟨e1, e2⟩ := h3; rw [e1, e2]; exact h _ _ hw h2
  | .ok .skip w', h3 => obtain ⟨e1, e2⟩ := h3; subst e1; subst e2; exact h _ _ hw h2
  | .ok (.enter f args) w', h3 =>
    obtain ⟨e1, hc⟩ := h3
    rw [e1]
    have hc' : CallsIn Fence.wide 0 P f args w (fun e w'' => e = .returned v ∧ C w'') := callsIn_wide.2 hc
    exact CallsIn.mono hc' fun e w'' ⟨he, hw''⟩ => ⟨v, he, h _ _ hw'' h2⟩

theorem wpAnyIn_of_quiet {Q : Act → Prop} {Q' : Exit → Act → World → Prop} {md : Region.Mode} (hQ : ∀ a w, C w → Q a → Q' .normal a w) : ∀ (fuel : Nat) (listed : Array Bool) (a : Act) (w : World), C w →
    wpAnyQ P md ops C Q fuel listed a → wpAnyIn (FW ro) 0 P md ops Q' fuel listed a w
  | 0, _, _, _, hw, h => ⟨h.1, hQ _ _ hw h.2⟩
  | fuel + 1, _, _, _, hw, h => ⟨fun h0 => hQ _ _ hw (h.1 h0), fun i hi => by
      have hq := h.2 i hi
      unfold qOp at hq
      unfold wpOpIn
      split
      · rename_i ho; simp only [ho] at hq; exact wpAnyIn_of_quiet hQ fuel _ _ _ hw hq
      · rename_i o ho
        simp only [ho] at hq
        split
        · rename_i hwt; simp only [hwt, if_true] at hq
          exact wpIn_of_quiet hw (fun a' w' hw' hk => wpAnyIn_of_quiet hQ fuel _ a' w' hw' hk) hq
        · rename_i hwt; simp only [hwt] at hq
          exact ⟨fun f _ => trivial, wpAnyIn_of_quiet hQ fuel _ _ _ hw hq⟩⟩

/-! ### the conditions of a region whose order is open, in the text's order -/

def isCallI : Ins → Bool
  | .call .. | .callv .. | .inv .. => true
  | _ => false

/-- a call in such a region. -/
def callQ (P : Program) (C : World → Prop) (f : FuncId) (args : List Value) (w : World) (v : Value) : Prop := Ok P f args.toArray w fun v' w' => v' = v ∧ C w'
def callvQ (P : Program) (C : World → Prop) (args : List Value) (w : World) (v : Value) : Value → Prop
  | .func (.func f) first cap => callQ P C f (first.toList ++ args ++ cap.toList) w v
  | _ => False
def invQ (P : Program) (C : World → Prop) (name : String) (args : List Value) (w : World) (v : Value) : Value → Prop
  | .iface t x => ∃ f y, (method (P.types.size + Made.depth) t x name).run P w = .ok (f, y) w ∧ callQ P C f (y :: args) w v
  | _ => False

def insQ (P : Program) (C : World → Prop) (ρ : Env) (w : World) (v : Value) : Ins → Prop
  | .call f args => callQ P C f (args.map (ev ρ)) w v
  | .callv x args => callvQ P C (args.map (ev ρ)) w v (ev ρ x)
  | .inv x name args => invQ P C name (args.map (ev ρ)) w v (ev ρ x)
  | .raw .. => False
  | i => insVc P (fun v' w' => w' = w ∧ v' = v) ρ [] w i

def vcQ (P : Program) (C : World → Prop) : List In → (Env → Prop) → Env → Prop
  | [], K, ρ => K ρ
  | ⟨none, d, i⟩ :: l, K, ρ => ∃ v, (∀ w, C w → insQ P C ρ w v i) ∧ vcQ P C l K (updO ρ d v)
  | ⟨some (s, want), d, i⟩ :: l, K, ρ =>
    match gate (ρ s) want with
    | true => ∃ v, (∀ w, C w → insQ P C ρ w v i) ∧ vcQ P C l K (updO ρ d v)
    | false => vcQ P C l K (updO ρ d undef)

def NoEnter : Result Next → Prop
  | .ok (.enter _ _) _ | .ok (.round ..) _ => False
  | _ => True

theorem quietAt_of_upon {r : Result Next} {w : World} {v : Value} (h : upon P (fun v' w' => w' = w ∧ v' = v) r) (hn : NoEnter r) : Oper.quietUpon P C w v r := by
  cases r with
  | halt x w' => exact h.elim
  | ok x w' => cases x <;> first | exact h | exact ⟨h.1, h.2.symm⟩ | exact hn.elim | exact h.elim

theorem noEnter_v (s : Sem Value) (w : World) : NoEnter ((do pure (Next.value (← s)) : Sem Next).run P w) := by
  rw [run_v]; cases s.run P w <;> trivial
theorem noEnter_u (s : Sem Unit) (w : World) : NoEnter ((do s; pure Next.skip : Sem Next).run P w) := by
  rw [run_u]; cases s.run P w <;> trivial

/-- is it an operation that a quiet region may hold besides calls? -/
def quietI : Ins → Bool
  | .raw .. => false
  | _ => true

theorem noEnter_of {o : Oper} {E : Operand → Value} (h : match o.op with | .call _ | .go _ | .defer _ | .send .. | .recv .. | .select .. => False | _ => True) (w : World) : NoEnter ((execOp E o).run P w) := by
  unfold execOp
  cases hop : o.op <;> simp only [hop] at h ⊢ <;> first
    | exact noEnter_v _ _
    | exact noEnter_u _ _
    | trivial
    | skip
  case pick c a b => rw [Sem.run_bind]; cases E c <;> trivial
  case nilCheck x =>
    split
    · simp [runtimePanic, program, goPanic, Sem.run_bind, Sem.run, Result.andThen, NoEnter]
    · simp [runtimePanic, program, goPanic, Sem.run_bind, Sem.run, Result.andThen, NoEnter]
    · simp [runtimePanic, program, goPanic, Sem.run_bind, Sem.run, Result.andThen, NoEnter]
    · split
      · simp [runtimePanic, program, goPanic, Sem.run_bind, Sem.run, Result.andThen, NoEnter]
      · rw [Sem.run_bind]
        simp only [run_program, Result.andThen]
        rw [Sem.run_bind]
        cases (nilAhead _ _ _ _).run P w with
        | ok a w' => simp only [Result.andThen]; split <;> simp [unsupported, pure, Sem.run, NoEnter, Sem.run_bind, Result.andThen]
        | halt => trivial
      · trivial
    · trivial

theorem quiet_call {f : FuncId} {args : Array Value} {w : World} {v : Value} (h : Ok P f args w fun v' w' => v' = v ∧ C w') : Oper.quietUpon P C w v ((callFunc f args).run P w) := by
  rw [callFunc_ok h.1]
  refine ⟨rfl, callsIn_wide.1 (CallsIn.mono h.2 ?_)⟩
  rintro e w' ⟨u, rfl, rfl, hc⟩
  exact ⟨rfl, hc⟩

theorem noEnter_len {o : Oper} {E : Operand → Value} {args : Array Operand} {ats : Array TypeId} (h : o.op = .call { callee := .builtin .len, args, argTypes := ats }) (w : World) : NoEnter ((execOp E o).run P w) := by
  simp only [execOp, h, resolve, Sem.run_bind, pure, Sem.run, Result.andThen, invoke, builtin]
  cases (Builtin.len_ ats o.type (args.map E)).run P w <;> trivial

theorem quiet_of_insVc {o : Oper} {ρ : Env} {ds : List Deferred} {w : World} {v : Value} (h : insVc P (fun v' w' => w' = w ∧ v' = v) ρ ds w (compOp P n o)) (hn : NoEnter ((execOp (mkA n ρ ds).eval o).run P w)) :
    Oper.quietAt P o (mkA n ρ ds) C w v := quietAt_of_upon (sound_ins n o h) hn

theorem insVc_ds {go : Value → World → Prop} {ρ : Env} {ds ds' : List Deferred} {w : World} {i : Ins} (hi : quietI i = true) (h : insVc P go ρ ds w i) : insVc P go ρ ds' w i := by
  cases i <;> first | exact h | simp [quietI] at hi

theorem sound_q {o : Oper} {ρ : Env} {ds : List Deferred} {w : World} {v : Value} (h : insQ P C ρ w v (compOp P n o)) : Oper.quietAt P o (mkA n ρ ds) C w v := by
  have hq : quietI (compOp P n o) = true := by
    cases hc : compOp P n o <;> first | rfl | (rw [hc] at h; simp [insQ] at h)
  by_cases hb : o.op.operands.toList.all (inB n) = true
  case neg =>
    have : compOp P n o = .raw n o := by unfold compOp; rw [if_pos (by simpa using hb)]
    rw [this] at hq; simp [quietI] at hq
  have hneg : ¬ (!o.op.operands.toList.all (inB n)) = true := by simpa using hb
  have hb' : o.op.operands.all (inB n) = true := by rw [← Array.all_toList]; exact hb
  have hE := evals (ρ := ρ) (ds := ds) hb'
  have gen : isCallI (compOp P n o) = false → NoEnter ((execOp (mkA n ρ ds).eval o).run P w) → Oper.quietAt P o (mkA n ρ ds) C w v := by
    intro hc hn
    refine quiet_of_insVc ?_ hn
    have h' : insVc P (fun v' w' => w' = w ∧ v' = v) ρ [] w (compOp P n o) := by
      revert h hc
      cases compOp P n o <;> intro h hc <;> first | exact h | (exfalso; simp [insQ] at h; done) | (exfalso; simp [isCallI] at hc; done)
    exact insVc_ds hq h'
  by_cases hcall : ∃ c, o.op = .call c
  case neg =>
    have hc : isCallI (compOp P n o) = false := by
      unfold compOp
      rw [if_neg hneg]
      split <;> first | rfl | (exact absurd ⟨_, by assumption⟩ hcall) | ((repeat' split) <;> rfl) | (unfold compBin; (repeat' split) <;> rfl)
    refine gen hc (noEnter_of ?_ w)
    cases hop : o.op
    case call c => exact absurd ⟨c, hop⟩ hcall
    all_goals first | trivial | skip
    all_goals (exfalso; have : compOp P n o = .raw n o := (by unfold compOp; rw [if_neg hneg]; simp only [hop]); rw [this] at hq; simp [quietI] at hq)
  case pos =>
    obtain ⟨c, hop⟩ := hcall
    obtain ⟨cal, args, ats⟩ := c
    have hE' := hE
    simp only [hop, Op.operands, Call.operands] at hE'
    cases cal with
    | builtin b =>
      cases b with
      | len =>
        refine gen ?_ (noEnter_len hop w)
        unfold compOp
        rw [if_neg hneg]
        simp only [hop]
        (repeat' split) <;> rfl
      | _ =>
        exfalso
        have : compOp P n o = .raw n o := by unfold compOp; rw [if_neg hneg]; simp only [hop]
        rw [this] at hq; simp [quietI] at hq
    | value x =>
      have e := map_evals (fun x hx => hE' x (by simp [hx])) (xs := args)
      have hx := hE' x (by simp)
      have callv : compOp P n o = .callv x args.toList → Oper.quietAt P o (mkA n ρ ds) C w v := by
        intro hc
        rw [hc] at h
        simp only [insQ, callvQ] at h
        split at h
        · rename_i f first cap hv
          unfold Oper.quietAt
          simp only [execOp, hop, resolve, hx, hv, e, Deferred.ofValue, Sem.run_bind, pure, Sem.run, Result.andThen, invoke]
          have e2 : first ++ (args.toList.map (ev ρ)).toArray ++ cap = (first.toList ++ args.toList.map (ev ρ) ++ cap.toList).toArray := by apply Array.ext'; simp
          rw [e2]; exact quiet_call h
        · exact False.elim h
      cases x with
      | func f =>
        have hc : compOp P n o = if okF P f then .call f args.toList else .raw n o := by unfold compOp; rw [if_neg hneg]; simp only [hop]
        by_cases hf : okF P f = true
        · rw [if_pos hf] at hc
          rw [hc] at h
          unfold Oper.quietAt
          simp only [execOp, hop, resolve, Sem.run_bind, Act.eval, Deferred.ofValue, pure, Sem.run, Result.andThen, invoke]
          have e3 : (#[] ++ args.map (fun x => (mkA n ρ ds).eval x) ++ #[] : Array Value) = (args.toList.map (ev ρ)).toArray := by
            have e' : args.map (fun x => (mkA n ρ ds).eval x) = (args.toList.map (ev ρ)).toArray := e
            rw [e']; simp
          rw [e3]; exact quiet_call h
        · rw [if_neg hf] at hc; rw [hc] at hq; simp [quietI] at hq
      | tmp t => exact callv (by unfold compOp; rw [if_neg hneg]; simp only [hop])
      | const t => exact callv (by unfold compOp; rw [if_neg hneg]; simp only [hop])
      | global t => exact callv (by unfold compOp; rw [if_neg hneg]; simp only [hop])
    | invoke x name =>
      have e := map_evals (fun x hx => hE' x (by simp [hx])) (xs := args)
      have hx := hE' x (by simp)
      have hc : compOp P n o = .inv x name args.toList := by unfold compOp; rw [if_neg hneg]; simp only [hop]
      rw [hc] at h
      simp only [insQ, invQ] at h
      split at h
      · rename_i t y hv
        obtain ⟨f, z, hm, hcall⟩ := h
        unfold Oper.quietAt
        simp only [execOp, hop, resolve, hx, hv, e, Sem.run_bind, pure, Sem.run, Result.andThen, invoke]
        have e2 : (#[Value.iface t y] ++ (args.toList.map (ev ρ)).toArray)[0]? = some (.iface t y) := by simp
        have e3 : (#[Value.iface t y] ++ (args.toList.map (ev ρ)).toArray).extract 1 (#[Value.iface t y] ++ (args.toList.map (ev ρ)).toArray).size = (args.toList.map (ev ρ)).toArray := by
          apply Array.ext'; simp [List.take_of_length_le]
        simp only [e2, e3, callMethod, Sem.run_bind, run_program, Result.andThen, hm]
        have e4 : #[z] ++ (args.toList.map (ev ρ)).toArray = (z :: args.toList.map (ev ρ)).toArray := by apply Array.ext'; simp
        rw [e4]; exact quiet_call hcall
      · exact False.elim h

theorem wpQuiet_of_vcQ {K : Env → Prop} {Q : Act → Prop} {ds : List Deferred} (hK : ∀ ρ, K ρ → Q (mkA n ρ ds)) : ∀ (l : List Oper) (li : List In), compOps P n ops l = some li → ∀ ρ, vcQ P C li K ρ → wpQuiet P ops C Q l (mkA n ρ ds) := by
  intro l
  induction l with
  | nil => intro li hc ρ h; simp [compOps] at hc; subst hc; exact hK ρ h
  | cons o l ih =>
    intro li hc ρ h
    simp only [compOps] at hc
    split at hc
    · rename_i g l' hg hl
      simp at hc; subst hc
      have hgate := wanted_gate (ρ := ρ) (ds := ds) hg
      simp only [wpQuiet, hgate]
      have step : (∃ v, (∀ w, C w → insQ P C ρ w v (compOp P n o)) ∧ vcQ P C l' K (updO ρ o.dst v)) → o.quiet P (mkA n ρ ds) C (wpQuiet P ops C Q l) := by
        rintro ⟨v, h1, h2⟩
        refine ⟨v, fun w hw => sound_q (h1 w hw), ?_⟩
        rw [mkA_put]
        exact ih l' hl _ h2
      cases g with
      | none => simp only [gateOf, if_true]; exact step h
      | some p =>
        obtain ⟨s, want⟩ := p
        simp only [vcQ] at h
        by_cases hgt : gateOf ρ (some (s, want)) = true
        · have hgf : gate (ρ s) want = true := hgt
          rw [if_pos hgt]; simp only [hgf] at h; exact step h
        · have hgf : gate (ρ s) want = false := by simpa [gateOf] using hgt
          rw [if_neg hgt]; simp only [hgf] at h
          rw [mkA_put]
          exact ih l' hl _ h
    · contradiction

/-- ████ A REGION WHOSE ORDER IS OPEN: one walk in the text's order, in every world of a class. ████ -/
theorem draw_quiet (C : World → Prop) {id : Nat} {l : List In} {Q : QT} {ρ : Env} {ds : List Deferred} {w : World} (hm : P.follows .mixedOrders = true) (hB : Region.lexB .any ops = true) (hl : compOps P n ops ops.toList = some l)
    (hC : C w.drew) (h : vcQ P C l (fun ρ' => ∀ w', C w' → Q .normal ρ' ds w') ρ) : vc P ro n (.draw id ops l) Q ρ ds w := by
  intro t
  simp only [Region.schedule, hm, Bool.true_or, if_true]
  refine wpAnyIn_sound ops.size t _ _ _ ?_
  simp only [Region.lexB, Bool.and_eq_true] at hB
  have hw := wpQuiet_of_vcQ (C := C) (Q := fun a => ∀ w', C w' → lift n Q .normal a w') (ds := ds) (fun ρ' hk w' hw' => ⟨ρ', ds, rfl, hk w' hw'⟩) _ _ hl ρ h
  refine wpAnyIn_of_quiet (C := C) (Q := fun a => ∀ w', C w' → lift n Q .normal a w') (fun _ w' hw' hk => hk w' hw') _ _ _ _ hC ?_
  have := wpAnyQ_lex (C := C) (md := .any) hB.1 ops.toList 0 (Array.replicate ops.size false) _ (by simp) (by simpa using hB.2) hw
  simpa using this

end Go.Vc
