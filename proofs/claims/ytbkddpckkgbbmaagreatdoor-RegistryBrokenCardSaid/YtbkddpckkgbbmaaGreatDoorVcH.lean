import Derived.Test.YtbkddpckkgbbmaaGreatDoorVcG
namespace Go.Vc
open Go

/-! ### code, resolved -/

inductive CC where
  | skip
  | seq (a b : CC)
  | cond (c : Operand) (a b : CC)
  | block (id : Nat) (b : CC)
  | loop (b : CC)
  | exit (id : Nat)
  | ret
  | ops (l : List In)
  | draw (id : Nat) (ops : Array Oper) (l : List In)
  | range (f : Operand) (params : Array Tmp) (asg body : Code) (casg cbody : CC)
  | raw (c : Code)
  deriving Inhabited

def compG (n : Nat) (ops : Array Oper) : Option (Nat × Bool) → Option (Option (Nat × Bool))
  | none => some none
  | some (j, want) => match (ops[j]?).bind (·.dst) with
    | some s => if s < n then some (some (s, want)) else none
    | none => none

def compOps (P : Program) (n : Nat) (ops : Array Oper) : List Oper → Option (List In)
  | [] => some []
  | o :: l => match compG n ops o.guard, compOps P n ops l with
    | some g, some l' => some (⟨g, o.dst, compOp P n o⟩ :: l')
    | _, _ => none

def comp (P : Program) (n : Nat) : Code → CC
  | .skip => .skip
  | .label _ => .skip
  | .seq a b => .seq (comp P n a) (comp P n b)
  | .cond c a b => if inB n c then .cond c (comp P n a) (comp P n b) else .raw (.cond c a b)
  | .block id b => .block id (comp P n b)
  | .loop b => .loop (comp P n b)
  | .exit id => .exit id
  | .ret => .ret
  | .region id ops false => (match compOps P n ops ops.toList with | some l => .ops l | none => .raw (.region id ops false))
  | .region id ops true => (match compOps P n ops ops.toList with | some l => .draw id ops l | none => .raw (.region id ops true))
  | .rangeFunc f params asg body => .range f params asg body (comp P n asg) (comp P n body)
  | c => .raw c

/-! ### conditions -/

abbrev QT := Exit → Env → List Deferred → World → Prop

def gate : Value → Bool → Bool
  | .bool t, want => t == want
  | _, _ => false

def vcOps (P : Program) : List In → (Env → List Deferred → World → Prop) → Env → List Deferred → World → Prop
  | [], K, ρ, ds, w => K ρ ds w
  | ⟨none, d, i⟩ :: l, K, ρ, ds, w => insVc P (fun v w' => vcOps P l K (updO ρ d v) ds w') ρ ds w i
  | ⟨some (s, want), d, i⟩ :: l, K, ρ, ds, w =>
    match gate (ρ s) want with
    | true => insVc P (fun v w' => vcOps P l K (updO ρ d v) ds w') ρ ds w i
    | false => vcOps P l K (updO ρ d undef) ds w

/-- what goes on behind an operation, as data. -/
def goL (P : Program) (l : List In) (K : Env → List Deferred → World → Prop) (ρ : Env) (d : Option Nat) (ds : List Deferred) : Value → World → Prop :=
  fun v w => vcOps P l K (updO ρ d v) ds w
def gateK (P : Program) (i : Ins) (l : List In) (K : Env → List Deferred → World → Prop) (ρ : Env) (d : Option Nat) (ds : List Deferred) (w : World) : Bool → Prop
  | true => insVc P (goL P l K ρ d ds) ρ ds w i
  | false => vcOps P l K (updO ρ d undef) ds w

def thenQ (N : Env → List Deferred → World → Prop) (Q : QT) : QT
  | .normal, ρ, ds, w => N ρ ds w
  | e, ρ, ds, w => Q e ρ ds w
def blockQ (id : Nat) (Q : QT) : QT
  | .exit j, ρ, ds, w => if j = id then Q .normal ρ ds w else Q (.exit j) ρ ds w
  | e, ρ, ds, w => Q e ρ ds w
def condP (A B : Env → List Deferred → World → Prop) (ρ : Env) (ds : List Deferred) (w : World) : Value → Prop
  | .bool true => A ρ ds w
  | .bool false => B ρ ds w
  | _ => False
def lift (n : Nat) (Q : QT) : Exit → Act → World → Prop := fun e a w => ∃ ρ ds, a = mkA n ρ ds ∧ Q e ρ ds w

def vc (P : Program) (ro : Option Nat) (n : Nat) : CC → QT → Env → List Deferred → World → Prop
  | .skip, Q, ρ, ds, w => Q .normal ρ ds w
  | .seq a b, Q, ρ, ds, w => vc P ro n a (thenQ (vc P ro n b Q) Q) ρ ds w
  | .cond c a b, Q, ρ, ds, w => condP (vc P ro n a Q) (vc P ro n b Q) ρ ds w (ev ρ c)
  | .block id b, Q, ρ, ds, w => vc P ro n b (blockQ id Q) ρ ds w
  | .loop b, Q, ρ, ds, w => ∃ I : Nat → Env → List Deferred → World → Prop, (∃ m, I m ρ ds w) ∧
      ∀ m ρ ds w, I m ρ ds w → vc P ro n b (thenQ (fun ρ' ds' w' => ∃ m', m' < m ∧ I m' ρ' ds' w') Q) ρ ds w
  | .exit id, Q, ρ, ds, w => Q (.exit id) ρ ds w
  | .ret, Q, ρ, ds, w => Q .ret ρ ds w
  | .ops l, Q, ρ, ds, w => vcOps P l (Q .normal) ρ ds w
  | .draw _ ops _, Q, ρ, ds, w => ∀ t, wpOpsIn (FW ro) 0 P ops (lift n Q) (Region.schedule (P.follows .mixedOrders) ops t) (mkA n ρ ds) w.drew
  | .range f params asg body _ _, Q, ρ, ds, w => (Code.rangeFunc f params asg body).wpIn (FW ro) 0 P (lift n Q) (mkA n ρ ds) w
  | .raw c, Q, ρ, ds, w => c.wpIn (FW ro) 0 P (lift n Q) (mkA n ρ ds) w

/-! ### soundness -/

variable {P : Program} {ro : Option Nat} {n : Nat}

theorem about_trivial (f : FuncId) : (FW ro).fn f := trivial

def gateOf (ρ : Env) : Option (Nat × Bool) → Bool
  | none => true
  | some (s, want) => gate (ρ s) want

theorem wanted_gate {ops : Array Oper} {o : Oper} {g : Option (Nat × Bool)} {ρ : Env} {ds : List Deferred} (h : compG n ops o.guard = some g) :
    Region.wanted o (yielded ops (mkA n ρ ds).tmps) = gateOf ρ g := by
  unfold Region.wanted
  cases hg : o.guard with
  | none => simp [hg, compG] at h; subst h; rfl
  | some p =>
    obtain ⟨j, want⟩ := p
    simp only [hg, compG] at h
    split at h
    · rename_i s hs
      split at h
      · rename_i hlt
        simp at h; subst h
        simp only [yielded, hs, Option.bind_some, mkA, tm_get _ _ _ hlt, gateOf]
        cases ρ s <;> simp [gate]
      · contradiction
    · contradiction

theorem sound_ops {ops : Array Oper} {Q : QT} : ∀ (l : List Oper) (k : Nat) (li : List In), (∀ j, l[j]? = ops[k + j]?) → compOps P n ops l = some li → ∀ (ρ : Env) (ds : List Deferred) (w : World),
    vcOps P li (Q .normal) ρ ds w → wpOpsIn (FW ro) 0 P ops (lift n Q) (List.range' k l.length) (mkA n ρ ds) w := by
  intro l
  induction l with
  | nil => intro k li _ hc ρ ds w h; simp [compOps] at hc; subst hc; exact ⟨ρ, ds, rfl, h⟩
  | cons o l ih =>
    intro k li hk hc ρ ds w h
    simp only [compOps] at hc
    split at hc
    · rename_i g l' hg hl
      simp at hc; subst hc
      have h0 : ops[k]? = some o := by simpa using (hk 0).symm
      have hk' : ∀ j, l[j]? = ops[k + 1 + j]? := fun j => by have := hk (j + 1); simpa [Nat.add_assoc, Nat.add_comm 1 j] using this
      simp only [List.length_cons, List.range'_succ, wpOpsIn, h0, wanted_gate (ρ := ρ) (ds := ds) hg]
      have hins : insVc P (fun v w' => vcOps P l' (Q .normal) (updO ρ o.dst v) ds w') ρ ds w (compOp P n o) → o.wpIn (FW ro) 0 P (mkA n ρ ds) w (wpOpsIn (FW ro) 0 P ops (lift n Q) (List.range' (k + 1) l.length)) (lift n Q) := by
        intro hi
        refine ⟨fun f _ => trivial, ?_⟩
        have hnd : ∀ c, o.op ≠ .defer c := by
          intro c hc'
          have := sound_ins n o hi
          simp only [execOp, hc', Sem.run_bind] at this
          cases hr : (resolve (mkA n ρ ds).eval c o.type).run P w with
          | ok d w' => simp [hr, Result.andThen, pure, Sem.run, upon] at this
          | halt x w' => simp [hr, Result.andThen, upon] at this
        rw [Oper.semAt_eq _ _ _ hnd]
        refine uponIn_of_upon ?_
        have := sound_ins n o hi
        have hm : ∀ v w', vcOps P l' (Q .normal) (updO ρ o.dst v) ds w' → wpOpsIn (FW ro) 0 P ops (lift n Q) (List.range' (k + 1) l.length) ((mkA n ρ ds).put o.dst v) w' := by
          intro v w' hv
          rw [mkA_put]
          exact ih (k + 1) l' hk' hl _ _ _ hv
        revert this
        generalize (execOp (mkA n ρ ds).eval o).run P w = res
        intro this
        match res, this with
        | .ok (.value v) w', t => exact hm v w' t
        | .ok .skip w', t => exact hm _ w' t
        | .ok (.enter f args) w', t => exact callP_mono t hm
        | .ok (.round l f tmps as bd) w', t => exact RoundIn.mono t fun e w' ⟨v, he, x⟩ => ⟨v, he, hm v w' x⟩
      cases g with
      | none => simp only [gateOf, if_true]; exact hins h
      | some p =>
        obtain ⟨s, want⟩ := p
        simp only [vcOps] at h
        cases hgate : gate (ρ s) want with
        | true => simp only [hgate, gateOf, if_true] at h ⊢; exact hins h
        | false =>
          simp only [hgate, gateOf, Bool.false_eq_true, if_false] at h ⊢
          refine ⟨fun f _ => trivial, ?_⟩
          rw [mkA_put]
          exact ih (k + 1) l' hk' hl _ _ _ h
    · contradiction

theorem lift_mono {Q Q' : QT} (h : ∀ e ρ ds w, Q e ρ ds w → Q' e ρ ds w) : ∀ e a w, lift n Q e a w → lift n Q' e a w :=
  fun e _ w ⟨ρ, ds, ea, q⟩ => ⟨ρ, ds, ea, h e ρ ds w q⟩

theorem least (S : Nat → Prop) : ∀ m, S m → ∃ k, S k ∧ ∀ j, S j → k ≤ j := by
  intro m
  induction m using Nat.strongRecOn with
  | _ m ih =>
    intro hm
    by_cases h : ∃ j, j < m ∧ S j
    · obtain ⟨j, hj, hs⟩ := h; exact ih j hj hs
    · exact ⟨m, hm, fun j hj => Nat.le_of_not_lt fun hlt => h ⟨j, hlt, hj⟩⟩

theorem vc_sound (c : Code) : ∀ (Q : QT) (ρ : Env) (ds : List Deferred) (w : World), vc P ro n (comp P n c) Q ρ ds w → c.wpIn (FW ro) 0 P (lift n Q) (mkA n ρ ds) w := by
  induction c with
  | skip => intro Q ρ ds w h; exact wpIn_skip ⟨ρ, ds, rfl, h⟩
  | label l => intro Q ρ ds w h; exact wpIn_label ⟨ρ, ds, rfl, h⟩
  | exit id => intro Q ρ ds w h; exact wpIn_exit ⟨ρ, ds, rfl, h⟩
  | ret => intro Q ρ ds w h; exact wpIn_ret ⟨ρ, ds, rfl, h⟩
  | seq a b iha ihb =>
    intro Q ρ ds w h
    refine wpIn_seq (wpIn_mono (iha _ ρ ds w h) ?_)
    rintro e _ w' ⟨ρ', ds', rfl, q⟩
    cases e with
    | normal => exact ihb Q ρ' ds' w' q
    | _ => exact ⟨ρ', ds', rfl, q⟩
  | cond c a b iha ihb =>
    intro Q ρ ds w h
    simp only [comp] at h
    split at h
    · rename_i hb
      simp only [vc, condP] at h
      have hc := mkA_eval n ρ ds c hb
      split at h
      · rename_i he; exact wpIn_cond (t := true) (hc.trans he) (iha Q ρ ds w h)
      · rename_i he; exact wpIn_cond (t := false) (hc.trans he) (ihb Q ρ ds w h)
      · exact h.elim
    · exact h
  | block id b ih =>
    intro Q ρ ds w h
    refine wpIn_block (wpIn_mono (ih _ ρ ds w h) ?_)
    rintro e _ w' ⟨ρ', ds', rfl, q⟩
    cases e with
    | exit j =>
      simp only [blockQ] at q
      simp only [Exit.inBlock]
      split
      · rename_i hj; rw [if_pos hj] at q; exact ⟨ρ', ds', rfl, q⟩
      · rename_i hj; rw [if_neg hj] at q; exact ⟨ρ', ds', rfl, q⟩
    | _ => exact ⟨ρ', ds', rfl, q⟩
  | loop b ih =>
    intro Q ρ ds w h
    obtain ⟨I, ⟨m, hm⟩, hround⟩ := h
    let S : Act → World → Nat → Prop := fun a w m => ∃ ρ ds, a = mkA n ρ ds ∧ I m ρ ds w
    let μ : Act → World → Nat := fun a w => open Classical in if h : ∃ m, S a w m then Classical.choose (least (S a w) _ h.choose_spec) else 0
    have hμ : ∀ a w m, S a w m → μ a w ≤ m := by
      intro a w m hs
      have hex : ∃ m, S a w m := ⟨m, hs⟩
      simp only [μ, dif_pos hex]
      exact (Classical.choose_spec (least (S a w) _ hex.choose_spec)).2 m hs
    refine wpIn_loop (fun a w => ∃ m, S a w m) μ ⟨m, ρ, ds, rfl, hm⟩ ?_
    intro a w' hex
    have hfind : S a w' (μ a w') := by
      simp only [μ, dif_pos hex]
      exact (Classical.choose_spec (least (S a w') _ hex.choose_spec)).1
    obtain ⟨ρ', ds', ea, hI⟩ := hfind
    have hb := ih _ ρ' ds' w' (hround _ ρ' ds' w' hI)
    rw [ea]
    refine wpIn_mono hb ?_
    rintro e _ w'' ⟨ρ₂, ds₂, rfl, q⟩
    cases e with
    | normal =>
      obtain ⟨m', hlt, hI'⟩ := q
      refine ⟨⟨m', ρ₂, ds₂, rfl, hI'⟩, ?_⟩
      rw [← ea]
      exact Nat.lt_of_le_of_lt (hμ _ _ _ ⟨ρ₂, ds₂, rfl, hI'⟩) hlt
    | _ => exact ⟨ρ₂, ds₂, rfl, q⟩
  | region id ops draw =>
    intro Q ρ ds w h
    cases draw with
    | false =>
      simp only [comp] at h
      split at h
      · rename_i l hl
        refine wpIn_region ?_
        rw [List.range_eq_range', ← Array.length_toList]
        exact sound_ops ops.toList 0 l (by simp) hl ρ ds w h
      · exact h
    | true =>
      simp only [comp] at h
      split at h
      · exact wpIn_region_draw h
      · exact h
  | rangeFunc f params asg body _ _ => intro Q ρ ds w h; exact h
  | scope b _ => intro Q ρ ds w h; exact h
  | goto l => intro Q ρ ds w h; exact h
  | refuse s => intro Q ρ ds w h; exact h

end Go.Vc
